/-
  Hold.Add. No condition beyond what each theorem names.
-/
import Derived.Test.YtpkdhmljbpbcfaaTC
set_option linter.unusedVariables false
set_option linter.unusedSimpArgs false
namespace Go.Proofs.Ytpkdhmljbpbcfaa
open Go.RowKit

/-- an operation's block -/
def opObj (o : OpV) : Obj := .cells #[.int .i64 o.ctr, .int .i64 o.author, .int .i64 o.seq, .bool o.ins, .int .i64 o.rctr, .int .i64 o.rauthor, .int .i32 o.rune] 30

theorem opAt_heap {w : World} {b : Nat} {o : OpV} (h : w.heap[b]? = some (opObj o)) : opAt w b 0 o := by
  unfold opAt opObj at *
  simp [World.cell?, h]

theorem zeroCells_op : Value.cells (.agg #[.int .i64 0, .int .i64 0, .int .i64 0, .bool false, .int .i64 0, .int .i64 0, .int .i32 0]) = #[.int .i64 0, .int .i64 0, .int .i64 0, .bool false, .int .i64 0, .int .i64 0, .int .i32 0] := rfl

theorem row_ne' {w : World} {bh : Nat} {c : Array Value} {base : Nat} {g n cap : Nat} {xs : List Value} (h0 : w.heap[bh]? = some (.cells c 55 (0, 0))) (h : w.ownsRow base 30 7 (.slice (some ⟨g, 0, none⟩) n cap) n xs) : bh ≠ g := by
  rintro rfl
  exact row_ne h0 h rfl

set_option maxHeartbeats 1000000 in
theorem add_any (w : World) (F : Nat → Prop) (bh : Nat) (room : Int) (v : Value) (xs : List OpV) (o : OpV) (hn : xs.length ≤ 1000000) (hh : HoldAt w F bh room v xs) :
    Calls Try.prog 12 #[.pointer (some ⟨bh, 0, none⟩), .agg #[.int .i64 o.ctr, .int .i64 o.author, .int .i64 o.seq, .bool o.ins, .int .i64 o.rctr, .int .i64 o.rauthor, .int .i32 o.rune]] w
      (HoldPost w F bh room (addTo room xs o) (.returned (.int .i64 (addErr room xs o)))) := by
  have HH := Lib.hid hh
  have hbh : bh < w.heap.size := hh.lt _ hh.own
  have hz : HoldAt (w.alloc (opObj o)) F bh room v xs := hh.below ((Below.refl _ _).alloc (Nat.le_refl _) _)
  have HI := Lib.hid (find_any (w.alloc (opObj o)) bh _ v xs o.author o.seq hn hz.head hz.rd hz.sorted)
  have HZ := Lib.hid hz
  obtain ⟨ad, cap, hv⟩ := hh.rd.len
  have HV := Lib.hid hv
  clear hh hv hz
  go_enter Try.func12, Try.ntmps12
  go_wp2_with fail
  refine HI.out.mono ?_
  cases hany : xs.any (sameId o.author o.seq)
  · rintro e w1 ⟨rfl, hb⟩
    have HB : Below w.heap.size w w1 := ((Below.refl _ _).alloc (Nat.le_refl _) _).trans (hb.mono (by simp))
    have hh1 := HZ.out.below hb
    have e0 : w1.cell? ⟨bh, 0, none⟩ = some (.int .i64 room) := by simp [World.cell?, hh1.head]
    have e1 : w1.cell? ⟨bh, 1, none⟩ = some (.slice ad xs.length cap) := by simp [World.cell?, hh1.head, HV.out]
    have HH1 := Lib.hid hh1
    have HA := Lib.hid hany
    clear hh1 hany
    by_cases hr : room ≤ xs.length
    · have hfin : addTo room xs o = xs ∧ addErr room xs o = 8 := by simp [addTo, addErr, HA.out, hr]
      have HFN := Lib.hid hfin
      clear hfin
      go_wp2
      go_quiet (fail)
      go_wp2
      go_ret
      rw [HFN.out.1, HFN.out.2]
      exact ⟨rfl, Fr.of_below (below_drewN HB _) _, v, HH.out.of_below (below_drewN HB _)⟩
    · have hfin : addTo room xs o = ins xs (pos o.author o.seq xs) o ∧ addErr room xs o = 0 := by simp [addTo, addErr, HA.out, hr]
      have HFN := Lib.hid hfin
      clear hfin
      have hd : decide (room ≤ (xs.length : Int)) = false := by simpa using hr
      go_wp2
      go_quiet (fail)
      obtain ⟨W, hW⟩ : ∃ W, W = w1.drewN nq := ⟨_, rfl⟩
      rw [← hW]
      have hbW : Below w1.heap.size w1 W := by rw [hW]; exact below_drewN (Below.refl _ _) _
      have HBW : Below w.heap.size w W := HB.trans (hbW.mono HB.size)
      have hhW := HH1.out.below hbW
      rw [HV.out] at hhW
      have hbo : W.heap[w.heap.size]? = some (opObj o) := by
        rw [hbW.block _ (by have := hb.size; simp at this; omega), hb.block _ (by simp)]; exact heap_alloc_new _ _
      have x1 : W.cell? ⟨bh, 1, none⟩ = some (.slice ad xs.length cap) := by simp [World.cell?, hhW.head]
      have x2 : bh < W.heap.size := hhW.lt _ hhW.own
      have HHW := Lib.hid hhW
      have HBO := Lib.hid hbo
      clear hW hhW hbo e0 e1
      obtain ⟨i0, hi, hz0, hz1, hz2⟩ := info_parts info30
      have hnews : ∀ j u, ([Value.int .i64 0, .int .i64 0, .int .i64 0, .bool false, .int .i64 0, .int .i64 0, .int .i32 0])[j]? = some u → (W.alloc (.cells #[.int .i64 0, .int .i64 0, .int .i64 0, .bool false, .int .i64 0, .int .i64 0, .int .i32 0] 30)).cell? ((⟨W.heap.size, 0, none⟩ : Addr).add j) = some u := by
        intro j u hu
        have hadd : (⟨W.heap.size, 0, none⟩ : Addr).add j = ⟨W.heap.size, j, none⟩ := by unfold Addr.add; split <;> simp_all
        rw [hadd, World.cell?_alloc_new]
        simpa using hu
      have HNEWS := Lib.hid hnews
      clear hnews
      go_wp2_with (at_builtin; refine wpList_append_lies _ rfl (.tmp 34) (.tmp 36) 22 rfl 0 30 i0 _ 7 56 Try.underlying22 hi hz0 hz1 hz2 rfl (by decide) (.slice ad xs.length cap) xs.length (flat xs) rfl (HHW.out.row.alloc _) ⟨W.heap.size, 0, none⟩ 1 1 [.int .i64 0, .int .i64 0, .int .i64 0, .bool false, .int .i64 0, .int .i64 0, .int .i32 0] rfl rfl HNEWS.out (by simp [Value.oneCell']) (by decide) (by unfold maxLen; omega) (by omega) (Nat.zero_le _) _ rfl ?_)
      intro g cap' w' h1 h2 h3 h4
      have hgF : F g ∨ W.heap.size ≤ g := by
        rcases h3 with h | h
        · exact .inl (HHW.out.own' g h)
        · right; omega
      have y0 : w'.heap[bh]? = some (.cells #[.int .i64 room, .slice ad xs.length cap] 55 (0, 0)) := by
        rw [h2.block bh (by simp; omega) (fun e => row_ne HHW.out.head HHW.out.row e.symm), Below.heap_alloc _ _ _ x2]
        exact HHW.out.head
      have hne : bh ≠ g := row_ne' y0 h1
      have y1 : w'.cell? ⟨bh, 1, none⟩ = some (.slice ad xs.length cap) := by simp [World.cell?, y0]
      have y2 : w'.frozen? ⟨bh, 1, none⟩ = false := by simp [World.frozen?, y0]
      obtain ⟨w5, hw5⟩ : ∃ w5, w5 = w'.setCell ⟨bh, 1, none⟩ (.slice (some ⟨g, 0, none⟩) (xs.length + 1) cap') := ⟨_, rfl⟩
      have hfr5 : Fr F W w5 := by
        rw [hw5]
        exact ((Fr.alloc (Fr.refl F W) _).trans (Fr.grown (F := F) h2 (fun k hk => HHW.out.own' k hk)) (fun _ _ h => h)).trans (Fr.setCell w' HHW.out.own _) (fun _ _ h => h)
      have hrow5 : w5.ownsRow 0 30 7 (.slice (some ⟨g, 0, none⟩) (xs.length + 1) cap') (xs.length + 1) (flat xs ++ [.int .i64 0, .int .i64 0, .int .i64 0, .bool false, .int .i64 0, .int .i64 0, .int .i32 0]) := by
        rw [hw5]
        exact ownsRow_fr h1 (Fr.setCell (F := fun k => k = bh) w' rfl _) (fun k hk e => by subst e; exact row_ne y0 h1 hk)
      have hhead5 : w5.heap[bh]? = some (.cells #[.int .i64 room, .slice (some ⟨g, 0, none⟩) (xs.length + 1) cap'] 55 (0, 0)) := by
        rw [hw5, setCell_at y0]; simp
      have HW5 := Lib.hid hw5
      have HFR5 := Lib.hid hfr5
      have HROW5 := Lib.hid hrow5
      have HHEAD5 := Lib.hid hhead5
      clear h1 h2 h3 h4 y0 hw5 hfr5 hrow5 hhead5
      go_wp2
      rw [← HW5.out]
      have hpl := pos_le o.author o.seq xs
      generalize hpi : pos o.author o.seq xs = i at hpl ⊢
      have HPI := Lib.hid hpi
      clear hpi y1 y2 x1
      have f1 : w5.cell? ⟨bh, 1, none⟩ = some (.slice (some ⟨g, 0, none⟩) (xs.length + 1) cap') := by simp [World.cell?, HHEAD5.out]
      obtain ⟨cur, hg1, hg2, hg3, hg4, hg5, hg6⟩ := ownsRow_cur HROW5.out
      have hz7 : (flat xs ++ [Value.int .i64 0, .int .i64 0, .int .i64 0, .bool false, .int .i64 0, .int .i64 0, .int .i32 0]).length = (xs.length + 1) * 7 := by rw [List.length_append, length_flat]; simp; omega
      obtain ⟨w6, hw6⟩ : ∃ w6, w6 = w5.drew.setRow g (splice cur.toList ((i + 1) * 7) (flat (xs.drop i))).toArray := ⟨_, rfl⟩
      have hlen : (flat (xs.drop i)).length = (xs.length - i) * 7 := by rw [length_flat, List.length_drop]
      have hcells : ∀ j u, (flat (xs.drop i))[j]? = some u → w5.drew.cell? ((⟨g, i * 7, none⟩ : Addr).add j) = some u := by
        intro j u hu
        have hj : j < (xs.length - i) * 7 := by rw [← hlen]; exact (List.getElem?_eq_some_iff.1 hu).1
        have hadd : (⟨g, i * 7, none⟩ : Addr).add j = ⟨g, i * 7 + j, none⟩ := by unfold Addr.add; split <;> simp_all
        rw [hadd]
        show w5.cell? _ = _
        rw [cell_of_row w5 g (i * 7 + j) cur 30 (0, 0) hg1]
        have h0 : flat xs = flat (xs.take i) ++ flat (xs.drop i) := by rw [← flat_append, List.take_append_drop]
        have h1 : (flat (xs.take i)).length = i * 7 := by rw [length_flat, List.length_take]; congr 1; omega
        have h2 := congrArg (fun l => l[i * 7 + j]?) hg5
        replace h2 : (List.take ((xs.length + 1) * 7) cur.toList)[i * 7 + j]? = _ := h2
        rw [List.getElem?_take_of_lt (by omega), h0, List.append_assoc, List.getElem?_append_right (by omega), h1, show i * 7 + j - i * 7 = j by omega, List.getElem?_append_left (by omega), hu] at h2
        simpa using h2
      have hcp : ∀ ty dp dc, (0 < xs.length - i → dp = some ⟨g, (i + 1) * 7, none⟩) → (Builtin.copy_ #[22, 22] ty #[.slice dp (xs.length - i) dc, .slice (some ⟨g, i * 7, none⟩) (xs.length + 1 - i) (cap' - i)]).run Try.prog w5.drew = .ok (goInt ((xs.length - i : Nat))) w6 := by
        intro ty dp dc h1
        rw [hw6]
        exact run_copy_rows w5.drew 22 22 ty 30 7 dp _ _ dc _ _ g ((i + 1) * 7) cur 30 (flat (xs.drop i)) (xs.length - i) Try.underlying22 (by kernel_rfl) hg1 (by simp [Nat.min_def]; omega) hlen
          (fun h0 => ⟨h1 (by omega), _, rfl, hcells⟩) (fun h => by cases h) (by rw [hlen]; rw [hz7] at hg2; omega) flat_one
      have p3 : w6.ownsRow 0 30 7 (.slice (some ⟨g, 0, none⟩) (xs.length + 1) cap') (xs.length + 1) (splice (flat xs ++ [.int .i64 0, .int .i64 0, .int .i64 0, .bool false, .int .i64 0, .int .i64 0, .int .i32 0]) ((i + 1) * 7) (flat (xs.drop i))) := by
        rw [hw6]; exact hg6 _ _ (by rw [hlen, hz7]; omega)
      have p4 : Fr (fun k => k = g) w5 w6 := by
        rw [hw6]
        exact Fr.trans (F := fun k => k = g) (G := fun k => k = g) (b := w5.drew) ⟨rfl, rfl, rfl, Nat.le_refl _, fun _ _ _ => rfl⟩ (Fr.setRow (F := fun k => k = g) _ rfl _) (fun _ _ h => h)
      have P3 := Lib.hid p3
      have P4 := Lib.hid p4
      have HCP := Lib.hid hcp
      clear hw6 hlen hcells hcp p3 p4 hg1 hg2 hg3 hg5 hg6 hz7
      have q1 : ¬ cap' = i := by omega
      have q2 : i ≤ xs.length + 1 := by omega
      have q3 : (i : Int) + 1 ≤ (xs.length : Int) + 1 := by omega
      have q4 : (0 : Int) ≤ i + 1 := by omega
      have q5 : ((i : Int) + 1).toNat = i + 1 := by omega
      have q6 : IntKind.i64.wrap ((i : Int) + 1) = i + 1 := IntWalk.i64_in _ (by omega)
      have q7 : i + 1 ≤ xs.length + 1 := by omega
      have q8 : (i : Int) ≤ (xs.length : Int) + 1 := by omega
      have q9 : (i : Int) < (xs.length : Int) + 1 := by omega
      have g1 : w6.cell? ⟨bh, 1, none⟩ = some (.slice (some ⟨g, 0, none⟩) (xs.length + 1) cap') := by
        refine P4.out.cell (p := ⟨bh, 1, none⟩) ?_ ?_
        · exact hne
        · exact f1
      have hbx : opAt w6 w.heap.size 0 o := by
        have hlt : w.heap.size < W.heap.size := (Array.getElem?_eq_some_iff.1 HBO.out).1
        have hnF : ¬ F w.heap.size := fun h => by have := HH.out.lt _ h; omega
        refine opAt_heap ?_
        rw [P4.out.block _ (Nat.lt_of_lt_of_le hlt HFR5.out.size) (by
          intro e
          have e' : w.heap.size = g := e
          rcases hgF with h | h
          · rw [← e'] at h; exact hnF h
          · omega), HFR5.out.block _ hlt hnF]
        exact HBO.out
      obtain ⟨u0, u1, u2, u3, u4, u5, u6⟩ := hbx
      simp only [Nat.zero_add] at u1 u2 u3 u4 u5 u6
      obtain ⟨cur6, v1, v2, v3, v4, v5, v6⟩ := ownsRow_cur P3.out
      have hz7 : (splice (flat xs ++ [Value.int .i64 0, .int .i64 0, .int .i64 0, .bool false, .int .i64 0, .int .i64 0, .int .i32 0]) ((i + 1) * 7) (flat (xs.drop i))).length = (xs.length + 1) * 7 := by
        have h1 : (flat xs ++ [Value.int .i64 0, .int .i64 0, .int .i64 0, .bool false, .int .i64 0, .int .i64 0, .int .i32 0]).length = (xs.length + 1) * 7 := by rw [List.length_append, length_flat]; simp; omega
        rw [length_splice _ _ _ (by rw [h1, length_flat, List.length_drop]; omega), h1]
      have v7 : i * 7 + 7 ≤ cur6.size := by omega
      have hfin : HoldPost w F bh room (ins xs i o) (.returned (.int .i64 0)) (.returned (.int .i64 0)) (w6.drew.setRow g (splice cur6.toList (i * 7) o.cells).toArray) := by
        have hgl : g < w6.heap.size := (Array.getElem?_eq_some_iff.1 v1).1
        have hgF' : ∀ k, k < w.heap.size → k = g → F k := by
          intro k hk e
          have := HBW.size
          rcases hgF with h | h
          · rw [e]; exact h
          · omega
        have hd6 : Fr (fun _ => False) w6 w6.drew := ⟨rfl, rfl, rfl, Nat.le_refl _, fun _ _ _ => rfl⟩
        have hfr : Fr F w (w6.drew.setRow g (splice cur6.toList (i * 7) o.cells).toArray) :=
          ((((Fr.of_below HBW F).trans HFR5.out (fun _ _ h => h)).trans P4.out hgF').trans hd6 (fun _ _ h => h.elim)).trans (Fr.setRow (F := fun k => k = g) _ rfl _) hgF'
        have hlen : (ins xs i o).length = xs.length + 1 := by simp [ins]; omega
        refine ⟨rfl, hfr, .slice (some ⟨g, 0, none⟩) (xs.length + 1) cap', ⟨?_, ?_, ⟨Nat.lt_of_lt_of_le hbh hfr.size, .inl HH.out.own⟩, ?_, fun k hk => hk.1, ?_⟩⟩
        · rw [setRow_other _ _ _ _ hne]
          show w6.heap[bh]? = _
          rw [P4.out.block bh ((Array.getElem?_eq_some_iff.1 HHEAD5.out).1) hne]
          exact HHEAD5.out
        · have := v6 (i * 7) o.cells (by rw [hz7]; simp [OpV.cells]; omega)
          rw [flat_insert hpl o rfl] at this
          rw [hlen]
          exact this
        · intro k hk
          obtain rfl : g = k := Option.some.inj hk
          refine ⟨by simpa [World.setRow] using hgl, ?_⟩
          rcases hgF with h | h
          · exact .inl h
          · exact .inr (Nat.le_trans HBW.size h)
        · rw [← HPI.out]; exact sorted_insert HH.out.sorted o HA.out
      have V1 := Lib.hid v1
      have HFIN := Lib.hid hfin
      clear hz7 v1 v2 v3 v5 v6 hfin
      by_cases hc : cap' = i + 1
      · have hin : i = xs.length := by omega
        subst hin
        subst hc
        have hcp : ∀ ty, (Builtin.copy_ #[22, 22] ty #[.slice (some ⟨g, 0, none⟩) 0 0, .slice (some ⟨g, xs.length * 7, none⟩) 1 1]).run Try.prog w5.drew = .ok (goInt (0 : Nat)) w6 := by
          intro ty
          have := HCP.out ty (some ⟨g, 0, none⟩) 0 (fun h => by omega)
          rwa [show xs.length + 1 - xs.length = 1 by omega, show xs.length - xs.length = 0 by omega] at this
        go_still_tail 13, (by kernel_rfl)
        change wpList _ _ _ _ _ w5.drew
        go_wp2
        go_still_tail 7, (by kernel_rfl)
        change wpList _ _ _ _ _ w6.drew
        go_wp2_with (refine wpList_store_row rfl (.tmp 60) (.tmp 59) 30 rfl g (xs.length * 7) rfl (.agg #[.int .i64 o.ctr, .int .i64 o.author, .int .i64 o.seq, .bool o.ins, .int .i64 o.rctr, .int .i64 o.rauthor, .int .i32 o.rune]) rfl cur6 30 (by kernel_rfl) V1.out v7 (by simp [Value.cells, Value.oneCell']) ?_)
        go_ret
        rw [HFN.out.1, HFN.out.2, HPI.out]
        exact HFIN.out
      · have hcp := fun ty => HCP.out ty (some ⟨g, (i + 1) * 7, none⟩) (cap' - (i + 1)) (fun _ => rfl)
        go_still_tail 13, (by kernel_rfl)
        change wpList _ _ _ _ _ w5.drew
        go_wp2
        go_still_tail 7, (by kernel_rfl)
        change wpList _ _ _ _ _ w6.drew
        go_wp2_with (refine wpList_store_row rfl (.tmp 60) (.tmp 59) 30 rfl g (i * 7) rfl (.agg #[.int .i64 o.ctr, .int .i64 o.author, .int .i64 o.seq, .bool o.ins, .int .i64 o.rctr, .int .i64 o.rauthor, .int .i32 o.rune]) rfl cur6 30 (by kernel_rfl) V1.out v7 (by simp [Value.cells, Value.oneCell']) ?_)
        go_ret
        rw [HFN.out.1, HFN.out.2, HPI.out]
        exact HFIN.out
  · rintro e w1 ⟨rfl, hb⟩
    have HB : Below w.heap.size w w1 := ((Below.refl _ _).alloc (Nat.le_refl _) _).trans (hb.mono (by simp))
    have hfin : addTo room xs o = xs ∧ addErr room xs o = 0 := by simp [addTo, addErr, hany]
    have HFN := Lib.hid hfin
    clear hfin hany
    go_wp2
    go_ret
    rw [HFN.out.1, HFN.out.2]
    exact ⟨rfl, Fr.of_below HB _, v, HH.out.of_below HB⟩
end Go.Proofs.Ytpkdhmljbpbcfaa
