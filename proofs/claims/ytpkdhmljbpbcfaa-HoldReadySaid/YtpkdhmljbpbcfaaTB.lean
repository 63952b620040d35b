/-
  Hold.Ready. No condition beyond what each theorem names.
-/
import Derived.Test.YtpkdhmljbpbcfaaTA
set_option linter.unusedVariables false
set_option linter.unusedSimpArgs false
namespace Go.Proofs.Ytpkdhmljbpbcfaa
open Go.RowKit

def zeroOp : OpV := ⟨0, 0, 0, false, 0, 0, 0⟩
def readyOut (q : OpV → Bool) (xs : List OpV) : OpV × Bool := match xs.find? q with | some o => (o, true) | none => (zeroOp, false)
def readyRest (q : OpV → Bool) (xs : List OpV) : List OpV := match xs.findIdx? q with | some i => xs.eraseIdx i | none => xs

theorem ready_none {q : OpV → Bool} {xs : List OpV} (h : ∀ o ∈ xs, q o = false) : readyOut q xs = (zeroOp, false) ∧ readyRest q xs = xs := by
  have h1 : xs.find? q = none := by simpa [List.find?_eq_none] using h
  have h2 : xs.findIdx? q = none := by simpa [List.findIdx?_eq_none_iff] using h
  simp [readyOut, readyRest, h1, h2]

theorem ready_some {q : OpV → Bool} {xs : List OpV} {i : Nat} (hi : i < xs.length) (h1 : q xs[i] = true) (h2 : ∀ j (h : j < i), q (xs[j]'(by omega)) = false) : readyOut q xs = (xs[i], true) ∧ readyRest q xs = xs.eraseIdx i := by
  have h3 : xs.findIdx? q = some i := List.findIdx?_eq_some_iff_getElem.2 ⟨hi, h1, fun j hj => by simp [h2 j hj]⟩
  have h4 : xs.find? q = some xs[i] := by
    rw [List.find?_eq_some_iff_getElem]
    exact ⟨h1, i, hi, rfl, fun j hj => by simp [h2 j hj]⟩
  simp [readyOut, readyRest, h3, h4]

/-- an end whose operation lies written out -/
def retOp (o : OpV) (b : Bool) : Ending := .returned (.tuple #[.agg #[.int .i64 o.ctr, .int .i64 o.author, .int .i64 o.seq, .bool o.ins, .int .i64 o.rctr, .int .i64 o.rauthor, .int .i32 o.rune], .bool b])

theorem flat_erase {xs : List OpV} {i : Nat} (hi : i < xs.length) : (splice (flat xs) (i * 7) (flat (xs.drop (i + 1)))).take ((xs.length - 1) * 7) = flat (xs.eraseIdx i) := by
  have h1 : (flat (xs.take i)).length = i * 7 := by rw [length_flat, List.length_take]; congr 1; omega
  have h2 : (flat (xs.drop (i + 1))).length = (xs.length - (i + 1)) * 7 := by rw [length_flat, List.length_drop]
  rw [List.eraseIdx_eq_take_drop_succ, flat_append, flat_take]
  unfold splice
  rw [← List.append_assoc, List.take_left']
  rw [List.length_append, h2, ← flat_take, h1]
  omega

theorem HoldAt.of_below {w w' : World} (hb : Below w.heap.size w w') {F : Nat → Prop} {bh : Nat} {room : Int} {v : Value} {xs : List OpV} (h : HoldAt w F bh room v xs) : HoldAt w' (grow F w w') bh room v xs := by
  obtain ⟨h1, h2, h3, h4, h5, h6⟩ := h.below hb
  exact ⟨h1, h2, ⟨h5 _ h3, .inl h3⟩, fun k hk => ⟨h5 _ (h4 k hk), .inl (h4 k hk)⟩, fun k hk => hk.1, h6⟩

set_option maxHeartbeats 1000000 in
theorem ready_any (w : World) (F : Nat → Prop) (bh : Nat) (room : Int) (v : Value) (xs : List OpV) (q : OpV → Bool) (K : FuncId) (C : Array Value) (hn : xs.length ≤ 1000000) (hh : HoldAt w F bh room v xs) (hE : Enters Try.prog K)
    (hq : Decides K C q w F) :
    Calls Try.prog 15 #[.pointer (some ⟨bh, 0, none⟩), .func (.func K) #[] C] w
      (HoldPost w F bh room (readyRest q xs) (retOp (readyOut q xs).1 (readyOut q xs).2)) := by
  have HH := Lib.hid hh
  have hbh : bh < w.heap.size := hh.lt _ hh.own
  have hz : HoldAt (w.alloc (.cells #[.int .i64 0, .int .i64 0, .int .i64 0, .bool false, .int .i64 0, .int .i64 0, .int .i32 0] 30)) F bh room v xs := hh.below ((Below.refl _ _).alloc (Nat.le_refl _) _)
  have HI := Lib.hid (index_any (w.alloc (.cells #[.int .i64 0, .int .i64 0, .int .i64 0, .bool false, .int .i64 0, .int .i64 0, .int .i32 0] 30)) v xs q K C (by omega) hE hz.rd (hq.fr (Fr.alloc (Fr.refl _ _) _)))
  obtain ⟨ad, cap, hv⟩ := hh.rd.len
  have HV := Lib.hid hv
  have c1 : w.cell? ⟨bh, 1, none⟩ = some (.slice ad xs.length cap) := by simp [World.cell?, hh.head, hv]
  rw [hv] at HI
  have HZ := Lib.hid hz
  clear hh hq hE hv hz
  go_enter Try.func15, Try.ntmps15
  go_wp2_with fail
  refine HI.out.mono ?_
  rcases idx_cases q xs with ⟨h1, h2, h3⟩ | ⟨i, h1, hil, h2, h3, h4⟩
  · rw [h1]
    rintro e w1 ⟨rfl, hb⟩
    have HR := Lib.hid (ready_none h2)
    clear h1 h2 h3
    have HB : Below w.heap.size w w1 := ((Below.refl _ _).alloc (Nat.le_refl _) _).trans (hb.mono (by simp))
    have hc : w1.heap[w.heap.size]? = some (.cells #[.int .i64 0, .int .i64 0, .int .i64 0, .bool false, .int .i64 0, .int .i64 0, .int .i32 0] 30 (0, 0)) := by
      rw [hb.block _ (by simp)]; exact heap_alloc_new w _
    have HC := Lib.hid hc
    clear hc
    go_wp2_with (refine wpList_store_row rfl (.tmp 4) (.tmp 17) 30 rfl w.heap.size 0 rfl (.agg #[.int .i64 0, .int .i64 0, .int .i64 0, .bool false, .int .i64 0, .int .i64 0, .int .i32 0]) rfl _ 30 (by kernel_rfl) HC.out (by decide) (by decide) ?_)
    have hfin : HoldPost w F bh room xs (retOp zeroOp false) (retOp zeroOp false) (w1.setRow w.heap.size (splice [.int .i64 0, .int .i64 0, .int .i64 0, .bool false, .int .i64 0, .int .i64 0, .int .i32 0] 0 [.int .i64 0, .int .i64 0, .int .i64 0, .bool false, .int .i64 0, .int .i64 0, .int .i32 0]).toArray) := by
      have hb' : Below w.heap.size w (w1.setRow w.heap.size (splice [.int .i64 0, .int .i64 0, .int .i64 0, .bool false, .int .i64 0, .int .i64 0, .int .i32 0] 0 [.int .i64 0, .int .i64 0, .int .i64 0, .bool false, .int .i64 0, .int .i64 0, .int .i32 0]).toArray) := below_setRow HB (Nat.le_refl _) _
      exact ⟨rfl, Fr.of_below hb' _, v, HH.out.of_below hb'⟩
    refine bodyPost_ret (v := .tuple #[.agg #[.int .i64 0, .int .i64 0, .int .i64 0, .bool false, .int .i64 0, .int .i64 0, .int .i32 0], .bool false]) ?_ rfl (by rw [HR.out.1, HR.out.2]; exact hfin)
    exact ret_cell2 (p := 4) (u := 5) (ty := 30) rfl _ _ w.heap.size _ 30 (0, 0) _ rfl (setRow_heap w1 w.heap.size _ _ 30 (0, 0) HC.out) Try.underlying30 (by kernel_rfl)
  · rw [h1]
    rintro e w1 ⟨rfl, hb⟩
    have hm1 : ¬ (i : Int) < 0 := by omega
    obtain ⟨g, hg⟩ : ∃ g, ad = some ⟨g, 0, none⟩ := by
      have hr := HH.out.row
      rw [HV.out] at hr
      rcases hr.2 with ⟨-, h⟩ | ⟨g, cap, cur, hv, -⟩
      · omega
      · cases hv; exact ⟨g, rfl⟩
    subst hg
    have hh1 := HZ.out.below hb
    rw [HV.out] at hh1
    have e1 : w1.cell? ⟨bh, 1, none⟩ = some (.slice (some ⟨g, 0, none⟩) xs.length cap) := by simp [World.cell?, hh1.head]
    have ho := ownsRow_op rfl hh1.row hil
    rw [Nat.zero_add] at ho
    have hgl := opAt_lt ho
    obtain ⟨k0, k1, k2, k3, k4, k5, k6⟩ := ho
    have hbl : bh < w1.heap.size := hh1.lt _ hh1.own
    have HH1 := Lib.hid hh1
    obtain ⟨o, hoo⟩ : ∃ o, o = xs[i] := ⟨_, rfl⟩
    rw [← hoo] at k0 k1 k2 k3 k4 k5 k6
    have HO := Lib.hid hoo
    have HR := Lib.hid (ready_some hil h2 h3)
    clear hh1 hoo h2 h3 h4 h1
    go_wp2
    obtain ⟨W, hW⟩ : ∃ W, W = w1.alloc (.cells #[.int .i64 o.ctr, .int .i64 o.author, .int .i64 o.seq, .bool o.ins, .int .i64 o.rctr, .int .i64 o.rauthor, .int .i32 o.rune] 30) := ⟨_, rfl⟩
    rw [← hW]
    have f1 : W.cell? ⟨bh, 1, none⟩ = some (.slice (some ⟨g, 0, none⟩) xs.length cap) := by rw [hW, World.cell?_alloc_lt _ _ _ hbl]; exact e1
    have HW := Lib.hid hW
    clear hW
    have hcap : xs.length ≤ cap := by
      obtain ⟨cur, -, -, -, h, -⟩ := ownsRow_cur HH1.out.row
      exact h
    have q1 : ¬ cap = i := by omega
    have q2 : i ≤ xs.length := by omega
    have q3 : (i : Int) + 1 ≤ xs.length := by omega
    have q4 : (0 : Int) ≤ i + 1 := by omega
    have q5 : ((i : Int) + 1).toNat = i + 1 := by omega
    have q6 : IntKind.i64.wrap ((i : Int) + 1) = i + 1 := IntWalk.i64_in _ (by omega)
    have q7 : i + 1 ≤ xs.length := by omega
    obtain ⟨cur, hg1, hg2, hg3, hg4, hg5, hg6⟩ := ownsRow_cur (show W.ownsRow 0 30 7 (.slice (some ⟨g, 0, none⟩) xs.length cap) xs.length (flat xs) from by rw [HW.out]; exact HH1.out.row.alloc _)
    obtain ⟨W3, hW3⟩ : ∃ W3, W3 = W.drew.setRow g (splice cur.toList (i * 7) (flat (xs.drop (i + 1)))).toArray := ⟨_, rfl⟩
    have hlen : (flat (xs.drop (i + 1))).length = (xs.length - (i + 1)) * 7 := by rw [length_flat, List.length_drop]
    have hcells : ∀ j u, (flat (xs.drop (i + 1)))[j]? = some u → W.drew.cell? ((⟨g, (i + 1) * 7, none⟩ : Addr).add j) = some u := by
      refine flat_cells fun j hj => ?_
      have := ownsRow_op rfl (show W.ownsRow 0 30 7 (.slice (some ⟨g, 0, none⟩) xs.length cap) xs.length (flat xs) from by rw [HW.out]; exact HH1.out.row.alloc _) (j := i + 1 + j) (by simpa using (by simp at hj; omega : i + 1 + j < xs.length))
      rw [List.getElem_drop, show (i + 1) * 7 + j * 7 = 0 + (i + 1 + j) * 7 by omega]
      exact this
    have hcp : ∀ ty sp sc, (0 < xs.length - (i + 1) → sp = some ⟨g, (i + 1) * 7, none⟩) → (sp = none → xs.length - (i + 1) = 0 ∧ sc = 0) → (Builtin.copy_ #[22, 22] ty #[.slice (some ⟨g, i * 7, none⟩) (xs.length - i) (cap - i), .slice sp (xs.length - (i + 1)) sc]).run Try.prog W.drew = .ok (goInt ((xs.length - (i + 1) : Nat))) W3 := by
      intro ty sp sc h1 h2
      rw [hW3]
      exact run_copy_rows W.drew 22 22 ty 30 7 _ sp _ _ _ sc g (i * 7) cur 30 (flat (xs.drop (i + 1))) (xs.length - (i + 1)) Try.underlying22 (by kernel_rfl) hg1 (by simp [Nat.min_def]; omega) hlen
        (fun h0 => ⟨rfl, _, h1 (by omega), hcells⟩) h2 (by rw [hlen]; rw [length_flat] at hg2; omega) flat_one
    have hbg : bh ≠ g := by
      rintro rfl
      exact row_ne HH1.out.head HH1.out.row rfl
    have hw01 : w.heap.size < w1.heap.size := by have := hb.size; simp at this; omega
    have hFg : F g := HH1.out.own' g rfl
    have hgw : g < w.heap.size := HH.out.lt _ hFg
    have p0 : W3.heap[bh]? = some (.cells #[.int .i64 room, .slice (some ⟨g, 0, none⟩) xs.length cap] 55 (0, 0)) := by
      rw [hW3, setRow_other _ _ _ _ hbg]
      show W.heap[bh]? = _
      rw [HW.out, Below.heap_alloc _ _ _ hbl]; exact HH1.out.head
    have p1 : W3.heap[w1.heap.size]? = some (.cells #[.int .i64 o.ctr, .int .i64 o.author, .int .i64 o.seq, .bool o.ins, .int .i64 o.rctr, .int .i64 o.rauthor, .int .i32 o.rune] 30 (0, 0)) := by
      rw [hW3, setRow_other _ _ _ _ (by omega)]
      show W.heap[w1.heap.size]? = _
      rw [HW.out]; exact heap_alloc_new _ _
    have p2 : W3.heap[w.heap.size]? = some (.cells #[.int .i64 0, .int .i64 0, .int .i64 0, .bool false, .int .i64 0, .int .i64 0, .int .i32 0] 30 (0, 0)) := by
      rw [hW3, setRow_other _ _ _ _ (by omega)]
      show W.heap[w.heap.size]? = _
      rw [HW.out, Below.heap_alloc _ _ _ hw01, hb.block _ (by simp)]; exact heap_alloc_new _ _
    have p3 : W3.ownsRow 0 30 7 (.slice (some ⟨g, 0, none⟩) (xs.length - 1) cap) (xs.length - 1) (flat (xs.eraseIdx i)) := by
      rw [hW3, ← flat_erase hil]
      exact ownsRow_less (by exact hg6 _ _ (by rw [hlen, length_flat]; omega)) (by omega)
    have p4 : Fr F w W3 := by
      rw [hW3]
      have h1 : Fr F w W := by
        rw [HW.out]
        exact (Fr.of_below (((Below.refl _ _).alloc (Nat.le_refl _) _).trans (hb.mono (by simp))) F).alloc _
      exact h1.trans (Fr.trans (F := F) (G := F) (b := W.drew) ⟨rfl, rfl, rfl, Nat.le_refl _, fun _ _ _ => rfl⟩ (Fr.setRow _ hFg _) (fun _ _ h => h)) (fun _ _ h => h)
    have P0 := Lib.hid p0
    have P1 := Lib.hid p1
    have P2 := Lib.hid p2
    have P3 := Lib.hid p3
    have P4 := Lib.hid p4
    have r1 : W3.cell? ⟨bh, 1, none⟩ = some (.slice (some ⟨g, 0, none⟩) xs.length cap) := by simp [World.cell?, p0]
    have r2 : W3.frozen? ⟨bh, 1, none⟩ = false := by simp [World.frozen?, p0]
    clear hW3 hlen hcells hg1 hg2 hg3 hg4 hg5 hg6 p0 p1 p2 p3 p4
    have HCP := Lib.hid hcp
    clear hcp
    have q9 : ((i : Int) + (xs.length - (i + 1) : Nat)) = ((xs.length - 1 : Nat) : Int) := by omega
    have o1 : ∀ j u, (#[Value.int .i64 o.ctr, .int .i64 o.author, .int .i64 o.seq, .bool o.ins, .int .i64 o.rctr, .int .i64 o.rauthor, .int .i32 o.rune])[j]? = some u → (W3.setCell ⟨bh, 1, none⟩ (.slice (some ⟨g, 0, none⟩) (xs.length - 1) cap)).cell? ⟨w1.heap.size, j, none⟩ = some u := by
      intro j u hu
      have := setCell_off (w := W3) bh 1 (.slice (some ⟨g, 0, none⟩) (xs.length - 1) cap) (k := w1.heap.size) (by omega)
      simp [World.cell?, this, P1.out, hu]
    have y0 := o1 0 _ rfl
    have y1 := o1 1 _ rfl
    have y2 := o1 2 _ rfl
    have y3 := o1 3 _ rfl
    have y4 := o1 4 _ rfl
    have y5 := o1 5 _ rfl
    have y6 := o1 6 _ rfl
    clear o1
    have z0 : (W3.setCell ⟨bh, 1, none⟩ (.slice (some ⟨g, 0, none⟩) (xs.length - 1) cap)).heap[w.heap.size]? = some (.cells #[.int .i64 0, .int .i64 0, .int .i64 0, .bool false, .int .i64 0, .int .i64 0, .int .i32 0] 30 (0, 0)) := by
      rw [setCell_off (w := W3) bh 1 _ (by omega)]; exact P2.out
    have Z0 := Lib.hid z0
    clear z0
    have hfin : HoldPost w F bh room (xs.eraseIdx i) (retOp o true) (retOp o true) ((W3.setCell ⟨bh, 1, none⟩ (.slice (some ⟨g, 0, none⟩) (xs.length - 1) cap)).setRow w.heap.size (splice [.int .i64 0, .int .i64 0, .int .i64 0, .bool false, .int .i64 0, .int .i64 0, .int .i32 0] 0 [.int .i64 o.ctr, .int .i64 o.author, .int .i64 o.seq, .bool o.ins, .int .i64 o.rctr, .int .i64 o.rauthor, .int .i32 o.rune]).toArray) := by
      have hgk : ∀ k, (Value.slice (some ⟨g, 0, none⟩) (xs.length - 1) cap).ownBlock = some k → g = k := fun k h => Option.some.inj h
      have h0 := hold_set (v' := .slice (some ⟨g, 0, none⟩) (xs.length - 1) cap) (F := grow F w W3) P0.out (by rw [List.length_eraseIdx_of_lt hil]; exact P3.out) (HH.out.sorted.sublist (List.eraseIdx_sublist _ _)) ⟨Nat.lt_of_lt_of_le hbh P4.out.size, .inl HH.out.own⟩ (fun k hk => by obtain rfl : g = k := hgk k hk; exact ⟨Nat.lt_of_lt_of_le hgw P4.out.size, .inl hFg⟩) (fun k hk => hk.1)
      have hfr : Fr F w ((W3.setCell ⟨bh, 1, none⟩ (.slice (some ⟨g, 0, none⟩) (xs.length - 1) cap)).setRow w.heap.size (splice [.int .i64 0, .int .i64 0, .int .i64 0, .bool false, .int .i64 0, .int .i64 0, .int .i32 0] 0 [.int .i64 o.ctr, .int .i64 o.author, .int .i64 o.seq, .bool o.ins, .int .i64 o.rctr, .int .i64 o.rauthor, .int .i32 o.rune]).toArray) :=
        (P4.out.trans (Fr.setCell W3 HH.out.own _) (fun _ _ h => h)).trans (Fr.setRow (F := fun k => k = w.heap.size) _ rfl _) (fun k hk e => by omega)
      refine ⟨rfl, hfr, _, ⟨?_, ?_, ⟨Nat.lt_of_lt_of_le hbh hfr.size, .inl HH.out.own⟩, fun k hk => by obtain rfl : g = k := hgk k hk; exact ⟨Nat.lt_of_lt_of_le hgw hfr.size, .inl hFg⟩, fun k hk => hk.1, h0.sorted⟩⟩
      · rw [setRow_other _ _ _ _ (by omega)]; exact h0.head
      · exact ownsRow_fr h0.row (Fr.setRow (F := fun k => k = w.heap.size) _ rfl _) (fun k hk => by obtain rfl : g = k := hgk k hk; omega)
    have HFIN := Lib.hid hfin
    clear hfin
    by_cases q8 : cap = i + 1
    · subst q8
      have hx0 : xs.length - (i + 1) = 0 := by omega
      have hcp : ∀ ty, (Builtin.copy_ #[22, 22] ty #[.slice (some ⟨g, i * 7, none⟩) (xs.length - i) 1, .slice (some ⟨g, 0, none⟩) 0 0]).run Try.prog W.drew = .ok (goInt (0 : Nat)) W3 := by
        intro ty
        have := HCP.out ty (some ⟨g, 0, none⟩) 0 (fun h => by omega) (fun h => by cases h)
        rwa [show i + 1 - i = 1 by omega, hx0] at this
      have hx1 : xs.length - 1 = i := by omega
      rw [hx1] at y0 y1 y2 y3 y4 y5 y6 Z0 HFIN
      clear q9 hx0 hx1
      go_still_tail 13, (by kernel_rfl)
      change wpList _ _ _ _ _ W.drew
      go_wp2_with (refine wpList_store_row rfl (.tmp 4) (.tmp 50) 30 rfl w.heap.size 0 rfl (.agg #[.int .i64 o.ctr, .int .i64 o.author, .int .i64 o.seq, .bool o.ins, .int .i64 o.rctr, .int .i64 o.rauthor, .int .i32 o.rune]) rfl _ 30 (by kernel_rfl) Z0.out (by simp [Value.cells]) (by simp [Value.cells, Value.oneCell']) ?_)
      try simp only [Exit.inBlock, Exit.then]
      refine bodyPost_ret (v := .tuple #[.agg #[.int .i64 o.ctr, .int .i64 o.author, .int .i64 o.seq, .bool o.ins, .int .i64 o.rctr, .int .i64 o.rauthor, .int .i32 o.rune], .bool true]) ?_ rfl ?_
      · exact ret_cell2 (p := 4) (u := 5) (ty := 30) rfl _ _ w.heap.size _ 30 (0, 0) _ rfl (setRow_heap _ w.heap.size _ _ 30 (0, 0) Z0.out) Try.underlying30 (by kernel_rfl)
      · rw [HR.out.1, HR.out.2, ← HO.out]; exact HFIN.out
    · have hcp := fun ty => HCP.out ty (some ⟨g, (i + 1) * 7, none⟩) (cap - (i + 1)) (fun _ => rfl) (fun h => by cases h)
      go_still_tail 13, (by kernel_rfl)
      change wpList _ _ _ _ _ W.drew
      go_wp2_with (refine wpList_store_row rfl (.tmp 4) (.tmp 50) 30 rfl w.heap.size 0 rfl (.agg #[.int .i64 o.ctr, .int .i64 o.author, .int .i64 o.seq, .bool o.ins, .int .i64 o.rctr, .int .i64 o.rauthor, .int .i32 o.rune]) rfl _ 30 (by kernel_rfl) Z0.out (by simp [Value.cells]) (by simp [Value.cells, Value.oneCell']) ?_)
      try simp only [Exit.inBlock, Exit.then]
      refine bodyPost_ret (v := .tuple #[.agg #[.int .i64 o.ctr, .int .i64 o.author, .int .i64 o.seq, .bool o.ins, .int .i64 o.rctr, .int .i64 o.rauthor, .int .i32 o.rune], .bool true]) ?_ rfl ?_
      · exact ret_cell2 (p := 4) (u := 5) (ty := 30) rfl _ _ w.heap.size _ 30 (0, 0) _ rfl (setRow_heap _ w.heap.size _ _ 30 (0, 0) Z0.out) Try.underlying30 (by kernel_rfl)
      · rw [HR.out.1, HR.out.2, ← HO.out]; exact HFIN.out
end Go.Proofs.Ytpkdhmljbpbcfaa
