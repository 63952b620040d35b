/-
  slices.Compact of a list of one's own. No condition beyond what each theorem names.
-/
import Derived.Test.YtmooflmhbpckjaaEB
import Derived.Test.YtmooflmhbpckjaaDH
set_option linter.unusedVariables false
set_option linter.unusedSimpArgs false
namespace Go.Proofs.Ytmooflmhbpckjaa
open Go.RowKit

/-- the cells of block g are these -/
def VRow (w : World) (g : Nat) (T : TypeId) (vs : List Value) : Prop := w.heap[g]? = some (.cells vs.toArray T (0, 0))
section
variable {w w' : World} {g : Nat} {T : TypeId} {vs : List Value}
theorem VRow.cell (h : VRow w g T vs) {i : Nat} {u : Value} (hi : vs[i]? = some u) : w.cell? ⟨g, i, none⟩ = some u := by
  unfold VRow at h
  simp [World.cell?, h, hi]
theorem VRow.fz (h : VRow w g T vs) (i : Nat) : w.frozen? ⟨g, i, none⟩ = false := fz_at h i
theorem VRow.set (h : VRow w g T vs) (i : Nat) (u : Value) : VRow (w.setCell ⟨g, i, none⟩ u) g T (vs.set i u) := by
  have := blk_set h i u
  unfold VRow
  rw [this]
  simp
theorem VRow.lt (h : VRow w g T vs) : g < w.heap.size := at_lt h
theorem VRow.fr {F : Nat → Prop} (h : VRow w g T vs) (hf : Fr F w w') (hn : ¬ F g) : VRow w' g T vs := (hf.block g h.lt hn).trans h
end

/-- a list without what is as the one behind it -/
def ded : List Int → List Int
  | [] => []
  | [a] => [a]
  | a :: b :: r => if a = b then ded (b :: r) else a :: ded (b :: r)

theorem ded_snoc : ∀ (l : List Int) (a b : Int), ded (l ++ [a, b]) = ded (l ++ [a]) ++ (if a = b then [] else [b])
  | [], a, b => by simp [ded]; split <;> simp_all
  | [x], a, b => by
    simp [ded]
    split <;> split <;> simp_all
  | x :: y :: l, a, b => by
    have ih := ded_snoc (y :: l) a b
    show ded (x :: y :: (l ++ [a, b])) = ded (x :: y :: (l ++ [a])) ++ _
    rw [ded, ded]
    rw [List.cons_append, List.cons_append] at ih
    split
    · exact ih
    · rw [ih]; rfl
theorem ded_mem : ∀ (l : List Int) (v : Int), v ∈ ded l ↔ v ∈ l
  | [], v => by simp [ded]
  | [a], v => by simp [ded]
  | a :: b :: r, v => by
    have ih := ded_mem (b :: r) v
    rw [ded]
    split
    · rename_i e
      rw [ih, e]
      simp
    · rw [List.mem_cons, ih]
      simp
theorem ded_length : ∀ (l : List Int), (ded l).length ≤ l.length
  | [] => by simp [ded]
  | [a] => by simp [ded]
  | a :: b :: r => by
    have ih := ded_length (b :: r)
    rw [ded]
    simp only [List.length_cons] at ih ⊢
    split
    · omega
    · simp only [List.length_cons]; omega
theorem ded_head {a : Int} {l : List Int} : ∃ r, ded (a :: l) = a :: r := by
  induction l generalizing a with
  | nil => exact ⟨[], rfl⟩
  | cons b l ih =>
    obtain ⟨r, hr⟩ := @ih b
    unfold ded
    split
    · rename_i e; rw [hr, e]; exact ⟨_, rfl⟩
    · exact ⟨_, rfl⟩
/-- of a sorted list: rising -/
theorem ded_rises : ∀ {l : List Int}, l.Pairwise (· ≤ ·) → Rises (ded l)
  | [], _ => by simp [ded, Rises]
  | [a], _ => by simp [ded, Rises]
  | a :: b :: r, h => by
    have h1 := List.pairwise_cons.1 h
    have ih := ded_rises h1.2
    rw [ded]
    split
    · exact ih
    · rename_i e
      unfold Rises at ih ⊢
      refine List.pairwise_cons.2 ⟨fun x hx => ?_, ih⟩
      have hx2 := (ded_mem _ _).1 hx
      have hab := h1.1 b (by simp)
      have hbx : b ≤ x := by
        rcases List.mem_cons.1 hx2 with rfl | hx3
        · exact Int.le_refl _
        · exact (List.pairwise_cons.1 h1.2).1 x hx3
      omega

theorem ints_blk {base : Nat} {T : TypeId} {w : World} {v : Value} {xs : List Int} (h : OwnL intE T 1 base w v xs) (h0 : 0 < xs.length) : ∃ g cap vs, v = .slice (some ⟨g, 0, none⟩) xs.length cap ∧ base ≤ g ∧ VRow w g T vs ∧ xs.length ≤ cap ∧ cap ≤ maxLen ∧ vs.length = cap ∧ vs.take xs.length = xs.map (.int .i64) := by
  obtain ⟨rows, ⟨h1, h2⟩, h3, h4, h5⟩ := h
  rw [flatten_ints h3 h5] at h2
  rcases h2 with ⟨-, h6⟩ | ⟨g, cap, cur, rfl, hb, hg, hn, hc, hs, ht⟩
  · omega
  · refine ⟨g, cap, cur.toList, rfl, hb, ?_, hn, hc, by simpa using hs, by simpa using ht⟩
    unfold VRow
    rw [hg]
theorem blk_ints {base : Nat} {T : TypeId} {w : World} {xs : List Int} {g cap : Nat} {vs : List Value} (hb : base ≤ g) (hg : VRow w g T vs) (hn : xs.length ≤ cap) (hc : cap ≤ maxLen) (hs : vs.length = cap) (ht : vs.take xs.length = xs.map (.int .i64)) : OwnL intE T 1 base w (.slice (some ⟨g, 0, none⟩) xs.length cap) xs :=
  ownL_ints ⟨by simp, .inr ⟨g, cap, vs.toArray, rfl, hb, hg, hn, hc, by simpa using hs, by simpa using ht⟩⟩
theorem blk_get {xs : List Int} {vs : List Value} (ht : vs.take xs.length = xs.map (.int .i64)) {i : Nat} (hi : i < xs.length) : vs[i]? = some (.int .i64 xs[i]) := by
  have h := congrArg (fun l => l[i]?) ht
  simp only [List.getElem?_take, if_pos hi] at h
  rw [h]
  simp [hi]

set_option maxRecDepth 100000 in
set_option maxHeartbeats 4000000 in
theorem compact_own (base : Nat) (w : World) (v : Value) (xs : List Int) (h : OwnL intE 3 1 base w v xs) (hx : xs.length ≤ 1000000) :
    Calls Try.prog 79 #[v] w fun e w' => ∃ v', e = .returned v' ∧ OwnL intE 3 1 base w' v' (ded xs) ∧ Fr (fun k => v.ownBlock = some k) w w' ∧ v'.ownBlock = v.ownBlock := by
  by_cases hs : xs.length < 2
  · obtain ⟨p, cp, rfl⟩ := h.form
    have hd : ded xs = xs := by
      match xs, hs with
      | [], _ => rfl
      | [a], _ => rfl
    have hss : (xs.length : Int) < 2 := by omega
    have HOW := Lib.hid h
    have HD := Lib.hid hd
    clear h hd
    go_enter Try.func79, Try.ntmps79
    go_wp2_with fail
    go_ret
    exact ⟨_, rfl, by rw [HD.out]; exact HOW.out, Fr.refl _ _, rfl⟩
  · obtain ⟨g, cap, vs, rfl, hb, hg, hn, hc, hl, ht⟩ := ints_blk h (by omega)
    have hss : ¬ (xs.length : Int) < 2 := by omega
    have HG := Lib.hid hg
    have HT := Lib.hid ht
    have HL := Lib.hid (show vs.length = cap ∧ cap ≤ maxLen from ⟨hl, hc⟩)
    have hc2 : cap ≤ 9223372036854775807 := by unfold maxLen at hc; omega
    have HOW := Lib.hid h
    clear h hg ht hl hc
    go_enter Try.func79, Try.ntmps79
    go_wp2_with fail
    go_loopw [3] (fun i wr => ∃ k : Nat, i = .int .i64 ((k : Int) + 1) ∧ k + 1 ≤ xs.length ∧ ded (xs.take (k + 1)) = xs.take (k + 1) ∧ VRow wr g 3 vs ∧ Fr (fun k => k = g) w wr) (fun i _ => xs.length - (intOf i).toNat)
    case atStart => exact ⟨0, rfl, by omega, by
      match xs, hs with
      | a :: b :: r, _ => rfl, HG.out, Fr.refl _ _⟩
    case round =>
      obtain ⟨k, rfl, h1, h2, h3, h4⟩ := hrel
      have H2 := Lib.hid h2
      have HGG := Lib.hid h3
      have HFF := Lib.hid h4
      clear h2 h3 h4
      by_cases hk : k + 1 < xs.length
      · have c0 := HGG.out.cell (blk_get HT.out (i := k) (by omega))
        have c1 := HGG.out.cell (blk_get HT.out hk)
        obtain ⟨a, ha⟩ : ∃ a, a = xs[k] := ⟨_, rfl⟩
        obtain ⟨b, hb⟩ : ∃ b, b = xs[k + 1] := ⟨_, rfl⟩
        rw [← ha] at c0
        rw [← hb] at c1
        have hsn : xs.take (k + 1 + 1) = xs.take k ++ [a, b] := by
          rw [List.take_succ_eq_append_getElem hk, List.take_succ_eq_append_getElem (show k < xs.length by omega), ← ha, ← hb]
          simp
        have hsn1 : xs.take (k + 1) = xs.take k ++ [a] := by
          rw [List.take_succ_eq_append_getElem (show k < xs.length by omega), ← ha]
        have HSN := Lib.hid (And.intro hsn hsn1)
        have hi1 : ((k : Int) + 1) < xs.length := by omega
        have hk0 : (0 : Int) ≤ k := by omega
        have hsub : (k : Int) + 1 - 1 = k := by omega
        have hnt : ((k : Int) + 1).toNat = k + 1 := by omega
        clear hsn hsn1 ha hb
        by_cases hab : a = b
        · subst hab
          go_upto_region 6 with fail
          go_quiet (fail)
          go_wp2_with fail
          have HST := Lib.hid (show ded (xs.take (k + 1 + 0 + 1)) = xs.take (k + 1) by rw [Nat.add_zero, HSN.out.1, ded_snoc, if_pos rfl, List.append_nil, ← HSN.out.2, H2.out])
          go_loopw [3, 5] (fun i j wr => ∃ (p q : Nat) (vs' : List Value), i = .int .i64 p ∧ j = .int .i64 ((q : Int) + 1) ∧ k + 1 + q + 1 ≤ xs.length ∧ p ≤ k + 1 + q ∧ p = (ded (xs.take (k + 1 + q + 1))).length ∧ VRow wr g 3 vs' ∧ vs'.length = vs.length ∧ vs'.take p = (ded (xs.take (k + 1 + q + 1))).map (.int .i64) ∧ (∀ i, k + 1 + q ≤ i → vs'[i]? = vs[i]?) ∧ Fr (fun k => k = g) w wr) (fun _ j _ => xs.length - (intOf j).toNat)
          case atStart => exact ⟨k + 1, 0, vs, by go_num, rfl, by omega, by omega, by rw [HST.out, List.length_take]; omega, HGG.out, rfl, by
            rw [HST.out, List.map_take, ← HT.out, List.take_take]
            congr 1
            omega, fun _ _ => rfl, HFF.out.drewN _⟩
          case round =>
            obtain ⟨p, q, vs', rfl, rfl, g1, g2, g3, g4, g5, g6, g7, g8⟩ := hrel
            have HP := Lib.hid (And.intro g3 g6)
            have HV := Lib.hid g4
            have HV6 := Lib.hid g5
            have HV7 := Lib.hid g7
            have HF := Lib.hid g8
            obtain ⟨m, hm⟩ : ∃ m, m = xs.length - (k + 1) := ⟨_, rfl⟩
            rw [← hm]
            clear g3 g4 g5 g6 g7 g8
            by_cases hq : k + 1 + q + 1 < xs.length
            · have d0 := HV.out.cell ((HV7.out (k + 1 + q) (by omega)).trans (blk_get HT.out (i := k + 1 + q) (by omega)))
              have d1 : wr.cell? ⟨g, k + 1 + (q + 1), none⟩ = some (.int .i64 xs[k + 1 + q + 1]) := HV.out.cell ((HV7.out (k + 1 + q + 1) (by omega)).trans (blk_get HT.out hq))
              obtain ⟨e, he⟩ : ∃ e, e = xs[k + 1 + q] := ⟨_, rfl⟩
              obtain ⟨f, hf⟩ : ∃ f, f = xs[k + 1 + q + 1] := ⟨_, rfl⟩
              rw [← he] at d0
              rw [← hf] at d1
              have HSQ := Lib.hid (show ded (xs.take (k + 1 + (q + 1) + 1)) = ded (xs.take (k + 1 + q + 1)) ++ (if e = f then [] else [f]) by
                have s1 : xs.take (k + 1 + (q + 1) + 1) = xs.take (k + 1 + q) ++ [e, f] := by
                  rw [show k + 1 + (q + 1) + 1 = k + 1 + q + 1 + 1 by omega, List.take_succ_eq_append_getElem hq, List.take_succ_eq_append_getElem (show k + 1 + q < xs.length by omega), ← he, ← hf]
                  simp
                have s2 : xs.take (k + 1 + q + 1) = xs.take (k + 1 + q) ++ [e] := by
                  rw [List.take_succ_eq_append_getElem (show k + 1 + q < xs.length by omega), ← he]
                rw [s1, s2, ded_snoc])
              have hq1 : ((q : Int) + 1) < m := by omega
              have hq3 : (q : Int) < m := by omega
              have hq4 : (0 : Int) ≤ (q : Int) + 1 := by omega
              have hq0 : (0 : Int) ≤ q := by omega
              have hsub2 : (q : Int) + 1 - 1 = q := by omega
              have hnt2 : ((q : Int) + 1).toNat = q + 1 := by omega
              clear he hf
              by_cases hef : e = f
              · subst hef
                have HSQ2 := Lib.hid (show ded (xs.take (k + 1 + (q + 1) + 1)) = ded (xs.take (k + 1 + q + 1)) by rw [HSQ.out, if_pos rfl, List.append_nil])
                go_upto_region 11 with fail
                go_quiet (fail)
                subst hm
                go_wp2_with fail
                go_roundw
                case rel => exact ⟨p, q + 1, vs', rfl, by go_num, by omega, by omega, by rw [HSQ2.out]; exact HP.out.1, HV.out, HV6.out, by rw [HSQ2.out]; exact HP.out.2, fun i hi => HV7.out i (by omega), HF.out.drewN _⟩
                case measure => simp [intOf]; omega
              · have HSQ2 := Lib.hid (show ded (xs.take (k + 1 + (q + 1) + 1)) = ded (xs.take (k + 1 + q + 1)) ++ [f] by rw [HSQ.out, if_neg hef])
                have hpl : p < vs'.length := by have := HL.out.1; have := HV6.out; omega
                have d2 := HV.out.cell (List.getElem?_eq_getElem hpl)
                have d3 := HV.out.fz p
                have hpn : (p : Int) < xs.length := by omega
                have hp0 : (0 : Int) ≤ p := by omega
                have HPL := Lib.hid hpl
                generalize vs'[p] = u0 at d2
                have hfe : ¬ f = e := fun h => hef h.symm
                clear hpl
                go_upto_region 11 with fail
                go_quiet (fail)
                go_upto_region 13 with fail
                refine abs_wp fun W2 hW2 => ?_
                have HV2 := Lib.hid (show VRow W2 g 3 (vs'.set p (.int .i64 f)) by rw [hW2]; exact VRow.set (w := wr.drewN nq) HV.out p _)
                have HF2 := Lib.hid (show Fr (fun k => k = g) w W2 by rw [hW2]; exact (HF.out.drewN _).trans (Fr.setCell (F := fun k => k = g) _ rfl _) (fun _ _ h => h))
                clear hW2 d0 d1 d2 d3
                subst hm
                go_wp2_with fail
                go_roundw
                case rel => exact ⟨p + 1, q + 1, vs'.set p (.int .i64 f), by go_num, by go_num, by omega, by omega, by rw [HSQ2.out, List.length_append, ← HP.out.1]; rfl, HV2.out, by rw [List.length_set]; exact HV6.out, by
                  rw [HSQ2.out, List.map_append, ← HP.out.2, List.take_succ_eq_append_getElem (by rw [List.length_set]; exact HPL.out), List.getElem_set_self, List.take_set_of_le (Nat.le_refl _)]
                  rfl, fun i hi => by rw [List.getElem?_set_ne (by omega)]; exact HV7.out i (by omega), HF2.out⟩
                case measure => simp [intOf]; omega
            · have hq1 : ¬ ((q : Int) + 1) < m := by omega
              have HEND := Lib.hid (show xs.take (k + 1 + q + 1) = xs from List.take_of_length_le (by omega))
              have hpn : p < xs.length := by omega
              have hpi : (p : Int) < xs.length := by omega
              have hp0 : (0 : Int) ≤ p := by omega
              obtain ⟨i0, hi, hz0, hz1, hz2⟩ := info_parts infoInt
              have hcl := run_clear_row (P := Try.prog) wr 46 0 3 Try.underlying46 g p (xs.length - p) (cap - p) (by omega) i0 (.int .i64 0) hi hz0 vs'.toArray 3 HV.out (by simp [Value.cells]; have := HL.out.1; have := HV6.out; omega) (by simp [Value.cells, Value.oneCell'])
              subst hm
              go_wp2_with fail
              go_ret
              refine ⟨_, rfl, ?_, ?_, rfl⟩
              · have hpe : p = (ded xs).length := by rw [HP.out.1, HEND.out]
                have htk := HP.out.2
                rw [HEND.out] at htk
                have hfin := blk_ints (T := 3) (xs := ded xs) (cap := cap) (w := wr.setRow g (splice vs' p (Builtin.zeroCells #[Value.int IntKind.i64 0] (xs.length - p)).toList).toArray) hb (setRow_heap wr g _ _ _ (0, 0) HV.out) (by omega) HL.out.2 (by
                  have := HL.out.1
                  have := HV6.out
                  unfold splice
                  simp [Builtin.zeroCells]
                  omega) (by
                  rw [← hpe]
                  unfold splice
                  rw [List.take_append_of_le_length (by rw [List.length_take]; have := HL.out.1; have := HV6.out; omega), List.take_take, Nat.min_self]
                  exact htk)
                rw [← hpe] at hfin
                exact hfin
              · exact ((HF.out.trans (Fr.setRow (F := fun k => k = g) wr rfl _) (fun _ _ h => h))).mono (fun k _ hk => congrArg some (Eq.symm hk))
        · have hba : ¬ b = a := fun h => hab h.symm
          have HRL := Lib.hid (show ded (xs.take (k + 1 + 1)) = xs.take (k + 1 + 1) by
            rw [HSN.out.1, ded_snoc, if_neg hab, ← HSN.out.2, H2.out, HSN.out.2]; simp)
          go_upto_region 6 with fail
          go_quiet (fail)
          have hbe : (b == a) = false := by simpa using hba
          rw [hbe]
          go_wp2_with fail
          go_roundw
          case rel => exact ⟨k + 1, by go_num, by omega, HRL.out, HGG.out, HFF.out.drewN _⟩
          case measure => simp [intOf]; omega
      · have hi1 : ¬ ((k : Int) + 1) < xs.length := by omega
        have HALL := Lib.hid (show ded xs = xs by have := H2.out; rwa [List.take_of_length_le (show xs.length ≤ k + 1 by omega)] at this)
        go_wp2_with fail
        go_ret
        refine ⟨_, rfl, ?_, HFF.out.mono (fun k _ hk => congrArg some (Eq.symm hk)), rfl⟩
        rw [HALL.out]
        exact blk_ints hb HGG.out hn HL.out.2 HL.out.1 HT.out

theorem mergeSort_pairwise (l : List Int) : (l.mergeSort fun x y => decide (x ≤ y)).Pairwise (· ≤ ·) := by
  have h := List.pairwise_mergeSort (le := fun x y : Int => decide (x ≤ y)) (fun a b c h1 h2 => by simp at *; omega) (fun a b => by simp; omega) l
  exact h.imp (fun h => by simpa using h)

/-- sorted and compacted: the numbers that are in one of two lists, rising -/
theorem ded_sorted_uni {N : Nat} {a b : List Int} (ha : ∀ v ∈ a, 0 ≤ v ∧ v < N) (hb : ∀ v ∈ b, 0 ≤ v ∧ v < N) : ded ((a ++ b).mergeSort fun x y => decide (x ≤ y)) = uniR N a b :=
  rises_ext (ded_rises (mergeSort_pairwise _)) (uniR_rises N a b) fun v => by
    rw [ded_mem, mem_uniR ha hb, (List.mergeSort_perm (a ++ b) _).mem_iff, List.mem_append]
end Go.Proofs.Ytmooflmhbpckjaa
