/-
  has, or, many of the reference. No condition beyond what each theorem names.
-/
import Derived.Test.YtodkeiadaodehaaNX
set_option linter.unusedVariables false
set_option linter.unusedSimpArgs false
namespace Go.Proofs.Ytodkeiadaodehaa
open Go.RowKit

theorem img_iff {r s : Nat → Nat → Prop} {bs out : List Bool} (h : img r bs out) (hr : ∀ p q, r p q ↔ s p q) : img s bs out :=
  ⟨h.1, fun q => (h.2 q).trans ⟨fun ⟨p, h1, h2⟩ => ⟨p, h1, (hr p q).1 h2⟩, fun ⟨p, h1, h2⟩ => ⟨p, h1, (hr p q).2 h2⟩⟩⟩

theorem img_comp {r s : Nat → Nat → Prop} {bs cur out : List Bool} (h : img r bs cur) (g : img s cur out) : img (fun p q => ∃ m, r p m ∧ s m q) bs out := by
  refine ⟨g.1.trans h.1, fun q => (g.2 q).trans ⟨fun ⟨m, h1, h2⟩ => ?_, fun ⟨p, h1, m, h2, h3⟩ => ⟨m, (h.2 m).2 ⟨p, h1, h2⟩, h3⟩⟩⟩
  obtain ⟨p, h3, h4⟩ := (h.2 m).1 h1
  exact ⟨p, h3, m, h4, h2⟩

theorem img_id (bs : List Bool) : img (fun p q => p = q) bs bs := ⟨rfl, fun q => ⟨fun h => ⟨q, h, rfl⟩, fun ⟨p, h1, h2⟩ => h2 ▸ h1⟩⟩

theorem img_no {r : Nat → Nat → Prop} {bs : List Bool} {n : Nat} (hl : bs.length = n) (h : ∀ p q, ¬ r p q) : img r bs (List.replicate n false) :=
  ⟨by simp [hl], fun q => ⟨fun h1 => absurd h1 (no_places n q), fun ⟨p, _, h2⟩ => absurd h2 (h p q)⟩⟩

theorem img_or {r s : Nat → Nat → Prop} {bs c1 c2 out : List Bool} (h : img r bs c1) (g : img s bs c2) (hl : out.length = c1.length) (ho : ∀ q, tr out q ↔ tr c1 q ∨ tr c2 q) : img (fun p q => r p q ∨ s p q) bs out := by
  refine ⟨hl.trans h.1, fun q => (ho q).trans ?_⟩
  rw [h.2, g.2]
  constructor
  · rintro (⟨p, h1, h2⟩ | ⟨p, h1, h2⟩)
    · exact ⟨p, h1, .inl h2⟩
    · exact ⟨p, h1, .inr h2⟩
  · rintro ⟨p, h1, h2 | h2⟩
    · exact .inl ⟨p, h1, h2⟩
    · exact .inr ⟨p, h1, h2⟩

theorem tr_setB {bs : List Bool} {n k : Nat} {b : Bool} (hn : n < bs.length) : tr (bs.set n b) k ↔ (k = n ∧ b = true) ∨ (k ≠ n ∧ tr bs k) := by
  unfold tr
  rw [List.getElem?_set]
  by_cases e : n = k
  · subst e; simp [hn]
  · rw [if_neg e]; simp [Ne.symm e]

theorem tr_get {bs : List Bool} {k : Nat} (hk : k < bs.length) : tr bs k ↔ bs[k] = true := by
  unfold tr; rw [List.getElem?_eq_getElem hk]; simp

theorem tr_ext {bs cs : List Bool} (hl : bs.length = cs.length) (h : ∀ q, tr bs q ↔ tr cs q) : bs = cs := by
  refine List.ext_getElem hl fun i h1 h2 => ?_
  have := h i
  rw [tr_get h1, tr_get h2] at this
  exact Bool.eq_iff_iff.2 this

theorem BRow.made {w W : World} {n : Nat} (hW : W = w.alloc (.cells (Array.replicate n (Value.bool false)) 4)) : BRow W w.heap.size (List.replicate n false) := by
  unfold BRow
  rw [hW, heap_alloc_new]
  simp

theorem has_any (w : World) (v : Value) (cls : List Int) (c : Int) (hn : cls.length ≤ 1000000000000000000) (hv : Ints w v cls) :
    Calls Try.prog 38 #[v, .int .i64 c] w fun e w' => e = .returned (.bool (decide (c ∈ cls))) ∧ w = w' := by
  obtain ⟨p, cap, rfl, hcap, hx⟩ := hv.get
  have HX := Lib.hid hx
  have HNO := Lib.hid (fun (k : Nat) (h : ∀ j (hj : j < cls.length), j < k → cls[j] ≠ c) (hk : cls.length ≤ k) => show c ∉ cls from fun hm => by
    obtain ⟨j, hj, rfl⟩ := List.getElem_of_mem hm
    exact h j hj (by omega) rfl)
  clear hv hx
  go_enter Try.func38, Try.ntmps38
  go_wp2_with fail
  go_loop [5] (fun i => ∃ k : Nat, i = .int .i64 k ∧ k ≤ cls.length ∧ (∀ j (hj : j < cls.length), j < k → cls[j] ≠ c)) (fun i => cls.length - (intOf i).toNat)
  case atStart => exact ⟨0, rfl, by omega, fun _ _ h => absurd h (Nat.not_lt_zero _)⟩
  case round =>
    obtain ⟨k, rfl, h1, hno⟩ := hrel
    have HN := Lib.hid hno
    by_cases hk : k < cls.length
    · obtain ⟨b, off, rfl, hbl, hy⟩ := HX.out (by omega)
      have y0 := hy k hk
      have HM := Lib.hid (List.getElem_mem hk)
      by_cases hc : cls[k] = c
      · have hc' : (cls[k] == c) = true := by simp [hc]
        have HC := Lib.hid (show c ∈ cls by rw [← hc]; exact HM.out)
        clear hc hno hy
        go_wp2_with fail
        go_ret
        exact ⟨ret_val (by rw [decide_eq_true HC.out]; rfl), rfl⟩
      · have hc' : (cls[k] == c) = false := by simp [hc]
        have HC := Lib.hid hc
        clear hc hno hy
        go_wp2_with fail
        go_round
        case rel => exact ⟨k + 1, by go_num, by omega, fun j hj hjk => by
          by_cases hjk2 : j = k
          · subst hjk2; exact HC.out
          · exact HN.out j hj (by omega)⟩
        case measure => simp [intOf]; omega
    · clear hno
      go_wp2_with fail
      go_ret
      exact ⟨ret_val (by rw [decide_eq_false (HNO.out k HN.out (by omega))]; rfl), rfl⟩

theorem many_any (w : World) (v : Value) (xs : List Bool) (hn : xs.length ≤ 1000000) (hv : Bools w v xs) :
    Calls Try.prog 40 #[v] w fun e w' => e = .returned (.int .i64 (xs.count true : Nat)) ∧ w = w' := by
  obtain ⟨p, cap, rfl, hcap, hx⟩ := hv.get
  have HX := Lib.hid hx
  clear hv hx
  go_enter Try.func40, Try.ntmps40
  go_wp2_with fail
  go_loop [3, 4] (fun n i => ∃ k m : Nat, i = .int .i64 k ∧ k ≤ xs.length ∧ n = .int .i64 m ∧ m = (xs.take k).count true ∧ m ≤ k) (fun _ i => xs.length - (intOf i).toNat)
  case atStart => exact ⟨0, 0, rfl, by omega, rfl, by simp, by omega⟩
  case round =>
    obtain ⟨k, m, rfl, h1, rfl, hm, hmk⟩ := hrel
    have HM := Lib.hid hm
    clear hm
    by_cases hk : k < xs.length
    · obtain ⟨b, off, rfl, hbl, hy⟩ := HX.out (by omega)
      have y0 := hy k hk
      have HSN := Lib.hid (show (xs.take (k + 1)).count true = (xs.take k).count true + (if xs[k] = true then 1 else 0) by
        rw [List.take_succ_eq_append_getElem hk, List.count_append]
        cases xs[k] <;> simp)
      clear hy
      cases hb : xs[k]
      · rw [hb] at y0 HSN
        clear hb
        go_wp2_with fail
        go_round
        case rel => exact ⟨k + 1, m, by go_num, by omega, rfl, by rw [HSN.out, HM.out]; simp, by omega⟩
        case measure => simp [intOf]; omega
      · rw [hb] at y0 HSN
        clear hb
        go_wp2_with fail
        go_round
        case rel => exact ⟨k + 1, m + 1, by go_num, by omega, by go_num, by rw [HSN.out, HM.out]; simp, by omega⟩
        case measure => simp [intOf]; omega
    · have HE := Lib.hid (show xs.take k = xs from List.take_of_length_le (by omega))
      go_wp2_with fail
      go_ret
      exact ⟨ret_int (by rw [HM.out, HE.out]), rfl⟩

def OrPost (w : World) (xs ys : List Bool) (e : Ending) (w' : World) : Prop :=
  ∃ g cs, e = .returned (.slice (some ⟨g, 0, none⟩) xs.length xs.length) ∧ BRow w' g cs ∧ w.heap.size ≤ g ∧ cs.length = xs.length ∧ (∀ q, tr cs q ↔ tr xs q ∨ tr ys q) ∧ Below w.heap.size w w'

set_option maxRecDepth 100000 in
set_option maxHeartbeats 8000000 in
theorem or_any (w : World) (u v : Value) (xs ys : List Bool) (hl : ys.length = xs.length) (hn : xs.length ≤ 1000000) (hu : Bools w u xs) (hv : Bools w v ys) :
    Calls Try.prog 39 #[u, v] w (OrPost w xs ys) := by
  obtain ⟨pu, cu, rfl, hcu, hxu⟩ := hu.get
  obtain ⟨pv, cv, rfl, hcv, hxv⟩ := hv.get
  rw [hl]
  have HXU := Lib.hid hxu
  have HXV := Lib.hid hxv
  have HL := Lib.hid hl
  have hmk := fun w => make_bools 33 Try.underlying33 w (xs.length : Int) xs.length rfl (by omega)
  clear hu hv hxu hxv hl hcv
  go_enter Try.func39, Try.ntmps39
  go_upto_region 2 with fail
  refine abs_wp fun W hW => ?_
  have HR0 := Lib.hid (BRow.made hW)
  have HBW := Lib.hid (show Below w.heap.size w W by rw [hW]; exact below_alloc1 _ _)
  obtain ⟨g, hg⟩ : ∃ g, g = w.heap.size := ⟨_, rfl⟩
  rw [← hg] at HR0 ⊢
  have HG := Lib.hid hg
  clear hW hmk hg
  go_wp2_with fail
  go_loopw [6] (fun i wr => ∃ (k : Nat) (cs : List Bool), i = .int .i64 k ∧ k ≤ xs.length ∧ BRow wr g cs ∧ cs.length = xs.length ∧ (∀ q, tr cs q ↔ q < k ∧ (tr xs q ∨ tr ys q)) ∧ Below w.heap.size w wr) (fun i _ => xs.length - (intOf i).toNat)
  case atStart => exact ⟨0, _, rfl, by omega, HR0.out, by simp, fun q => ⟨fun h => absurd h (no_places _ q), fun h => absurd h.1 (by omega)⟩, HBW.out⟩
  case round =>
    obtain ⟨k, cs, rfl, h1, hr, hcl, htr, hb⟩ := hrel
    have HR := Lib.hid hr
    have HCL := Lib.hid hcl
    have HTR := Lib.hid htr
    have HB := Lib.hid hb
    by_cases hk : k < xs.length
    · obtain ⟨bu, ou, rfl, hbu, hyu⟩ := HXU.out (by omega)
      obtain ⟨bv, ov, rfl, hbv, hyv⟩ := HXV.out (by have := HL.out; omega)
      have y0 := cell_below hb hbu (hyu k hk)
      have z0 := cell_below hb hbv (hyv k (by have := HL.out; omega))
      have c0 := hr.cell (show k < cs.length by omega)
      have f0 := hr.frozen k
      have hkk : (k : Int) < xs.length := by omega
      have hk0 : (0 : Int) ≤ k := by omega
      have HSET := Lib.hid (show ∀ b : Bool, b = (xs[k] || ys[k]'(by have := HL.out; omega)) → BRow (wr.setCell ⟨g, k, none⟩ (.bool b)) g (cs.set k b) ∧ (∀ q, tr (cs.set k b) q ↔ q < k + 1 ∧ (tr xs q ∨ tr ys q)) ∧ Below w.heap.size w (wr.setCell ⟨g, k, none⟩ (.bool b)) from fun b hbe => by
        refine ⟨HR.out.set k b, fun q => ?_, HB.out.trans ((Fr.setCell (F := fun q => q = g) wr rfl _).below HB.out.size (fun q hq => by have hq : q = g := hq; have := HG.out; omega))⟩
        rw [tr_setB (by omega), HTR.out]
        constructor
        · rintro (⟨rfl, h⟩ | ⟨h2, h3, h4⟩)
          · refine ⟨by omega, ?_⟩
            rw [tr_get hk, tr_get (by have := HL.out; omega)]
            rw [hbe, Bool.or_eq_true] at h
            exact h
          · exact ⟨by omega, h4⟩
        · rintro ⟨h2, h3⟩
          by_cases hq : q = k
          · subst hq
            rw [tr_get hk, tr_get (by have := HL.out; omega), ← Bool.or_eq_true, ← hbe] at h3
            exact .inl ⟨rfl, h3⟩
          · exact .inr ⟨hq, by omega, h3⟩)
      generalize xs[k] = bx at *
      generalize ys[k]'(by have := HL.out; omega) = by_ at *
      generalize cs[k]'(by have := HCL.out; omega) = ck at c0
      clear hr hcl htr hb hyu hyv
      cases bx
      · go_wp2_with fail
        go_roundw
        case rel => exact ⟨k + 1, cs.set k by_, by go_num, by omega, (HSET.out by_ (by simp)).1, by rw [List.length_set]; exact HCL.out, (HSET.out by_ (by simp)).2.1, (HSET.out by_ (by simp)).2.2⟩
        case measure => simp [intOf]; omega
      · go_wp2_with fail
        go_roundw
        case rel => exact ⟨k + 1, cs.set k true, by go_num, by omega, (HSET.out true (by simp)).1, by rw [List.length_set]; exact HCL.out, (HSET.out true (by simp)).2.1, (HSET.out true (by simp)).2.2⟩
        case measure => simp [intOf]; omega
    · clear hr hcl htr hb
      have hkk : ¬ (k : Int) < xs.length := by omega
      go_wp2_with fail
      go_ret
      refine ⟨g, cs, rfl, HR.out, by rw [HG.out]; exact Nat.le_refl _, HCL.out, fun q => (HTR.out q).trans ⟨fun h => h.2, fun h => ⟨?_, h⟩⟩, HB.out⟩
      have := HL.out
      rcases h with h | h
      · have := tr_lt h; omega
      · have := tr_lt h; omega
end Go.Proofs.Ytodkeiadaodehaa
