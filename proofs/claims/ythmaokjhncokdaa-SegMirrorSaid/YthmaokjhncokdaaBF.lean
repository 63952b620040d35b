import Derived.Test.YthmaokjhncokdaaBM
import Derived.Test.YthmaokjhncokdaaB5
import Derived.Test.YthmaokjhncokdaaB6
/-
  Suffix and Whole of the reference (DfaRuns, TablesTell). No condition beyond what each theorem names.
-/
set_option linter.unusedVariables false
set_option linter.unusedSimpArgs false
namespace Go.Proofs.Ythmaokjhncokdaa
open Go.RowKit

/-- of each place: does it fit there? -/
def FitsPost (w : World) (t : List Int) (x : Nd) (wh : Bool) (e : Ending) (w' : World) : Prop :=
  ∃ v out, e = .returned v ∧ Bools w' v out ∧ out.length = t.length + 1 ∧ (∀ q, q ≤ t.length → (tr out q ↔ fitsE x wh (t.take q) = true)) ∧ Below w.heap.size w w'

theorem M_take {t : List Int} {x : Nd} {k q : Nat} (hq : q ≤ t.length) : M (t.take q) x k q ↔ M t x k q := by
  constructor
  · exact M_move id x k q (fun j h1 h2 => ⟨by simp only [id]; rw [List.getElem?_take_of_lt h2], rfl⟩)
  · exact M_move id x k q (fun j h1 h2 => ⟨by simp only [id]; rw [List.getElem?_take_of_lt h2], rfl⟩)
theorem fits_suffix {t : List Int} {x : Nd} {q : Nat} (hq : q ≤ t.length) : fitsE x false (t.take q) = true ↔ ∃ p, p ≤ t.length ∧ M t x p q := by
  have hl : (t.take q).length = q := by rw [List.length_take]; omega
  unfold fitsE
  rw [if_neg (by simp), decide_eq_true_iff, hl]
  constructor
  · rintro ⟨k, hk, h⟩
    rw [fit_drop (by omega), hl, M_take hq] at h
    exact ⟨k, by omega, h⟩
  · rintro ⟨k, -, h⟩
    have := M_le h
    refine ⟨k, this, ?_⟩
    rw [fit_drop (by omega), hl, M_take hq]
    exact h

set_option maxRecDepth 100000 in
set_option maxHeartbeats 16000000 in
theorem whole8 (t : List Int) (hn : t.length ≤ 1000) (x : Nd) (hg : Good x) (w : World) (tv a b c : Value) (ht : Ints w tv t) (hx : NodeIs w x a b c) :
    Calls Try.prog 23 #[.agg #[a, b, c], tv] w (FitsPost w t x true) := by
  have HX := Lib.hid hx
  have HT := Lib.hid ht
  obtain ⟨op, pp, l, c1, q, m, d, rfl, rfl, rfl⟩ := hx.form
  obtain ⟨pt, capt, rfl, hct, -⟩ := ht.get
  have hmk := fun w => make_bools 55 Try.underlying55 w ((t.length : Int) + 1) (t.length + 1) (by omega) (by omega)
  clear hx ht
  go_enter Try.func23, Try.ntmps23
  go_upto_region 2 with fail
  refine abs_wp fun W hW => ?_
  obtain ⟨a0, a1, a2⟩ := alloc2' w _ _ W hW
  obtain ⟨B, hB⟩ : ∃ B, B = w.heap.size := ⟨_, rfl⟩
  have HBX := Lib.hid (show W.heap[B]? = some (.cells #[.int .i64 op, .slice pp l c1, .slice q m d] 52) by rw [hB]; exact a1)
  have hrow : BRow W (B + 1) (List.replicate (t.length + 1) false) := by unfold BRow; rw [hB, a2]; simp
  have HBW := Lib.hid a0
  rw [← hB]
  have HBE := Lib.hid hB
  have c0 := hrow.cell (i := 0) (by simp)
  have f0 := hrow.frozen 0
  have HROW := Lib.hid (hrow.set 0 true)
  have HFR := Lib.hid (Fr.setCell (F := fun q => q = B + 1) W (p := ⟨B + 1, 0, none⟩) rfl (.bool true))
  clear hW hB a0 a1 a2 hmk hrow
  go_upto_region 3 with fail
  refine abs_wp fun W2 hW2 => ?_
  rw [← hW2] at HROW HFR
  have HBW2 := Lib.hid (show Below w.heap.size w W2 from HBW.out.trans (HFR.out.below HBW.out.size (fun q hq => by have hq : q = B + 1 := hq; have := HBE.out; omega)))
  have HBX2 := Lib.hid ((HFR.out.block B (at_lt HBX.out) (by omega)).trans HBX.out)
  obtain ⟨x0, x1, x2⟩ := cells3 HBX2.out
  have HE := Lib.hid (ends_any t hn x hg W2 (.slice pt t.length capt) (.slice (some ⟨B + 1, 0, none⟩) (t.length + 1) (t.length + 1)) _ _ _ _ (by simp) (HT.out.to HBW2.out (Nat.le_refl _)) (HROW.out.read (by simp)) (HX.out.to HBW2.out (Nat.le_refl _)))
  clear hW2 c0 f0
  go_wp2_with fail
  refine HE.out.mono ?_
  rintro e w3 ⟨v, out, rfl, hb, himg, hb3⟩
  have HREL := Lib.hid (show Bools w3 v out ∧ out.length = t.length + 1 ∧ (∀ q, q ≤ t.length → (tr out q ↔ fitsE x true (t.take q) = true)) ∧ Below w.heap.size w w3 from by
    refine ⟨hb, himg.1.trans (by simp), fun q hq => ?_, HBW2.out.trans (hb3.mono HBW2.out.size)⟩
    have e1 : fitsE x true (t.take q) = fitB x (t.take q) := by unfold fitsE; rw [if_pos rfl]
    rw [e1, fit_take hq]
    refine (himg.2 q).trans ⟨fun ⟨p, h1, h2⟩ => ?_, fun h => ⟨0, (tr_setB (by simp)).2 (.inl ⟨rfl, rfl⟩), h⟩⟩
    rcases (tr_setB (by simp)).1 h1 with ⟨rfl, -⟩ | ⟨-, h1⟩
    · exact h2
    · exact absurd h1 (no_places _ _))
  clear hb himg hb3
  go_wp2_with fail
  go_ret
  exact ⟨v, out, rfl, HREL.out⟩

set_option maxRecDepth 100000 in
set_option maxHeartbeats 16000000 in
theorem suffix8 (t : List Int) (hn : t.length ≤ 1000) (x : Nd) (hg : Good x) (w : World) (tv a b c : Value) (ht : Ints w tv t) (hx : NodeIs w x a b c) :
    Calls Try.prog 22 #[.agg #[a, b, c], tv] w (FitsPost w t x false) := by
  have HX := Lib.hid hx
  have HT := Lib.hid ht
  obtain ⟨op, pp, l, c1, q, m, d, rfl, rfl, rfl⟩ := hx.form
  obtain ⟨pt, capt, rfl, hct, -⟩ := ht.get
  obtain ⟨n, hne⟩ : ∃ n, n = t.length := ⟨_, rfl⟩
  have hmk := fun w => make_bools 55 Try.underlying55 w ((n : Int) + 1) (n + 1) (by omega) (by omega)
  have HN := Lib.hid hne
  rw [← hne] at hn hct ⊢
  clear hx ht hne
  go_enter Try.func22, Try.ntmps22
  go_upto_region 2 with fail
  refine abs_wp fun W hW => ?_
  obtain ⟨a0, a1, a2⟩ := alloc2' w _ _ W hW
  obtain ⟨B, hB⟩ : ∃ B, B = w.heap.size := ⟨_, rfl⟩
  have HBX := Lib.hid (show W.heap[B]? = some (.cells #[.int .i64 op, .slice pp l c1, .slice q m d] 52) by rw [hB]; exact a1)
  have hrow : BRow W (B + 1) (List.replicate (n + 1) false) := by unfold BRow; rw [hB, a2]; simp
  have HBW := Lib.hid a0
  rw [← hB]
  have HBE := Lib.hid hB
  have HROW := Lib.hid hrow
  clear hW hB a0 a1 a2 hmk hrow
  go_wp2_with fail
  go_loopw [6] (fun i wz => ∃ k : Nat, i = .int .i64 k ∧ k ≤ n + 1 ∧ (∃ bs : List Bool, bs.length = n + 1 ∧ (∀ j, j < k → tr bs j) ∧ BRow wz (B + 1) bs) ∧ wz.heap[B]? = some (.cells #[.int .i64 op, .slice pp l c1, .slice q m d] 52) ∧ Below w.heap.size w wz) (fun i _ => n + 1 - (intOf i).toNat)
  case atStart => exact ⟨0, rfl, by omega, ⟨_, by simp, fun j h => by omega, HROW.out⟩, HBX.out, HBW.out⟩
  case round =>
    obtain ⟨k, rfl, hk, ⟨bs, hbl, hbt, hbr⟩, hbx, hb⟩ := hrel
    have HBT := Lib.hid hbt
    have HBL := Lib.hid hbl
    have HBXR := Lib.hid hbx
    have HBR := Lib.hid hb
    by_cases hkn : k < n + 1
    · have hki : (k : Int) < (n : Int) + 1 := by omega
      have hk0 : (0 : Int) ≤ k := by omega
      obtain ⟨v0, c0⟩ : ∃ v0, wr.cell? ⟨B + 1, k, none⟩ = some (.bool v0) := ⟨_, hbr.cell (i := k) (by omega)⟩
      have f0 := hbr.frozen k
      have HSET := Lib.hid (hbr.set k true)
      have HFR := Lib.hid (Fr.setCell (F := fun q => q = B + 1) wr (p := ⟨B + 1, k, none⟩) rfl (.bool true))
      clear hbt hbl hbx hb hbr
      go_wp2_with fail
      go_roundw
      case rel => exact ⟨k + 1, by go_num, by omega, ⟨bs.set k true, by rw [List.length_set]; exact HBL.out, fun j hj => by
        rw [tr_setB (by rw [HBL.out]; exact hkn)]
        by_cases e : j = k
        · exact .inl ⟨e, rfl⟩
        · exact .inr ⟨e, HBT.out j (by omega)⟩, HSET.out⟩, (HFR.out.block B (at_lt HBXR.out) (by omega)).trans HBXR.out, HBR.out.trans (HFR.out.below HBR.out.size (fun q hq => by have hq : q = B + 1 := hq; have := HBE.out; omega))⟩
      case measure => simp [intOf]; omega
    · have hki : ¬ (k : Int) < (n : Int) + 1 := by omega
      obtain ⟨x0, x1, x2⟩ := cells3 HBXR.out
      have HE := Lib.hid (ends_any t (by rw [← HN.out]; exact hn) x hg wr (.slice pt n capt) (.slice (some ⟨B + 1, 0, none⟩) (n + 1) (n + 1)) _ _ _ bs (by rw [hbl, HN.out]) (HN.out ▸ HT.out.to hb (Nat.le_refl _)) (hbr.read hbl) (HX.out.to hb (Nat.le_refl _)))
      clear hbt hbl hbx hb hbr
      go_wp2_with fail
      refine HE.out.mono ?_
      rintro e w3 ⟨v, out, rfl, hb, himg, hb3⟩
      have HREL := Lib.hid (show Bools w3 v out ∧ out.length = t.length + 1 ∧ (∀ q, q ≤ t.length → (tr out q ↔ fitsE x false (t.take q) = true)) ∧ Below w.heap.size w w3 from by
        refine ⟨hb, himg.1.trans (by rw [HBL.out, HN.out]), fun q hq => ?_, HBR.out.trans (hb3.mono HBR.out.size)⟩
        rw [fits_suffix hq]
        refine (himg.2 q).trans ⟨fun ⟨p, h1, h2⟩ => ⟨p, ?_, h2⟩, fun ⟨p, h1, h2⟩ => ⟨p, HBT.out p (by rw [← HN.out] at h1; omega), h2⟩⟩
        have := tr_lt h1
        rw [HBL.out, HN.out] at this
        omega)
      clear hb himg hb3
      go_wp2_with fail
      go_ret
      exact ⟨v, out, rfl, HREL.out⟩
end Go.Proofs.Ythmaokjhncokdaa

