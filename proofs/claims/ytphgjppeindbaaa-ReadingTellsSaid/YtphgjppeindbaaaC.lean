/-
  places.add. No condition beyond what each theorem names.
-/
import Derived.Test.YtphgjppeindbaaaB
set_option linter.unusedVariables false
set_option linter.unusedSimpArgs false
namespace Go.Proofs.Ytphgjppeindbaaa
open Go.RowKit

/-- the first k places of both, behind that the first one's -/
def orTo (bs cs : List Bool) (k : Nat) : List Bool := (List.range bs.length).map fun i => if i < k then bs[i]?.getD false || cs[i]?.getD false else bs[i]?.getD false
def moreTo (bs cs : List Bool) (k : Nat) : Bool := (List.range k).any fun i => cs[i]?.getD false && !bs[i]?.getD false
def orL (bs cs : List Bool) : List Bool := orTo bs cs bs.length
def moreL (bs cs : List Bool) : Bool := moreTo bs cs bs.length

theorem orTo_length (bs cs : List Bool) (k : Nat) : (orTo bs cs k).length = bs.length := by simp [orTo]
theorem orTo_zero (bs cs : List Bool) : orTo bs cs 0 = bs := by
  apply List.ext_getElem
  · simp [orTo]
  · intro i h1 h2; simp [orTo, h2]
theorem orTo_get (bs cs : List Bool) {k i : Nat} (h : i < bs.length) (hk : k ≤ i) : (orTo bs cs k)[i]'(by rw [orTo_length]; exact h) = bs[i] := by
  simp [orTo, h, show ¬ i < k by omega]
theorem orTo_succ (bs cs : List Bool) {k : Nat} (h : k < bs.length) (hc : k < cs.length) {u : Bool} (hu : u = (bs[k] || cs[k])) : (orTo bs cs k).set k u = orTo bs cs (k + 1) := by
  subst hu
  apply List.ext_getElem
  · simp [orTo]
  · intro i h1 h2
    rw [List.getElem_set]
    by_cases e : k = i
    · subst e; simp [orTo, h, hc]
    · rw [if_neg e]
      have h3 : i < bs.length := by simpa [orTo] using h2
      by_cases h4 : i < k
      · simp [orTo, h4, show i < k + 1 by omega]
      · simp [orTo, h4, show ¬ i < k + 1 by omega]
theorem moreTo_succ (bs cs : List Bool) {k : Nat} (h : k < bs.length) (hc : k < cs.length) {u : Bool} (hu : u = (moreTo bs cs k || (cs[k] && !bs[k]))) : moreTo bs cs (k + 1) = u := by
  subst hu
  unfold moreTo
  rw [List.range_succ, List.any_append]
  simp [h, hc]

theorem tr_or {bs cs : List Bool} (hl : cs.length = bs.length) (q : Nat) : tr (orL bs cs) q ↔ tr bs q ∨ tr cs q := by
  by_cases h : q < bs.length
  · have h' : q < cs.length := by omega
    simp [tr, orL, orTo, h, h']
  · have h' : ¬ q < cs.length := by omega
    simp [tr, orL, orTo, h, h']

theorem moreL_false {bs cs : List Bool} (hl : cs.length = bs.length) (h : moreL bs cs = false) (q : Nat) (hq : tr cs q) : tr bs q := by
  have hlt := tr_lt hq
  unfold moreL moreTo at h
  rw [List.any_eq_false] at h
  have := h q (by simp; omega)
  simp [tr] at *
  simp [hq, show q < bs.length by omega] at this
  simpa [show q < bs.length by omega] using this

theorem moreL_true {bs cs : List Bool} (h : moreL bs cs = true) : ∃ q, tr cs q ∧ ¬ tr bs q ∧ q < bs.length := by
  unfold moreL moreTo at h
  rw [List.any_eq_true] at h
  obtain ⟨q, h1, h2⟩ := h
  simp only [List.mem_range] at h1
  refine ⟨q, ?_, ?_, h1⟩
  · cases hc : cs[q]? with
    | none => simp [hc] at h2
    | some b => simp [hc] at h2; simp [tr, hc, h2.1]
  · simp [h1] at h2
    simp [tr, h1, h2.2]

theorem next_block {bs : List Bool} {g : Nat} {w : World} (h : BRow w g bs) : g < w.heap.size := h.lt

set_option maxHeartbeats 1000000 in
theorem add_any (w : World) (g m : Nat) (bs cs : List Bool) (qv : Value) (hm : m = bs.length) (hl : cs.length = bs.length) (hn : bs.length ≤ 1000001) (hb : BRow w g bs) (hq : Bools w qv cs) (hne : qv.ownBlock ≠ some g) :
    Calls Try.prog 40 #[.slice (some ⟨g, 0, none⟩) m m, qv] w fun e w' => e = .returned (.bool (moreL bs cs)) ∧ BRow w' g (orL bs cs) ∧ Fr (fun k => k = g) w w' := by
  obtain ⟨p, cap, rfl, hcap, hx⟩ := hq.get
  have HX := Lib.hid hx
  rw [hl] at hcap ⊢
  rw [← hm] at hn hcap ⊢
  have HL := Lib.hid hl
  have HM := Lib.hid hm
  have HB := Lib.hid hb
  have HNE := Lib.hid hne
  have hgl := hb.lt
  clear hx hq hl hb hm hne
  go_enter Try.func40, Try.ntmps40
  go_wp2_with fail
  go_loopw [5, 10] (fun u i wr => ∃ k : Nat, i = .int .i64 k ∧ k ≤ m ∧ u = .bool (moreTo bs cs k) ∧ BRow wr g (orTo bs cs k) ∧ Fr (fun j => j = g) w wr) (fun _ i _ => m - (intOf i).toNat)
  case atStart => exact ⟨0, rfl, by omega, rfl, by rw [orTo_zero]; exact HB.out, Fr.refl _ _⟩
  case round =>
    obtain ⟨k, rfl, h1, rfl, hrw, hfr⟩ := hrel
    have HR := Lib.hid hrw
    have HFR := Lib.hid hfr
    have hsz : g < wr.heap.size := hrw.lt
    clear hrw hfr
    by_cases hlt : k < m
    · have hkb : k < bs.length := by rw [← HM.out]; exact hlt
      have hkc : k < cs.length := by rw [HL.out]; exact hkb
      obtain ⟨b, off, rfl, hbl, hy⟩ := HX.out (by omega)
      have hbg : b ≠ g := fun e => HNE.out (by simp [Value.ownBlock, e])
      have y1 := HFR.out.cell (p := ⟨b, off + k, none⟩) (by simpa using hbg) (hy k hkc)
      have z1 := HR.out.cell (i := k) (by rw [orTo_length]; exact hkb)
      rw [orTo_get bs cs hkb (Nat.le_refl _)] at z1
      have z2 := HR.out.frozen k
      have HS := Lib.hid (fun u hu => orTo_succ bs cs hkb hkc (u := u) hu)
      have HMS := Lib.hid (fun u hu => moreTo_succ bs cs hkb hkc (u := u) hu)
      clear hy
      cases hmo : moreTo bs cs k <;> cases hc : cs[k] <;> cases hb : bs[k]
      all_goals
        rw [hc] at y1
        rw [hb] at z1
        have HMO := Lib.hid hmo
        have HCC := Lib.hid hc
        have HBB := Lib.hid hb
        clear hmo hc hb
        go_wp2
        go_roundw
        case rel =>
          refine ⟨k + 1, by go_num, by omega, ?_, ?_, HFR.out.trans (Fr.setCell (F := fun j => j = g) _ rfl _) (fun _ _ h => h)⟩
          · exact congrArg Value.bool (HMS.out _ (by rw [HMO.out, HCC.out, HBB.out]; rfl)).symm
          · rw [← HS.out _ (show _ = _ by rw [HCC.out, HBB.out]; first | done | rfl)]
            exact HR.out.set k _
        case measure => simp [intOf]; omega
    · have hkm : k = m := by omega
      subst hkm
      go_wp2
      go_ret
      exact ⟨ret_val (by unfold moreL; rw [← HM.out]; rfl), by unfold orL; rw [← HM.out]; exact HR.out, HFR.out⟩
end Go.Proofs.Ytphgjppeindbaaa
