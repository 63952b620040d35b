/-
  Fits, Which, Boundaries of package reading. No condition beyond what each theorem names.
-/
import Derived.Test.YtphgjppeindbaaaH
set_option linter.unusedVariables false
set_option linter.unusedSimpArgs false
namespace Go.Proofs.Ytphgjppeindbaaa
open Go.RowKit

theorem Says.mk {b c : Bool} {w w' : World} (h : b = c) (hb : Below w.heap.size w w') : Says c w (.returned (.bool b)) w' := ⟨by rw [h], hb⟩

theorem any_tr {bs : List Bool} : bs.any (fun x => true == x) = true ↔ ∃ q, tr bs q := by
  rw [List.any_eq_true]
  constructor
  · rintro ⟨x, h1, h2⟩
    obtain ⟨i, hi, rfl⟩ := List.getElem_of_mem h1
    have : bs[i] = true := by simpa using h2
    exact ⟨i, by simp [tr, hi, this]⟩
  · rintro ⟨q, h⟩
    exact ⟨true, List.mem_of_getElem? h, rfl⟩

theorem any_tr1 {bs : List Bool} : (bs.take 1).any (fun x => true == x) = true ↔ tr bs 0 := by
  cases bs <;> simp [tr]

theorem fits_no {r : Rl} {t : List Int} {p : Int} (h : p < 0 ∨ (t.length : Int) < p) : fitsB r t p = false := by
  refine fitsB_false ?_
  omega

theorem fits_is {r : Rl} {t : List Int} {p : Nat} (hp : p ≤ t.length) {l : Bool} {outr : List Bool} (hlen : outr.length = t.length + 1) (hl : l = true ↔ ∃ a, M t r.left a p ∧ (r.start = true → a = 0)) (hr : ∀ q, tr outr q ↔ Rel false (M t r.right) p q) :
    fitsB r t p = (l && outr.any (fun x => true == x)) := by
  rw [Bool.eq_iff_iff, fitsB_iff, Bool.and_eq_true, hl, any_tr]
  constructor
  · rintro ⟨-, -, h1, b, h2, h3⟩
    exact ⟨h1, b, (hr b).2 h3⟩
  · rintro ⟨h1, q, h2⟩
    have := tr_lt h2
    exact ⟨by omega, by omega, h1, q, by omega, (hr q).1 h2⟩

set_option maxHeartbeats 2000000 in
theorem fits_any (w : World) (t : List Int) (r : Rl) (row : List Value) (tv : Value) (p : Int) (hn : t.length ≤ 1000000) (ht : Ints w tv t) (hr : RuleIs w r row) :
    Calls Try.prog 16 #[.agg row.toArray, tv, .int .i64 p] w (Says (fitsB r t p) w) := by
  obtain ⟨a, b, c, d, e, f, rfl, hx, hy⟩ := hr
  obtain ⟨pt, capt, rfl, hct, -⟩ := ht.get
  have HT := Lib.hid ht
  have HX := Lib.hid hx
  have HY := Lib.hid hy
  obtain ⟨brk, hbrk⟩ : ∃ b, b = r.brk := ⟨_, rfl⟩
  obtain ⟨start, hst⟩ : ∃ b, b = r.start := ⟨_, rfl⟩
  rw [← hbrk, ← hst]
  have HST := Lib.hid hst
  clear ht hx hy hbrk hst
  have hbx : Below w.heap.size w (w.alloc (.cells #[a, b, c, d, e, f, .bool brk, .bool start] 35)) := (Below.refl _ _).alloc (Nat.le_refl _) _
  have HBX := Lib.hid hbx
  clear hbx
  by_cases h1 : p < 0
  · have HF := Lib.hid (fits_no (r := r) (t := t) (p := p) (.inl h1))
    go_enter Try.func16, Try.ntmps16
    go_wp2
    go_ret
    exact Says.mk HF.out.symm HBX.out
  by_cases h2 : (t.length : Int) < p
  · have HF := Lib.hid (fits_no (r := r) (t := t) (p := p) (.inr h2))
    go_enter Try.func16, Try.ntmps16
    go_wp2
    go_ret
    exact Says.mk HF.out.symm HBX.out
  obtain ⟨p, rfl⟩ : ∃ m : Nat, p = m := ⟨p.toNat, by omega⟩
  have hp : p ≤ t.length := by omega
  go_enter Try.func16, Try.ntmps16
  go_upto_region 3 with fail
  refine abs_wp fun W hW => ?_
  have hbox : W.heap[w.heap.size]? = some (.cells #[a, b, c, d, e, f, .bool brk, .bool start] 35) := by rw [hW]; exact heap_alloc_new _ _
  have hBW : Below w.heap.size w W := by rw [hW]; exact HBX.out
  have hlt : w.heap.size < W.heap.size := (Array.getElem?_eq_some_iff.1 hbox).1
  obtain ⟨B, hB⟩ : ∃ B, B = w.heap.size := ⟨_, rfl⟩
  rw [← hB] at hbox hlt ⊢
  have HB := Lib.hid hB
  have HBW := Lib.hid hBW
  have HTW := Lib.hid (HT.out.to hBW (Nat.le_refl _))
  have HXW := Lib.hid (HX.out.to hBW (Nat.le_refl _))
  have x0 : W.cell? ⟨B, 0, none⟩ = some a := by simp [World.cell?, hbox]
  have x1 : W.cell? ⟨B, 1, none⟩ = some b := by simp [World.cell?, hbox]
  have x2 : W.cell? ⟨B, 2, none⟩ = some c := by simp [World.cell?, hbox]
  have x3 : W.cell? ⟨B, 3, none⟩ = some d := by simp [World.cell?, hbox]
  have x4 : W.cell? ⟨B, 4, none⟩ = some e := by simp [World.cell?, hbox]
  have x5 : W.cell? ⟨B, 5, none⟩ = some f := by simp [World.cell?, hbox]
  have x7 : W.cell? ⟨B, 7, none⟩ = some (.bool start) := by simp [World.cell?, hbox]
  clear hW hbox hBW hB
  go_wp2_with fail
  refine (ends_any W t true r.left _ a b c p hn hp HTW.out HXW.out).mono ?_
  rintro e1 w1 ⟨v1, out1, rfl, hbo1, hlen1, htr1, hb1⟩
  obtain ⟨p1, c1, rfl, hc1, -⟩ := hbo1.get
  rw [hlen1] at hbo1 hc1 ⊢
  have y3 := cell_below hb1 hlt x3
  have y4 := cell_below hb1 hlt x4
  have y5 := cell_below hb1 hlt x5
  have y7 := cell_below hb1 hlt x7
  have HB1 := Lib.hid (HBW.out.trans (hb1.mono HBW.out.size))
  have hlt1 : B < w1.heap.size := Nat.lt_of_lt_of_le hlt hb1.size
  have HO1 := Lib.hid hbo1
  have HL1 := Lib.hid hlen1
  have HTR1 := Lib.hid htr1
  clear hbo1 hlen1 htr1 hb1 x0 x1 x2 x3 x4 x5 x7
  have i1 : 1 ≤ c1 := by omega
  obtain ⟨s, hs⟩ : ∃ s : List Bool, s = if start then out1.take 1 else out1 := ⟨_, rfl⟩
  have hsl : s.length = if start then 1 else t.length + 1 := by
    rw [hs]; split
    · rw [List.length_take, HL1.out]; omega
    · exact HL1.out
  have hsb : Bools w1 (.slice p1 s.length c1) s := by
    rw [hs]
    split
    · obtain ⟨p', c', he, -, hx⟩ := HO1.out
      injection he with he1 he2 he3
      subst he1 he3
      refine ⟨p1, c1, rfl, by rw [List.length_take]; omega, fun h0 => ?_⟩
      obtain ⟨b, off, hb, hx⟩ := hx (by simp; rw [HL1.out]; omega)
      refine ⟨b, off, hb, fun j u hu => hx j u ?_⟩
      rw [List.map_take, List.getElem?_take] at hu
      split at hu
      · exact hu
      · cases hu
    · rw [HL1.out]; exact HO1.out
  have hsany : s.any (fun x => true == x) = true ↔ ∃ a, M t r.left a p ∧ (r.start = true → a = 0) := by
    rw [hs, ← HST.out]
    cases start
    · simp only [if_false, Bool.false_eq_true, false_implies, and_true]
      rw [any_tr]
      exact exists_congr fun q => HTR1.out q
    · simp only [if_true, true_implies]
      rw [any_tr1, HTR1.out 0]
      exact ⟨fun h => ⟨0, h, rfl⟩, fun ⟨a, h, e⟩ => e ▸ h⟩
  have HCON := Lib.hid (contains_places w1 (.slice p1 s.length c1) s true (by rw [hsl]; split <;> omega) hsb)
  rw [hsl] at HCON
  obtain ⟨l, hl⟩ : ∃ l, l = s.any (fun x => true == x) := ⟨_, rfl⟩
  rw [← hl] at HCON hsany
  have HSA := Lib.hid hsany
  clear hs hsl hsb hl hsany
  have HTW1 := Lib.hid (HT.out.to HB1.out (Nat.le_refl _))
  have HYW1 := Lib.hid (HY.out.to HB1.out (Nat.le_refl _))
  cases start
  all_goals
    simp only [if_true, if_false, Bool.false_eq_true] at HCON
    go_wp2_with fail
    refine HCON.out.mono ?_
    rintro e2 w2 ⟨rfl, rfl⟩
    cases l
    · have HF := Lib.hid (show fitsB r t p = false by
        refine fitsB_false ?_
        rintro ⟨-, -, h, -⟩
        have := HSA.out.2 h
        cases this)
      go_wp2
      go_ret
      exact Says.mk HF.out.symm HB1.out
    · go_wp2_with fail
      refine (ends_any w1 t false r.right _ d e f p hn hp HTW1.out HYW1.out).mono ?_
      rintro e3 w3 ⟨v3, out3, rfl, hbo3, hlen3, htr3, hb3⟩
      have HF := Lib.hid (fits_is hp hlen3 (l := true) (by have := HSA.out; simpa using this) htr3)
      have HB3 := Lib.hid (HB1.out.trans (hb3.mono HB1.out.size))
      have HCON3 := Lib.hid (contains_places w3 v3 out3 true (by omega) hbo3)
      clear hbo3 hlen3 htr3 hb3 y3 y4 y5 y7
      go_wp2_with fail
      refine HCON3.out.mono ?_
      rintro e4 w4 ⟨rfl, rfl⟩
      go_wp2
      go_ret
      exact Says.mk (by rw [HF.out]; simp) HB3.out
end Go.Proofs.Ytphgjppeindbaaa
