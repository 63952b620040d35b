/-
  Hold.find tells where an operation stands, and whether it does. No condition beyond what each theorem names.
-/
import Derived.Test.YtpkdhmljbpbcfaaT4
set_option linter.unusedVariables false
set_option linter.unusedSimpArgs false
namespace Go.Proofs.Ytpkdhmljbpbcfaa
open Go.RowKit

theorem Rd.len {w : World} {v : Value} {xs : List OpV} (h : Rd w v xs) : ∃ ad cap, v = .slice ad xs.length cap := by
  obtain ⟨ad, cap, rfl, -⟩ := h
  exact ⟨ad, cap, rfl⟩


theorem three_boxes (w : World) (a b c : Value) (ta tb tc : TypeId) :
    (((w.alloc (.cells #[a] ta)).alloc (.cells #[b] tb)).alloc (.cells #[c] tc)).cell? ⟨w.heap.size, 0, none⟩ = some a ∧
    (((w.alloc (.cells #[a] ta)).alloc (.cells #[b] tb)).alloc (.cells #[c] tc)).cell? ⟨w.heap.size + 1, 0, none⟩ = some b ∧
    (((w.alloc (.cells #[a] ta)).alloc (.cells #[b] tb)).alloc (.cells #[c] tc)).cell? ⟨w.heap.size + 1 + 1, 0, none⟩ = some c ∧
    (((w.alloc (.cells #[a] ta)).alloc (.cells #[b] tb)).alloc (.cells #[c] tc)).heap.size = w.heap.size + 3 ∧
    Below w.heap.size w (((w.alloc (.cells #[a] ta)).alloc (.cells #[b] tb)).alloc (.cells #[c] tc)) := by
  refine ⟨?_, ?_, ?_, by simp, (((Below.refl _ _).alloc (Nat.le_refl _) _).alloc (by simp) _).alloc (by simp; omega) _⟩
  · rw [World.cell?_alloc_lt _ _ _ (by simp; omega), World.cell?_alloc_lt _ _ _ (by simp)]; simp
  · rw [World.cell?_alloc_lt _ _ _ (by simp)]
    have := World.cell?_alloc_new (w.alloc (.cells #[a] ta)) #[b] tb 0
    simp at this ⊢
  · have := World.cell?_alloc_new ((w.alloc (.cells #[a] ta)).alloc (.cells #[b] tb)) #[c] tc 0
    simpa using this


set_option maxHeartbeats 1000000 in
theorem find_any (w : World) (bh : Nat) (room : Value) (v : Value) (xs : List OpV) (author seq : Int) (hn : xs.length ≤ 1000000)
    (h0 : w.heap[bh]? = some (.cells #[room, v] 55 (0, 0))) (hv : Rd w v xs) (hs : Sorted xs) :
    Calls Try.prog 33 #[.pointer (some ⟨bh, 0, none⟩), .int .i64 author, .int .i64 seq] w fun e w' =>
      e = .returned (.tuple #[.int .i64 (pos author seq xs), .bool (xs.any (sameId author seq))]) ∧ Below w.heap.size w w' := by
  have hbh : bh < w.heap.size := (Array.getElem?_eq_some_iff.1 h0).1
  have c1 : w.cell? ⟨bh, 1, none⟩ = some v := by simp [World.cell?, h0]
  have HV := Lib.hid hv
  obtain ⟨ad, cap, hvv⟩ := hv.len
  subst hvv
  clear hv h0
  have HS := Lib.hid hs
  clear hs
  have hmax : xs.length ≤ 9223372036854775807 := by omega
  have hbh1 : bh < w.heap.size + 1 := by omega
  have hbh2 : bh < w.heap.size + 1 + 1 := by omega
  have hpl := pos_le author seq xs
  go_enter Try.func33, Try.ntmps33
  go_wp2_with fail
  obtain ⟨d0, d1, d2, d3, d4⟩ := three_boxes w (.pointer (some ⟨bh, 0, none⟩)) (.int .i64 author) (.int .i64 seq) 24 3 3
  refine abs_world fun W hW => ?_
  rw [← hW] at d0 d1 d2 d3 d4
  clear hW
  have hc1 : W.cell? ⟨bh, 1, none⟩ = some (.slice ad xs.length cap) := by rw [d4.cell hbh]; exact c1
  have HC := Lib.hid hc1
  have D0 := Lib.hid d0
  have D1 := Lib.hid d1
  have D2 := Lib.hid d2
  clear hc1 d0 d1 d2
  refine (search_any W xs.length (pos author seq xs) 40 _ hn (pos_le _ _ _) enters40 ?_).mono ?_
  · intro i w1 hi hb
    obtain ⟨b, off, had, hx⟩ := (show ∃ b off, ad = some ⟨b, off, none⟩ ∧ ∀ j (h : j < xs.length), opAt w b (off + j * 7) xs[j] from by
      obtain ⟨ad', cap', he, h⟩ := HV.out
      cases he
      exact h (by omega))
    subst had
    have ho := hx i hi
    have hlt := opAt_lt ho
    have ho' := opAt_below hb (B := W.heap.size) (by omega) (opAt_below d4 hlt ho)
    have := find1 w1 i xs.length cap w.heap.size (w.heap.size + 1) (w.heap.size + 1 + 1) bh b off xs[i] author seq hi (by have := hb.size; omega) (by have := hb.size; omega) (by have := hb.size; omega)
      (by rw [hb.cell (by simp; omega)]; exact D0.out) (by rw [hb.cell (by simp; omega)]; exact D1.out) (by rw [hb.cell (by simp; omega)]; exact D2.out)
      (by rw [hb.cell (by simp; omega)]; exact HC.out) ho'
    rw [pos_fits HS.out hi] at this
    exact this
  · rintro e w1 ⟨rfl, hb⟩
    have e0 : w1.cell? ⟨w.heap.size, 0, none⟩ = some (.pointer (some ⟨bh, 0, none⟩)) := by rw [hb.cell (by simp; omega)]; exact D0.out
    have e1 : w1.cell? ⟨w.heap.size + 1, 0, none⟩ = some (.int .i64 author) := by rw [hb.cell (by simp; omega)]; exact D1.out
    have e2 : w1.cell? ⟨w.heap.size + 1 + 1, 0, none⟩ = some (.int .i64 seq) := by rw [hb.cell (by simp; omega)]; exact D2.out
    have e3 : w1.cell? ⟨bh, 1, none⟩ = some (.slice ad xs.length cap) := by rw [hb.cell (by simp; omega)]; exact HC.out
    have hB : Below w.heap.size w w1 := d4.trans (hb.mono d4.size)
    have HP := Lib.hid (pos_any (author := author) (seq := seq) HS.out)
    by_cases hp : pos author seq xs < xs.length
    · obtain ⟨b, off, had, hx⟩ := (show ∃ b off, ad = some ⟨b, off, none⟩ ∧ ∀ j (h : j < xs.length), opAt w b (off + j * 7) xs[j] from by
        obtain ⟨ad', cap', he, h⟩ := HV.out
        cases he
        exact h (by omega))
      subst had
      have hlt := opAt_lt (hx _ hp)
      obtain ⟨k0, k1, k2, k3, k4, k5, k6⟩ := opAt_below hB hlt (hx _ hp)
      clear hx
      by_cases ha : (xs[pos author seq xs]).author = author
      · by_cases hq : (xs[pos author seq xs]).seq = seq
        · have ha' : ((xs[pos author seq xs]).author == author) = true := by simpa using ha
          have hq' : ((xs[pos author seq xs]).seq == seq) = true := by simpa using hq
          have hfin : xs.any (sameId author seq) = true := by rw [HP.out]; simp [hp, sameId, ha, hq]
          have HF := Lib.hid hfin
          clear hfin ha hq
          go_wp2
          go_quiet (fail)
          go_wp2
          go_ret2
          rw [HF.out]
          exact ⟨rfl, below_drewN hB _⟩
        · have ha' : ((xs[pos author seq xs]).author == author) = true := by simpa using ha
          have hq' : ((xs[pos author seq xs]).seq == seq) = false := by simpa using hq
          have hfin : xs.any (sameId author seq) = false := by rw [HP.out]; simp [hp, sameId, hq]
          have HF := Lib.hid hfin
          clear hfin ha hq
          go_wp2
          go_quiet (fail)
          go_wp2
          go_ret2
          rw [HF.out]
          exact ⟨rfl, below_drewN hB _⟩
      · have ha' : ((xs[pos author seq xs]).author == author) = false := by simpa using ha
        have hfin : xs.any (sameId author seq) = false := by rw [HP.out]; simp [hp, sameId, ha]
        have HF := Lib.hid hfin
        clear hfin ha
        go_wp2
        go_quiet (fail)
        go_wp2
        go_ret2
        rw [HF.out]
        exact ⟨rfl, below_drewN hB _⟩
    · have hp' : decide (pos author seq xs < xs.length) = false := by simpa using hp
      have hfin : xs.any (sameId author seq) = false := by rw [HP.out]; simp [hp]
      have HF := Lib.hid hfin
      clear hfin hp
      go_wp2
      go_quiet (fail)
      go_wp2
      go_ret2
      rw [HF.out]
      exact ⟨rfl, below_drewN hB _⟩
end Go.Proofs.Ytpkdhmljbpbcfaa
