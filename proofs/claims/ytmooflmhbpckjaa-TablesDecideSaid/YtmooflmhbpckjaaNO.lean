/-
  The states behind a row are those to which its paths come; a machine matches just what its expression fits. Plain theorems; no program.
-/
import Derived.Test.YtmooflmhbpckjaaNN
set_option linter.unusedVariables false
set_option linter.unusedSimpArgs false
namespace Go.Proofs.Ytmooflmhbpckjaa

section
variable {S : List Sta} {t : List Int}

theorem Path.le {l i p j q : Nat} (h : Path S t l i p j q) : p ≤ q := by
  induction h with
  | nil => exact Nat.le_refl _
  | cons h1 _ ih =>
    rcases h1 with ⟨-, rfl⟩ | ⟨-, rfl, -⟩
    · exact ih
    · omega

theorem Path.same {l i p j q : Nat} (h : Path S t l i p j q) (e : p = q) : FreeStar S i j := by
  induction h with
  | nil => exact .refl _
  | cons h1 h2 ih =>
    rcases h1 with ⟨h3, rfl⟩ | ⟨-, rfl, -⟩
    · exact Star.head h3 (ih e)
    · have := h2.le; omega

theorem Re.of_free {i j p : Nat} (h : FreeStar S i j) : Re S t i p j p := by
  induction h with
  | refl => exact Re.refl _ _
  | step _ h2 ih => exact ih.trans (Re.free h2)

theorem Path.last {l i p j q : Nat} (h : Path S t l i p j q) : ∀ {k : Nat}, q = k + 1 → p ≤ k → ∃ n, Re S t i p n k ∧ Take S t n k ∧ FreeStar S (n + 1) j := by
  induction h with
  | nil => intro k h1 h2; omega
  | @cons l i p j q k' r h1 h2 ih =>
    intro k hk hp
    rcases h1 with ⟨h3, rfl⟩ | ⟨rfl, rfl, h3⟩
    · obtain ⟨n, g1, g2, g3⟩ := ih hk hp
      exact ⟨n, (Re.free h3).trans g1, g2, g3⟩
    · by_cases hpk : p + 1 ≤ k
      · obtain ⟨n, g1, g2, g3⟩ := ih hk hpk
        exact ⟨n, (Re.one (.inr ⟨rfl, rfl, h3⟩)).trans g1, g2, g3⟩
      · obtain rfl : p = k := by omega
        exact ⟨i, Re.refl _ _, h3, h2.same hk.symm⟩

theorem Re.last {i p j k : Nat} (hp : p ≤ k) : Re S t i p j (k + 1) ↔ ∃ n, Re S t i p n k ∧ Take S t n k ∧ FreeStar S (n + 1) j := by
  constructor
  · rintro ⟨l, h⟩; exact h.last rfl hp
  · rintro ⟨n, h1, h2, h3⟩
    exact h1.trans ((Re.one (.inr ⟨rfl, rfl, h2⟩)).trans (Re.of_free h3))

theorem Re.flat {i j p : Nat} : Re S t i p j p ↔ FreeStar S i j := ⟨fun ⟨l, h⟩ => h.same rfl, Re.of_free⟩

/-- where one comes to, of those that count -/
theorem mem_runL (hS : Laws S) : ∀ (k : Nat), k ≤ t.length → ∀ (v : Int), v ∈ runL S (t.take k) ↔ ∃ n : Nat, v = n ∧ n < S.length ∧ Re S t 0 0 n k ∧ core S n
  | 0, _, v => by
    have e : runL S (t.take 0) = closedL S [0] := by simp [runL]
    rw [e, mem_closedL]
    constructor
    · rintro ⟨n, rfl, h1, ⟨r, h2, h3⟩, h4⟩
      obtain rfl : r = 0 := by simpa using h2
      exact ⟨n, rfl, h1, Re.of_free h3, h4⟩
    · rintro ⟨n, rfl, h1, h3, h4⟩
      exact ⟨n, rfl, h1, ⟨0, by simp, Re.flat.1 h3⟩, h4⟩
  | k + 1, hk, v => by
    rw [List.take_succ_eq_append_getElem (by omega), runL_snoc, mem_closedL]
    have ih := mem_runL hS k (by omega)
    constructor
    · rintro ⟨n, rfl, h1, ⟨r, h2, h3⟩, h4⟩
      refine ⟨n, rfl, h1, (Re.last (Nat.zero_le _)).2 ?_, h4⟩
      unfold stepTo at h2
      simp only [List.mem_map, List.mem_filter] at h2
      obtain ⟨u, ⟨g1, g2⟩, g3⟩ := h2
      obtain ⟨m, rfl, g4, g5, g6⟩ := (ih u).1 g1
      obtain rfl : r = m + 1 := by omega
      refine ⟨m, g5, ⟨t[k], by simp [show k < t.length by omega], ?_⟩, h3⟩
      rw [Int.toNat_natCast] at g2
      simpa using g2
    · rintro ⟨n, rfl, h1, h3, h4⟩
      obtain ⟨m, g1, ⟨c, g2, g3⟩, g4⟩ := (Re.last (Nat.zero_le _)).1 h3
      have hc : t[k] = c := by
        rw [List.getElem?_eq_getElem (by omega)] at g2
        exact Option.some.inj g2
      have htk := hS.fine.takes m (fun e => by rw [e] at g3; simp at g3)
      refine ⟨n, rfl, h1, ⟨m + 1, ?_, g4⟩, h4⟩
      unfold stepTo
      simp only [List.mem_map, List.mem_filter]
      refine ⟨(m : Int), ⟨(ih m).2 ⟨m, rfl, by omega, g1, .inl htk.1⟩, ?_⟩, by omega⟩
      rw [Int.toNat_natCast, hc]
      simpa using g3
end

open Classical in
/-- does an expression fit all of a row? -/
noncomputable def fitB (x : Nd) (row : List Int) : Bool := decide (M row x 0 row.length)
open Classical in
theorem fitB_iff {x : Nd} {row : List Int} : fitB x row = true ↔ M row x 0 row.length := by unfold fitB; exact decide_eq_true_iff

theorem run_accepts {x : Nd} (hx : RightX x) (t : List Int) (k : Nat) (hk : k ≤ t.length) : ((runL (mach x) (t.take k)).any fun u => 1 == u) = true ↔ M t x 0 k := by
  have hg := Wf_good x 1 hx.1
  have hS := mach_laws hx
  have e : ((runL (mach x) (t.take k)).any fun u => 1 == u) = true ↔ (1 : Int) ∈ runL (mach x) (t.take k) := by simp
  rw [e, mem_runL hS k hk, ← mach_iff hg]
  constructor
  · rintro ⟨n, h1, -, h2, -⟩
    obtain rfl : n = 1 := by omega
    exact h2
  · intro h
    exact ⟨1, rfl, by have := hS.pos; omega, h, .inr rfl⟩

/-- Matches tells what the expression fits -/
theorem matches_fit {x : Nd} (hx : RightX x) (row : List Int) : ((runL (mach x) row).any fun u => 1 == u) = fitB x row := by
  rw [Bool.eq_iff_iff, fitB_iff]
  have := run_accepts hx row row.length (Nat.le_refl _)
  rwa [List.take_length] at this
end Go.Proofs.Ytmooflmhbpckjaa
