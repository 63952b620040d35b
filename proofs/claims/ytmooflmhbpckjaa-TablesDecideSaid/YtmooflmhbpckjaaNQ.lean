/-
  The paths through a laid expression are its rows. Plain theorems; no program.
-/
import Derived.Test.YtmooflmhbpckjaaNP
import Derived.Test.YtmooflmhbpckjaaKE
set_option linter.unusedVariables false
set_option linter.unusedSimpArgs false
namespace Go.Proofs.Ytmooflmhbpckjaa

/-- there is a path -/
def Re (S : List Sta) (t : List Int) (i p j q : Nat) : Prop := ∃ l, Path S t l i p j q

theorem Re.refl {S : List Sta} {t : List Int} (i p : Nat) : Re S t i p i p := ⟨0, .nil i p⟩
theorem Re.trans {S : List Sta} {t : List Int} {i p j q k r : Nat} (h : Re S t i p j q) (g : Re S t j q k r) : Re S t i p k r := by
  obtain ⟨l, h⟩ := h
  obtain ⟨m, g⟩ := g
  exact h.trans g
theorem Re.one {S : List Sta} {t : List Int} {i p j q : Nat} (h : Edge S t i p j q) : Re S t i p j q := ⟨1, .cons h (.nil _ _)⟩
theorem Re.free {S : List Sta} {t : List Int} {i p j : Nat} (h : Free S i j) : Re S t i p j p := Re.one (.inl ⟨h, rfl⟩)

theorem edge_plain {S : List Sta} {t : List Int} {i p j q : Nat} (hp : plain (at_ S i)) (h : Edge S t i p j q) : q = p ∧ (j : Int) ∈ (at_ S i).free := by
  rcases h with ⟨h, rfl⟩ | ⟨-, -, c, -, h⟩
  · exact ⟨rfl, h⟩
  · rw [hp.2] at h; simp at h

theorem Lays_end {S : List Sta} {x : Nd} {n : Nat} (h : Lays S x n) : plain (at_ S (n + 1)) := by
  obtain ⟨op, cls, ps⟩ := x
  unfold Lays at h
  exact h.1

mutual
theorem reach_M {S : List Sta} {t : List Int} : ∀ (x : Nd) (n : Nat), Good x → Lays S x n → ∀ p q, M t x p q → Re S t n p (n + 1) q
  | .mk op cls ps, n, hg, hl, p, q, hm => by
    unfold Good at hg
    obtain ⟨hop, -, hone, hps⟩ := hg
    unfold Lays at hl
    obtain ⟨-, hl⟩ := hl
    by_cases h1 : op = 1
    · subst h1
      rw [if_pos rfl] at hl
      rw [M_1] at hm
      obtain ⟨rfl, c, h2, h3⟩ := hm
      exact Re.one (.inr ⟨rfl, rfl, c, h2, by rw [hl]; exact h3⟩)
    rw [if_neg h1] at hl
    obtain ⟨hpl, hl⟩ := hl
    by_cases h0 : op = 0
    · subst h0
      rw [if_pos rfl] at hl
      rw [M_0] at hm
      subst hm
      exact Re.free (by unfold Free; rw [hl]; simp)
    rw [if_neg h0] at hl
    by_cases h2 : op = 2
    · subst h2
      rw [if_pos rfl] at hl
      rw [M_2] at hm
      exact reach_seq ps n (n + 2) (n + 1) hps hl p q hm
    rw [if_neg h2] at hl
    by_cases h3 : op = 3
    · subst h3
      rw [if_pos rfl] at hl
      rw [M_3] at hm
      exact reach_alt ps (n + 2) (n + 1) n hps hl.2 (by rw [hl.1]; exact fun _ h => h) p q hm
    rw [if_neg h3] at hl
    have h45 : op = 4 ∨ op = 5 := by omega
    match ps, hone h45, hps, hl with
    | [x], _, hps, hl =>
      unfold OneL at hl
      unfold GoodL at hps
      obtain ⟨f1, f2, hx⟩ := hl
      have ih : ∀ p q, M t x p q → Re S t (n + 2) p (n + 3) q := fun p q h => reach_M x (n + 2) hps.1 hx p q h
      have e1 : ∀ p, Re S t n p (n + 2) p := fun p => Re.free (by unfold Free; rw [f1]; simp)
      have e2 : ∀ p, Re S t n p (n + 1) p := fun p => Re.free (by unfold Free; rw [f1]; simp)
      have e3 : ∀ p, Re S t (n + 3) p (n + 1) p := fun p => Re.free (by unfold Free; rw [f2]; split <;> simp)
      rcases h45 with rfl | rfl
      · rw [M_4] at hm
        have e4 : ∀ p, Re S t (n + 3) p (n + 2) p := fun p => Re.free (by unfold Free; rw [f2]; simp)
        have key : ∀ {p q}, Star (Malt t [x]) p q → p = q ∨ Re S t (n + 2) p (n + 3) q := by
          intro p q h
          induction h with
          | refl => exact .inl rfl
          | step _ h2 ih2 =>
            rw [Malt_one] at h2
            rcases ih2 with rfl | h3
            · exact .inr (ih _ _ h2)
            · exact .inr (h3.trans ((e4 _).trans (ih _ _ h2)))
        rcases key hm.2 with rfl | h
        · exact e2 _
        · exact (e1 _).trans (h.trans (e3 _))
      · rw [M_5, Malt_one] at hm
        rcases hm.2 with rfl | h
        · exact e2 _
        · exact (e1 _).trans ((ih _ _ h).trans (e3 _))
theorem reach_seq {S : List Sta} {t : List Int} : ∀ (ps : List Nd) (a s e : Nat), GoodL ps → SeqL S ps a s e → ∀ p q, Mseq t ps p q → Re S t a p e q
  | [], a, s, e, _, hl, p, q, hm => by
    unfold SeqL at hl
    simp only [Mseq] at hm
    subst hm
    exact Re.free (by unfold Free; rw [hl]; simp)
  | x :: r, a, s, e, hg, hl, p, q, hm => by
    unfold GoodL at hg
    unfold SeqL at hl
    simp only [Mseq] at hm
    obtain ⟨c, h1, h2⟩ := hm
    have h3 : Re S t a p s p := Re.free (by unfold Free; rw [hl.1]; simp)
    exact h3.trans ((reach_M x s hg.1 hl.2.1 p c h1).trans (reach_seq r (s + 1) _ e hg.2 hl.2.2 c q h2))
theorem reach_alt {S : List Sta} {t : List Int} : ∀ (ps : List Nd) (s e n : Nat), GoodL ps → AltL S ps s e → (∀ v ∈ entries ps s, v ∈ (at_ S n).free) → ∀ p q, Malt t ps p q → Re S t n p e q
  | [], s, e, n, _, hl, _, p, q, hm => by simp only [Malt] at hm
  | x :: r, s, e, n, hg, hl, hf, p, q, hm => by
    unfold GoodL at hg
    unfold AltL at hl
    simp only [entries] at hf
    simp only [Malt] at hm
    rcases hm with h | h
    · have h3 : Re S t n p s p := Re.free (hf _ (by simp))
      have h4 : Re S t (s + 1) q e q := Re.free (by unfold Free; rw [hl.1]; simp)
      exact h3.trans ((reach_M x s hg.1 hl.2.1 p q h).trans h4)
    · exact reach_alt r _ e n hg.2 hl.2.2 (fun v hv => hf v (by simp [hv])) p q h
end

/-- within a laid expression, and not at its end -/
def Inside (x : Nd) (n j : Nat) : Prop := n ≤ j ∧ j < n + 2 * cnt x ∧ j ≠ n + 1

mutual
theorem leave {S : List Sta} {t : List Int} : ∀ (x : Nd) (n : Nat), Good x → Lays S x n → ∀ (l p j q : Nat), Path S t l n p j q → Inside x n j ∨ ∃ r l', l' < l ∧ M t x p r ∧ Path S t l' (n + 1) r j q
  | .mk op cls ps, n, hg, hl, l, p, j, q, h => by
    have hc : 2 * cnt (.mk op cls ps) = 2 + 2 * cntL ps := by simp only [cnt]; omega
    unfold Inside
    rw [hc]
    unfold Good at hg
    obtain ⟨hop, -, hone, hps⟩ := hg
    unfold Lays at hl
    obtain ⟨-, hl⟩ := hl
    by_cases h1 : op = 1
    · subst h1
      rw [if_pos rfl] at hl
      cases h with
      | nil => exact .inl ⟨by omega, by omega, by omega⟩
      | @cons l10 _ _ j10 q10 _ _ h1 h2 =>
        rcases h1 with ⟨h1, -⟩ | ⟨rfl, rfl, c, h3, h4⟩
        · unfold Free at h1; rw [hl] at h1; simp at h1
        · rw [hl] at h4
          exact .inr ⟨_, _, Nat.lt_succ_self _, (M_1 _ _).2 ⟨rfl, c, h3, h4⟩, h2⟩
    rw [if_neg h1] at hl
    obtain ⟨hpl, hl⟩ := hl
    by_cases h0 : op = 0
    · subst h0
      rw [if_pos rfl] at hl
      cases h with
      | nil => exact .inl ⟨by omega, by omega, by omega⟩
      | @cons l20 _ _ j20 q20 _ _ h1 h2 =>
        obtain ⟨rfl, h3⟩ := edge_plain hpl h1
        rw [hl] at h3
        have e : (j20 : Int) = (n : Int) + 1 := by simpa using h3
        obtain rfl : j20 = n + 1 := by omega
        exact .inr ⟨_, _, Nat.lt_succ_self _, (M_0 _ _).2 rfl, h2⟩
    rw [if_neg h0] at hl
    by_cases h2 : op = 2
    · subst h2
      rw [if_pos rfl] at hl
      rcases leave_seq ps n (n + 2) (n + 1) hps hl hpl l p j q h with h | h | ⟨r, l', h1, h2, h3⟩
      · exact .inl ⟨by omega, by omega, by omega⟩
      · exact .inl ⟨by omega, by omega, by omega⟩
      · exact .inr ⟨r, l', h1, (M_2 _ _).2 h2, h3⟩
    rw [if_neg h2] at hl
    by_cases h3 : op = 3
    · subst h3
      rw [if_pos rfl] at hl
      cases h with
      | nil => exact .inl ⟨by omega, by omega, by omega⟩
      | @cons l30 _ _ j30 q30 _ _ h1 h2 =>
        obtain ⟨rfl, h3⟩ := edge_plain hpl h1
        rw [hl.1] at h3
        rcases leave_alt ps (n + 2) (n + 1) hps hl.2 _ h3 _ _ _ _ h2 with h | ⟨r, l', h1, h2, h3⟩
        · exact .inl ⟨by omega, by omega, by omega⟩
        · exact .inr ⟨r, l', by omega, (M_3 _ _).2 h2, h3⟩
    rw [if_neg h3] at hl
    have h45 : op = 4 ∨ op = 5 := by omega
    match ps, hone h45, hps, hl with
    | [x], _, hps, hl =>
      unfold OneL at hl
      unfold GoodL at hps
      obtain ⟨f1, f2, hx⟩ := hl
      have ih := leave (t := t) x (n + 2) hps.1 hx
      have hb := Lays_end hx
      simp only [cntL] at *
      rcases h45 with rfl | rfl
      · have key : ∀ (l p : Nat), Path S t l (n + 2) p j q → (n ≤ j ∧ j < n + (2 + 2 * (cnt x + 0)) ∧ j ≠ n + 1) ∨ ∃ r l', l' < l ∧ Star (Malt t [x]) p r ∧ Path S t l' (n + 1) r j q := by
          intro l
          induction l using Nat.strongRecOn with
          | ind l ihl =>
            intro p h
            rcases ih l p j q h with ⟨g1, g2, g3⟩ | ⟨r, l', g1, g2, g3⟩
            · exact .inl ⟨by omega, by omega, by omega⟩
            · cases g3 with
              | nil => exact .inl ⟨by omega, by have := cnt_pos x; omega, by omega⟩
              | @cons l40 _ _ j40 q40 _ _ k1 k2 =>
                obtain ⟨rfl, k3⟩ := edge_plain hb k1
                rw [show n + 2 + 1 = n + 3 by omega, f2, if_pos rfl] at k3
                have hs : Star (Malt t [x]) p _ := .step (.refl _) ((Malt_one).2 g2)
                simp only [List.mem_cons, List.not_mem_nil, or_false] at k3
                rcases k3 with k3 | k3
                · obtain rfl : j40 = n + 1 := by omega
                  exact .inr ⟨_, _, by omega, hs, k2⟩
                · obtain rfl : j40 = n + 2 := by omega
                  rcases ihl _ (by omega) _ k2 with h | ⟨r', l'', m1, m2, m3⟩
                  · exact .inl h
                  · exact .inr ⟨r', l'', by omega, hs.trans m2, m3⟩
        cases h with
        | nil => exact .inl ⟨by omega, by omega, by omega⟩
        | @cons l50 _ _ j50 q50 _ _ h1 h2 =>
          obtain ⟨rfl, h3⟩ := edge_plain hpl h1
          rw [f1] at h3
          simp only [List.mem_cons, List.not_mem_nil, or_false] at h3
          rcases h3 with h3 | h3
          · obtain rfl : j50 = n + 2 := by omega
            rcases key _ _ h2 with h | ⟨r, l', m1, m2, m3⟩
            · exact .inl h
            · exact .inr ⟨r, l', by omega, (M_4 _ _).2 ⟨rfl, m2⟩, m3⟩
          · obtain rfl : j50 = n + 1 := by omega
            exact .inr ⟨_, _, Nat.lt_succ_self _, (M_4 _ _).2 ⟨rfl, .refl _⟩, h2⟩
      · cases h with
        | nil => exact .inl ⟨by omega, by omega, by omega⟩
        | @cons l60 _ _ j60 q60 _ _ h1 h2 =>
          obtain ⟨rfl, h3⟩ := edge_plain hpl h1
          rw [f1] at h3
          simp only [List.mem_cons, List.not_mem_nil, or_false] at h3
          rcases h3 with h3 | h3
          · obtain rfl : j60 = n + 2 := by omega
            rcases ih _ _ _ _ h2 with ⟨g1, g2, g3⟩ | ⟨r, l', g1, g2, g3⟩
            · exact .inl ⟨by omega, by omega, by omega⟩
            · cases g3 with
              | nil => exact .inl ⟨by omega, by have := cnt_pos x; omega, by omega⟩
              | @cons l70 _ _ j70 q70 _ _ k1 k2 =>
                obtain ⟨rfl, k3⟩ := edge_plain hb k1
                rw [show n + 2 + 1 = n + 3 by omega, f2, if_neg (by omega)] at k3
                have e : (j70 : Int) = (n : Int) + 1 := by simpa using k3
                obtain rfl : j70 = n + 1 := by omega
                exact .inr ⟨_, _, by omega, (M_5 _ _).2 ⟨rfl, .inr ((Malt_one).2 g2)⟩, k2⟩
          · obtain rfl : j60 = n + 1 := by omega
            exact .inr ⟨_, _, Nat.lt_succ_self _, (M_5 _ _).2 ⟨rfl, .inl rfl⟩, h2⟩
theorem leave_seq {S : List Sta} {t : List Int} : ∀ (ps : List Nd) (a s e : Nat), GoodL ps → SeqL S ps a s e → plain (at_ S a) → ∀ (l p j q : Nat), Path S t l a p j q →
    j = a ∨ (s ≤ j ∧ j < s + 2 * cntL ps) ∨ ∃ r l', l' < l ∧ Mseq t ps p r ∧ Path S t l' e r j q
  | [], a, s, e, _, hl, hpl, l, p, j, q, h => by
    unfold SeqL at hl
    cases h with
    | nil => exact .inl rfl
    | @cons l80 _ _ j80 q80 _ _ h1 h2 =>
      obtain ⟨rfl, h3⟩ := edge_plain hpl h1
      rw [hl] at h3
      have e : (j80 : Int) = (e : Int) := by simpa using h3
      obtain rfl := Int.ofNat.inj e
      exact .inr (.inr ⟨_, _, Nat.lt_succ_self _, by simp [Mseq], h2⟩)
  | x :: r, a, s, e, hg, hl, hpl, l, p, j, q, h => by
    unfold GoodL at hg
    unfold SeqL at hl
    obtain ⟨hf, hx, hr⟩ := hl
    simp only [cntL]
    have hcx := cnt_pos x
    cases h with
    | nil => exact .inl rfl
    | @cons l90 _ _ j90 q90 _ _ h1 h2 =>
      obtain ⟨rfl, h3⟩ := edge_plain hpl h1
      rw [hf] at h3
      have e : (j90 : Int) = (s : Int) := by simpa using h3
      obtain rfl := Int.ofNat.inj e
      rcases leave x _ hg.1 hx _ _ _ _ h2 with ⟨g1, g2, g3⟩ | ⟨r1, l', g1, g2, g3⟩
      · exact .inr (.inl ⟨by omega, by omega⟩)
      · rcases leave_seq r _ _ _ hg.2 hr (Lays_end hx) _ _ _ _ g3 with h | h | ⟨r2, l2, k1, k2, k3⟩
        · exact .inr (.inl ⟨by omega, by omega⟩)
        · exact .inr (.inl ⟨by omega, by omega⟩)
        · exact .inr (.inr ⟨r2, l2, by omega, by simp only [Mseq]; exact ⟨r1, g2, k2⟩, k3⟩)
theorem leave_alt {S : List Sta} {t : List Int} : ∀ (ps : List Nd) (s e : Nat), GoodL ps → AltL S ps s e → ∀ (i : Nat), (i : Int) ∈ entries ps s → ∀ (l p j q : Nat), Path S t l i p j q →
    (s ≤ j ∧ j < s + 2 * cntL ps) ∨ ∃ r l', l' < l ∧ Malt t ps p r ∧ Path S t l' e r j q
  | [], s, e, _, _, i, hi, l, p, j, q, h => by simp [entries] at hi
  | x :: r, s, e, hg, hl, i, hi, l, p, j, q, h => by
    unfold GoodL at hg
    unfold AltL at hl
    obtain ⟨hf, hx, hr⟩ := hl
    simp only [cntL]
    have hcx := cnt_pos x
    simp only [entries, List.mem_cons] at hi
    rcases hi with hi | hi
    · obtain rfl := Int.ofNat.inj hi
      rcases leave x _ hg.1 hx _ _ _ _ h with ⟨g1, g2, g3⟩ | ⟨r1, l', g1, g2, g3⟩
      · exact .inl ⟨by omega, by omega⟩
      · cases g3 with
        | nil => exact .inl ⟨by omega, by omega⟩
        | @cons l100 _ _ j100 q100 _ _ k1 k2 =>
          obtain ⟨rfl, k3⟩ := edge_plain (Lays_end hx) k1
          rw [hf] at k3
          have e : (j100 : Int) = (e : Int) := by simpa using k3
          obtain rfl := Int.ofNat.inj e
          exact .inr ⟨_, _, by omega, by simp only [Malt]; exact .inl g2, k2⟩
    · rcases leave_alt r _ _ hg.2 hr i hi _ _ _ _ h with h | ⟨r2, l2, k1, k2, k3⟩
      · exact .inl ⟨by omega, by omega⟩
      · exact .inr ⟨r2, l2, k1, by simp only [Malt]; exact .inr k2, k3⟩
end

/-- the machine of an expression -/
def mach (x : Nd) : List Sta := layF x []

theorem mach_ok {x : Nd} (h : Good x) : LaidOk x [] (mach x) := lay_ok x h []

/-- from the first state to the last one the paths are the rows -/
theorem mach_iff {x : Nd} (hg : Good x) {t : List Int} {p q : Nat} : Re (mach x) t 0 p 1 q ↔ M t x p q := by
  have k := mach_ok hg
  constructor
  · rintro ⟨l, h⟩
    rcases leave x 0 hg k.lays l p 1 q h with ⟨-, -, h⟩ | ⟨r, l', -, h2, h3⟩
    · exact absurd rfl h
    · cases h3 with
      | nil => exact h2
      | cons h4 h5 =>
        obtain ⟨-, h6⟩ := edge_plain (Lays_end k.lays) h4
        have := k.out
        simp only [List.length_nil] at this h6
        rw [this] at h6
        simp at h6
  · exact reach_M x 0 hg k.lays p q
end Go.Proofs.Ytmooflmhbpckjaa
