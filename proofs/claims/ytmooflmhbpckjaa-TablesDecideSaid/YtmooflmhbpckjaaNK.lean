/-
  What a depth-first visit has seen and told; the states of a laid machine. Plain definitions and theorems; no program.
-/
import Derived.Test.YtmooflmhbpckjaaNQ
set_option linter.unusedVariables false
set_option linter.unusedSimpArgs false
namespace Go.Proofs.Ytmooflmhbpckjaa

/-- a state takes a class, or is the last one -/
def core (S : List Sta) (k : Nat) : Prop := (at_ S k).set = true ∨ k = 1
def FreeStar (S : List Sta) : Nat → Nat → Prop := Star (Free S)

/-- from these states more were seen, and those of them that count were told -/
structure Vis (S : List Sta) (roots : Nat → Prop) (bs : List Bool) (xs : List Int) (bs' : List Bool) (xs' : List Int) : Prop where
  len : bs'.length = bs.length
  grow : ∀ k, tr bs k → tr bs' k
  hit : ∀ r, roots r → tr bs' r
  reach : ∀ k, tr bs' k → ¬ tr bs k → ∃ r, roots r ∧ FreeStar S r k
  closed : ∀ k, tr bs' k → ¬ tr bs k → ∀ j, Free S k j → tr bs' j
  out : ∃ ys, xs' = xs ++ ys ∧ ys.Nodup ∧ ∀ v, v ∈ ys ↔ ∃ k : Nat, v = k ∧ tr bs' k ∧ ¬ tr bs k ∧ core S k

theorem Vis.nil (S : List Sta) (bs : List Bool) (xs : List Int) : Vis S (fun _ => False) bs xs bs xs :=
  ⟨rfl, fun _ h => h, fun _ h => h.elim, fun k h1 h2 => absurd h1 h2, fun k h1 h2 => absurd h1 h2, [], by simp, by simp, fun v => by simp; intro k _ h1 h2; exact absurd h1 h2⟩

theorem Vis.seen {S : List Sta} {bs : List Bool} {xs : List Int} {n : Nat} (h : tr bs n) : Vis S (fun r => r = n) bs xs bs xs :=
  ⟨rfl, fun _ h => h, fun _ e => e ▸ h, fun k h1 h2 => absurd h1 h2, fun k h1 h2 => absurd h1 h2, [], by simp, by simp, fun v => by simp; intro k _ h1 h2; exact absurd h1 h2⟩

theorem Vis.mono {S : List Sta} {R Q : Nat → Prop} {bs bs' : List Bool} {xs xs' : List Int} (h : Vis S R bs xs bs' xs') (hq : ∀ r, R r ↔ Q r) : Vis S Q bs xs bs' xs' :=
  ⟨h.len, h.grow, fun r hr => h.hit r ((hq r).2 hr), fun k h1 h2 => by obtain ⟨r, h3, h4⟩ := h.reach k h1 h2; exact ⟨r, (hq r).1 h3, h4⟩, h.closed, h.out⟩

theorem Vis.trans {S : List Sta} {R Q : Nat → Prop} {b0 b1 b2 : List Bool} {x0 x1 x2 : List Int} (h : Vis S R b0 x0 b1 x1) (g : Vis S Q b1 x1 b2 x2) : Vis S (fun r => R r ∨ Q r) b0 x0 b2 x2 := by
  obtain ⟨ys, y1, y2, y3⟩ := h.out
  obtain ⟨zs, z1, z2, z3⟩ := g.out
  refine ⟨g.len.trans h.len, fun k hk => g.grow k (h.grow k hk), fun r hr => hr.elim (fun hr => g.grow r (h.hit r hr)) (g.hit r), fun k h1 h2 => ?_, fun k h1 h2 j hj => ?_, ys ++ zs, ?_, ?_, fun v => ?_⟩
  · by_cases hk : tr b1 k
    · obtain ⟨r, h3, h4⟩ := h.reach k hk h2; exact ⟨r, .inl h3, h4⟩
    · obtain ⟨r, h3, h4⟩ := g.reach k h1 hk; exact ⟨r, .inr h3, h4⟩
  · by_cases hk : tr b1 k
    · exact g.grow j (h.closed k hk h2 j hj)
    · exact g.closed k h1 hk j hj
  · rw [z1, y1, List.append_assoc]
  · rw [List.nodup_append]
    refine ⟨y2, z2, fun a ha b hb e => ?_⟩
    obtain ⟨k, e1, h1, -, -⟩ := (y3 a).1 ha
    obtain ⟨j, e2, -, h2, -⟩ := (z3 b).1 hb
    have : k = j := by omega
    exact h2 (this ▸ h1)
  · rw [List.mem_append, y3, z3]
    constructor
    · rintro (⟨k, e, h1, h2, h3⟩ | ⟨k, e, h1, h2, h3⟩)
      · exact ⟨k, e, g.grow k h1, h2, h3⟩
      · exact ⟨k, e, h1, fun hk => h2 (h.grow k hk), h3⟩
    · rintro ⟨k, e, h1, h2, h3⟩
      by_cases hk : tr b1 k
      · exact .inl ⟨k, e, hk, h2, h3⟩
      · exact .inr ⟨k, e, h1, hk, h3⟩

theorem tr_set {bs : List Bool} {n k : Nat} (hn : n < bs.length) : tr (bs.set n true) k ↔ tr bs k ∨ k = n := by
  unfold tr
  rw [List.getElem?_set]
  by_cases e : n = k
  · subst e; simp [hn]
  · rw [if_neg e]; simp [Ne.symm e]

open Classical in
/-- a state that was not seen, and all to which it goes -/
theorem Vis.node {S : List Sta} {n : Nat} {bs bs' : List Bool} {xs xs' : List Int} (hn : n < bs.length) (h0 : ¬ tr bs n) (ex : List Int) (hex : ex = if core S n then [(n : Int)] else [])
    (h : Vis S (Free S n) (bs.set n true) (xs ++ ex) bs' xs') : Vis S (fun r => r = n) bs xs bs' xs' := by
  obtain ⟨ys, y1, y2, y3⟩ := h.out
  have hnb : tr bs' n := h.grow n ((tr_set hn).2 (.inr rfl))
  refine ⟨h.len.trans (by simp), fun k hk => h.grow k ((tr_set hn).2 (.inl hk)), fun r e => e ▸ hnb, fun k h1 h2 => ?_, fun k h1 h2 j hj => ?_, ex ++ ys, ?_, ?_, fun v => ?_⟩
  · by_cases hk : k = n
    · subst hk; exact ⟨k, rfl, .refl _⟩
    · obtain ⟨r, h3, h4⟩ := h.reach k h1 (fun h => (tr_set hn).1 h |>.elim h2 hk)
      exact ⟨n, rfl, Star.head h3 h4⟩
  · by_cases hk : k = n
    · subst hk; exact h.hit j hj
    · exact h.closed k h1 (fun h => (tr_set hn).1 h |>.elim h2 hk) j hj
  · rw [y1, List.append_assoc]
  · rw [List.nodup_append]
    refine ⟨by rw [hex]; split <;> simp, y2, fun a ha b hb e => ?_⟩
    rw [hex] at ha
    split at ha
    · obtain ⟨j, e2, -, h2, -⟩ := (y3 b).1 hb
      have ha : a = (n : Int) := by simpa using ha
      have : j = n := by omega
      exact h2 ((tr_set hn).2 (.inr this))
    · simp at ha
  · rw [List.mem_append, y3]
    constructor
    · rintro (h1 | ⟨k, e, h1, h2, h3⟩)
      · rw [hex] at h1
        split at h1
        · have h1 : v = (n : Int) := by simpa using h1
          exact ⟨n, h1, hnb, h0, ‹_›⟩
        · simp at h1
      · exact ⟨k, e, h1, fun hk => h2 ((tr_set hn).2 (.inl hk)), h3⟩
    · rintro ⟨k, e, h1, h2, h3⟩
      by_cases hk : k = n
      · subst hk; left; rw [hex, if_pos h3, e]; simp
      · exact .inr ⟨k, e, h1, fun h => (tr_set hn).1 h |>.elim h2 hk, h3⟩

theorem count_set : ∀ {bs : List Bool} {n : Nat} (hn : n < bs.length), ¬ tr bs n → (bs.set n true).count false + 1 = bs.count false
  | b :: r, 0, _, h => by
    cases b
    · simp
    · exact absurd rfl h
  | b :: r, n + 1, hn, h => by
    have := count_set (bs := r) (n := n) (by simpa using hn) (by simpa [tr] using h)
    simp only [List.set_cons_succ, List.count_cons]
    omega

theorem count_grow : ∀ {bs bs' : List Bool}, bs'.length = bs.length → (∀ k, tr bs k → tr bs' k) → bs'.count false ≤ bs.count false
  | [], bs', h, _ => by have := List.eq_nil_of_length_eq_zero (by simpa using h); subst this; simp
  | b :: r, [], h, _ => by simp at h
  | b :: r, c :: s, h, g => by
    have := count_grow (bs := r) (bs' := s) (by simpa using h) (fun k hk => by simpa [tr] using g (k + 1) (by simpa [tr] using hk))
    simp only [List.count_cons]
    have h0 := g 0
    cases b <;> cases c <;> simp [tr] at h0 ⊢ <;> omega

theorem not_tr {bs : List Bool} {n : Nat} (hn : n < bs.length) (h : bs[n] = false) : ¬ tr bs n := by
  unfold tr; rw [List.getElem?_eq_getElem hn, h]; simp
theorem is_tr {bs : List Bool} {n : Nat} (hn : n < bs.length) (h : bs[n] = true) : tr bs n := by
  unfold tr; rw [List.getElem?_eq_getElem hn, h]

/-- all states to which one goes are there; who takes classes says so, and has one behind it -/
structure Fine (S : List Sta) (N : Nat) : Prop where
  free : ∀ i, ∀ v ∈ (at_ S i).free, 0 ≤ v ∧ v < N
  takes : ∀ i, (at_ S i).takes ≠ [] → (at_ S i).set = true ∧ i + 1 < N

theorem Fine.join {S : List Sta} {N : Nat} (h : Fine S N) (i : Nat) (ts : List Int) (ht : ∀ v ∈ ts, 0 ≤ v ∧ v < N) : Fine (joinF S i ts) N := by
  by_cases hi : i < S.length
  · refine ⟨fun j v hv => ?_, fun j hj => ?_⟩
    · rw [at_join _ _ _ _ hi] at hv
      split at hv
      · rcases List.mem_append.1 hv with hv | hv
        · exact h.free i v hv
        · exact ht v hv
      · exact h.free j v hv
    · rw [at_join _ _ _ _ hi] at hj ⊢
      split
      · rename_i e; rw [if_pos e] at hj; subst e; exact h.takes j hj
      · rename_i e; rw [if_neg e] at hj; exact h.takes j hj
  · have : joinF S i ts = S := by
      unfold joinF
      exact List.modify_eq_self (by omega)
    rw [this]; exact h

theorem Fine.two {L : List Sta} {N : Nat} (h : Fine L N) : Fine ((L ++ [z0]) ++ [z0]) N := by
  refine ⟨fun j v hv => ?_, fun j hj => ?_⟩
  · rw [at_two] at hv
    split at hv
    · exact h.free j v hv
    · split at hv
      · simp [z0] at hv
      · split at hv <;> simp [z0] at hv
  · rw [at_two] at hj ⊢
    split
    · rename_i e; rw [if_pos e] at hj; exact h.takes j hj
    · rename_i e
      rw [if_neg e] at hj
      split at hj
      · simp [z0] at hj
      · split at hj <;> simp [z0] at hj

mutual
theorem lay_fine : ∀ (x : Nd), Good x → ∀ (L : List Sta) (N : Nat), L.length + 2 * cnt x ≤ N → Fine L N → Fine (layF x L) N
  | .mk op cls ps, hg, L, N, hN, h => by
    unfold Good at hg
    obtain ⟨-, -, -, hps⟩ := hg
    simp only [cnt] at hN
    have h2 := h.two
    have hl : ((L ++ [z0]) ++ [z0]).length = L.length + 2 := by simp
    rw [layF]
    split
    · refine ⟨fun j v hv => ?_, fun j hj => ?_⟩
      · rw [at_two] at hv
        split at hv
        · exact h.free j v hv
        · split at hv
          · simp at hv
          · split at hv <;> simp [z0] at hv
      · rw [at_two] at hj ⊢
        split
        · rename_i e; rw [if_pos e] at hj; exact h.takes j hj
        · rename_i e
          rw [if_neg e] at hj
          split
          · rename_i e2; exact ⟨rfl, by omega⟩
          · rename_i e2
            rw [if_neg e2] at hj
            split at hj <;> simp [z0] at hj
    · split
      · exact h2.join _ _ (by simp; omega)
      · split
        · have := seq_fine ps hps ((L ++ [z0]) ++ [z0]) L.length N (by omega) h2 (by omega)
          exact this.join _ _ (by simp; omega)
        · split
          · exact alt_fine ps hps ((L ++ [z0]) ++ [z0]) L.length N (by omega) h2 (by omega)
          · exact one_fine op ps hps ((L ++ [z0]) ++ [z0]) L.length N (by omega) h2 (by omega)
theorem seq_fine : ∀ (ps : List Nd), GoodL ps → ∀ (L : List Sta) (a N : Nat), L.length + 2 * cntL ps ≤ N → Fine L N → 0 < N → Fine (seqF ps L a).1 N
  | [], _, L, a, N, hN, h, _ => by rw [seqF]; exact h
  | p :: r, hg, L, a, N, hN, h, h0 => by
    unfold GoodL at hg
    simp only [cntL] at hN
    have hp := cnt_pos p
    have hl := (lay_ok p hg.1 L).length
    rw [seqF]
    exact seq_fine r hg.2 _ _ N (by rw [joinF_length, hl]; omega) ((lay_fine p hg.1 L N (by omega) h).join _ _ (by simp; omega)) h0
theorem alt_fine : ∀ (ps : List Nd), GoodL ps → ∀ (L : List Sta) (n N : Nat), L.length + 2 * cntL ps ≤ N → Fine L N → n + 1 < N → Fine (altF ps L n) N
  | [], _, L, n, N, hN, h, _ => by rw [altF]; exact h
  | p :: r, hg, L, n, N, hN, h, h0 => by
    unfold GoodL at hg
    simp only [cntL] at hN
    have hp := cnt_pos p
    have hl := (lay_ok p hg.1 L).length
    rw [altF]
    exact alt_fine r hg.2 _ _ N (by rw [joinF_length, joinF_length, hl]; omega) (((lay_fine p hg.1 L N (by omega) h).join _ _ (by simp; omega)).join _ _ (by simp; omega)) h0
theorem one_fine : ∀ (op : Int) (ps : List Nd), GoodL ps → ∀ (L : List Sta) (n N : Nat), L.length + 2 * cntL ps ≤ N → Fine L N → n + 1 < N → Fine (oneF op ps L n) N
  | op, [], _, L, n, N, hN, h, _ => by rw [oneF]; exact h
  | op, p :: r, hg, L, n, N, hN, h, h0 => by
    unfold GoodL at hg
    simp only [cntL] at hN
    have hp := cnt_pos p
    have h1 := (((lay_fine p hg.1 L N (by omega) h).join n [(L.length : Int), (n : Int) + 1] (by simp; omega)).join (L.length + 1) [(n : Int) + 1] (by simp; omega))
    rw [oneF]
    split
    · exact h1.join _ _ (by simp; omega)
    · exact h1
end

theorem mach_fine {x : Nd} (hg : Good x) : Fine (mach x) (2 * cnt x) :=
  lay_fine x hg [] _ (by simp) ⟨fun i v hv => by simp [at_, z0] at hv, fun i h => by simp [at_, z0] at h⟩

theorem mach_len {x : Nd} (hg : Good x) : (mach x).length = 2 * cnt x := by have := (mach_ok hg).length; simpa using this
end Go.Proofs.Ytmooflmhbpckjaa
