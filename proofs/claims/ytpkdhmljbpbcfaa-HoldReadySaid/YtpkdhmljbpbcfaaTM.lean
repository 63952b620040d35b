/-
  Sorted lists with the same members are the same; lists that All told stay. No condition beyond what each theorem names.
-/
import Derived.Test.YtpkdhmljbpbcfaaTL
set_option linter.unusedVariables false
set_option linter.unusedSimpArgs false
namespace Go.Proofs.Ytpkdhmljbpbcfaa
open Go.RowKit

theorem lt_irrefl (a : OpV) : ¬ lt a a := by unfold lt; omega
theorem lt_asymm {a b : OpV} (h : lt a b) : ¬ lt b a := by unfold lt at *; omega

theorem sorted_ext : ∀ {xs ys : List OpV}, Sorted xs → Sorted ys → (∀ p, p ∈ xs ↔ p ∈ ys) → xs = ys
  | [], [], _, _, _ => rfl
  | [], y :: ys, _, _, h => absurd ((h y).2 (by simp)) (by simp)
  | x :: xs, [], _, _, h => absurd ((h x).1 (by simp)) (by simp)
  | x :: xs, y :: ys, hx, hy, h => by
    obtain ⟨hx1, hx2⟩ := List.pairwise_cons.1 hx
    obtain ⟨hy1, hy2⟩ := List.pairwise_cons.1 hy
    have hxy : x = y := by
      have h1 := (h x).1 (by simp)
      have h2 := (h y).2 (by simp)
      rcases List.mem_cons.1 h1 with e | h1
      · exact e
      · rcases List.mem_cons.1 h2 with e | h2
        · exact e.symm
        · exact absurd (hx1 _ h2) (lt_asymm (hy1 _ h1))
    subst hxy
    have : xs = ys := by
      refine sorted_ext hx2 hy2 fun p => ⟨fun hp => ?_, fun hp => ?_⟩
      · rcases List.mem_cons.1 ((h p).1 (by simp [hp])) with e | h1
        · subst e; exact absurd (hx1 _ hp) (lt_irrefl _)
        · exact h1
      · rcases List.mem_cons.1 ((h p).2 (by simp [hp])) with e | h1
        · subst e; exact absurd (hy1 _ hp) (lt_irrefl _)
        · exact h1
    rw [this]

theorem sorted_inj {xs : List OpV} (h : Sorted xs) {a b : OpV} (ha : a ∈ xs) (hb : b ∈ xs) (h1 : a.author = b.author) (h2 : a.seq = b.seq) : a = b := by
  obtain ⟨i, hi, rfl⟩ := List.getElem_of_mem ha
  obtain ⟨j, hj, rfl⟩ := List.getElem_of_mem hb
  rcases Nat.lt_trichotomy i j with e | e | e
  · have := (List.pairwise_iff_getElem.1 h) i j hi hj e
    unfold lt at this; omega
  · subst e; rfl
  · have := (List.pairwise_iff_getElem.1 h) j i hj hi e
    unfold lt at this; omega

theorem sorted_filter {xs : List OpV} (h : Sorted xs) (q : OpV → Bool) : Sorted (xs.filter q) := List.Pairwise.filter _ h

theorem sub_len {xs ys : List OpV} (hx : Sorted xs) (hy : Sorted ys) (h : ∀ p, p ∈ ys → p ∈ xs) {o : OpV} (ho : o ∈ xs) (hn : o ∉ ys) : ys.length < xs.length := by
  have e : ys = xs.filter (fun p => decide (p ∈ ys)) := sorted_ext hy (sorted_filter hx _) fun p => by
    simp only [List.mem_filter, decide_eq_true_eq]
    exact ⟨fun hp => ⟨h p hp, hp⟩, fun hp => hp.2⟩
  have h2 : (xs.filter (fun p => decide (p ∈ ys))).length < xs.length := by
    rw [List.length_filter_lt_length_iff_exists]
    exact ⟨o, ho, by simpa using hn⟩
  rw [← e] at h2
  exact h2

theorem sub_le {xs ys : List OpV} (hx : Sorted xs) (hy : Sorted ys) (h : ∀ p, p ∈ ys → p ∈ xs) : ys.length ≤ xs.length := by
  have e : ys = xs.filter (fun p => decide (p ∈ ys)) := sorted_ext hy (sorted_filter hx _) fun p => by
    simp only [List.mem_filter, decide_eq_true_eq]
    exact ⟨fun hp => ⟨h p hp, hp⟩, fun hp => hp.2⟩
  rw [e]
  exact List.length_filter_le _ _

theorem mem_ins {xs : List OpV} {i : Nat} {o p : OpV} : p ∈ ins xs i o ↔ p ∈ xs ∨ p = o := by
  unfold ins
  have : p ∈ xs ↔ p ∈ xs.take i ∨ p ∈ xs.drop i := by
    rw [← List.mem_append, List.take_append_drop]
  simp only [List.mem_append, List.mem_cons, this]
  constructor
  · rintro (h | h | h) <;> simp [h]
  · rintro ((h | h) | h) <;> simp [h]

theorem any_same {ys : List OpV} {o : OpV} : ys.any (sameId o.author o.seq) = true ↔ ∃ p ∈ ys, p.author = o.author ∧ p.seq = o.seq := by
  simp [List.any_eq_true, sameId]

/-- an operation of a sorted list that is no longer than the room is put back -/
theorem add_back {room : Int} {xs ys : List OpV} (hx : Sorted xs) (hl : (xs.length : Int) ≤ room) (hy : Sorted ys) (h : ∀ p, p ∈ ys → p ∈ xs) {o : OpV} (ho : o ∈ xs) :
    addErr room ys o = 0 ∧ Sorted (addTo room ys o) ∧ (∀ p, p ∈ addTo room ys o ↔ p ∈ ys ∨ p = o) ∧ (addTo room ys o).length ≤ xs.length := by
  have hs := addTo_sorted (room := room) hy o
  have hle : ∀ {zs : List OpV}, Sorted zs → (∀ p, p ∈ zs → p ∈ xs) → zs.length ≤ xs.length := by
    intro zs hz hsub
    have e : zs = xs.filter (fun p => decide (p ∈ zs)) := sorted_ext hz (sorted_filter hx _) fun p => by
      simp only [List.mem_filter, decide_eq_true_eq]
      exact ⟨fun hp => ⟨hsub p hp, hp⟩, fun hp => hp.2⟩
    rw [e]
    exact List.length_filter_le _ _
  by_cases h1 : ys.any (sameId o.author o.seq) = true
  · obtain ⟨p, hp, e1, e2⟩ := any_same.1 h1
    have : p = o := sorted_inj hx (h p hp) ho e1 e2
    subst this
    have e : addTo room ys p = ys := by simp [addTo, h1]
    refine ⟨by simp [addErr, h1], hs, fun q => ?_, ?_⟩
    · rw [e]
      exact ⟨.inl, fun hq => by rcases hq with hq | rfl; exact hq; exact hp⟩
    · rw [e]; exact hle hy h
  · have hn : o ∉ ys := fun ho' => h1 (any_same.2 ⟨o, ho', rfl, rfl⟩)
    have hlt := sub_len hx hy h ho hn
    have h2 : ¬ room ≤ ys.length := by omega
    have e : addTo room ys o = ins ys (pos o.author o.seq ys) o := by simp [addTo, h1, h2]
    have hm : ∀ p, p ∈ addTo room ys o ↔ p ∈ ys ∨ p = o := fun p => by rw [e]; exact mem_ins
    refine ⟨by simp [addErr, h1, h2], hs, hm, hle hs fun p hp => ?_⟩
    rcases (hm p).1 hp with hp | rfl
    · exact h p hp
    · exact ho

/-- a list of operations of one's own, in blocks that are kept -/
def Mine (w : World) (Ks : Nat → Prop) (v : Value) (xs : List OpV) : Prop := w.ownsRow 0 30 7 v xs.length (flat xs) ∧ ∀ k, v.ownBlock = some k → Ks k

theorem Mine.kept {w w' : World} {Ks Ls : Nat → Prop} {v : Value} {xs : List OpV} (h : Mine w Ks v xs) (hk : ∀ k, Ks k → w'.heap[k]? = w.heap[k]?) (hl : ∀ k, Ks k → Ls k) : Mine w' Ls v xs := by
  refine ⟨⟨h.1.1, ?_⟩, fun k hv => hl k (h.2 k hv)⟩
  rcases h.1.2 with h1 | ⟨g, cap, cur, rfl, h1, h2, h3⟩
  · exact .inl h1
  · exact .inr ⟨g, cap, cur, rfl, h1, by rw [hk g (h.2 g rfl)]; exact h2, h3⟩

theorem Mine.rd {w : World} {Ks : Nat → Prop} {v : Value} {xs : List OpV} (h : Mine w Ks v xs) : Rd w v xs := ownsRow_rd h.1

theorem Mine.rdk {w : World} {Ks : Nat → Prop} {v : Value} {xs : List OpV} (h : Mine w Ks v xs) : ∃ ad cap, v = .slice ad xs.length cap ∧ (0 < xs.length → ∃ b off, ad = some ⟨b, off, none⟩ ∧ Ks b ∧ ∀ j (h : j < xs.length), opAt w b (off + j * 7) xs[j]) := by
  obtain ⟨ad, cap, rfl, hx⟩ := h.rd
  refine ⟨ad, cap, rfl, fun h0 => ?_⟩
  obtain ⟨b, off, rfl, hx'⟩ := hx h0
  refine ⟨b, off, rfl, h.2 b ?_, hx'⟩
  rcases h.1.2 with ⟨h1, -⟩ | ⟨g, c, cur, h1, -⟩
  · cases h1
  · cases h1; rfl

theorem kept_op {w w' : World} {Ks : Nat → Prop} (hk : ∀ k, Ks k → w'.heap[k]? = w.heap[k]?) {b off : Nat} {o : OpV} (hb : Ks b) (h : opAt w b off o) : opAt w' b off o := by
  unfold opAt at *
  simp only [World.cell?, hk b hb] at *
  exact h

section
variable {w0 w : World} {Ks : Nat → Prop} {bh : Nat} {room : Int} {xs : List OpV}

theorem End.mine {e0 e : Ending} {w' : World} {ys : List OpV} (h : End w0 w Ks bh room ys e0 e w') {v : Value} {zs : List OpV} (hm : Mine w Ks v zs) : Mine w' Ks v zs := hm.kept h.kept (fun _ h => h)
theorem Has.mine {w' : World} (h : Has w0 w Ks bh room xs) (hb : Below w.heap.size w w') {v : Value} {zs : List OpV} (hm : Mine w Ks v zs) : Mine w' Ks v zs := hm.kept (fun k hk => hb.block k (h.ks k hk)) (fun _ h => h)

/-- All: a list of one's own, which is kept from now on -/
theorem all_k (h : Has w0 w Ks bh room xs) : Calls Try.prog 18 #[.pointer (some ⟨bh, 0, none⟩)] w fun e w' => ∃ v', e = .returned v' ∧ Has w0 w' (fun k => Ks k ∨ v'.ownBlock = some k) bh room xs ∧ Mine w' (fun k => Ks k ∨ v'.ownBlock = some k) v' xs ∧ Below w.heap.size w w' := by
  obtain ⟨F, v, h2, h3, h4⟩ := h.some
  refine (all_any w F bh room v xs h.len h2).mono fun e w' ⟨v', he, hr, hb⟩ => ⟨v', he, h.more hb (fun k hk => hk.imp id (fun hk => ?_)), ⟨ownsRow_base hr, fun k hk => .inr hk⟩, hb⟩
  rcases hr.2 with ⟨rfl, -⟩ | ⟨g, cap, cur, rfl, h5, h6, -⟩
  · simp [Value.ownBlock] at hk
  · simp only [Value.ownBlock, Option.some.injEq] at hk
    subst hk
    exact ⟨h5, (Array.getElem?_eq_some_iff.1 h6).1⟩

/-- the same, the kept blocks by a name -/
theorem all_l (h : Has w0 w Ks bh room xs) : Calls Try.prog 18 #[.pointer (some ⟨bh, 0, none⟩)] w fun e w' => ∃ (v' : Value) (Ls : Nat → Prop), e = .returned v' ∧ (∀ k, Ks k → Ls k) ∧ Has w0 w' Ls bh room xs ∧ Mine w' Ls v' xs ∧ Below w.heap.size w w' :=
  (all_k h).mono fun _ _ ⟨v', he, h1, h2, hb⟩ => ⟨v', _, he, fun _ h => .inl h, h1, h2, hb⟩

theorem Has.sorted (h : Has w0 w Ks bh room xs) : Sorted xs := by
  obtain ⟨F, v, h2, h3, h4⟩ := h.some
  exact h2.sorted

theorem kept_cell {w w' : World} {Ks : Nat → Prop} (hk : ∀ k, Ks k → w'.heap[k]? = w.heap[k]?) {b o : Nat} {v : Value} (hb : Ks b) (h : w.cell? ⟨b, o, none⟩ = some v) : w'.cell? ⟨b, o, none⟩ = some v := by
  unfold World.cell? at *
  rw [hk b hb]; exact h

theorem Has.less {Ls : Nat → Prop} (h : Has w0 w Ks bh room xs) (hl : ∀ k, Ls k → Ks k) : Has w0 w Ls bh room xs :=
  ⟨h.below, by obtain ⟨F, v, h2, h3, h4⟩ := h.some; exact ⟨F, v, h2, h3, fun k hk => h4 k (hl k hk)⟩, h.room0, h.room1, h.len, fun k hk => h.ks k (hl k hk)⟩
end
end Go.Proofs.Ytpkdhmljbpbcfaa
