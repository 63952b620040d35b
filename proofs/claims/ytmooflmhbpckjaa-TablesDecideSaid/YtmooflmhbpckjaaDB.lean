/-
  dfa, plain: numbers by the order in which things are met; states that tell the same. No program, no condition beyond what each theorem names.
-/
import Derived.Test.YtmooflmhbpckjaaDA
set_option linter.unusedVariables false
set_option linter.unusedSimpArgs false
namespace Go.Proofs.Ytmooflmhbpckjaa
open Classical

section
variable {σ τ : Type}

/-- a list without what is there already -/
noncomputable def distinct (l : List σ) : List σ := l.foldl putS []
theorem distinct_snoc (l : List σ) (x : σ) : distinct (l ++ [x]) = putS (distinct l) x := by simp [distinct, List.foldl_append]

theorem put_mem_iff {l : List σ} {s x : σ} : x ∈ putS l s ↔ x ∈ l ∨ x = s := by
  unfold putS
  split
  · rename_i h
    constructor
    · exact .inl
    · rintro (h1 | rfl)
      · exact h1
      · exact h
  · simp
theorem fold_put_mem {x : σ} : ∀ (l m : List σ), x ∈ l.foldl putS m ↔ x ∈ m ∨ x ∈ l
  | [], m => by simp
  | y :: l, m => by rw [List.foldl_cons, fold_put_mem l, put_mem_iff, List.mem_cons, or_assoc]
theorem distinct_mem {l : List σ} {x : σ} : x ∈ distinct l ↔ x ∈ l := by rw [distinct, fold_put_mem]; simp
theorem fold_put_nodup : ∀ (l m : List σ), m.Nodup → (l.foldl putS m).Nodup
  | [], m, h => h
  | y :: l, m, h => fold_put_nodup l _ (putS_nodup h)
theorem distinct_nodup (l : List σ) : (distinct l).Nodup := fold_put_nodup l [] (by simp)
theorem fold_put_pre : ∀ (l m : List σ), m <+: l.foldl putS m
  | [], m => List.prefix_refl _
  | y :: l, m => (putS_pre m y).trans (fold_put_pre l _)
theorem distinct_pre (l m : List σ) : distinct l <+: distinct (l ++ m) := by
  rw [distinct, distinct, List.foldl_append]
  exact fold_put_pre m _

theorem place_inj {l : List σ} {x y : σ} (hx : x ∈ l) (hy : y ∈ l) (h : place l x = place l y) : x = y := by
  have h1 := place_get hx
  have h2 := place_get hy
  rw [h, h2] at h1
  exact (Option.some.inj h1).symm

/-- of each its number -/
noncomputable def nums (l : List σ) : List Nat := l.map (place (distinct l))
theorem nums_length (l : List σ) : (nums l).length = l.length := by simp [nums]
theorem nums_get {l : List σ} {i : Nat} (h : i < l.length) : (nums l)[i]'(by rw [nums_length]; exact h) = place (distinct l) l[i] := by simp [nums]
theorem nums_lt {l : List σ} {i : Nat} (h : i < l.length) : (nums l)[i]'(by rw [nums_length]; exact h) < (distinct l).length := by
  rw [nums_get h]; exact place_lt (distinct_mem.2 (List.getElem_mem h))
theorem nums_eq {l : List σ} {i j : Nat} (hi : i < l.length) (hj : j < l.length) : (nums l)[i]'(by rw [nums_length]; exact hi) = (nums l)[j]'(by rw [nums_length]; exact hj) ↔ l[i] = l[j] := by
  rw [nums_get hi, nums_get hj]
  exact ⟨place_inj (distinct_mem.2 (List.getElem_mem hi)) (distinct_mem.2 (List.getElem_mem hj)), fun h => by rw [h]⟩
/-- the number is known as soon as it is met -/
theorem nums_take {l : List σ} {i : Nat} (h : i < l.length) : place (distinct (l.take i)) l[i] = (nums l)[i]'(by rw [nums_length]; exact h) := by
  rw [nums_get h]
  have e : l = l.take (i + 1) ++ l.drop (i + 1) := (List.take_append_drop _ _).symm
  have h1 : distinct (l.take (i + 1)) = putS (distinct (l.take i)) l[i] := by rw [List.take_succ_eq_append_getElem h, distinct_snoc]
  have h2 : place (distinct l) l[i] = place (distinct (l.take (i + 1))) l[i] := by
    have hp := distinct_pre (l.take (i + 1)) (l.drop (i + 1))
    rw [← e] at hp
    exact place_pre hp (by rw [h1]; exact putS_mem _ _)
  rw [h2, h1, place_put]

theorem sub_len : ∀ (d l : List σ), d.Nodup → (∀ x ∈ d, x ∈ l) → d.length ≤ l.length
  | [], l, _, _ => by simp
  | y :: d, l, hn, hs => by
    rw [List.nodup_cons] at hn
    have hy := hs y (by simp)
    have h := sub_len d (l.erase y) hn.2 (fun x hx => (List.mem_erase_of_ne (fun e => hn.1 (by rw [← e]; exact hx))).2 (hs x (by simp [hx])))
    rw [List.length_erase_of_mem hy] at h
    have := List.length_pos_of_mem hy
    simp only [List.length_cons]
    omega

/-- a map onto as many tells all apart -/
theorem onto_inj {d : List σ} {e : List τ} (g : σ → τ) (hd : d.Nodup) (he : e.Nodup) (hlen : d.length ≤ e.length) (honto : ∀ y ∈ e, ∃ x ∈ d, g x = y) {x x' : σ} (hx : x ∈ d) (hx' : x' ∈ d) (h : g x = g x') : x = x' := by
  by_cases hne : x = x'
  · exact hne
  · have h1 : ∀ y ∈ e, y ∈ (d.erase x).map g := fun y hy => by
      obtain ⟨z, hz, rfl⟩ := honto y hy
      by_cases hzx : z = x
      · subst hzx
        exact List.mem_map.2 ⟨x', (List.mem_erase_of_ne (fun e => hne e.symm)).2 hx', h.symm⟩
      · exact List.mem_map.2 ⟨z, (List.mem_erase_of_ne hzx).2 hz, rfl⟩
    have h2 := sub_len e _ he h1
    rw [List.length_map, List.length_erase_of_mem hx] at h2
    have := List.length_pos_of_mem hx
    omega

/-- If one list of keys tells apart all that the other does, and tells no more values apart: they tell the same apart. -/
theorem nums_stable {l : List σ} {m : List τ} (hlen : l.length = m.length) (hfine : ∀ i j (hi : i < l.length) (hj : j < l.length), l[i] = l[j] → m[i]'(by omega) = m[j]'(by omega)) (hc : (distinct l).length ≤ (distinct m).length) :
    ∀ i j (hi : i < l.length) (hj : j < l.length), m[i]'(by omega) = m[j]'(by omega) → l[i] = l[j] := by
  intro i j hi hj h
  have hpos : 0 < m.length := by omega
  let g : σ → τ := fun x => if hx : x ∈ l then m[place l x]'(by have := place_lt hx; omega) else m[0]
  have hg : ∀ k (hk : k < l.length), g l[k] = m[k]'(by omega) := fun k hk => by
    have hx : l[k] ∈ l := List.getElem_mem hk
    have h1 := place_get hx
    have h2 := place_lt hx
    rw [List.getElem?_eq_getElem h2] at h1
    show (if hx : l[k] ∈ l then m[place l l[k]]'(by have := place_lt hx; omega) else m[0]) = _
    rw [dif_pos hx]
    exact hfine _ _ h2 hk (Option.some.inj h1)
  refine onto_inj g (distinct_nodup l) (distinct_nodup m) hc (fun y hy => ?_) (distinct_mem.2 (List.getElem_mem hi)) (distinct_mem.2 (List.getElem_mem hj)) (by rw [hg i hi, hg j hj, h])
  obtain ⟨k, hk, rfl⟩ := List.getElem_of_mem (distinct_mem.1 hy)
  exact ⟨l[k]'(by omega), distinct_mem.2 (List.getElem_mem _), hg k (by omega)⟩

end
end Go.Proofs.Ytmooflmhbpckjaa
