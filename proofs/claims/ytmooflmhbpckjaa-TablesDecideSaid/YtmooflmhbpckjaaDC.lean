/-
  dfa, plain: states that tell the same of all rows. No program, no condition beyond what each theorem names.
-/
import Derived.Test.YtmooflmhbpckjaaDB
set_option linter.unusedVariables false
set_option linter.unusedSimpArgs false
namespace Go.Proofs.Ytmooflmhbpckjaa
open Classical

section
variable {β σ τ : Type}

theorem nodup_map_on {f : σ → τ} : ∀ {l : List σ}, l.Nodup → (∀ x ∈ l, ∀ y ∈ l, f x = f y → x = y) → (l.map f).Nodup
  | [], _, _ => by simp
  | x :: l, h, hf => by
    rw [List.nodup_cons] at h
    rw [List.map_cons, List.nodup_cons]
    refine ⟨fun hm => ?_, nodup_map_on h.2 (fun a ha b hb => hf a (by simp [ha]) b (by simp [hb]))⟩
    obtain ⟨y, hy, e⟩ := List.mem_map.1 hm
    exact h.1 (hf y (by simp [hy]) x (by simp) e ▸ hy)

theorem nums_count (l : List σ) : (distinct l).length ≤ (distinct (nums l)).length := by
  have h1 : ((distinct l).map (place (distinct l))).Nodup := nodup_map_on (distinct_nodup l) (fun x hx y hy => place_inj hx hy)
  have h2 := sub_len _ (distinct (nums l)) h1 (fun n hn => by
    obtain ⟨x, hx, rfl⟩ := List.mem_map.1 hn
    exact distinct_mem.2 (List.mem_map.2 ⟨x, distinct_mem.1 hx, rfl⟩))
  rwa [List.length_map] at h2

def at0 (p : List Nat) (i : Nat) : Nat := p[i]?.getD 0

/-- of each state its number and those of where it goes -/
def keysL (N : List (List Nat)) (p : List Nat) : List (List Nat) := N.mapIdx fun i row => at0 p i :: row.map (at0 p)

/-- the ways are of states that there are -/
structure OkN (N : List (List Nat)) (O : List β) (classes : Nat) : Prop where
  len : N.length = O.length
  row : ∀ r ∈ N, r.length = classes ∧ ∀ n ∈ r, n < N.length

/-- where a class leads -/
def goN (N : List (List Nat)) (i c : Nat) : Nat := at0 (N[i]?.getD []) c
def runN (N : List (List Nat)) : Nat → List Nat → Nat
  | i, [] => i
  | i, c :: t => runN N (goN N i c) t

theorem OkN.go {N : List (List Nat)} {O : List β} {classes i c : Nat} (h : OkN N O classes) (hi : i < N.length) (hc : c < classes) : goN N i c < N.length := by
  unfold goN at0
  rw [List.getElem?_eq_getElem hi]
  have hr := h.row _ (List.getElem_mem hi)
  have hc' : c < N[i].length := by rw [hr.1]; exact hc
  simp only [Option.getD_some]
  rw [List.getElem?_eq_getElem hc']
  exact hr.2 _ (List.getElem_mem hc')

/-- the numbers, k times made finer -/
noncomputable def partsN (N : List (List Nat)) (O : List β) : Nat → List Nat
  | 0 => nums O
  | k + 1 => nums (keysL N (partsN N O k))

theorem keysL_length (N : List (List Nat)) (p : List Nat) : (keysL N p).length = N.length := by simp [keysL]
theorem partsN_length {N : List (List Nat)} {O : List β} {classes : Nat} (h : OkN N O classes) : ∀ k, (partsN N O k).length = N.length
  | 0 => by rw [partsN, nums_length, h.len]
  | k + 1 => by rw [partsN, nums_length, keysL_length]

theorem keysL_get {N : List (List Nat)} {p : List Nat} {i : Nat} (hi : i < N.length) : (keysL N p)[i]'(by rw [keysL_length]; exact hi) = at0 p i :: N[i].map (at0 p) := by simp [keysL]

theorem keys_eq {N : List (List Nat)} {O : List β} {classes : Nat} (h : OkN N O classes) {p : List Nat} {i j : Nat} (hi : i < N.length) (hj : j < N.length) :
    (keysL N p)[i]'(by rw [keysL_length]; exact hi) = (keysL N p)[j]'(by rw [keysL_length]; exact hj) ↔ at0 p i = at0 p j ∧ ∀ c, c < classes → at0 p (goN N i c) = at0 p (goN N j c) := by
  rw [keysL_get hi, keysL_get hj, List.cons.injEq]
  have ri := h.row _ (List.getElem_mem hi)
  have rj := h.row _ (List.getElem_mem hj)
  have e : ∀ k (hk : k < N.length) c, c < classes → (N[k].map (at0 p))[c]? = some (at0 p (goN N k c)) := fun k hk c hc => by
    have rk := h.row _ (List.getElem_mem hk)
    have hc' : c < N[k].length := by rw [rk.1]; exact hc
    unfold goN
    rw [List.getElem?_map, List.getElem?_eq_getElem hk, Option.getD_some]
    show _ = some (at0 p (N[k][c]?.getD 0))
    rw [List.getElem?_eq_getElem hc']
    rfl
  refine and_congr_right fun _ => ⟨fun hm c hc => ?_, fun hm => ?_⟩
  · have h1 := e i hi c hc
    rw [hm, e j hj c hc] at h1
    exact (Option.some.inj h1).symm
  · apply List.ext_getElem?
    intro c
    by_cases hc : c < classes
    · rw [e i hi c hc, e j hj c hc, hm c hc]
    · rw [List.getElem?_eq_none (by rw [List.length_map, ri.1]; omega), List.getElem?_eq_none (by rw [List.length_map, rj.1]; omega)]

theorem at0_nums {l : List σ} {i j : Nat} (hi : i < l.length) (hj : j < l.length) : at0 (nums l) i = at0 (nums l) j ↔ l[i] = l[j] := by
  unfold at0
  rw [List.getElem?_eq_getElem (by rw [nums_length]; exact hi), List.getElem?_eq_getElem (by rw [nums_length]; exact hj)]
  exact nums_eq hi hj

theorem parts_succ {N : List (List Nat)} {O : List β} {classes : Nat} (h : OkN N O classes) (k : Nat) {i j : Nat} (hi : i < N.length) (hj : j < N.length) :
    at0 (partsN N O (k + 1)) i = at0 (partsN N O (k + 1)) j ↔ at0 (partsN N O k) i = at0 (partsN N O k) j ∧ ∀ c, c < classes → at0 (partsN N O k) (goN N i c) = at0 (partsN N O k) (goN N j c) := by
  rw [partsN, at0_nums (by rw [keysL_length]; exact hi) (by rw [keysL_length]; exact hj)]
  exact keys_eq h hi hj

/-- the numbers tell apart what rows so long tell apart -/
theorem parts_iff {N : List (List Nat)} {O : List β} {classes : Nat} (h : OkN N O classes) : ∀ (k : Nat) {i j : Nat}, i < N.length → j < N.length →
    (at0 (partsN N O k) i = at0 (partsN N O k) j ↔ ∀ t : List Nat, t.length ≤ k → (∀ c ∈ t, c < classes) → O[runN N i t]? = O[runN N j t]?)
  | 0, i, j, hi, hj => by
    have hio : i < O.length := by rw [← h.len]; exact hi
    have hjo : j < O.length := by rw [← h.len]; exact hj
    rw [partsN, at0_nums hio hjo]
    constructor
    · intro e t ht _
      obtain rfl : t = [] := List.eq_nil_of_length_eq_zero (by omega)
      rw [runN, runN, List.getElem?_eq_getElem hio, List.getElem?_eq_getElem hjo, e]
    · intro e
      have := e [] (by simp) (by simp)
      rw [runN, runN, List.getElem?_eq_getElem hio, List.getElem?_eq_getElem hjo] at this
      exact Option.some.inj this
  | k + 1, i, j, hi, hj => by
    rw [parts_succ h k hi hj, parts_iff h k hi hj]
    constructor
    · rintro ⟨h1, h2⟩ t ht hc
      cases t with
      | nil => exact h1 [] (by simp) hc
      | cons c t =>
        have hcc := hc c (by simp)
        simp only [List.length_cons] at ht
        exact (parts_iff h k (h.go hi hcc) (h.go hj hcc)).1 (h2 c hcc) t (by omega) (fun d hd => hc d (by simp [hd]))
    · intro h1
      refine ⟨fun t ht hc => h1 t (by omega) hc, fun c hcc => (parts_iff h k (h.go hi hcc) (h.go hj hcc)).2 fun t ht hc => ?_⟩
      exact h1 (c :: t) (by simp; omega) (fun d hd => by rcases List.mem_cons.1 hd with rfl | hd; exact hcc; exact hc d hd)

/-- two states tell the same of all rows -/
def TellSame (N : List (List Nat)) (O : List β) (classes : Nat) (i j : Nat) : Prop := ∀ t : List Nat, (∀ c ∈ t, c < classes) → O[runN N i t]? = O[runN N j t]?

/-- once it is no finer it is the last one -/
theorem parts_last {N : List (List Nat)} {O : List β} {classes k : Nat} (h : OkN N O classes) (hc : (distinct (keysL N (partsN N O k))).length ≤ (distinct (partsN N O k)).length) {i j : Nat} (hi : i < N.length) (hj : j < N.length) :
    at0 (partsN N O k) i = at0 (partsN N O k) j ↔ TellSame N O classes i j := by
  have hl := partsN_length h k
  have hst : ∀ i j, i < N.length → j < N.length → at0 (partsN N O k) i = at0 (partsN N O k) j → at0 (partsN N O (k + 1)) i = at0 (partsN N O (k + 1)) j := fun i j hi hj e => by
    rw [partsN, at0_nums (by rw [keysL_length]; exact hi) (by rw [keysL_length]; exact hj)]
    have hs := nums_stable (l := keysL N (partsN N O k)) (m := partsN N O k) (by rw [keysL_length, hl]) (fun a b ha hb hab => by
      rw [keysL_length] at ha hb
      have := ((keys_eq h ha hb).1 hab).1
      unfold at0 at this
      rwa [List.getElem?_eq_getElem (by omega), List.getElem?_eq_getElem (by omega)] at this) hc
    refine hs i j (by rw [keysL_length]; exact hi) (by rw [keysL_length]; exact hj) ?_
    unfold at0 at e
    rwa [List.getElem?_eq_getElem (by omega), List.getElem?_eq_getElem (by omega)] at e
  constructor
  · intro e t
    induction t generalizing i j with
    | nil => intro hcl; exact (parts_iff h k hi hj).1 e [] (by simp) hcl
    | cons c t ih =>
      intro hcl
      have hcc := hcl c (by simp)
      exact ih (h.go hi hcc) (h.go hj hcc) (((parts_succ h k hi hj).1 (hst i j hi hj e)).2 c hcc) (fun d hd => hcl d (by simp [hd]))
  · intro e
    exact (parts_iff h k hi hj).2 fun t _ hcl => e t hcl

end
end Go.Proofs.Ytmooflmhbpckjaa
