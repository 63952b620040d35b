/-
  A machine in memory; states are added and joined. No condition beyond what each theorem names.
-/
import Derived.Test.YtmooflmhbpckjaaKR
import Derived.Test.YtmooflmhbpckjaaNP
set_option linter.unusedVariables false
set_option linter.unusedSimpArgs false
namespace Go.Proofs.Ytmooflmhbpckjaa
open Go.RowKit

/-- a state, and its two slices as they lie -/
structure Laid where
  s : Sta
  fv : Value
  tv : Value

def laidE (x : Laid) (row : List Value) : Prop := row = [x.fv, .bool x.s.set, x.tv]

/-- no list of states to go to lies in the block of another one, or in that of classes -/
def Apart (Ls : List Laid) : Prop :=
  (∀ i j (hi : i < Ls.length) (hj : j < Ls.length), i ≠ j → ∀ k, Ls[i].fv.ownBlock = some k → Ls[j].fv.ownBlock ≠ some k) ∧
  (∀ x ∈ Ls, ∀ y ∈ Ls, ∀ k, x.fv.ownBlock = some k → y.tv.ownBlock ≠ some k)

/-- a machine that is being laid -/
def Mach (base : Nat) (w : World) (m : Nat) (L : List Sta) (first last : Int) : Prop :=
  ∃ (lv : Value) (Ls : List Laid), base ≤ m ∧ w.heap[m]? = some (.cells #[lv, .int .i64 first, .int .i64 last] 112) ∧ Ls.map (·.s) = L ∧ OwnL laidE 146 3 base w lv Ls ∧
    (∀ x ∈ Ls, OwnL intE 3 1 base w x.fv x.s.free ∧ OwnL intE 3 1 base w x.tv x.s.takes) ∧ Apart Ls

theorem laidE.cells {base : Nat} {w : World} {x : Laid} (h : OwnL intE 3 1 base w x.fv x.s.free) (ht : OwnL intE 3 1 base w x.tv x.s.takes) : [x.fv, .bool x.s.set, x.tv].length = 3 ∧ ∀ u ∈ [x.fv, .bool x.s.set, x.tv], u.oneCell' = true := by
  obtain ⟨p, c, hf⟩ := h.form
  obtain ⟨q, d, hd⟩ := ht.form
  refine ⟨rfl, fun u hu => ?_⟩
  simp at hu
  rcases hu with rfl | rfl | rfl
  · rw [hf]; rfl
  · rfl
  · rw [hd]; rfl

theorem grown_ne {w w' : World} {base sz : Nat} {α : Type} {E : α → List Value → Prop} {T : TypeId} {v : Value} {xs : List α} {r : Option Nat} (h : OwnL E T sz base w v xs) (hg : w.grownBy w' r) (hn : ∀ k, r = some k → v.ownBlock ≠ some k) : OwnL E T sz base w' v xs :=
  h.fr (Fr.grown (F := fun k => r = some k) hg (fun _ h => h)) (fun k hk he => hn k he hk)

/-- own lists of unlike types lie apart -/
theorem OwnL.apart {α β : Type} {E : α → List Value → Prop} {F : β → List Value → Prop} {T U : TypeId} {sz sy base base' : Nat} {w : World} {v u : Value} {xs : List α} {ys : List β} (h : OwnL E T sz base w v xs) (k : OwnL F U sy base' w u ys) (hne : T ≠ U) : ∀ g, v.ownBlock = some g → u.ownBlock ≠ some g := by
  obtain ⟨_, ⟨-, h⟩, -⟩ := h
  obtain ⟨_, ⟨-, k⟩, -⟩ := k
  intro g hg hu
  rcases h with ⟨rfl, -⟩ | ⟨g1, c1, cur1, rfl, -, h1, -⟩
  · cases hg
  · rcases k with ⟨rfl, -⟩ | ⟨g2, c2, cur2, rfl, -, h2, -⟩
    · cases hu
    · simp only [Value.ownBlock, Option.some.injEq] at hg hu
      subst hg hu
      rw [h1] at h2
      cases h2
      exact hne rfl

theorem OwnL.based {α : Type} {E : α → List Value → Prop} {T : TypeId} {sz B base : Nat} {w : World} {v : Value} {xs : List α} (h : OwnL E T sz B w v xs) (hb : base ≤ B) : OwnL E T sz base w v xs := by
  obtain ⟨rows, ⟨h1, h2⟩, h3⟩ := h
  refine ⟨rows, ⟨h1, ?_⟩, h3⟩
  rcases h2 with h2 | ⟨g, cap, cur, rfl, hg, h4⟩
  · exact .inl h2
  · exact .inr ⟨g, cap, cur, rfl, Nat.le_trans hb hg, h4⟩

/-- a block of another type is no own list's -/
theorem OwnL.notAt {α : Type} {E : α → List Value → Prop} {T U : TypeId} {sz base m : Nat} {w : World} {v : Value} {xs : List α} {cs : Array Value} (h : OwnL E T sz base w v xs) (hb : w.heap[m]? = some (.cells cs U)) (hne : T ≠ U) : v.ownBlock ≠ some m := by
  obtain ⟨_, ⟨-, h⟩, -⟩ := h
  intro hm
  rcases h with ⟨rfl, -⟩ | ⟨g1, c1, cur1, rfl, -, h1, -⟩
  · cases hm
  · simp only [Value.ownBlock, Option.some.injEq] at hm
    subst hm
    rw [h1] at hb
    cases hb
    exact hne rfl

/-- blocks that hold expressions are as they were -/
def KeepN (w w' : World) : Prop := ∀ (k : Nat) (cur : Array Value), w.heap[k]? = some (.cells cur 49) → w'.heap[k]? = some (.cells cur 49)

theorem KeepN.refl (w : World) : KeepN w w := fun _ _ h => h
theorem KeepN.trans {a b c : World} (h : KeepN a b) (g : KeepN b c) : KeepN a c := fun k cur hk => g k cur (h k cur hk)
theorem KeepN.of_below {w w' : World} (h : Below w.heap.size w w') : KeepN w w' := fun k cur hk => (h.block k (at_lt hk)).trans hk
theorem KeepN.of_fr {F : Nat → Prop} {w w' : World} (h : Fr F w w') (hn : ∀ k (cur : Array Value), w.heap[k]? = some (.cells cur 49) → ¬ F k) : KeepN w w' := fun k cur hk => (h.block k (at_lt hk) (hn k cur hk)).trans hk
theorem KeepN.of_own {α : Type} {E : α → List Value → Prop} {T : TypeId} {sz base : Nat} {w w' : World} {v u : Value} {xs : List α} (h : OwnL E T sz base w v xs) (hne : T ≠ 49) (hf : Fr (fun k => u.ownBlock = some k) w w') (hu : u = v) : KeepN w w' :=
  KeepN.of_fr hf fun k cur hk he => h.notAt hk hne (by rw [← hu]; exact he)
theorem KeepN.of_at {w w' : World} {m : Nat} {cs : Array Value} {T : TypeId} (h : w.heap[m]? = some (.cells cs T)) (hne : T ≠ 49) (hf : Fr (fun k => k = m) w w') : KeepN w w' :=
  KeepN.of_fr hf fun k cur hk he => by
    have he : k = m := he
    rw [he, h] at hk
    cases hk
    exact hne rfl

theorem ownL_ints {base : Nat} {T : TypeId} {w : World} {v : Value} {xs : List Int} (h : w.ownsRow base T 1 v xs.length (xs.map (Value.int .i64))) : OwnL intE T 1 base w v xs := by
  refine ⟨xs.map fun x => [.int .i64 x], ?_, by simp, fun r hr => ?_, fun i hi => ⟨_, by simp [hi], rfl⟩⟩
  · have : (xs.map fun x => [Value.int .i64 x]).flatten = xs.map (Value.int .i64) := by
      clear h
      induction xs with
      | nil => rfl
      | cons x r ih => simp [ih]
    rw [this]; exact h
  · obtain ⟨x, -, rfl⟩ := List.mem_map.1 hr
    simp [Value.oneCell']
end Go.Proofs.Ytmooflmhbpckjaa
