/-
  Laws on append for this chapter's lists; what the statements' first calls leave. No condition beyond what each theorem names.
-/
import Derived.Test.YtphgjppeindbaaaN
set_option linter.unusedVariables false
set_option linter.unusedSimpArgs false
namespace Go.Proofs.Ytphgjppeindbaaa
open Go.RowKit

section
variable {ops : Array Oper} {rest : List Oper} {o : Oper} {a : Act} {w : World} {Q : Exit → Act → World → Prop} {base : Nat}

theorem wpList_append_rules {E : Rl → List Value → Prop} (hgd : o.guard = none) (s x : Operand) (ho : o.op = .call { callee := .builtin .append, args := #[s, x], argTypes := #[22, 22] })
    (v : Value) (xs : List Rl) (hs : a.eval s = v) (hown : OwnL E 35 8 base w v xs) (xv : Value) (ns : List Rl) (hx : a.eval x = xv) (hr : ReadL E 8 w xv ns) (hlen : xs.length + ns.length ≤ 1000000) (hbase : base ≤ w.heap.size)
    (h : ∀ p c w', OwnL E 35 8 base w' (.slice p (xs.length + ns.length) c) (xs ++ ns) → w.grownBy w' v.ownBlock → ((Value.slice p (xs.length + ns.length) c).ownBlock = v.ownBlock ∨ (Value.slice p (xs.length + ns.length) c).ownBlock = some w.heap.size) → wpList Try.prog ops Q rest (a.put o.dst (.slice p (xs.length + ns.length) c)) w') : wpList Try.prog ops Q (o :: rest) a w := by
  obtain ⟨i0, hi, hz0, hz1, hz2⟩ := info_parts infoRule
  exact wpList_append_L hgd s x 22 ho i0 _ 120 Try.underlying22 hi hz0 hz1 hz2 rfl (by decide) v xs hs hown xv ns hx hr (by unfold maxLen; omega) (by omega) hbase h

theorem wpList_append_ints (hgd : o.guard = none) (s x : Operand) (ho : o.op = .call { callee := .builtin .append, args := #[s, x], argTypes := #[23, 23] })
    (v : Value) (xs : List Int) (hs : a.eval s = v) (hown : OwnL intE 3 1 base w v xs) (xv : Value) (ns : List Int) (hx : a.eval x = xv) (hr : ReadL intE 1 w xv ns) (hlen : xs.length + ns.length ≤ 1000000) (hbase : base ≤ w.heap.size)
    (h : ∀ p c w', OwnL intE 3 1 base w' (.slice p (xs.length + ns.length) c) (xs ++ ns) → w.grownBy w' v.ownBlock → ((Value.slice p (xs.length + ns.length) c).ownBlock = v.ownBlock ∨ (Value.slice p (xs.length + ns.length) c).ownBlock = some w.heap.size) → wpList Try.prog ops Q rest (a.put o.dst (.slice p (xs.length + ns.length) c)) w') : wpList Try.prog ops Q (o :: rest) a w := by
  obtain ⟨i0, hi, hz0, hz1, hz2⟩ := info_parts infoInt
  exact wpList_append_L hgd s x 23 ho i0 _ 8 Try.underlying23 hi hz0 hz1 hz2 rfl (by decide) v xs hs hown xv ns hx hr (by unfold maxLen; omega) (by omega) hbase h
end

theorem abs_plan {P : Program} {ops : Array Oper} {S : World → Prop} {Q : Exit → Act → World → Prop} {p : Plan} {a : Act} {w : World} (h : ∀ W, W = w → Plan.wp P ops S Q p a W) : Plan.wp P ops S Q p a w := h w rfl

theorem below_alloc1 (W : World) (o : Obj) : Below W.heap.size W (W.alloc o) := (Below.refl _ _).alloc (Nat.le_refl _) _

/-- an empty list of one's own, in a new block -/
theorem OwnL.made {α : Type} {E : α → List Value → Prop} {T : TypeId} {sz base : Nat} (w : World) (hb : base ≤ w.heap.size) : OwnL E T sz base (w.alloc (.cells #[] T)) (.slice (some ⟨w.heap.size, 0, none⟩) 0 0) [] :=
  ⟨[], World.ownsRow_made w #[] 0 hb (by unfold maxLen; omega) (by simp), rfl, by simp, fun i h => by simp at h⟩

/-- one element, in a new block -/
theorem ReadL.one {α : Type} {E : α → List Value → Prop} {sz : Nat} (w : World) (T : TypeId) (x : α) (row : List Value) (h1 : row.length = sz ∧ ∀ u ∈ row, u.oneCell' = true) (h2 : E x row) : ReadL E sz (w.alloc (.cells row.toArray T)) (.slice (some ⟨w.heap.size, 0, none⟩) 1 1) [x] :=
  ReadL.block (cs := row) (heap_alloc_new w _) [x] [row] (by simp) rfl rfl (fun r hr => by rw [List.mem_singleton.1 hr]; exact h1) (fun i hi => by
    obtain rfl : i = 0 := by simpa using hi
    exact ⟨row, rfl, h2⟩)

theorem ReadL.fr {α : Type} {E : α → List Value → Prop} {sz : Nat} {w w' : World} {v : Value} {xs : List α} {G : Nat → Prop} (h : ReadL E sz w v xs) (hf : Fr G w w') (hn : ∀ k, v.ownBlock = some k → ¬ G k) : ReadL E sz w' v xs := by
  obtain ⟨rows, h1, h2, h3, h4⟩ := h
  exact ⟨rows, h1.fr hf (fun _ => hn), h2, h3, h4⟩

/-- a list read apart from the one that grew -/
theorem ReadL.grown {α : Type} {E : α → List Value → Prop} {sz : Nat} {w w' : World} {v : Value} {xs : List α} {r : Option Nat} (h : ReadL E sz w v xs) (hg : w.grownBy w' r) (hn : ∀ k, v.ownBlock = some k → r ≠ some k) : ReadL E sz w' v xs :=
  h.fr (Fr.grown (F := fun k => r = some k) hg (fun _ h => h)) (fun k hk => hn k hk)

/-- one element of one's own, in a new block -/
theorem OwnL.block1 {α : Type} {E : α → List Value → Prop} {sz base : Nat} (w : World) (T : TypeId) (x : α) (row : List Value) (h1 : row.length = sz ∧ ∀ u ∈ row, u.oneCell' = true) (h2 : E x row) (hb : base ≤ w.heap.size) : OwnL E T sz base (w.alloc (.cells row.toArray T)) (.slice (some ⟨w.heap.size, 0, none⟩) 1 1) [x] :=
  ⟨[row], by simpa using World.ownsRow_lit (e := T) (size := sz) w row.toArray 1 hb (by unfold maxLen; omega) (by simp [h1.1]), rfl, fun r hr => by rw [List.mem_singleton.1 hr]; exact h1, fun i hi => by
    obtain rfl : i = 0 := by simpa using hi
    exact ⟨row, rfl, h2⟩⟩

theorem fewR_len (rs : List Rl) : (fewR rs).length ≤ 10 := Nat.le_trans (List.length_filter_le _ _) (by simp; omega)

theorem nodeZ (w : World) : NodeIs w (.mk 0 [] []) (.int .i64 0) (.slice none 0 0) (.slice none 0 0) := by
  rw [nodeIs_iff]
  exact ⟨rfl, Ints.nil _, by unfold R; simp, by unfold R; simp, [], ⟨by simp, none, 0, rfl, by simp, fun h => by simp at h⟩, rfl, fun i h => by simp at h⟩

/-- the rule that fits anywhere -/
def rZ : Rl := ⟨.mk 0 [] [], .mk 0 [] [], false, false⟩
theorem ruleZ (w : World) : RuleIs w rZ [.int .i64 0, .slice none 0 0, .slice none 0 0, .int .i64 0, .slice none 0 0, .slice none 0 0, .bool false, .bool false] := ⟨_, _, _, _, _, _, rfl, nodeZ w, nodeZ w⟩
theorem fitsZ {t : List Int} {p : Nat} (hp : p ≤ t.length) : fitsB rZ t p = true := fitsB_iff.2 ⟨by omega, by omega, ⟨p, (M_0 _ _).2 (by simp), fun h => by cases h⟩, p, hp, (M_0 _ _).2 (by simp)⟩

theorem Rules.nil (w : World) : Rules w (.slice none 0 0) [] := ⟨[], ⟨by simp, none, 0, rfl, by simp, fun h => by simp at h⟩, rfl, fun i h => by simp at h⟩

/-- what the first rule that fits says, or d -/
def brkOr (d : Bool) : Option Rl → Bool | some r => r.brk | none => d
theorem bnd_in {rs : List Rl} {t : List Int} {k : Nat} (h1 : 0 < k) (h2 : k < t.length) : bndB rs t k = brkOr true (rs.find? (fun r => fitsB r t k)) := by
  rw [bnd_mid h1 h2]; cases rs.find? (fun r => fitsB r t k) <;> rfl
theorem find_append_one {q : Rl → Bool} {l : List Rl} {x : Rl} (hx : q x = true) : brkOr true ((l ++ [x]).find? q) = brkOr x.brk (l.find? q) := by
  rw [List.find?_append]
  cases h : l.find? q with
  | some r => rfl
  | none => simp [List.find?, hx, brkOr]
theorem find_append_no {q : Rl → Bool} {l : List Rl} {x : Rl} (hx : q x = false) : (l ++ [x]).find? q = l.find? q := by
  rw [List.find?_append]
  cases h : l.find? q with
  | some r => rfl
  | none => simp [List.find?, hx]

theorem bnds_length (rs : List Rl) (t : List Int) : (bnds rs t).length = t.length + 1 := by simp [bnds]
theorem bnds_get (rs : List Rl) (t : List Int) {k : Nat} (h : k < (bnds rs t).length) : (bnds rs t)[k] = bndB rs t k := by simp [bnds]

/-- the answers of Boundaries, place by place -/
theorem Bools.bnds {w : World} {v : Value} {rs : List Rl} {t : List Int} (h : Bools w v (bnds rs t)) : ∃ b off c, v = .slice (some ⟨b, off, none⟩) (t.length + 1) c ∧ t.length + 1 ≤ c ∧ b < w.heap.size ∧ ∀ k, k ≤ t.length → w.cell? ⟨b, off + k, none⟩ = some (.bool (bndB rs t k)) := by
  obtain ⟨p, c, rfl, hc, hx⟩ := h.get
  obtain ⟨b, off, rfl, hb, hy⟩ := hx (by rw [bnds_length]; omega)
  rw [bnds_length] at hc ⊢
  refine ⟨b, off, c, rfl, hc, hb, fun k hk => ?_⟩
  have hk' : k < (Proofs.Ytphgjppeindbaaa.bnds rs t).length := by rw [bnds_length]; omega
  have := hy k hk'
  rwa [bnds_get] at this
end Go.Proofs.Ytphgjppeindbaaa
