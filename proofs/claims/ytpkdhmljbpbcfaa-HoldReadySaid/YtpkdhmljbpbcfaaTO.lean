/-
  append of operations to a list of one's own; two holds side by side. No condition beyond what each theorem names.
-/
import Derived.Test.YtpkdhmljbpbcfaaTM
import Derived.Maps.AppendAt
set_option linter.unusedVariables false
set_option linter.unusedSimpArgs false
namespace Go.Proofs.Ytpkdhmljbpbcfaa
open Go.RowKit

/-- what an append leaves: the blocks of the world but v's own row's; the new row is v's or new -/
structure Grew (w w' : World) (v v' : Value) (us : List OpV) (m : Nat) : Prop where
  fr : Fr (fun k => v.ownBlock = some k) w w'
  lies : ∀ k, v'.ownBlock = some k → v.ownBlock = some k ∨ (w.heap.size ≤ k ∧ k < w'.heap.size)
  mine : Mine w' (fun k => v'.ownBlock = some k) v' us
  form : ∃ ad cap, v' = .slice ad m cap

theorem wpList_append_ops {ops : Array Oper} {rest : List Oper} {o : Oper} {a : Act} {w : World} {Q : Exit → Act → World → Prop} (hgd : o.guard = none) (s x : Operand)
    (ho : o.op = .call { callee := .builtin .append, args := #[s, x], argTypes := #[22, 22] }) {Ks : Nat → Prop} (v : Value) (us : List OpV) (hs : a.eval s = v) (hm : Mine w Ks v us)
    (ad : Addr) (m c : Nat) (ns : List OpV) (hx : a.eval x = .slice (some ad) m c) (hl : m = ns.length) (hc : 0 < ns.length → ∃ b off, ad = ⟨b, off, none⟩ ∧ ∀ j (h : j < ns.length), opAt w b (off + j * 7) ns[j])
    (hlen : us.length + ns.length ≤ 1000000) (n' : Nat) (hn' : n' = us.length + m)
    (h : ∀ v' w', Grew w w' v v' (us ++ ns) n' → wpList Try.prog ops Q rest (a.put o.dst v') w') : wpList Try.prog ops Q (o :: rest) a w := by
  subst hl hn'
  obtain ⟨i0, hi, hz0, hz1, hz2⟩ := info_parts info30
  refine wpList_append_own_at (P := Try.prog) w hgd s x 22 ho 0 30 i0 _ 7 56 Try.underlying22 hi hz0 hz1 hz2 rfl (by decide) v us.length (flat us) hs hm.1 ad ns.length c (flat ns) hx (length_flat ns) (fun j u hu => ?_) flat_one (by unfold maxLen; omega) (by omega) (Nat.zero_le _) ?_
  · have hj : j < ns.length * 7 := by rw [← length_flat]; exact (List.getElem?_eq_some_iff.1 hu).1
    obtain ⟨b, off, rfl, hxc⟩ := hc (by omega)
    exact flat_cells hxc j u hu
  · intro v' w' h1 h2 h3 h4
    have hlie : ∀ k, v'.ownBlock = some k → v.ownBlock = some k ∨ (w.heap.size ≤ k ∧ k < w'.heap.size) := by
      intro k hk
      rcases h4 with h4 | h4
      · exact .inl (h4 ▸ hk)
      · right
        obtain rfl : w.heap.size = k := by rw [h4] at hk; exact Option.some.inj hk
        refine ⟨Nat.le_refl _, ?_⟩
        rcases h1.2 with ⟨rfl, -⟩ | ⟨g, cap, cur, rfl, -, h6, -⟩
        · simp [Value.ownBlock] at hk
        · obtain rfl : g = w.heap.size := by simpa [Value.ownBlock] using hk
          exact (Array.getElem?_eq_some_iff.1 h6).1
    refine h v' w' ⟨Fr.grown (F := fun k => v.ownBlock = some k) h2 (fun _ h => h), hlie, ⟨?_, fun _ h => h⟩, ?_⟩
    · rw [show flat (us ++ ns) = flat us ++ flat ns by simp [flat], List.length_append]
      exact h1
    · rcases h1.2 with ⟨rfl, h5⟩ | ⟨g, cap, cur, rfl, h6, -⟩
      · exact ⟨none, 0, by rw [h5]⟩
      · exact ⟨_, _, rfl⟩

/-- blocks that are not the hold's are written, new ones made -/
theorem Has.writ {w0 w w' : World} {Ks Ls : Nat → Prop} {bh : Nat} {room : Int} {xs : List OpV} (h : Has w0 w Ks bh room xs) (G : Nat → Prop) (hG : ∀ k, G k → Ks k) (hf : Fr G w w') (hB : ∀ k, G k → w0.heap.size ≤ k)
    (hl : ∀ k, Ls k → Ks k ∨ (w.heap.size ≤ k ∧ k < w'.heap.size)) : Has w0 w' Ls bh room xs := by
  obtain ⟨h1, ⟨F, v, h2, h3, h4⟩, h5, h6, h7, h8⟩ := h
  refine ⟨h1.trans (hf.below h1.size hB), ⟨F, v, ⟨?_, ?_, h2.own, h2.own', fun k hk => Nat.lt_of_lt_of_le (h2.lt k hk) hf.size, h2.sorted⟩, h3, fun k hk hF => ?_⟩, h5, h6, h7, fun k hk => ?_⟩
  · rw [hf.block bh (h2.lt _ h2.own) (fun hg => h4 _ (hG _ hg) h2.own)]; exact h2.head
  · obtain ⟨r1, r2⟩ := h2.row
    refine ⟨r1, ?_⟩
    rcases r2 with r | ⟨g, cap, cur, rfl, a, b, r⟩
    · exact .inl r
    · exact .inr ⟨g, cap, cur, rfl, a, by rw [hf.block g (h2.lt _ (h2.own' g rfl)) (fun hg => h4 _ (hG _ hg) (h2.own' g rfl))]; exact b, r⟩
  · rcases hl k hk with h | h
    · exact h4 k h hF
    · have := h2.lt k hF; omega
  · rcases hl k hk with h | h
    · exact Nat.lt_of_lt_of_le (h8 k h) hf.size
    · exact h.2

theorem HoldAt.kept {w w' : World} {F : Nat → Prop} {bh : Nat} {room : Int} {v : Value} {xs : List OpV} (h : HoldAt w F bh room v xs) (hs : w.heap.size ≤ w'.heap.size) (hk : ∀ k, F k → w'.heap[k]? = w.heap[k]?) : HoldAt w' F bh room v xs := by
  refine ⟨by rw [hk _ h.own]; exact h.head, ?_, h.own, h.own', fun k hf => Nat.lt_of_lt_of_le (h.lt k hf) hs, h.sorted⟩
  obtain ⟨r1, r2⟩ := h.row
  refine ⟨r1, ?_⟩
  rcases r2 with r | ⟨g, cap, cur, rfl, a, b, r⟩
  · exact .inl r
  · exact .inr ⟨g, cap, cur, rfl, a, by rw [hk g (h.own' g rfl)]; exact b, r⟩

/-- two holds; the blocks Ks are neither's -/
structure Two (w0 w : World) (Ks : Nat → Prop) (b1 : Nat) (r1 : Int) (xs : List OpV) (b2 : Nat) (r2 : Int) (ys : List OpV) : Prop where
  some : ∃ F2 v2, Has w0 w (fun k => Ks k ∨ F2 k) b1 r1 xs ∧ HoldAt w F2 b2 r2 v2 ys ∧ (∀ k, F2 k → w0.heap.size ≤ k) ∧ ∀ k, Ks k → ¬ F2 k
  room0 : 0 ≤ r2
  room1 : r2 ≤ 1000000
  len : ys.length ≤ 1000000

section
variable {w0 w : World} {Ks : Nat → Prop} {b1 b2 : Nat} {r1 r2 : Int} {xs ys : List OpV}

theorem Two.swap (h : Two w0 w Ks b1 r1 xs b2 r2 ys) : Two w0 w Ks b2 r2 ys b1 r1 xs := by
  obtain ⟨⟨F2, v2, h1, h2, h3, h4⟩, h5, h6, h7⟩ := h
  obtain ⟨F1, v1, g2, g3, g4⟩ := h1.some
  refine ⟨⟨F1, v1, ⟨h1.below, ⟨F2, v2, h2, h3, fun k hk hF => ?_⟩, h5, h6, h7, fun k hk => ?_⟩, g2, g3, fun k hk => g4 k (.inl hk)⟩, h1.room0, h1.room1, h1.len⟩
  · rcases hk with hk | hk
    · exact h4 k hk hF
    · exact g4 k (.inr hF) hk
  · rcases hk with hk | hk
    · exact h1.ks k (.inl hk)
    · exact g2.lt k hk

/-- what the first does, the other one beside it -/
theorem Two.on (h : Two w0 w Ks b1 r1 xs b2 r2 ys) : ∃ Ls : Nat → Prop, (∀ k, Ks k → Ls k) ∧ Has w0 w Ls b1 r1 xs ∧
    ∀ w' xs', Has w0 w' Ls b1 r1 xs' → (∀ k, Ls k → w'.heap[k]? = w.heap[k]?) → Two w0 w' Ks b1 r1 xs' b2 r2 ys := by
  obtain ⟨⟨F2, v2, h1, h2, h3, h4⟩, h5, h6, h7⟩ := h
  refine ⟨_, fun k hk => .inl hk, h1, fun w' xs' hh hk => ⟨⟨F2, v2, hh, ⟨by rw [hk _ (.inr h2.own)]; exact h2.head, ?_, h2.own, h2.own', fun k hf => hh.ks k (.inr hf), h2.sorted⟩, h3, h4⟩, h5, h6, h7⟩⟩
  obtain ⟨r1, r2⟩ := h2.row
  refine ⟨r1, ?_⟩
  rcases r2 with r | ⟨g, cap, cur, rfl, a, b, r⟩
  · exact .inl r
  · exact .inr ⟨g, cap, cur, rfl, a, by rw [hk g (.inr (h2.own' g rfl))]; exact b, r⟩

theorem Two.fst (h : Two w0 w Ks b1 r1 xs b2 r2 ys) : Has w0 w Ks b1 r1 xs := by
  obtain ⟨Ls, h1, h2, -⟩ := h.on
  exact h2.less h1

/-- blocks that are neither's are written, new ones made -/
theorem Two.writ {w' : World} {Ls : Nat → Prop} (h : Two w0 w Ks b1 r1 xs b2 r2 ys) (G : Nat → Prop) (hG : ∀ k, G k → Ks k) (hf : Fr G w w') (hB : ∀ k, G k → w0.heap.size ≤ k)
    (hl : ∀ k, Ls k → Ks k ∨ (w.heap.size ≤ k ∧ k < w'.heap.size)) : Two w0 w' Ls b1 r1 xs b2 r2 ys := by
  obtain ⟨⟨F2, v2, h1, h2, h3, h4⟩, h5, h6, h7⟩ := h
  refine ⟨⟨F2, v2, h1.writ G (fun k hk => .inl (hG k hk)) hf hB (fun k hk => ?_), h2.kept hf.size (fun k hk => hf.block k (h2.lt k hk) (fun hg => h4 k (hG k hg) hk)), h3, fun k hk hF => ?_⟩, h5, h6, h7⟩
  · rcases hk with hk | hk
    · rcases hl k hk with h | h
      · exact .inl (.inl h)
      · exact .inr h
    · exact .inl (.inr hk)
  · rcases hl k hk with h | h
    · exact h4 k h hF
    · have := h2.lt k hF; omega

theorem Two.to {w' : World} {Ls : Nat → Prop} (h : Two w0 w Ks b1 r1 xs b2 r2 ys) (hb : Below w.heap.size w w') (hl : ∀ k, Ls k → Ks k ∨ (w.heap.size ≤ k ∧ k < w'.heap.size)) : Two w0 w' Ls b1 r1 xs b2 r2 ys :=
  h.writ (fun _ => False) (fun _ h => h.elim) (Fr.of_below hb _) (fun _ h => h.elim) hl

/-- a second hold is made -/
theorem two_new (h : Has w0 w Ks b1 r1 xs) (room : Int) (g1 : 0 ≤ room) (g2 : room ≤ 1000000) : Calls Try.prog 10 #[.int .i64 room] w fun e w' => e = .returned (.pointer (some ⟨w.heap.size, 0, none⟩)) ∧ Below w.heap.size w w' ∧ Two w0 w' Ks b1 r1 xs w.heap.size room [] :=
  (new_any w room).mono fun e w' ⟨he, hb, hh⟩ => ⟨he, hb, ⟨⟨_, _, h.more hb (Ls := fun k => Ks k ∨ k = w.heap.size) (fun k hk => hk.imp id (fun e => ⟨by omega, by rw [e]; exact (hh.lt _ hh.own)⟩)), by rwa [show max room 0 = room by omega] at hh, fun k hk => by have := h.below.size; omega, fun k hk e => by have := h.ks k hk; omega⟩, g1, g2, by simp⟩⟩
end
end Go.Proofs.Ytpkdhmljbpbcfaa
