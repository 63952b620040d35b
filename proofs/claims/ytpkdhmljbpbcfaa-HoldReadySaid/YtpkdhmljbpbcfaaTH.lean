/-
  A hold that was made since a world. No condition beyond what each theorem names.
-/
import Derived.Test.YtpkdhmljbpbcfaaTF
set_option linter.unusedVariables false
set_option linter.unusedSimpArgs false
namespace Go.Proofs.Ytpkdhmljbpbcfaa
open Go.RowKit

/-- a hold that was made since w0; none of its blocks is one of Ks -/
structure Has (w0 w : World) (Ks : Nat → Prop) (bh : Nat) (room : Int) (xs : List OpV) : Prop where
  below : Below w0.heap.size w0 w
  some : ∃ F v, HoldAt w F bh room v xs ∧ (∀ k, F k → w0.heap.size ≤ k) ∧ ∀ k, Ks k → ¬ F k
  room0 : 0 ≤ room
  room1 : room ≤ 1000000
  len : xs.length ≤ 1000000
  ks : ∀ k, Ks k → k < w.heap.size

/-- a call's end: the hold has these; the blocks Ks hold what they held -/
structure End (w0 w : World) (Ks : Nat → Prop) (bh : Nat) (room : Int) (xs : List OpV) (e0 : Ending) (e : Ending) (w' : World) : Prop where
  ends : e = e0
  has : Has w0 w' Ks bh room xs
  size : w.heap.size ≤ w'.heap.size
  kept : ∀ k, Ks k → w'.heap[k]? = w.heap[k]?

theorem End.op {w0 w w' : World} {Ks : Nat → Prop} {bh : Nat} {room : Int} {xs : List OpV} {e0 e : Ending} (h : End w0 w Ks bh room xs e0 e w') {b off : Nat} {o : OpV} (hb : Ks b) (ho : opAt w b off o) : opAt w' b off o := by
  unfold opAt at *
  simp only [World.cell?, h.kept b hb] at *
  exact ho

theorem Has.to {w0 w w' : World} {Ks : Nat → Prop} {bh : Nat} {room : Int} {xs : List OpV} (h : Has w0 w Ks bh room xs) (hb : Below w.heap.size w w') : Has w0 w' Ks bh room xs := by
  obtain ⟨h1, ⟨F, v, h2, h3, h4⟩, h5, h6, h7, h8⟩ := h
  exact ⟨h1.trans (hb.mono h1.size), ⟨F, v, h2.below hb, h3, h4⟩, h5, h6, h7, fun k hk => Nat.lt_of_lt_of_le (h8 k hk) hb.size⟩

theorem Has.end {w0 w w' : World} {Ks : Nat → Prop} {bh : Nat} {room : Int} {xs : List OpV} (h : Has w0 w Ks bh room xs) (hb : Below w.heap.size w w') (e : Ending) : End w0 w Ks bh room xs e e w' :=
  ⟨rfl, h.to hb, hb.size, fun k hk => hb.block k (h.ks k hk)⟩

theorem Has.more {w0 w : World} {Ks : Nat → Prop} {bh : Nat} {room : Int} {xs : List OpV} (h : Has w0 w Ks bh room xs) {Ls : Nat → Prop} {w' : World} (hb : Below w.heap.size w w') (hl : ∀ k, Ls k → Ks k ∨ (w.heap.size ≤ k ∧ k < w'.heap.size)) : Has w0 w' Ls bh room xs := by
  obtain ⟨h1, ⟨F, v, h2, h3, h4⟩, h5, h6, h7, h8⟩ := h
  refine ⟨h1.trans (hb.mono h1.size), ⟨F, v, h2.below hb, h3, fun k hk hf => ?_⟩, h5, h6, h7, fun k hk => ?_⟩
  · rcases hl k hk with h | h
    · exact h4 k h hf
    · have := h2.lt k hf; omega
  · rcases hl k hk with h | h
    · exact Nat.lt_of_lt_of_le (h8 k h) hb.size
    · exact h.2

/-- blocks that are not the hold's are written -/
theorem Has.keep {w0 w w' : World} {Ks : Nat → Prop} {bh : Nat} {room : Int} {xs : List OpV} (h : Has w0 w Ks bh room xs) (G : Nat → Prop) (hG : ∀ k, G k → Ks k) (hf : Fr G w w') (hB : ∀ k, G k → w0.heap.size ≤ k) : Has w0 w' Ks bh room xs := by
  obtain ⟨h1, ⟨F, v, h2, h3, h4⟩, h5, h6, h7, h8⟩ := h
  refine ⟨h1.trans (hf.below h1.size hB), ⟨F, v, ⟨?_, ?_, h2.own, h2.own', fun k hk => Nat.lt_of_lt_of_le (h2.lt k hk) hf.size, h2.sorted⟩, h3, h4⟩, h5, h6, h7, fun k hk => Nat.lt_of_lt_of_le (h8 k hk) hf.size⟩
  · rw [hf.block bh (h2.lt _ h2.own) (fun hg => h4 _ (hG _ hg) h2.own)]; exact h2.head
  · obtain ⟨r1, r2⟩ := h2.row
    refine ⟨r1, ?_⟩
    rcases r2 with r | ⟨g, cap, cur, rfl, a, b, r⟩
    · exact .inl r
    · exact .inr ⟨g, cap, cur, rfl, a, by rw [hf.block g (h2.lt _ (h2.own' g rfl)) (fun hg => h4 _ (hG _ hg) (h2.own' g rfl))]; exact b, r⟩

theorem HoldPost.end {w0 w w' : World} {Ks : Nat → Prop} {bh : Nat} {room : Int} {xs ys : List OpV} {F : Nat → Prop} {e0 e : Ending} (h : Has w0 w Ks bh room xs) (h3 : ∀ k, F k → w0.heap.size ≤ k) (h4 : ∀ k, Ks k → ¬ F k)
    (hp : HoldPost w F bh room ys e0 e w') (hy : ys.length ≤ 1000000) : End w0 w Ks bh room ys e0 e w' := by
  obtain ⟨rfl, hf, v', hh⟩ := hp
  refine ⟨rfl, ⟨h.below.trans (hf.below h.below.size h3), ⟨_, v', hh, fun k hk => ?_, fun k hk hg => ?_⟩, h.room0, h.room1, hy, fun k hk => Nat.lt_of_lt_of_le (h.ks k hk) hf.size⟩, hf.size, fun k hk => hf.block k (h.ks k hk) (h4 k hk)⟩
  · rcases hk.2 with h5 | h5
    · exact h3 k h5
    · exact Nat.le_trans h.below.size h5
  · rcases hg.2 with h5 | h5
    · exact h4 k hk h5
    · have := h.ks k hk; omega

theorem addTo_len (room : Int) (xs : List OpV) (o : OpV) : (addTo room xs o).length ≤ xs.length + 1 ∧ ((xs.length : Int) ≤ room → ((addTo room xs o).length : Int) ≤ room) := by
  unfold addTo ins
  split
  · omega
  · split
    · omega
    · simp; omega

section
variable {w0 w : World} {Ks : Nat → Prop} {bh : Nat} {room : Int} {xs : List OpV}

theorem add_h (h : Has w0 w Ks bh room xs) (hl : xs.length < 1000000) (o : OpV) : Calls Try.prog 12 #[.pointer (some ⟨bh, 0, none⟩), .agg #[.int .i64 o.ctr, .int .i64 o.author, .int .i64 o.seq, .bool o.ins, .int .i64 o.rctr, .int .i64 o.rauthor, .int .i32 o.rune]] w
    (End w0 w Ks bh room (addTo room xs o) (.returned (.int .i64 (addErr room xs o)))) := by
  obtain ⟨F, v, h2, h3, h4⟩ := h.some
  exact (add_any w F bh room v xs o h.len h2).mono fun e w' hp => HoldPost.end h h3 h4 hp (by have := (addTo_len room xs o).1; omega)

theorem has_h (h : Has w0 w Ks bh room xs) (author seq : Int) : Calls Try.prog 11 #[.pointer (some ⟨bh, 0, none⟩), .int .i64 author, .int .i64 seq] w
    (End w0 w Ks bh room xs (.returned (.bool (xs.any (sameId author seq))))) := by
  obtain ⟨F, v, h2, h3, h4⟩ := h.some
  exact (has_any w F bh room v xs author seq h.len h2).mono fun e w' ⟨he, hb⟩ => he ▸ h.end hb _

theorem len_h (h : Has w0 w Ks bh room xs) : Calls Try.prog 13 #[.pointer (some ⟨bh, 0, none⟩)] w (End w0 w Ks bh room xs (.returned (.int .i64 xs.length))) := by
  obtain ⟨F, v, h2, h3, h4⟩ := h.some
  exact (len_any w F bh room v xs h.len h2).mono fun e w' ⟨he, hb⟩ => by subst he; subst hb; exact h.end (Below.refl _ _) _

theorem room_h (h : Has w0 w Ks bh room xs) : Calls Try.prog 14 #[.pointer (some ⟨bh, 0, none⟩)] w (End w0 w Ks bh room xs (.returned (.int .i64 (room - xs.length)))) := by
  obtain ⟨F, v, h2, h3, h4⟩ := h.some
  exact (room_any w F bh room v xs h.len h.room0 (by have := h.room1; omega) h2).mono fun e w' ⟨he, hb⟩ => he ▸ h.end hb _

theorem readyRest_len (q : OpV → Bool) (xs : List OpV) : (readyRest q xs).length ≤ xs.length := by
  unfold readyRest
  split
  · exact List.length_eraseIdx_le _ _
  · exact Nat.le_refl _

theorem ready_h (h : Has w0 w Ks bh room xs) (q : OpV → Bool) (K : FuncId) (C : Array Value) (hE : Enters Try.prog K) (hq : ∀ G, (∀ k, Ks k → ¬ G k) → Decides K C q w G) : Calls Try.prog 15 #[.pointer (some ⟨bh, 0, none⟩), .func (.func K) #[] C] w
    (End w0 w Ks bh room (readyRest q xs) (retOp (readyOut q xs).1 (readyOut q xs).2)) := by
  obtain ⟨F, v, h2, h3, h4⟩ := h.some
  exact (ready_any w F bh room v xs q K C h.len h2 hE (hq F h4)).mono fun e w' hp => HoldPost.end h h3 h4 hp (Nat.le_trans (readyRest_len q xs) h.len)

theorem drop_h (h : Has w0 w Ks bh room xs) (q : OpV → Bool) (K : FuncId) (C : Array Value) (hE : Enters Try.prog K) (hq : ∀ G, (∀ k, Ks k → ¬ G k) → Decides K C q w G) : Calls Try.prog 24 #[.pointer (some ⟨bh, 0, none⟩), .func (.func K) #[] C] w
    (End w0 w Ks bh room (xs.filter fun o => !q o) (.returned (.int .i64 ((xs.length : Int) - (xs.filter fun o => !q o).length)))) := by
  obtain ⟨F, v, h2, h3, h4⟩ := h.some
  exact (drop_any w F bh room v xs q K C h.len h2 hE (hq F h4)).mono fun e w' hp => HoldPost.end h h3 h4 hp (Nat.le_trans (List.length_filter_le _ _) h.len)

/-- All: a list of its own -/
theorem all_h (h : Has w0 w Ks bh room xs) : Calls Try.prog 18 #[.pointer (some ⟨bh, 0, none⟩)] w fun e w' => ∃ v', End w0 w Ks bh room xs (.returned v') e w' ∧ w'.ownsRow w.heap.size 30 7 v' xs.length (flat xs) ∧ Below w.heap.size w w' := by
  obtain ⟨F, v, h2, h3, h4⟩ := h.some
  exact (all_any w F bh room v xs h.len h2).mono fun e w' ⟨v', he, hr, hb⟩ => ⟨v', he ▸ h.end hb _, hr, hb⟩

/-- a hold that has just been made -/
theorem new_h (h0 : Below w0.heap.size w0 w) (room : Int) (h1 : 0 ≤ room) (h2 : room ≤ 1000000) : Calls Try.prog 10 #[.int .i64 room] w fun e w' => e = .returned (.pointer (some ⟨w.heap.size, 0, none⟩)) ∧ Below w.heap.size w w' ∧
    ∀ Ls : Nat → Prop, (∀ k, Ls k → k < w.heap.size) → Has w0 w' Ls w.heap.size room [] :=
  (new_any w room).mono fun e w' ⟨he, hb, hh⟩ => ⟨he, hb, fun Ls hl => ⟨h0.trans (hb.mono h0.size), ⟨_, _, by rwa [show max room 0 = room by omega] at hh, fun k hk => by have := h0.size; omega, fun k hk e => by have := hl k hk; omega⟩, h1, h2, by simp, fun k hk => Nat.lt_of_lt_of_le (hl k hk) hb.size⟩⟩
end
end Go.Proofs.Ytpkdhmljbpbcfaa
