import Derived.Test.YtmooflmhbpckjaaEK
import Derived.Test.YtmooflmhbpckjaaEC
/-
  dfa.Build: what New makes, with where it lies. No condition beyond what each theorem names.
-/
set_option linter.unusedVariables false
set_option linter.unusedSimpArgs false
namespace Go.Proofs.Ytmooflmhbpckjaa
open Go.RowKit

/-- a machine all of whose blocks lie in F -/
def MachF (F : Nat → Prop) (w : World) (m : Nat) (S : List Sta) : Prop := ∀ (G : Nat → Prop) (w' : World), Fr G w w' → (∀ k, F k → ¬ G k) → MachR w' m S
theorem MachF.is {F : Nat → Prop} {w : World} {m : Nat} {S : List Sta} (h : MachF F w m S) : MachR w m S := h (fun _ => False) w (Fr.refl _ _) (fun _ _ h => h)
theorem MachF.fr {F G : Nat → Prop} {w w' : World} {m : Nat} {S : List Sta} (h : MachF F w m S) (hf : Fr G w w') (hg : ∀ k, F k → ¬ G k) : MachF F w' m S := fun G' w'' hf' hg' =>
  h (fun k => G k ∨ G' k) w'' ((hf.mono (fun k _ h => .inl h)).trans hf' (fun k _ h => .inr h)) (fun k hk h => by
    rcases h with h | h
    · exact hg k hk h
    · exact hg' k hk h)
theorem MachF.mono {F F' : Nat → Prop} {w : World} {m : Nat} {S : List Sta} (h : MachF F w m S) (hF : ∀ k, F k → F' k) : MachF F' w m S := fun G w' hf hg => h G w' hf (fun k hk => hg k (hF k hk))

theorem Mach.readG {base m : Nat} {w w' : World} {L : List Sta} {f l : Int} {G : Nat → Prop} (h : Mach base w m L f l) (hf : Fr G w w') (hG : ∀ k, k < w.heap.size → G k → k = m ∨ k < base) (hm : ∀ lv a b, w.heap[m]? = some (.cells #[lv, a, b] 112) → w'.heap[m]? = some (.cells #[lv, .int .i64 0, .int .i64 1] 112)) : MachR w' m L := by
  obtain ⟨lv, Ls, h1, h2, h3, h4, h5, -⟩ := h
  have ne : ∀ {α : Type} {E : α → List Value → Prop} {T : TypeId} {sz : Nat} {v : Value} {xs : List α}, OwnL E T sz base w v xs → T ≠ 112 → OwnL E T sz base w' v xs := fun {α E T sz v xs} h hT =>
    h.fr hf (fun k hk he => by
      have hlt := h.lt k hk
      rcases hG k hlt.2 he with he | he
      · exact h.notAt h2 hT (by rw [hk]; exact congrArg some he)
      · omega)
  refine ⟨lv, hm _ _ _ h2, ?_⟩
  rw [← h3]
  refine ReadL.map (·.s) (ne h4 (by decide)).read (fun x hx r hr => ?_)
  have hr : r = [x.fv, .bool x.s.set, x.tv] := hr
  exact ⟨x.fv, x.tv, hr, (ne (h5 x hx).1 (by decide)).read.ints, (ne (h5 x hx).2 (by decide)).read.ints⟩

theorem Mach.readF {base m : Nat} {w w1 : World} {L : List Sta} {f l : Int} (h : Mach base w m L f l) (hf : Fr (fun k => k = m) w w1) (hm : ∀ lv a b, w.heap[m]? = some (.cells #[lv, a, b] 112) → w1.heap[m]? = some (.cells #[lv, .int .i64 0, .int .i64 1] 112)) : MachF (fun k => base ≤ k ∧ k < w1.heap.size) w1 m L := fun G w' hf' hg' => by
  have hbm : base ≤ m := by obtain ⟨lv, Ls, h1, -⟩ := h; exact h1
  refine h.readG (G := fun k => k = m ∨ G k) ((hf.mono (fun k _ h => .inl h)).trans hf' (fun k _ h => .inr h)) (fun k hk hG => ?_) (fun lv a b hh => ?_)
  · rcases hG with hG | hG
    · exact .inl hG
    · refine .inr (Nat.lt_of_not_le fun hb => hg' k ⟨hb, Nat.lt_of_lt_of_le hk hf.size⟩ hG)
  · have h1 := hm lv a b hh
    exact (hf'.block m (at_lt h1) (fun hG => hg' m ⟨hbm, at_lt h1⟩ hG)).trans h1

def NewPostF (w : World) (x : Nd) (e : Ending) (w' : World) : Prop :=
  Below w.heap.size w w' ∧ ((rightB x = true ∧ ∃ m, w.heap.size ≤ m ∧ e = .returned (.tuple #[.pointer (some ⟨m, 0, none⟩), .int .i64 0]) ∧ MachF (fun k => w.heap.size ≤ k ∧ k < w'.heap.size) w' m (mach x)) ∨ (rightB x = false ∧ e = .returned (.tuple #[.pointer none, .int .i64 1])))

set_option maxRecDepth 100000 in
set_option maxHeartbeats 4000000 in
theorem new_foot (x : Nd) (w : World) (a b c : Value) (hx : NodeIs w x a b c) :
    Calls Try.prog 35 #[.agg #[a, b, c]] w (NewPostF w x) := by
  have HX := Lib.hid hx
  obtain ⟨op, pp, l, c1, q, m, d, rfl, rfl, rfl⟩ := hx.form
  clear hx
  go_enter Try.func35, Try.ntmps35
  go_upto_region 1 with fail
  refine abs_wp fun W hW => ?_
  obtain ⟨B, hB⟩ : ∃ B, B = w.heap.size := ⟨_, rfl⟩
  have hbox : W.heap[B]? = some (.cells #[.int .i64 op, .slice pp l c1, .slice q m d] 49) := by rw [hW, hB]; exact heap_alloc_new _ _
  have hbe : Below w.heap.size w W := by rw [hW]; exact below_alloc1 _ _
  rw [← hB]
  have HBE := Lib.hid hbe
  have HBOX := Lib.hid hbox
  obtain ⟨x0, x1, x2⟩ := cells3 hbox
  have HD := Lib.hid (right_any x W _ _ _ (HX.out.to hbe (Nat.le_refl _)))
  clear hW hbox hbe hB
  go_wp2_with fail
  refine HD.out.mono ?_
  rintro e w1 ⟨rfl, hb1⟩
  have HB1 := Lib.hid (HBE.out.trans (hb1.mono HBE.out.size))
  have HBOX1 := Lib.hid ((hb1.block _ (at_lt HBOX.out)).trans HBOX.out)
  clear hb1 x0 x1 x2
  obtain ⟨x0, x1, x2⟩ := cells3 HBOX1.out
  cases hr : rightB x
  · have HR := Lib.hid hr
    clear hr
    go_wp2_with fail
    go_ret2
    exact ⟨HB1.out, .inr ⟨HR.out, rfl⟩⟩
  · have HR := Lib.hid hr
    clear hr
    have HG := Lib.hid (show Good x from Wf_good x 1 (rightB_iff.1 HR.out).1)
    have HC := Lib.hid (show cnt x ≤ 400 from (rightB_iff.1 HR.out).2)
    go_upto_region 4 with fail
    refine abs_wp fun W2 hW2 => ?_
    obtain ⟨mb, hmb⟩ : ∃ mb, mb = w1.heap.size := ⟨_, rfl⟩
    have hbm : Below w1.heap.size w1 W2 := by rw [hW2]; exact below_alloc1 _ _
    have hmach : Mach w.heap.size W2 mb [] 0 0 := by rw [hW2, hmb]; exact mach_new _ _ HB1.out.size
    have HMB := Lib.hid (show w.heap.size ≤ mb by rw [hmb]; exact HB1.out.size)
    rw [← hmb]
    have HB2 := Lib.hid (HB1.out.trans (hbm.mono HB1.out.size))
    have HBOX2 := Lib.hid ((hbm.block _ (at_lt HBOX1.out)).trans HBOX1.out)
    have HL := Lib.hid (lay_any x HG.out w.heap.size W2 mb [] 0 0 _ _ _ (NodeF.below HB2.out (Nat.le_refl _) _ HX.out.foot) hmach (by have := HC.out; simp; omega) (by have := HC.out; simp [edges]; omega))
    clear hW2 hmb hbm hmach x0 x1 x2
    obtain ⟨x0, x1, x2⟩ := cells3 HBOX2.out
    go_wp2_with fail
    refine HL.out.mono ?_
    rintro e w3 ⟨rfl, hm3, hb3, hk3⟩
    obtain ⟨lv, Ls, hm4⟩ := id hm3
    have HM4 := Lib.hid hm4.2.1
    have HM3 := Lib.hid hm3
    have HB3 := Lib.hid (HB2.out.trans hb3)
    clear hm3 hb3 hk3 hm4 x0 x1 x2
    obtain ⟨y0, y1, y2⟩ := cells3 HM4.out
    have f1 := fz_at HM4.out 1
    have f2 := fz_at HM4.out 2
    simp only [List.length_nil]
    go_upto_region 6 with fail
    refine abs_wp fun W4 hW4 => ?_
    have h5 : ∀ lv a b, w3.heap[mb]? = some (.cells #[lv, a, b] 112) → W4.heap[mb]? = some (.cells #[lv, .int .i64 0, .int .i64 1] 112) := fun lv' a b h => by
      have k1 := blk_set h 1 (.int .i64 0)
      have k2 := blk_set k1 2 (.int .i64 1)
      rw [hW4]
      exact k2
    have h6 : Fr (fun k => k = mb) w3 W4 := by
      rw [hW4]
      exact (Fr.setCell (F := fun k => k = mb) _ rfl _).trans (Fr.setCell (F := fun k => k = mb) _ rfl _) (fun _ _ h => h)
    have H7 := Lib.hid (show Below w.heap.size w W4 from HB3.out.trans (h6.below HB3.out.size (fun k hk => by have hk : k = mb := hk; have := HMB.out; omega)))
    have H8 := Lib.hid (show MachF (fun k => w.heap.size ≤ k ∧ k < W4.heap.size) W4 mb (mach x) from HM3.out.readF h6 h5)
    clear hW4 h5 h6 y0 y1 y2 f1 f2
    go_wp2_with fail
    go_ret2
    exact ⟨H7.out, .inl ⟨HR.out, mb, HMB.out, rfl, H8.out⟩⟩
end Go.Proofs.Ytmooflmhbpckjaa

/-
  dfa.Build: the least machine of expressions. No condition beyond what each theorem names.
-/
set_option linter.unusedVariables false
set_option linter.unusedSimpArgs false
namespace Go.Proofs.Ytmooflmhbpckjaa
open Go.RowKit Classical

/-- which fit in a situation, as bits -/
def outN (s : List (List Int)) : Nat := bitsL (outE s)

/-- arguments that may be -/
def ArgOk (n : Int) (l : List (Nd × Bool)) : Prop := 1 ≤ n ∧ n ≤ 24 ∧ l.length ≤ 64 ∧ ∀ x ∈ l, RightX x.1 ∧ insideB n x.1 = true

def BuildPost (w : World) (n : Int) (l : List (Nd × Bool)) (e : Ending) (w' : World) : Prop := Below w.heap.size w w' ∧
  ((¬ ArgOk n l ∧ e = .returned (.tuple #[.pointer none, .int .i64 1])) ∨
   (ArgOk n l ∧ Built (autoE l) outN n.toNat none ∧ e = .returned (.tuple #[.pointer none, .int .i64 7])) ∨
   (ArgOk n l ∧ ∃ ob N O, w.heap.size ≤ ob ∧ Built (autoE l) outN n.toNat (some (N, O.map some)) ∧ e = .returned (.tuple #[.pointer (some ⟨ob, 0, none⟩), .int .i64 0]) ∧ MachD w' ob n.toNat N O))

def machFE (F : Nat → Prop) (w : World) (S : List Sta) (row : List Value) : Prop := ∃ m, row = [.pointer (some ⟨m, 0, none⟩)] ∧ MachF F w m S
theorem machFE.fr {F G : Nat → Prop} {w w' : World} {S : List Sta} {row : List Value} (h : machFE F w S row) (hf : Fr G w w') (hg : ∀ k, F k → ¬ G k) : machFE F w' S row := by
  obtain ⟨m, rfl, h⟩ := h
  exact ⟨m, rfl, h.fr hf hg⟩
theorem machFE.mono {F G : Nat → Prop} {w : World} {S : List Sta} {row : List Value} (h : machFE F w S row) (hg : ∀ k, F k → G k) : machFE G w S row := by
  obtain ⟨m, rfl, h⟩ := h
  exact ⟨m, rfl, h.mono hg⟩

/-- a builder that is being filled -/
structure BSt (base : Nat) (w : World) (bb : Nat) (F : Nat → Prop) (lv mv : Value) (Ss : List (List Sta)) : Prop where
  at0 : w.heap[bb]? = some (.cells #[lv, mv] 92)
  base0 : base ≤ bb
  list : OwnL (machFE F w) 93 1 base w mv Ss
  foot : ∀ k, F k → base ≤ k ∧ k < w.heap.size ∧ k ≠ bb ∧ mv.ownBlock ≠ some k

theorem BSt.below {base : Nat} {w w' : World} {bb : Nat} {F : Nat → Prop} {lv mv : Value} {Ss : List (List Sta)} (h : BSt base w bb F lv mv Ss) (hb : Below w.heap.size w w') : BSt base w' bb F lv mv Ss :=
  ⟨(hb.block _ (at_lt h.at0)).trans h.at0, h.base0, OwnL.mono (OwnL.below h.list hb (Nat.le_refl _)) (fun x r hr => hr.fr (Fr.of_belowB hb) (fun k hk hG => by have := (h.foot k hk).2.1; omega)), fun k hk => by
    obtain ⟨h1, h2, h3⟩ := h.foot k hk
    exact ⟨h1, Nat.lt_of_lt_of_le h2 hb.size, h3⟩⟩
/-- more blocks are kept -/
theorem BSt.more {base : Nat} {w : World} {bb : Nat} {F F' : Nat → Prop} {lv mv : Value} {Ss : List (List Sta)} (h : BSt base w bb F lv mv Ss) (hF : ∀ k, F k → F' k) (hX : ∀ k, F' k → base ≤ k ∧ k < w.heap.size ∧ k ≠ bb ∧ mv.ownBlock ≠ some k) : BSt base w bb F' lv mv Ss :=
  ⟨h.at0, h.base0, h.list.mono (fun x r hr => machFE.mono hr hF), hX⟩
/-- a machine was appended, and the variable stored -/
theorem BSt.newM {base : Nat} {w w1 w2 : World} {bb : Nat} {F : Nat → Prop} {lv mv mv' : Value} {Ss Ss' : List (List Sta)} (h : BSt base w bb F lv mv Ss) (hbw : base ≤ w.heap.size) (hf : Fr (fun k => mv.ownBlock = some k) w w1)
    (hown : OwnL (machFE F w) 93 1 base w1 mv' Ss') (hl : mv'.ownBlock = mv.ownBlock ∨ ∀ k, mv'.ownBlock = some k → w.heap.size ≤ k) (h2 : w2 = w1.setCell ⟨bb, 1, none⟩ mv') : BSt base w2 bb F lv mv' Ss' ∧ Below base w w2 := by
  have hb1 := (hf.block bb (at_lt h.at0) (h.list.notAt h.at0 (by decide))).trans h.at0
  have hf2 : Fr (fun k => k = bb) w1 w2 := by rw [h2]; exact Fr.setCell (F := fun k => k = bb) w1 rfl _
  have hf12 : Fr (fun k => mv.ownBlock = some k ∨ k = bb) w w2 := (hf.mono (fun k _ h => .inl h)).trans hf2 (fun k _ h => .inr h)
  refine ⟨⟨?_, h.base0, OwnL.mono (OwnL.fr hown hf2 (fun k hk (he : k = bb) => hown.notAt hb1 (by decide) (by rw [hk, he]))) (fun x r hr => machFE.fr hr hf12 (fun k hk hg => ?_)), fun k hk => ?_⟩, hf12.below hbw (fun k hk => ?_)⟩
  · have := blk_set hb1 1 mv'
    rw [h2]
    exact this
  · obtain ⟨-, -, h3, h4⟩ := h.foot k hk
    rcases hg with hg | hg
    · exact h4 hg
    · exact h3 hg
  · obtain ⟨h1, h3, h4, h5⟩ := h.foot k hk
    refine ⟨h1, Nat.lt_of_lt_of_le h3 hf12.size, h4, fun hk2 => ?_⟩
    rcases hl with hl | hl
    · exact h5 (hl ▸ hk2)
    · have := hl k hk2; omega
  · rcases hk with hk | hk
    · exact (h.list.lt k hk).1
    · rw [hk]; exact h.base0

theorem BSt.builder {base : Nat} {w0 w : World} {bb : Nat} {F : Nat → Prop} {lv mv : Value} {l : List (Nd × Bool)} (h : BSt base w bb F lv mv (l.map fun e => mach e.1)) (hl : ReadL (exprE w0) 4 w0 lv l) (hb : Below w0.heap.size w0 w) : BuilderR w bb l := by
  refine ⟨lv, mv, h.at0, (hl.below hb (Nat.le_refl _)).monoE (fun x r hr => ?_), (OwnL.read h.list).monoE (fun x r hr => ?_)⟩
  · obtain ⟨a, b, c, rfl, hn⟩ := hr
    exact ⟨a, b, c, rfl, hn.to hb (Nat.le_refl _)⟩
  · obtain ⟨m, rfl, hm⟩ := hr
    exact ⟨m, rfl, hm.is⟩

theorem infoPtr : (Try.prog.info? 93).map (fun i => (i.zero, i.size, i.bytes)) = some (some (.pointer none), 1, 8) := by kernel_rfl
section
variable {ops : Array Oper} {rest : List Oper} {o : Oper} {a : Act} {w : World} {Q : Exit → Act → World → Prop} {base : Nat}
theorem wpList_append_machs {E : List Sta → List Value → Prop} (hgd : o.guard = none) (s x : Operand) (ho : o.op = .call { callee := .builtin .append, args := #[s, x], argTypes := #[90, 90] })
    (v : Value) (xs : List (List Sta)) (n : Nat) (hn : xs.length = n) (hs : a.eval s = v) (hown : OwnL E 93 1 base w v xs) (xv : Value) (y : List Sta) (hx : a.eval x = xv) (hr : ReadL E 1 w xv [y]) (hlen : n + 1 ≤ 1000000) (hbase : base ≤ w.heap.size)
    (h : ∀ p c w', OwnL E 93 1 base w' (.slice p (n + 1) c) (xs ++ [y]) → w.grownBy w' v.ownBlock → ((Value.slice p (n + 1) c).ownBlock = v.ownBlock ∨ (Value.slice p (n + 1) c).ownBlock = some w.heap.size) → wpList Try.prog ops Q rest (a.put o.dst (.slice p (n + 1) c)) w') : wpList Try.prog ops Q (o :: rest) a w := by
  subst hn
  obtain ⟨i0, hi, hz0, hz1, hz2⟩ := info_parts infoPtr
  exact wpList_append_L hgd s x 90 ho i0 _ 8 Try.underlying90 hi hz0 hz1 hz2 rfl (by decide) v xs hs hown xv [y] hx hr (by unfold maxLen; simp; omega) (by simp; omega) hbase h
end

section
variable {σ β : Type}
theorem few_nice {A : Auto σ} {classes K : Nat} (out : σ → β) (ho : Over A classes K) (hk : (cl A classes K).length ≤ K) : (nextsOf A classes (cl A classes K)).length ≤ K := by
  rw [nextsOf, List.length_map]; exact hk
theorem canonOut_length (l0 : List Nat → Option β) (classes K : Nat) : (canonOut l0 classes K).length = (canonL l0 classes K).length := by unfold canonOut; rw [List.length_map]
end
/-- of situations that are not too many: the machine of all -/
theorem all_nice {l : List (Nd × Bool)} (hr : ∀ e ∈ l, RightX e.1) (h64 : l.length ≤ 64) {classes : Nat} (hf : ¬ TooMany (autoE l) classes) (N : List (List Nat)) (O : List Nat) (hN : N = nextsOf (autoE l) classes (cl (autoE l) classes 2000)) (hO : O = (cl (autoE l) classes 2000).map outN) :
    OkN N O classes ∧ 0 < N.length ∧ N.length ≤ 2000 ∧ (∀ o ∈ O, o < 2 ^ 64) ∧ langN N O classes 0 = langA (autoE l) outN classes (autoE l).start := by
  have ho := over_of_few hf
  have hlen : (cl (autoE l) classes 2000).length ≤ 2000 := Nat.le_of_not_lt fun h => hf ⟨2000, h⟩
  generalize 2000 = K at *
  subst hN hO
  obtain ⟨h1, h2⟩ := all_ok outN ho
  refine ⟨h1, h2, few_nice outN ho hlen, fun o hoo => ?_, all_lang outN ho⟩
  obtain ⟨s, hs, rfl⟩ := List.mem_map.1 hoo
  have hok := cl_allP (A := autoE l) (P := SitOk l) (fun s hs c => hs.step hr c) (SitOk.start hr) classes K s hs
  have h3 := bitsL_lt (outE s)
  have h4 : (outE s).length ≤ 64 := by unfold outE; rw [List.length_map, hok.1]; exact h64
  exact Nat.lt_of_lt_of_le h3 (Nat.pow_le_pow_right (by omega) h4)

theorem built_of {l : List (Nd × Bool)} {cn : Nat} (hf : ¬ TooMany (autoE l) cn) {N : List (List Nat)} {O : List Nat} (hN : N = canonNext (langA (autoE l) outN cn (autoE l).start) cn 2000) (hO : O.map some = canonOut (langA (autoE l) outN cn (autoE l).start) cn 2000) :
    (400 < O.length → Built (autoE l) outN cn none) ∧ (¬ 400 < O.length → Built (autoE l) outN cn (some (N, O.map some))) := by
  have hl : O.length = (canonL (langA (autoE l) outN cn (autoE l).start) cn 2000).length := by
    rw [← canonOut_length, ← hO, List.length_map]
  refine ⟨fun h => .inl ⟨rfl, .inr (by rw [← hl]; exact h)⟩, fun h => .inr ⟨hf, by rw [← hl]; omega, by rw [hN, hO]⟩⟩

theorem built_many {l : List (Nd × Bool)} {cn : Nat} (hf : TooMany (autoE l) cn) : Built (autoE l) outN cn none := .inl ⟨rfl, .inl hf⟩

set_option maxRecDepth 100000 in
set_option maxHeartbeats 8000000 in
theorem build_any (w : World) (v : Value) (l : List (Nd × Bool)) (n : Int) (hv : ReadL (exprE w) 4 w v l) (hlen : l.length ≤ 1000000) :
    Calls Try.prog 24 #[.int .i64 n, v] w (BuildPost w n l) := by
  obtain ⟨p, cp, rfl, hcp, hx⟩ := hv.at (by decide) rfl
  have HX := Lib.hid hx
  have HV := Lib.hid hv
  clear hx hv
  by_cases harg : n < 1 ∨ 24 < n ∨ 64 < l.length
  · have HNO := Lib.hid (show ¬ ArgOk n l by rintro ⟨h1, h2, h3, -⟩; omega)
    by_cases h1 : n < 1
    · clear harg
      go_enter Try.func24, Try.ntmps24
      go_wp2_with fail
      go_ret2
      exact ⟨Below.refl _ _, .inl ⟨HNO.out, rfl⟩⟩
    · by_cases h2 : 24 < n
      · clear harg
        go_enter Try.func24, Try.ntmps24
        go_wp2_with fail
        go_ret2
        exact ⟨Below.refl _ _, .inl ⟨HNO.out, rfl⟩⟩
      · have h3 : (64 : Int) < l.length := by omega
        clear harg
        go_enter Try.func24, Try.ntmps24
        go_wp2_with fail
        go_ret2
        exact ⟨Below.refl _ _, .inl ⟨HNO.out, rfl⟩⟩
  · have h1 : ¬ n < 1 := by omega
    have h2 : ¬ 24 < n := by omega
    have h3 : ¬ (64 : Int) < l.length := by omega
    have h4 : l.length ≤ 64 := by omega
    clear harg
    go_enter Try.func24, Try.ntmps24
    go_upto_region 4 with fail
    refine abs_wp fun W hW => ?_
    obtain ⟨bb, hbb⟩ : ∃ bb, bb = w.heap.size := ⟨_, rfl⟩
    have hal := below_alloc1 w (.cells #[.slice p l.length cp, .slice none 0 0] 92)
    have HBS := Lib.hid (show BSt w.heap.size W bb (fun _ => False) (.slice p l.length cp) (.slice none 0 0) ((l.take 0).map fun e => mach e.1) by
      rw [hW, hbb]
      exact ⟨heap_alloc_new _ _, Nat.le_refl _, OwnL.nil _, fun k hk => hk.elim⟩)
    have HBW := Lib.hid (show Below w.heap.size w W by rw [hW]; exact hal)
    rw [← hbb]
    have HBB := Lib.hid hbb
    clear hW hal hbb
    go_wp2_with fail
    go_loopw [29] (fun i w1 => ∃ (k : Nat) (F : Nat → Prop) (mv : Value), i = .int .i64 k ∧ k ≤ l.length ∧ BSt w.heap.size w1 bb F (.slice p l.length cp) mv ((l.take k).map fun e => mach e.1) ∧ Below w.heap.size w w1 ∧ ∀ x ∈ l.take k, RightX x.1 ∧ insideB n x.1 = true) (fun i _ => l.length - (intOf i).toNat)
    case atStart => exact ⟨0, _, _, rfl, by omega, HBS.out, HBW.out, by simp⟩
    case round =>
      obtain ⟨k, F, mv, rfl, hk1, hbs, hb, hok⟩ := hrel
      have HBS1 := Lib.hid hbs
      have HB := Lib.hid hb
      have HOK := Lib.hid hok
      have hbz := hb.size
      clear hbs hok
      by_cases hk : k < l.length
      · obtain ⟨x, hx⟩ : ∃ x, x = l[k] := ⟨_, rfl⟩
        have HXK := Lib.hid (show l[k]? = some x by rw [hx]; exact List.getElem?_eq_getElem hk)
        have HTK := Lib.hid (show l.take (k + 1) = l.take k ++ [x] by rw [List.take_succ_eq_append_getElem hk, hx])
        have HXM := Lib.hid (show x ∈ l by rw [hx]; exact List.getElem_mem hk)
        obtain ⟨bl, ol, row, rfl, hbl, hcell, a, b, c, rfl, hnd⟩ := HX.out k x HXK.out
        have d0 := cell_below hb hbl (hcell 0 _ rfl)
        have d1 := cell_below hb hbl (hcell 1 _ rfl)
        have d2 := cell_below hb hbl (hcell 2 _ rfl)
        have d3 := cell_below hb hbl (hcell 3 _ rfl)
        simp only [Nat.add_zero] at d0
        obtain ⟨op, q0, m0, c0, q1, m1, c1, rfl, rfl, rfl⟩ := hnd.form
        have HND := Lib.hid hnd
        obtain ⟨x2, hx2⟩ : ∃ x2, x2 = x.2 := ⟨_, rfl⟩
        rw [← hx2] at d3
        have hki : (k : Int) < l.length := by omega
        have hk0 : (0 : Int) ≤ k := by omega
        clear hcell hnd hx hx2
        go_upto_region 7 with fail
        refine abs_wp fun W1 hW1 => ?_
        obtain ⟨bx, hbx⟩ : ∃ bx, bx = wr.heap.size := ⟨_, rfl⟩
        have hal := below_alloc1 wr (.cells #[Value.int IntKind.i64 op, Value.slice q0 m0 c0, Value.slice q1 m1 c1, Value.bool x2] 71)
        have HA1 := Lib.hid (show Below wr.heap.size wr W1 by rw [hW1]; exact hal)
        have HBX := Lib.hid (show W1.heap[bx]? = some (.cells #[Value.int IntKind.i64 op, Value.slice q0 m0 c0, Value.slice q1 m1 c1, Value.bool x2] 71) by rw [hW1, hbx]; exact heap_alloc_new _ _)
        have HBS2 := Lib.hid (HBS1.out.below HA1.out)
        have HBW1 := Lib.hid (HB.out.trans (HA1.out.mono hbz))
        rw [← hbx]
        have cells4 : ∀ W2 : World, W2.heap[bx]? = some (.cells #[Value.int IntKind.i64 op, Value.slice q0 m0 c0, Value.slice q1 m1 c1, Value.bool x2] 71) → W2.cell? ⟨bx, 0, none⟩ = some (.int .i64 op) ∧ W2.cell? ⟨bx, 1, none⟩ = some (.slice q0 m0 c0) ∧ W2.cell? ⟨bx, 2, none⟩ = some (.slice q1 m1 c1) := fun W2 h => ⟨by simp [World.cell?, h], by simp [World.cell?, h], by simp [World.cell?, h]⟩
        have HC4 := Lib.hid cells4
        have HNF := Lib.hid (new_foot x.1 W1 _ _ _ (HND.out.to HBW1.out (Nat.le_refl _)))
        obtain ⟨z0, z1, z2⟩ := cells4 W1 HBX.out
        have hbw1 := HBW1.out.size
        clear hW1 hal hbx cells4 d0 d1 d2 d3
        go_wp2_with fail
        refine HNF.out.mono ?_
        rintro e w2 ⟨hb2, hcase⟩
        have HB2 := Lib.hid (HBW1.out.trans (hb2.mono hbw1))
        have HBS3 := Lib.hid (HBS2.out.below hb2)
        have HBX2 := Lib.hid ((hb2.block _ (at_lt HBX.out)).trans HBX.out)
        have HB12 := Lib.hid hb2
        clear hb2 z0 z1 z2
        obtain ⟨z0, z1, z2⟩ := HC4.out w2 HBX2.out
        rcases hcase with ⟨hrb, mm, hmm0, rfl, hmf⟩ | ⟨hrb, rfl⟩
        · have HRB := Lib.hid (rightB_iff.1 hrb)
          have HMF := Lib.hid hmf
          have HIN := Lib.hid (inside_any n x.1 w2 _ _ _ (HND.out.to HB2.out (Nat.le_refl _)))
          clear hrb hmf
          cases hin : insideB n x.1
          · have HNO := Lib.hid (show ¬ ArgOk n l by
              rintro ⟨-, -, -, h⟩
              have := (h x HXM.out).2
              rw [hin] at this
              cases this)
            rw [hin] at HIN
            clear hin
            go_wp2_with fail
            refine HIN.out.mono ?_
            rintro e w3 ⟨rfl, hb3⟩
            have HB3 := Lib.hid (HB2.out.trans (hb3.mono HB2.out.size))
            clear hb3
            go_wp2_with fail
            go_ret2
            exact ⟨HB3.out, .inl ⟨HNO.out, rfl⟩⟩
          · have HINX := Lib.hid hin
            rw [hin] at HIN
            clear hin
            go_wp2_with fail
            refine HIN.out.mono ?_
            rintro e w3 ⟨rfl, hb3⟩
            have HB3 := Lib.hid (HB2.out.trans (hb3.mono HB2.out.size))
            have hX : ∀ j, (F j ∨ (W1.heap.size ≤ j ∧ j < w2.heap.size)) → w.heap.size ≤ j ∧ j < w2.heap.size ∧ j ≠ bb ∧ mv.ownBlock ≠ some j := fun j hj => by
              rcases hj with hj | hj
              · exact HBS3.out.foot j hj
              · have h5 := at_lt HBS2.out.at0
                refine ⟨by omega, hj.2, by omega, fun h => ?_⟩
                have := (HBS2.out.list.lt j h).2
                omega
            have HBS4 := Lib.hid ((HBS3.out.more (F' := fun j => F j ∨ (W1.heap.size ≤ j ∧ j < w2.heap.size)) (fun j hj => .inl hj) hX).below hb3)
            have HMF3 := Lib.hid (show MachF (fun j => F j ∨ (W1.heap.size ≤ j ∧ j < w2.heap.size)) w3 mm (mach x.1) from (HMF.out.fr (Fr.of_belowB hb3) (fun j hj h => by have := hj.2; omega)).mono (fun j hj => .inr hj))
            have hb3z := HB3.out.size
            have hml : ((l.take k).map fun e => mach e.1).length = k := by rw [List.length_map, List.length_take]; omega
            have HML := Lib.hid hml
            obtain ⟨pm, cm, hmv⟩ := HBS4.out.list.form
            rw [hml] at hmv
            have HMV := Lib.hid hmv
            have y1 : w3.cell? ⟨bb, 1, none⟩ = some (.slice pm k cm) := by rw [← hmv]; simp [World.cell?, HBS4.out.at0]
            have hal := below_alloc1 w3 (.cells #[Value.pointer (some ⟨mm, 0, none⟩)] 93)
            have HAL := Lib.hid hal
            have HO4 := Lib.hid (show OwnL (machFE (fun j => F j ∨ (W1.heap.size ≤ j ∧ j < w2.heap.size)) w3) 93 1 w.heap.size (w3.alloc (.cells #[Value.pointer (some ⟨mm, 0, none⟩)] 93)) (.slice pm k cm) ((l.take k).map fun e => mach e.1) by rw [← hmv]; exact OwnL.below HBS4.out.list hal (Nat.le_refl _))
            clear hb3 hX hml hmv hal z0 z1 z2
            go_wp2_with (refine stop_at (.call { callee := .builtin .append, args := #[.tmp 52, .tmp 54], argTypes := #[90, 90] }) rfl ?_)
            refine ⟨?_⟩
            refine wpList_append_machs rfl (.tmp 52) (.tmp 54) rfl (.slice pm k cm) _ k HML.out rfl HO4.out _ (mach x.1) rfl (ReadL.one w3 _ (mach x.1) [Value.pointer (some ⟨mm, 0, none⟩)] ⟨rfl, by simp [Value.oneCell']⟩ ⟨mm, rfl, HMF3.out⟩) (by omega) (Nat.le_trans hb3z HAL.out.size) ?_
            intro p7 c7 w7 hown7 hg7 hlie7
            have hf7 : Fr (fun k' => (Value.slice pm k cm).ownBlock = some k') w3 w7 := (Fr.of_below HAL.out _).trans (Fr.grown (F := fun k' => (Value.slice pm k cm).ownBlock = some k') hg7 (fun k h => h)) (fun _ _ h => h)
            have hob7 := (hf7.block bb (at_lt HBS4.out.at0) (by rw [← HMV.out]; exact HBS4.out.list.notAt HBS4.out.at0 (by decide))).trans HBS4.out.at0
            have y7 : w7.cell? ⟨bb, 1, none⟩ = some mv := by simp [World.cell?, hob7]
            have f7 := fz_at hob7 1
            have HF7 := Lib.hid hf7
            have HOW7 := Lib.hid hown7
            have HLI7 := Lib.hid hlie7
            clear hown7 hg7 hlie7 hf7 hob7 y1
            go_upto_region 11 with fail
            refine abs_wp fun W9 hW9 => ?_
            have h9 := HBS4.out.newM hb3z (w1 := w7) (w2 := W9) (mv' := .slice p7 (k + 1) c7) (Ss' := (l.take (k + 1)).map fun e => mach e.1) (by rw [HMV.out]; exact HF7.out) (by rw [HTK.out, List.map_append]; exact HOW7.out) (by
              rw [HMV.out]
              rcases HLI7.out with h | h
              · exact .inl h
              · refine .inr fun j hj => ?_
                rw [h] at hj
                have := Option.some.inj hj
                have := HAL.out.size
                omega) hW9
            have HBS9 := Lib.hid h9.1
            have HB9 := Lib.hid (HB3.out.trans h9.2)
            have HOK9 := Lib.hid (show ∀ y ∈ l.take (k + 1), RightX y.1 ∧ insideB n y.1 = true from fun y hy => by
              rw [HTK.out] at hy
              rcases List.mem_append.1 hy with hy | hy
              · exact HOK.out y hy
              · rw [List.mem_singleton.1 hy]; exact ⟨HRB.out, HINX.out⟩)
            clear h9 hW9 y7 f7 hb
            go_wp2_with fail
            go_roundw
            case rel => exact ⟨k + 1, _, _, by go_num, by omega, HBS9.out, HB9.out, HOK9.out⟩
            case measure => simp [intOf]; omega
        · have HNO := Lib.hid (show ¬ ArgOk n l by
            rintro ⟨-, -, -, h⟩
            have := rightB_iff.2 (h x HXM.out).1
            rw [hrb] at this
            cases this)
          clear hrb
          go_wp2_with fail
          go_ret2
          exact ⟨HB2.out, .inl ⟨HNO.out, rfl⟩⟩
      · have hki : ¬ (k : Int) < l.length := by omega
        have hke : l.take k = l := List.take_of_length_le (by omega)
        rw [hke] at HBS1 HOK
        obtain ⟨cn, hcn⟩ : ∃ cn : Nat, n = cn := ⟨n.toNat, by omega⟩
        subst hcn
        have HAO := Lib.hid (show ArgOk (cn : Int) l from ⟨h1, h2, h4, HOK.out⟩)
        have HALL := Lib.hid (all_any wr bb l (HBS1.out.builder HV.out HB.out) h4 (fun e he => (HOK.out e he).1) cn (by omega))
        clear hke
        go_wp2_with fail
        refine HALL.out.mono ?_
        rintro e w4 ⟨hb4, hcase⟩
        have HB4 := Lib.hid (HB.out.trans (hb4.mono hbz))
        have hb4z := HB4.out.size
        clear hb4
        rcases hcase with ⟨htm, rfl⟩ | ⟨hfew, ob, hob0, rfl, hmd⟩
        · have HTM := Lib.hid (built_many htm)
          clear htm
          go_wp2_with fail
          go_ret2
          exact ⟨HB4.out, .inr (.inl ⟨HAO.out, by rw [Int.toNat_natCast]; exact HTM.out, rfl⟩)⟩
        · have hN0 : ∃ N0, N0 = nextsOf (autoE l) cn (cl (autoE l) cn 2000) := ⟨_, rfl⟩
          obtain ⟨N0, hN0⟩ := hN0
          have hO0 : ∃ O0, O0 = (cl (autoE l) cn 2000).map fun s => bitsL (outE s) := ⟨_, rfl⟩
          obtain ⟨O0, hO0⟩ := hO0
          rw [← hN0, ← hO0] at hmd
          obtain ⟨hok4, hpos, h2000, h64, hlang⟩ := all_nice (fun e he => (HOK.out e he).1) h4 hfew N0 O0 hN0 hO0
          have HLS := Lib.hid (least_any w4 ob cn _ _ hmd hok4 hpos h2000 (by omega) h64)
          have HLN := Lib.hid hlang
          have HFW := Lib.hid hfew
          clear hok4 hpos h2000 h64 hlang hfew hmd hN0 hO0
          go_wp2_with fail
          refine HLS.out.mono ?_
          rintro e w5 ⟨ob2, O', hob2, rfl, hmd5, hO', hb5⟩
          rw [HLN.out] at hmd5 hO'
          have hN' : ∃ N', N' = canonNext (langA (autoE l) outN cn (autoE l).start) cn 2000 := ⟨_, rfl⟩
          obtain ⟨N', hN'⟩ := hN'
          rw [← hN'] at hmd5
          have HBL := Lib.hid (built_of HFW.out hN' hO')
          have HB5 := Lib.hid (HB4.out.trans (hb5.mono hb4z))
          obtain ⟨sz, hsz⟩ : ∃ sz, sz = O'.length := ⟨_, rfl⟩
          rw [← hsz] at HBL
          obtain ⟨nv, ov, hh, -, hov⟩ := id hmd5
          obtain ⟨po, co, hpo, -, -⟩ := hov.at (by decide) hsz.symm
          subst hpo
          have m2 := (cells3 hh).2.2
          have HMD5 := Lib.hid hmd5
          have hob3 : w.heap.size ≤ ob2 := by omega
          clear hmd5 hO' hb5 hsz hh hov hN'
          by_cases hbig : 400 < sz
          · have hbi : (400 : Int) < sz := by omega
            go_wp2_with fail
            go_ret2
            exact ⟨HB5.out, .inr (.inl ⟨HAO.out, by rw [Int.toNat_natCast]; exact HBL.out.1 hbig, rfl⟩)⟩
          · have hbi : ¬ (400 : Int) < sz := by omega
            go_wp2_with fail
            go_ret2
            exact ⟨HB5.out, .inr (.inr ⟨HAO.out, ob2, N', O', hob3, by rw [Int.toNat_natCast]; exact HBL.out.2 hbig, rfl, by rw [Int.toNat_natCast]; exact HMD5.out⟩)⟩
end Go.Proofs.Ytmooflmhbpckjaa

