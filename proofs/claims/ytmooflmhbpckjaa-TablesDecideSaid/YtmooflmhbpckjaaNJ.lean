/-
  Right and New. No condition beyond what each theorem names.
-/
import Derived.Test.YtmooflmhbpckjaaNI
import Derived.Test.YtmooflmhbpckjaaNQ
import Derived.Laws.EntriesVeiled
set_option linter.unusedVariables false
set_option linter.unusedSimpArgs false
namespace Go.Proofs.Ytmooflmhbpckjaa
open Go.RowKit

theorem right_step (op : Int) (cls : List Int) (ps : List Nd) (ih : ∀ x ∈ ps, RightAt x) : RightAt (.mk op cls ps) := by
  intro w mb rb mc d a b c hx hmc hd hv
  by_cases hno : mc + 1 > 400 ∨ d > 32 ∨ (op ≠ 1 ∧ 0 < cls.length) ∨ op < 0 ∨ 5 < op ∨ ((op = 0 ∨ op = 1) ∧ 0 < ps.length) ∨ ((op = 4 ∨ op = 5) ∧ ps.length ≠ 1)
  · exact right_no op cls ps w mb rb mc d a b c hno hx hmc hd hv
  · have h1 : mc + 1 ≤ 400 := by omega
    have h2 : d ≤ 32 := by omega
    have h3 : op = 1 ∨ cls.length = 0 := by omega
    have h4 : op = 0 ∨ op = 1 → ps.length = 0 := by omega
    have h5 : op = 4 ∨ op = 5 → ps.length = 1 := by omega
    have h6 : op = 0 ∨ op = 1 ∨ op = 2 ∨ op = 3 ∨ op = 4 ∨ op = 5 := by omega
    clear hno
    rcases h6 with rfl | rfl | rfl | rfl | rfl | rfl
    · exact right_0 cls ps ih w mb rb mc d a b c h1 h2 h3 h4 h5 hx hmc hd hv
    · exact right_1 cls ps ih w mb rb mc d a b c h1 h2 h3 h4 h5 hx hmc hd hv
    · exact right_2 cls ps ih w mb rb mc d a b c h1 h2 h3 h4 h5 hx hmc hd hv
    · exact right_3 cls ps ih w mb rb mc d a b c h1 h2 h3 h4 h5 hx hmc hd hv
    · exact right_4 cls ps ih w mb rb mc d a b c h1 h2 h3 h4 h5 hx hmc hd hv
    · exact right_5 cls ps ih w mb rb mc d a b c h1 h2 h3 h4 h5 hx hmc hd hv

theorem right_at : ∀ (x : Nd), RightAt x
  | .mk op cls ps => right_step op cls ps (fun x hx => right_at x)
  termination_by x => SizeOf.sizeOf x
  decreasing_by
    have := List.sizeOf_lt_of_mem hx
    simp; omega

open Classical in
/-- a Bool that says whether an expression may be -/
noncomputable def rightB (x : Nd) : Bool := decide (RightX x)
open Classical in
theorem rightB_iff {x : Nd} : rightB x = true ↔ RightX x := by unfold rightB; exact decide_eq_true_iff

theorem alloc3 (w : World) (o1 o2 o3 : Obj) (W : World) (hW : W = ((w.alloc o1).alloc o2).alloc o3) : Below w.heap.size w W ∧ W.heap[w.heap.size]? = some o1 ∧ W.heap[w.heap.size + 1]? = some o2 ∧ W.heap[w.heap.size + 1 + 1]? = some o3 := by
  have s1 : (w.alloc o1).heap.size = w.heap.size + 1 := by simp
  have s2 : ((w.alloc o1).alloc o2).heap.size = w.heap.size + 1 + 1 := by simp
  have b1 := below_alloc1 w o1
  have b2 := below_alloc1 (w.alloc o1) o2
  have b3 := below_alloc1 ((w.alloc o1).alloc o2) o3
  subst hW
  refine ⟨(b1.trans (b2.mono (by omega))).trans (b3.mono (by omega)), ?_, ?_, ?_⟩
  · rw [b3.block _ (by omega), b2.block _ (by omega)]; exact heap_alloc_new _ _
  · rw [b3.block _ (by omega), ← s1]; exact heap_alloc_new _ _
  · rw [← s2]; exact heap_alloc_new _ _

set_option maxRecDepth 100000 in
set_option maxHeartbeats 4000000 in
theorem right_any (x : Nd) (w : World) (a b c : Value) (hx : NodeIs w x a b c) :
    Calls Try.prog 22 #[.agg #[a, b, c]] w fun e w' => e = .returned (.bool (rightB x)) ∧ Below w.heap.size w w' := by
  have HX := Lib.hid hx
  obtain ⟨op, pp, l, c1, q, m, d, rfl, rfl, rfl⟩ := hx.form
  clear hx
  have hmf : ∀ (fn : Fn) (first cap : Array Value) (w : World), (Instr.makeFunc fn first cap).run Try.prog w = .ok (.func fn first cap) w := fun _ _ _ _ => rfl
  go_enter Try.func22, Try.ntmps22
  go_upto_region 4 with fail
  refine abs_wp fun W hW => ?_
  obtain ⟨a0, a1, a2, a3⟩ := alloc3 w _ _ _ W hW
  have HB := Lib.hid a0
  have HV := Lib.hid (show RVars W (w.heap.size + 1) (w.heap.size + 1 + 1) ((0 : Nat) : Int) from ⟨by omega, a2, a3⟩)
  have hbx : W.heap[w.heap.size]? = some (.cells #[.int .i64 op, .slice pp l c1, .slice q m d] 49) := a1
  clear a0 a1 a2 a3
  obtain ⟨x0, x1, x2⟩ := cells3 hbx
  have x3 : W.cell? ⟨w.heap.size + 1 + 1, 0, none⟩ = some (.func (.func 32) #[] #[.pointer (some ⟨w.heap.size + 1, 0, none⟩), .pointer (some ⟨w.heap.size + 1 + 1, 0, none⟩)]) := by simp [World.cell?, HV.out.2.2]
  have HD := Lib.hid (show Calls Try.prog 32 #[.agg #[.int .i64 op, .slice pp l c1, .slice q m d], .int .i64 1, .pointer (some ⟨w.heap.size + 1, 0, none⟩), .pointer (some ⟨w.heap.size + 1 + 1, 0, none⟩)] W (RPost W (w.heap.size + 1) (w.heap.size + 1 + 1) 0 x 1) from
    right_at x W _ _ 0 1 _ _ _ (NodeF.mono (fun k hk => by omega) _ (NodeF.below HB.out (Nat.le_refl _) _ HX.out.foot)) (by omega) (by omega) HV.out)
  clear hW hbx
  go_wp2_with fail
  refine HD.out.mono ?_
  rintro e w3 ⟨b, rfl, hiff, -, hfr⟩
  have HI := Lib.hid hiff
  have HF := Lib.hid hfr
  clear hiff hfr x0 x1 x2 x3 hmf
  go_wp2_with fail
  go_ret
  refine ⟨?_, HB.out.trans (HF.out.below HB.out.size (fun k hk => by omega))⟩
  have hb : b = rightB x := by
    rw [Bool.eq_iff_iff, HI.out, rightB_iff, Nat.zero_add]
    rfl
  rw [hb]
  rfl

/-- a state in a row of three cells -/
def staE (w : World) (s : Sta) (row : List Value) : Prop := ∃ fv tv, row = [fv, .bool s.set, tv] ∧ Ints w fv s.free ∧ Ints w tv s.takes

/-- a machine that is laid -/
def MachR (w : World) (m : Nat) (S : List Sta) : Prop := ∃ lv, w.heap[m]? = some (.cells #[lv, .int .i64 0, .int .i64 1] 112) ∧ ReadL (staE w) 3 w lv S

theorem staE.to {B : Nat} {w w' : World} {s : Sta} {row : List Value} (h : staE w s row) (hb : Below B w w') (hB : w.heap.size ≤ B) : staE w' s row := by
  obtain ⟨fv, tv, rfl, h1, h2⟩ := h
  exact ⟨fv, tv, rfl, h1.to hb hB, h2.to hb hB⟩

theorem ReadL.mono {α : Type} {E F : α → List Value → Prop} {sz : Nat} {w : World} {v : Value} {xs : List α} (h : ReadL E sz w v xs) (hf : ∀ x r, E x r → F x r) : ReadL F sz w v xs := by
  obtain ⟨rows, h1, h2, h3, h4⟩ := h
  exact ⟨rows, h1, h2, h3, fun i hi => by obtain ⟨row, g1, g2⟩ := h4 i hi; exact ⟨row, g1, hf _ _ g2⟩⟩

theorem MachR.to {w w' : World} {m : Nat} {S : List Sta} (h : MachR w m S) (hb : Below w.heap.size w w') : MachR w' m S := by
  obtain ⟨lv, h1, h2⟩ := h
  exact ⟨lv, (hb.block m (at_lt h1)).trans h1, (h2.below hb (Nat.le_refl _)).mono (fun s r hs => hs.to hb (Nat.le_refl _))⟩

theorem ReadL.map {α β : Type} {E : α → List Value → Prop} {F : β → List Value → Prop} (f : α → β) {sz : Nat} {w : World} {v : Value} {xs : List α} (h : ReadL E sz w v xs) (hf : ∀ x ∈ xs, ∀ r, E x r → F (f x) r) : ReadL F sz w v (xs.map f) := by
  obtain ⟨rows, h1, h2, h3, h4⟩ := h
  refine ⟨rows, by rwa [List.length_map], by rwa [List.length_map], h3, fun i hi => ?_⟩
  rw [List.length_map] at hi
  obtain ⟨row, g1, g2⟩ := h4 i hi
  exact ⟨row, g1, by rw [List.getElem_map]; exact hf _ (List.getElem_mem hi) _ g2⟩

theorem Mach.read {base m : Nat} {w w' : World} {L : List Sta} {f l : Int} (h : Mach base w m L f l) (hf : Fr (fun k => k = m) w w') (hm : ∀ lv a b, w.heap[m]? = some (.cells #[lv, a, b] 112) → w'.heap[m]? = some (.cells #[lv, .int .i64 0, .int .i64 1] 112)) : MachR w' m L := by
  obtain ⟨lv, Ls, h1, h2, h3, h4, h5, -⟩ := h
  have ne : ∀ {α : Type} {E : α → List Value → Prop} {T : TypeId} {sz : Nat} {v : Value} {xs : List α}, OwnL E T sz base w v xs → T ≠ 112 → OwnL E T sz base w' v xs := fun {α E T sz v xs} h hT =>
    h.fr hf (fun k hk he => h.notAt h2 hT (by rw [hk]; exact congrArg some he))
  refine ⟨lv, hm _ _ _ h2, ?_⟩
  rw [← h3]
  refine ReadL.map (·.s) (ne h4 (by decide)).read (fun x hx r hr => ?_)
  have hr : r = [x.fv, .bool x.s.set, x.tv] := hr
  exact ⟨x.fv, x.tv, hr, (ne (h5 x hx).1 (by decide)).read.ints, (ne (h5 x hx).2 (by decide)).read.ints⟩

theorem mach_new (w : World) (base : Nat) (hb : base ≤ w.heap.size) : Mach base (w.alloc (.cells #[.slice none 0 0, .int .i64 0, .int .i64 0] 112)) w.heap.size [] 0 0 :=
  ⟨_, [], hb, heap_alloc_new _ _, rfl, OwnL.nil _, by simp, by simp [Apart]⟩

def NewPost (w : World) (x : Nd) (e : Ending) (w' : World) : Prop :=
  Below w.heap.size w w' ∧ ((rightB x = true ∧ ∃ m, w.heap.size ≤ m ∧ e = .returned (.tuple #[.pointer (some ⟨m, 0, none⟩), .int .i64 0]) ∧ MachR w' m (mach x)) ∨ (rightB x = false ∧ e = .returned (.tuple #[.pointer none, .int .i64 1])))

set_option maxRecDepth 100000 in
set_option maxHeartbeats 4000000 in
theorem new_any (x : Nd) (w : World) (a b c : Value) (hx : NodeIs w x a b c) :
    Calls Try.prog 35 #[.agg #[a, b, c]] w (NewPost w x) := by
  have HX := Lib.hid hx
  obtain ⟨op, pp, l, c1, q, m, d, rfl, rfl, rfl⟩ := hx.form
  clear hx
  go_enter Try.func35, Try.ntmps35
  go_upto_region 1 with fail
  refine abs_wp fun W hW => ?_
  obtain ⟨B, hB⟩ : ∃ B, B = w.heap.size := ⟨_, rfl⟩
  have hbox : W.heap[B]? = some (.cells #[.int .i64 op, .slice pp l c1, .slice q m d] 49) := by rw [hW, hB]; exact heap_alloc_new _ _
  have hbe : Below w.heap.size w W := by rw [hW]; exact below_alloc1 _ _
  rw [← hB]
  have HBE := Lib.hid hbe
  have HBOX := Lib.hid hbox
  obtain ⟨x0, x1, x2⟩ := cells3 hbox
  have HD := Lib.hid (right_any x W _ _ _ (HX.out.to hbe (Nat.le_refl _)))
  clear hW hbox hbe hB
  go_wp2_with fail
  refine HD.out.mono ?_
  rintro e w1 ⟨rfl, hb1⟩
  have HB1 := Lib.hid (HBE.out.trans (hb1.mono HBE.out.size))
  have HBOX1 := Lib.hid ((hb1.block _ (at_lt HBOX.out)).trans HBOX.out)
  clear hb1 x0 x1 x2
  obtain ⟨x0, x1, x2⟩ := cells3 HBOX1.out
  cases hr : rightB x
  · have HR := Lib.hid hr
    clear hr
    go_wp2_with fail
    go_ret2
    exact ⟨HB1.out, .inr ⟨HR.out, rfl⟩⟩
  · have HR := Lib.hid hr
    clear hr
    have HG := Lib.hid (show Good x from Wf_good x 1 (rightB_iff.1 HR.out).1)
    have HC := Lib.hid (show cnt x ≤ 400 from (rightB_iff.1 HR.out).2)
    go_upto_region 4 with fail
    refine abs_wp fun W2 hW2 => ?_
    obtain ⟨mb, hmb⟩ : ∃ mb, mb = w1.heap.size := ⟨_, rfl⟩
    have hbm : Below w1.heap.size w1 W2 := by rw [hW2]; exact below_alloc1 _ _
    have hmach : Mach w.heap.size W2 mb [] 0 0 := by rw [hW2, hmb]; exact mach_new _ _ HB1.out.size
    have HMB := Lib.hid (show w.heap.size ≤ mb by rw [hmb]; exact HB1.out.size)
    rw [← hmb]
    have HB2 := Lib.hid (HB1.out.trans (hbm.mono HB1.out.size))
    have HBOX2 := Lib.hid ((hbm.block _ (at_lt HBOX1.out)).trans HBOX1.out)
    have HL := Lib.hid (lay_any x HG.out w.heap.size W2 mb [] 0 0 _ _ _ (NodeF.below HB2.out (Nat.le_refl _) _ HX.out.foot) hmach (by have := HC.out; simp; omega) (by have := HC.out; simp [edges]; omega))
    clear hW2 hmb hbm hmach x0 x1 x2
    obtain ⟨x0, x1, x2⟩ := cells3 HBOX2.out
    go_wp2_with fail
    refine HL.out.mono ?_
    rintro e w3 ⟨rfl, hm3, hb3, hk3⟩
    obtain ⟨lv, Ls, hm4⟩ := id hm3
    have HM4 := Lib.hid hm4.2.1
    have HM3 := Lib.hid hm3
    have HB3 := Lib.hid (HB2.out.trans hb3)
    clear hm3 hb3 hk3 hm4 x0 x1 x2
    obtain ⟨y0, y1, y2⟩ := cells3 HM4.out
    have f1 := fz_at HM4.out 1
    have f2 := fz_at HM4.out 2
    simp only [List.length_nil]
    go_upto_region 6 with fail
    refine abs_wp fun W4 hW4 => ?_
    have h5 : ∀ lv a b, w3.heap[mb]? = some (.cells #[lv, a, b] 112) → W4.heap[mb]? = some (.cells #[lv, .int .i64 0, .int .i64 1] 112) := fun lv' a b h => by
      have k1 := blk_set h 1 (.int .i64 0)
      have k2 := blk_set k1 2 (.int .i64 1)
      rw [hW4]
      exact k2
    have h6 : Fr (fun k => k = mb) w3 W4 := by
      rw [hW4]
      exact (Fr.setCell (F := fun k => k = mb) _ rfl _).trans (Fr.setCell (F := fun k => k = mb) _ rfl _) (fun _ _ h => h)
    have H7 := Lib.hid (show Below w.heap.size w W4 from HB3.out.trans (h6.below HB3.out.size (fun k hk => by have hk : k = mb := hk; have := HMB.out; omega)))
    have H8 := Lib.hid (show MachR W4 mb (mach x) from HM3.out.read h6 h5)
    clear hW4 h5 h6 y0 y1 y2 f1 f2
    go_wp2_with fail
    go_ret2
    exact ⟨H7.out, .inl ⟨HR.out, mb, HMB.out, rfl, H8.out⟩⟩
end Go.Proofs.Ytmooflmhbpckjaa
