/-
  dfa: the machine of all situations. No condition beyond what each theorem names.
-/
import Derived.Test.YtmooflmhbpckjaaEG
set_option linter.unusedVariables false
set_option linter.unusedSimpArgs false
namespace Go.Proofs.Ytmooflmhbpckjaa
open Go.RowKit Go.Maps Classical

/-- a machine, as it reads -/
def MachD (w : World) (ob classes : Nat) (N : List (List Nat)) (O : List Nat) : Prop := ∃ nv ov, w.heap[ob]? = some (.cells #[.int .i64 (classes : Nat), nv, ov] 67) ∧ ReadL (nrowE (fun _ => True) w) 1 w nv N ∧ ReadL u64E 1 w ov O
theorem MachD.to {w w' : World} {ob classes : Nat} {N : List (List Nat)} {O : List Nat} (h : MachD w ob classes N O) (hb : Below w.heap.size w w') : MachD w' ob classes N O := by
  obtain ⟨nv, ov, h1, h2, h3⟩ := h
  exact ⟨nv, ov, (hb.block _ (at_lt h1)).trans h1, (h2.below hb (Nat.le_refl _)).monoE (fun x r hr => rowE.below hr hb (Nat.le_refl _)), h3.below hb (Nat.le_refl _)⟩
theorem MSt.machD {base : Nat} {w : World} {ob classes : Nat} {F : Nat → Prop} {nv ov : Value} {N : List (List Nat)} {O : List Nat} (h : MSt base w ob classes F nv ov N O) : MachD w ob classes N O :=
  ⟨nv, ov, h.mach, (OwnL.read h.next).monoE (fun x r hr => rowE.mono hr (fun _ _ => trivial)), h.outs.read⟩

theorem sitK_small {l : List (Nd × Bool)} (hl : ∀ e ∈ l, RightX e.1) {s : List (List Int)} (h : SitOk l s) : ∀ xs ∈ s, xs.length ≤ 1000 ∧ Small16 xs := by
  intro xs hx
  obtain ⟨i, hi, rfl⟩ := List.getElem_of_mem hx
  have h1 : i < l.length := by rw [← h.1]; exact hi
  obtain ⟨h2, h3⟩ := h.2 i h1 hi
  have h4 := (mach_laws (hl l[i] (List.getElem_mem h1))).len
  exact ⟨h3, fun n hn => by have := h2 n hn; omega⟩
theorem sitK_inj {l : List (Nd × Bool)} (hl : ∀ e ∈ l, RightX e.1) (x y : List (List Int)) (hx : SitOk l x) (hy : SitOk l y) (h : nameK x = nameK y) : x = y :=
  nameK_inj (fun xs hxs => (sitK_small hl hx xs hxs).2) (fun xs hxs => (sitK_small hl hy xs hxs).2) h

theorem strOf_small {l : List (Nd × Bool)} (hl : ∀ e ∈ l, RightX e.1) (h64 : l.length ≤ 64) {s : List (List Int)} (h : SitOk l s) : (strOf (nameL s)).size ≤ maxLen := by
  rw [strOf_size]
  have h1 := nameL_length (xss := s) (fun xs hx => (sitK_small hl h xs hx).1)
  have h2 := h.1
  unfold maxLen
  omega

section
variable {ops : Array Oper} {rest : List Oper} {o : Oper} {a : Act} {w : World} {Q : Exit → Act → World → Prop} {base : Nat}
theorem infoSit : (Try.prog.info? 118).map (fun i => (i.zero, i.size, i.bytes)) = some (some (.slice none 0 0), 1, 24) := by kernel_rfl
theorem wpList_append_sits {E : List (List Int) → List Value → Prop} (hgd : o.guard = none) (s x : Operand) (ho : o.op = .call { callee := .builtin .append, args := #[s, x], argTypes := #[122, 122] })
    (v : Value) (xs : List (List (List Int))) (n : Nat) (hn : xs.length = n) (hs : a.eval s = v) (hown : OwnL E 118 1 base w v xs) (xv : Value) (y : List (List Int)) (hx : a.eval x = xv) (hr : ReadL E 1 w xv [y]) (hlen : n + 1 ≤ 1000000) (hbase : base ≤ w.heap.size)
    (h : ∀ p c w', OwnL E 118 1 base w' (.slice p (n + 1) c) (xs ++ [y]) → w.grownBy w' v.ownBlock → ((Value.slice p (n + 1) c).ownBlock = v.ownBlock ∨ (Value.slice p (n + 1) c).ownBlock = some w.heap.size) → wpList Try.prog ops Q rest (a.put o.dst (.slice p (n + 1) c)) w') : wpList Try.prog ops Q (o :: rest) a w := by
  subst hn
  obtain ⟨i0, hi, hz0, hz1, hz2⟩ := info_parts infoSit
  exact wpList_append_L hgd s x 122 ho i0 _ 24 Try.underlying122 hi hz0 hz1 hz2 rfl (by decide) v xs hs hown xv [y] hx hr (by unfold maxLen; simp; omega) (by simp; omega) hbase h
theorem wpList_append_nrows {E : List Nat → List Value → Prop} (hgd : o.guard = none) (s x : Operand) (ho : o.op = .call { callee := .builtin .append, args := #[s, x], argTypes := #[65, 65] })
    (v : Value) (xs : List (List Nat)) (n : Nat) (hn : xs.length = n) (hs : a.eval s = v) (hown : OwnL E 46 1 base w v xs) (xv : Value) (y : List Nat) (hx : a.eval x = xv) (hr : ReadL E 1 w xv [y]) (hlen : n + 1 ≤ 1000000) (hbase : base ≤ w.heap.size)
    (h : ∀ p c w', OwnL E 46 1 base w' (.slice p (n + 1) c) (xs ++ [y]) → w.grownBy w' v.ownBlock → ((Value.slice p (n + 1) c).ownBlock = v.ownBlock ∨ (Value.slice p (n + 1) c).ownBlock = some w.heap.size) → wpList Try.prog ops Q rest (a.put o.dst (.slice p (n + 1) c)) w') : wpList Try.prog ops Q (o :: rest) a w := by
  subst hn
  obtain ⟨i0, hi, hz0, hz1, hz2⟩ := info_parts infoInts
  exact wpList_append_L hgd s x 65 ho i0 _ 24 Try.underlying65 hi hz0 hz1 hz2 rfl (by decide) v xs hs hown xv [y] hx hr (by unfold maxLen; simp; omega) (by simp; omega) hbase h
theorem wpList_append_u64 (hgd : o.guard = none) (s x : Operand) (ho : o.op = .call { callee := .builtin .append, args := #[s, x], argTypes := #[58, 58] })
    (v : Value) (xs : List Nat) (n : Nat) (hn : xs.length = n) (hs : a.eval s = v) (hown : OwnL u64E 37 1 base w v xs) (xv : Value) (y : Nat) (hx : a.eval x = xv) (hr : ReadL u64E 1 w xv [y]) (hlen : n + 1 ≤ 1000000) (hbase : base ≤ w.heap.size)
    (h : ∀ p c w', OwnL u64E 37 1 base w' (.slice p (n + 1) c) (xs ++ [y]) → w.grownBy w' v.ownBlock → ((Value.slice p (n + 1) c).ownBlock = v.ownBlock ∨ (Value.slice p (n + 1) c).ownBlock = some w.heap.size) → wpList Try.prog ops Q rest (a.put o.dst (.slice p (n + 1) c)) w') : wpList Try.prog ops Q (o :: rest) a w := by
  subst hn
  obtain ⟨i0, hi, hz0, hz1, hz2⟩ := info_parts infoU64
  exact wpList_append_L hgd s x 58 ho i0 _ 8 Try.underlying58 hi hz0 hz1 hz2 rfl (by decide) v xs hs hown xv [y] hx hr (by unfold maxLen; simp; omega) (by simp; omega) hbase h
end

theorem made_ints (n : Nat) : madeCells #[Value.int .i64 0] n = (List.replicate n (Value.int .i64 0)).toArray := by
  apply Array.ext
  · simp [madeCells]
  · intro i h1 h2
    have e : i % 1 = 0 := Nat.mod_one i
    simp [madeCells, e]
theorem make_ints (t : TypeId) (ht : Try.prog.underlying t = some (.slice 3)) (w : World) (c : Int) (n : Nat) (hc : c = n) (hn : n ≤ 1000001) :
    (Instr.makeSlice t (.int .i64 c) (.int .i64 c)).run Try.prog w = .ok (.slice (some ⟨w.heap.size, 0, none⟩) n n) (w.alloc (.cells (List.replicate n (Value.int .i64 0)).toArray 3)) := by
  subst hc
  obtain ⟨i0, hi, hz0, hz1, hz2⟩ := info_parts infoInt
  have := run_make (P := Try.prog) w t 3 i0 (.int .i64 0) ht hi hz0 .i64 .i64 n n (by omega) (by omega) (by rw [hz2]; omega) (by omega)
  rw [hz1] at this
  simp only [Int.toNat_natCast, Nat.mul_one] at this
  rw [this, show (Value.int .i64 0).cells = #[Value.int .i64 0] from rfl, made_ints]

def AllPost (w : World) (l : List (Nd × Bool)) (classes : Nat) (e : Ending) (w' : World) : Prop :=
  Below w.heap.size w w' ∧ ((TooMany (autoE l) classes ∧ e = .returned (.tuple #[.pointer none, .bool false])) ∨
    (¬ TooMany (autoE l) classes ∧ ∃ ob, w.heap.size ≤ ob ∧ e = .returned (.tuple #[.pointer (some ⟨ob, 0, none⟩), .bool true]) ∧
      MachD w' ob classes (nextsOf (autoE l) classes (cl (autoE l) classes 2000)) ((cl (autoE l) classes 2000).map fun s => bitsL (outE s))))

set_option maxRecDepth 100000 in
set_option maxHeartbeats 8000000 in
theorem all_any (w : World) (bb : Nat) (l : List (Nd × Bool)) (hB : BuilderR w bb l) (hl : l.length ≤ 64) (hr : ∀ e ∈ l, RightX e.1) (classes : Nat) (hc : 1 ≤ classes ∧ classes ≤ 24) :
    Calls Try.prog 37 #[.pointer (some ⟨bb, 0, none⟩), .int .i64 classes] w (AllPost w l classes) := by
  obtain ⟨hbl, pl, cl0, pm, cm, c0, c1, hcl, hcm, hgg⟩ := hB.get
  have HGG := Lib.hid hgg
  have HB0 := Lib.hid hB
  have HR := Lib.hid hr
  have HLEN := Lib.hid (show (autoE l).start.length = l.length from by show (l.map _).length = _; simp)
  have hmm := @run_makeMap Try.prog
  clear hB hgg hr
  go_enter Try.func37, Try.ntmps37
  go_wp2_with fail
  go_loopw [6, 23] (fun u i wr => ∃ k : Nat, i = .int .i64 k ∧ k ≤ l.length ∧ OwnLL w.heap.size wr u ((autoE l).start.take k) ∧ Below w.heap.size w wr) (fun _ i _ => l.length - (intOf i).toNat)
  case atStart => exact ⟨0, rfl, by omega, OwnLL.nil _ _, Below.refl _ _⟩
  case round =>
    obtain ⟨k, rfl, h1, hown, hb⟩ := hrel
    obtain ⟨pu, cu, hu⟩ := OwnL.form hown
    subst hu
    have hul : ((autoE l).start.take k).length = k := by rw [List.length_take, HLEN.out]; omega
    rw [hul] at hown ⊢
    have HOW := Lib.hid hown
    have HB := Lib.hid hb
    have hbs := hb.size
    clear hown hul
    by_cases hk : k < l.length
    · obtain ⟨b1, o1, b2, o2, rfl, rfl, hb1, hb2, hcc⟩ := HGG.out (by omega)
      obtain ⟨-, m, d1, hm⟩ := hcc k hk
      have hlw := mach_laws (HR.out l[k] (List.getElem_mem hk))
      have HZK := Lib.hid (show (autoE l).start.take (k + 1) = (autoE l).start.take k ++ [closedL (mach l[k].1) [0]] by
        rw [List.take_succ_eq_append_getElem (by rw [HLEN.out]; exact hk)]
        simp only [autoE]
        rw [List.getElem_map])
      have y2 := cell_below hb hb2 d1
      have HST := Lib.hid (start_any wr m (mach l[k].1) (hm.to (hb.mono (Nat.le_refl _))) hlw)
      have hkk : (k : Int) < l.length := by omega
      have hk0 : (0 : Int) ≤ k := by omega
      clear hcc hm hlw
      generalize mach l[k].1 = S at *
      go_wp2_with fail
      refine HST.out.mono ?_
      rintro e w1 ⟨u1, rfl, hown1, hbw1⟩
      obtain ⟨p1, q1, hu1⟩ := hown1.form
      subst hu1
      have HO1 := Lib.hid hown1
      have HB1 := Lib.hid hbw1
      have HLE := Lib.hid (HOW.out.below HB1.out (Nat.le_refl _))
      have hwl := HB1.out.size
      clear hown1 hbw1 y2
      go_wp2_with (refine wpList_append_LL rfl (.tmp 27) (.tmp 30) 118 Try.underlying118 rfl _ ((autoE l).start.take k) k (by rw [List.length_take, HLEN.out]; omega) rfl w1 HLE.out _ (closedL S [0]) (HO1.out.based hbs) rfl rfl (by omega) (Nat.le_trans hbs hwl) ?_; intro p4 c4 w4 hown4 hb4 hf4 hl4)
      have HREL := Lib.hid (show OwnLL w.heap.size w4 (.slice p4 (k + 1) c4) ((autoE l).start.take (k + 1)) ∧ Below w.heap.size w w4 by
        refine ⟨by rw [HZK.out]; exact hown4, HB.out.trans ((HB1.out.mono hbs).trans hb4)⟩)
      clear hown4 hb4 hf4 hl4 hb
      go_wp2_with fail
      go_roundw
      case rel => exact ⟨k + 1, by go_num, by omega, HREL.out.1, HREL.out.2⟩
      case measure => simp [intOf]; omega
    · have hkk : ¬ (k : Int) < l.length := by omega
      have hke : (autoE l).start.take k = (autoE l).start := List.take_of_length_le (by rw [HLEN.out]; omega)
      rw [hke] at HOW
      obtain rfl : k = l.length := by omega
      have hok0 : SitOk l (autoE l).start := SitOk.start HR.out
      have HOK0 := Lib.hid hok0
      have hllf := HOW.out.llf
      -- the map
      obtain ⟨mb, hmb⟩ : ∃ mb, mb = wr.heap.size := ⟨_, rfl⟩
      have hal := below_alloc1 wr (.map #[] 0)
      have HNEW := Lib.hid (NumMap.new 9 wr)
      rw [← hmb] at HNEW
      have HF0 := Lib.hid (show LLF (fun k => w.heap.size ≤ k ∧ k < wr.heap.size) (wr.alloc (.map #[] 0)) (.slice pu l.length cu) (autoE l).start from hllf.below hal (Nat.le_refl _))
      have HNM := Lib.hid (name_any _ (wr.alloc (.map #[] 0)) (.slice pu l.length cu) (autoE l).start HF0.out (by rw [HLEN.out]; exact hl) (sitK_small HR.out hok0))
      have HAL := Lib.hid hal
      clear hke hok0 hllf hal
      go_wp2_with fail
      refine HNM.out.mono ?_
      rintro e w2 ⟨rfl, hb2⟩
      rw [← hmb]
      have HMB := Lib.hid hmb
      have hmlt : mb < w2.heap.size := by have := HNEW.out.lt; have := hb2.size; omega
      clear hmb
      have HB2 := Lib.hid (HB.out.trans ((HAL.out.trans (hb2.mono HAL.out.size)).mono hbs))
      have HBW2 := Lib.hid (HAL.out.trans (hb2.mono HAL.out.size))
      have HN2 := Lib.hid (HNEW.out.fr (Fr.of_belowB hb2) (by have := HNEW.out.lt; omega))
      have HF2 := Lib.hid (LLF.below HF0.out hb2 (Nat.le_refl _))
      have HKEY := Lib.hid (WideMaps.keyOf_string_mk (P := Try.prog) (k := 9) Try.underlying9 (strOf_small HR.out hl HOK0.out))
      have hwf0 : (Lit.int .i64 0).wf = true := by decide
      clear hb2
      go_wp2_with (refine wpList_insert_own _ rfl _ _ _ 121 rfl 9 3 lawS Try.underlying121 _ mb 0 _ rfl HN2.out.2.2 (by unfold maxLen; omega) _ _ (nameK (autoE l).start) rfl rfl HKEY.out _ [] (plainElem_int Try.underlying3 hwf0) ?_; intro w3 hown3 hg3)
      have HN3 := Lib.hid (show NumMap 9 w3 mb [nameK (autoE l).start] from ⟨by simp, fun k hk => by rw [List.mem_singleton.1 hk]; trivial, hown3⟩)
      have hf3 : Fr (fun k => k = mb) w2 w3 := Fr.grown (F := fun k => k = mb) hg3 (fun k h => by injection h with h; exact h.symm)
      have HB3 := Lib.hid (HB2.out.trans (hf3.below HB2.out.size (fun k hk => by have hk : k = mb := hk; have := HMB.out; omega)))
      have HF3 := Lib.hid (LLF.fr HF2.out hf3 (fun k hk (h : k = mb) => by have := HMB.out; omega))
      have HW3 := Lib.hid (show wr.heap.size ≤ w3.heap.size from Nat.le_trans HBW2.out.size hf3.size)
      clear hown3 hg3 hf3
      go_upto_region 10 with fail
      refine abs_wp fun W hW => ?_
      obtain ⟨ob, hob⟩ : ∃ ob, ob = w3.heap.size + 1 := ⟨_, rfl⟩
      have hal1 := below_alloc1 w3 (.cells #[.slice pu l.length cu] 118)
      have s1 : (w3.alloc (.cells #[.slice pu l.length cu] 118)).heap.size = w3.heap.size + 1 := by simp
      have hal2 := below_alloc1 (w3.alloc (.cells #[.slice pu l.length cu] 118)) (.cells #[.int .i64 classes, .slice none 0 0, .slice none 0 0] 67)
      have hw3 := HW3.out
      have hb3s := HB3.out.size
      have HAST := Lib.hid (show ASt w.heap.size W mb ob classes (fun k => w.heap.size ≤ k ∧ k < wr.heap.size) (.slice (some ⟨w3.heap.size, 0, none⟩) 1 1) (.slice none 0 0) (.slice none 0 0) ((cl (autoE l) classes 0).map nameK) (cl (autoE l) classes 0) (nextsAt (autoE l) classes 0) (outsAt (cl (autoE l) classes 0) (fun s => bitsL (outE s)) 0) by
        rw [hW, hob]
        have hsz : ((w3.alloc (.cells #[.slice pu l.length cu] 118)).alloc (.cells #[.int .i64 classes, .slice none 0 0, .slice none 0 0] 67)).heap.size = w3.heap.size + 1 + 1 := by simp
        refine ⟨⟨?_, by omega, OwnL.nil _, OwnL.nil _, fun k hk => ⟨hk.1, by rw [hsz]; omega, by omega, fun h => (by cases h), fun h => (by cases h)⟩⟩, ?_, by have := HMB.out; omega, ?_, fun k hk => ⟨by have := HMB.out; omega, fun h => ?_⟩⟩
        · rw [← s1]; exact heap_alloc_new _ _
        · exact (HN3.out.fr (Fr.of_belowB hal1) (by have := HN3.out.lt; omega)).fr (Fr.of_belowB hal2) (by have := HN3.out.lt; omega)
        · have hE : sitE (fun k => w.heap.size ≤ k ∧ k < wr.heap.size) w3 (autoE l).start [.slice pu l.length cu] := ⟨_, rfl, rfl, HF3.out⟩
          have h1 := OwnL.block1 (E := sitE (fun k => w.heap.size ≤ k ∧ k < wr.heap.size) w3) (base := w.heap.size) w3 118 (autoE l).start [.slice pu l.length cu] ⟨rfl, by simp [Value.oneCell']⟩ hE hb3s
          exact OwnL.mono (h1.below hal2 (Nat.le_refl _)) (fun x r hr => (sitE.fr hr (Fr.of_belowB hal1) (fun k hk h => by omega)).fr (Fr.of_belowB hal2) (fun k hk h => by omega))
        · have h2 : w3.heap.size = k := by injection h
          omega)
      have HBW := Lib.hid (show Below w.heap.size w W by rw [hW]; exact HB3.out.trans ((hal1.trans (hal2.mono (by omega))).mono hb3s))
      have hob0 : w.heap.size ≤ ob := by omega
      clear hW hal1 s1 hal2
      have HOBE := Lib.hid hob
      have hmt : ∀ (w : World), (Instr.makeSlice 46 (.int .i64 (classes : Nat)) (.int .i64 (classes : Nat))).run Try.prog w = .ok (.slice (some ⟨w.heap.size, 0, none⟩) classes classes) (w.alloc (.cells (List.replicate classes (Value.int .i64 0)).toArray 3)) := fun w => make_ints _ Try.underlying46 w _ classes rfl (by omega)
      rw [← hob]
      clear hob hwf0
      go_loopw [10, 12] (fun u i w1 => ∃ (n : Nat) (F : Nat → Prop) (nv ov : Value), i = .int .i64 n ∧ n ≤ (cl (autoE l) classes n).length ∧ (cl (autoE l) classes n).length ≤ 2000 ∧ ASt w.heap.size w1 mb ob classes F u nv ov ((cl (autoE l) classes n).map nameK) (cl (autoE l) classes n) (nextsAt (autoE l) classes n) (outsAt (cl (autoE l) classes n) (fun s => bitsL (outE s)) n) ∧ Below w.heap.size w w1) (fun _ i _ => 2001 - (intOf i).toNat)
      case atStart => exact ⟨0, _, _, _, rfl, by simp, by simp [cl], HAST.out, HBW.out⟩
      case round =>
        obtain ⟨n, F, nv, ov, rfl, hn1, hn2, hast, hbn⟩ := hrel
        obtain ⟨pv, cv, hu⟩ := hast.list.form
        subst hu
        obtain ⟨L, hL⟩ : ∃ L, L = cl (autoE l) classes n := ⟨_, rfl⟩
        obtain ⟨q, hq⟩ : ∃ q, q = L.length := ⟨_, rfl⟩
        rw [← hL] at hn1 hn2 hast ⊢
        rw [← hq] at hn1 hn2 hast ⊢
        have HLE := Lib.hid hL
        have HQ := Lib.hid hq
        have HAS := Lib.hid hast
        have HBN := Lib.hid hbn
        have hbns := hbn.size
        clear hL hq hast hbn
        by_cases hn : n < q
        · have hnl : n < L.length := by rw [← HQ.out]; exact hn
          obtain ⟨s, hs⟩ : ∃ s, s = L[n] := ⟨_, rfl⟩
          have HS := Lib.hid (show L[n]? = some s by rw [hs]; exact List.getElem?_eq_getElem hnl)
          have HLOK := Lib.hid (show ∀ x ∈ L, SitOk l x by rw [HLE.out]; exact cl_allP (fun s hs c => hs.step HR.out c) HOK0.out classes n)
          have HSOK := Lib.hid (HLOK.out s (by rw [hs]; exact List.getElem_mem hnl))
          have hni : (n : Int) < q := by omega
          have hn0 : (0 : Int) ≤ n := by omega
          clear hs
          go_upto_region 14 with fail
          refine abs_wp fun W1 hW1 => ?_
          obtain ⟨g, hg⟩ : ∃ g, g = wr.heap.size := ⟨_, rfl⟩
          have hal := below_alloc1 wr (.cells (List.replicate classes (Value.int .i64 0)).toArray 3)
          have HV1 := Lib.hid (show VRow W1 g 3 (List.replicate classes (Value.int .i64 0)) by rw [hW1, hg]; exact heap_alloc_new _ _)
          have HA1 := Lib.hid (show ASt w.heap.size W1 mb ob classes F (.slice pv q cv) nv ov (L.map nameK) L (nextsAt (autoE l) classes n) (outsAt L (fun s => bitsL (outE s)) n) by rw [hW1]; exact HAS.out.below hal)
          have HBW1 := Lib.hid (show Below w.heap.size w W1 by rw [hW1]; exact HBN.out.trans (hal.mono hbns))
          have HGF := Lib.hid (show ¬ F g by intro h; have := (HAS.out.m.foot g h).2.1; omega)
          have hg0 : w.heap.size ≤ g := by omega
          rw [← hg]
          clear hW1 hal hg
          obtain ⟨N, hN⟩ : ∃ N, N = nextsAt (autoE l) classes n := ⟨_, rfl⟩
          obtain ⟨O, hO⟩ : ∃ O, O = outsAt L (fun s => bitsL (outE s)) n := ⟨_, rfl⟩
          rw [← hN, ← hO] at HA1
          have HN := Lib.hid hN
          have HO := Lib.hid hO
          clear hN hO
          have HRP := Lib.hid (fun c => rowS_pre (autoE l) s L c)
          have HROK := Lib.hid (show ∀ c, ∀ x ∈ rowS (autoE l) s L c, SitOk l x from fun c => row_allP (fun s hs c => hs.step HR.out c) HSOK.out HLOK.out c)
          have HRL := Lib.hid (fun c => rowS_length (autoE l) s L c)
          go_wp2_with fail
          go_loopw [10, 51] (fun u j w2 => ∃ (c : Nat) (F : Nat → Prop), j = .int .i64 c ∧ c ≤ classes ∧ ASt w.heap.size w2 mb ob classes F u nv ov ((rowS (autoE l) s L c).map nameK) (rowS (autoE l) s L c) N O ∧ VRow w2 g 3 ((natsI (rowN (autoE l) L s c)).map (.int .i64) ++ List.replicate (classes - c) (.int .i64 0)) ∧ ¬ F g ∧ Below w.heap.size w w2) (fun _ j _ => classes - (intOf j).toNat)
          case atStart => exact ⟨0, F, rfl, by omega, HA1.out, HV1.out, HGF.out, HBW1.out⟩
          case round =>
            obtain ⟨c, F2, rfl, hc1, hast, hv, hgf, hb2⟩ := hrel
            obtain ⟨pv2, cv2, hu⟩ := hast.list.form
            subst hu
            obtain ⟨L2, hL2⟩ : ∃ L2, L2 = rowS (autoE l) s L c := ⟨_, rfl⟩
            obtain ⟨q2, hq2⟩ : ∃ q2, q2 = L2.length := ⟨_, rfl⟩
            rw [← hL2] at hast ⊢
            rw [← hq2] at hast ⊢
            have HL2 := Lib.hid hL2
            have HQ2 := Lib.hid hq2
            have HA2 := Lib.hid hast
            have HV2 := Lib.hid hv
            have HGF2 := Lib.hid hgf
            have HB2' := Lib.hid hb2
            have hb2s := hb2.size
            clear hL2 hq2 hast hv hgf hb2
            by_cases hcc : c < classes
            · have hql : q ≤ q2 := by have := (HRP.out c).length_le; rw [HQ.out, HQ2.out, HL2.out]; exact this
              have hn2l : n < L2.length := by have := HQ2.out; omega
              have hn2q : n < q2 := by omega
              have hni2 : (n : Int) < q2 := by omega
              have hs2 : L2[n]? = some s := by
                obtain ⟨r, hr⟩ := HRP.out c
                rw [HL2.out, ← hr, List.getElem?_append_left (by have := HQ.out; omega)]
                exact HS.out
              obtain ⟨pv3, cv3, he, hq2c, hxx⟩ := HA2.out.list.read.at (by decide) HQ2.out.symm
              injection he with e1 e2 e3
              subst e1 e3
              obtain ⟨bl, ol, row, rfl, hbl2, hcell, hrow⟩ := hxx n s hs2
              obtain ⟨sv, rfl, -, hsv⟩ := hrow
              have d0 : wr.cell? ⟨bl, ol + n, none⟩ = some sv := by have := hcell 0 sv rfl; simpa using this
              have HST := Lib.hid (step_sit F2 wr bb l (HB0.out.to (HB2'.out.mono (Nat.le_refl _))) hl HR.out sv s hsv HSOK.out c)
              obtain ⟨ps, cs, rfl, -, -⟩ := hsv.1.get (by decide)
              have hcci : (c : Int) < classes := by omega
              have hc0 : (0 : Int) ≤ c := by omega
              have hsz : s.length ≤ 64 := by have := HSOK.out.1; omega
              clear hxx hcell hsv hs2 hn2l e2
              go_wp2_with fail
              refine HST.out.mono ?_
              rintro e w4 ⟨u4v, rfl, hown4, hb4⟩
              have HS' := Lib.hid (HSOK.out.step HR.out c)
              obtain ⟨s', hs'⟩ : ∃ s', s' = (autoE l).step s c := ⟨_, rfl⟩
              rw [← hs'] at hown4 HS'
              have HSE := Lib.hid hs'
              obtain ⟨p4, c4, hu4⟩ := OwnL.form hown4
              subst hu4
              have HLL := Lib.hid hown4.llf
              have HB4 := Lib.hid hb4
              have hs'l : s'.length ≤ 64 := by have := HS'.out.1; omega
              have HNM := Lib.hid (name_any _ w4 _ s' HLL.out hs'l (sitK_small HR.out HS'.out))
              clear hown4 hb4 hs' d0
              go_wp2_with fail
              refine HNM.out.mono ?_
              rintro e w5 ⟨rfl, hb5⟩
              have HB5 := Lib.hid (HB4.out.trans (hb5.mono HB4.out.size))
              have HLL5 := Lib.hid (HLL.out.below hb5 (Nat.le_refl _))
              have HA5 := Lib.hid (HA2.out.below HB5.out)
              have HV5 := Lib.hid (HV2.out.fr (Fr.of_belowB HB5.out) (by have := HV2.out.lt; omega))
              have h45 := hb5.size
              clear hb5
              have hq2n : q2 ≤ 100000 := by have := HRL.out c; rw [← HL2.out, ← HQ2.out, ← HQ.out] at this; omega
              have HNU := Lib.hid (number_str w5 mb (L2.map nameK) (strOf (nameL s')) HA5.out.num (strOf_small HR.out hl HS'.out) (by rw [List.length_map, ← HQ2.out]; omega))
              have hkp := key_place (P := SitOk l) (f := nameK) (sitK_inj HR.out) (l := L2) (s := s') (by rw [HL2.out]; exact HROK.out c) HS'.out
              have HKP := Lib.hid hkp
              have HNU2 := Lib.hid (show Calls Try.prog 58 #[.map (some mb), .string (strOf (nameL s'))] w5 fun e w' => e = .returned (.tuple #[.int .i64 (place L2 s' : Nat), .bool (!decide (s' ∈ L2))]) ∧ NumMap 9 w' mb ((putS L2 s').map nameK) ∧ w5.grownBy w' (some mb) by
                refine HNU.out.mono ?_
                rintro e w' ⟨h1, h2, h3⟩
                have e1 : place (L2.map nameK) (Lit.string (strOf (nameL s')).data.toList) = place L2 s' := HKP.out.1
                have e2 : putS (L2.map nameK) (Lit.string (strOf (nameL s')).data.toList) = (putS L2 s').map nameK := HKP.out.2.1
                have e3 : (Lit.string (strOf (nameL s')).data.toList ∈ L2.map nameK) ↔ s' ∈ L2 := HKP.out.2.2
                rw [e1, show decide (Lit.string (strOf (nameL s')).data.toList ∈ L2.map nameK) = decide (s' ∈ L2) by simp only [e3]] at h1
                rw [e2] at h2
                exact ⟨h1, h2, h3⟩)
              clear hkp HNU
              obtain ⟨k', hk'⟩ : ∃ k', k' = place L2 s' := ⟨_, rfl⟩
              have HK := Lib.hid hk'
              have hk'l : k' ≤ 200000 := by rw [hk']; have := place_le L2 s'; rw [← HQ2.out] at this; omega
              rw [← hk'] at HNU2
              clear hk'
              have HROW := Lib.hid (show rowN (autoE l) L s (c + 1) = rowN (autoE l) L s c ++ [k'] by rw [rowN_snoc, HK.out, HL2.out, HSE.out])
              have HPUT := Lib.hid (show rowS (autoE l) s L (c + 1) = putS L2 s' by rw [rowS, ← HL2.out, HSE.out])
              by_cases hfresh : s' ∈ L2
              · have hdec : decide (s' ∈ L2) = true := decide_eq_true hfresh
                rw [hdec] at HNU2
                have HFR := Lib.hid hfresh
                clear hdec hfresh
                go_wp2_with fail
                refine HNU2.out.mono ?_
                rintro e w6 ⟨rfl, hnm6, hg6⟩
                have HA6 := Lib.hid (HA5.out.newK hg6 hnm6)
                have hf6 : Fr (fun k => k = mb) w5 w6 := Fr.grown (F := fun k => k = mb) hg6 (fun k h => by injection h with h; exact h.symm)
                have hgm : ¬ g = mb := fun h => HA5.out.num.notAt HV5.out h
                have HV6 := Lib.hid (HV5.out.fr hf6 hgm)
                have HB6 := Lib.hid (HB2'.out.trans ((HB5.out.mono hb2s).trans (hf6.below (Nat.le_trans hb2s HB5.out.size) (fun k (hk : k = mb) => by rw [hk]; exact HA5.out.mb0))))
                clear hnm6 hg6 hf6 hgm
                have hrl := rowN_length (autoE l) L s c
                have hfl : ((natsI (rowN (autoE l) L s c)).map (Value.int .i64)).length = c := by simp [natsI, hrl]
                have HFS := Lib.hid (fill_set ((natsI (rowN (autoE l) L s c)).map (Value.int .i64)) (classes - c) (.int .i64 (k' : Nat)) (.int .i64 0) hfl (by omega))
                have z0 := HV6.out.cell (i := c) (u := .int .i64 0) (by rw [List.getElem?_append_right (by omega), hfl, Nat.sub_self, List.getElem?_replicate, if_pos (by omega)])
                have z1 := HV6.out.fz c
                clear hrl hfl
                go_upto_region 22 with fail
                refine abs_wp fun W8 hW8 => ?_
                have HA8 := Lib.hid (show ASt w.heap.size W8 mb ob classes F2 (.slice (some ⟨bl, ol, none⟩) q2 cv2) nv ov ((rowS (autoE l) s L (c + 1)).map nameK) (rowS (autoE l) s L (c + 1)) N O by
                  have e : rowS (autoE l) s L (c + 1) = L2 := by rw [HPUT.out, putS, if_pos HFR.out]
                  have h := HA6.out.put HV6.out HGF2.out c (.int .i64 k')
                  rw [hW8, e]
                  rw [putS, if_pos HFR.out] at h
                  exact h)
                have HV8 := Lib.hid (show VRow W8 g 3 ((natsI (rowN (autoE l) L s (c + 1))).map (.int .i64) ++ List.replicate (classes - (c + 1)) (.int .i64 0)) by
                  have h := HV6.out.set c (.int .i64 k')
                  rw [HFS.out] at h
                  rw [hW8, HROW.out]
                  have e : (natsI (rowN (autoE l) L s c ++ [k'])).map (Value.int .i64) = (natsI (rowN (autoE l) L s c)).map (Value.int .i64) ++ [.int .i64 (k' : Nat)] := by simp [natsI]
                  rw [e, show classes - (c + 1) = classes - c - 1 by omega]
                  exact h)
                have HB8 := Lib.hid (show Below w.heap.size w W8 by rw [hW8]; exact HB6.out.trans ((Fr.setCell (F := fun k => k = g) w6 rfl _).below HB6.out.size (fun k (hk : k = g) => by omega)))
                clear hW8 z0 z1
                go_wp2_with fail
                go_roundw
                case rel => exact ⟨c + 1, _, by go_num, by omega, HA8.out, HV8.out, HGF2.out, HB8.out⟩
                case measure => simp [intOf]; omega
              · have hdec : decide (s' ∈ L2) = false := decide_eq_false hfresh
                rw [hdec] at HNU2
                have HFR := Lib.hid hfresh
                clear hdec hfresh
                go_wp2_with fail
                refine HNU2.out.mono ?_
                rintro e w6 ⟨rfl, hnm6, hg6⟩
                have HA6 := Lib.hid (HA5.out.newK hg6 hnm6)
                have hf6 : Fr (fun k => k = mb) w5 w6 := Fr.grown (F := fun k => k = mb) hg6 (fun k h => by injection h with h; exact h.symm)
                have hgm : ¬ g = mb := fun h => HA5.out.num.notAt HV5.out h
                have HV6 := Lib.hid (HV5.out.fr hf6 hgm)
                have HLL6 := Lib.hid (LLF.fr HLL5.out hf6 (fun k hk (h : k = mb) => by have := HA2.out.num.lt; omega))
                have HB6 := Lib.hid (HB2'.out.trans ((HB5.out.mono hb2s).trans (hf6.below (Nat.le_trans hb2s HB5.out.size) (fun k (hk : k = mb) => by rw [hk]; exact HA5.out.mb0))))
                have h56 := hf6.size
                clear hnm6 hg6 hf6 hgm
                have hXlt : ∀ k, (wr.heap.size ≤ k ∧ k < w4.heap.size) → w.heap.size ≤ k ∧ k < w6.heap.size ∧ k ≠ ob ∧ k ≠ mb ∧ (Value.slice (some ⟨bl, ol, none⟩) q2 cv2).ownBlock ≠ some k ∧ nv.ownBlock ≠ some k ∧ ov.ownBlock ≠ some k := fun k hk => by
                  have h1 := at_lt HA2.out.m.mach
                  have h2 := HA2.out.num.lt
                  refine ⟨by omega, by omega, by omega, by omega, fun h => ?_, fun h => ?_, fun h => ?_⟩
                  · have := (HA2.out.list.lt k h).2; omega
                  · have := (HA2.out.m.next.lt k h).2; omega
                  · have := (HA2.out.m.outs.lt k h).2; omega
                have HX := Lib.hid hXlt
                have hal6 := below_alloc1 w6 (.cells #[Value.slice p4 s'.length c4] 118)
                have HAL6 := Lib.hid hal6
                have HE6 := Lib.hid (show sitE (fun k => F2 k ∨ (wr.heap.size ≤ k ∧ k < w4.heap.size)) w6 s' [Value.slice p4 s'.length c4] from ⟨_, rfl, rfl, LLF.mono HLL6.out (fun k hk => .inr hk)⟩)
                have HO6 := Lib.hid (show OwnL (sitE (fun k => F2 k ∨ (wr.heap.size ≤ k ∧ k < w4.heap.size)) w6) 118 1 w.heap.size (w6.alloc (.cells #[Value.slice p4 s'.length c4] 118)) (.slice (some ⟨bl, ol, none⟩) q2 cv2) L2 from
                  OwnL.mono (OwnL.below HA6.out.list hal6 (Nat.le_refl _)) (fun x r hr => sitE.mono hr (fun k hk => .inl hk)))
                have hbw6 := HB6.out.size
                clear hXlt hal6
                go_wp2_with (refine stop_at (.call { callee := .builtin .append, args := #[.tmp 69, .tmp 71], argTypes := #[122, 122] }) rfl ?_)
                refine ⟨?_⟩
                refine wpList_append_sits rfl (.tmp 69) (.tmp 71) rfl (.slice (some ⟨bl, ol, none⟩) q2 cv2) L2 q2 HQ2.out.symm rfl HO6.out _ s' rfl (ReadL.one w6 _ s' [Value.slice p4 s'.length c4] ⟨rfl, by simp [Value.oneCell']⟩ HE6.out) (by omega) (Nat.le_trans hbw6 HAL6.out.size) ?_
                intro p7 c7 w7 hown7 hg7 hlie7
                have hf7 : Fr (fun k => (Value.slice (some ⟨bl, ol, none⟩) q2 cv2).ownBlock = some k) w6 w7 := (Fr.of_below HAL6.out _).trans (Fr.grown (F := fun k => (Value.slice (some ⟨bl, ol, none⟩) q2 cv2).ownBlock = some k) hg7 (fun k h => h)) (fun _ _ h => h)
                have HA7 := Lib.hid (HA6.out.newL HX.out hf7 hown7 (by
                  rcases hlie7 with h | h
                  · exact .inl h
                  · refine .inr fun k hk => ?_
                    rw [h] at hk
                    have := Option.some.inj hk
                    have := HAL6.out.size
                    omega))
                have HV7 := Lib.hid (HV6.out.fr hf7 (fun h => HA6.out.list.notAt HV6.out (by decide) h))
                have HB7 := Lib.hid (HB6.out.trans (hf7.below hbw6 (fun k hk => (HA6.out.list.lt k hk).1)))
                have hVl := HV2.out.lt
                have HG7 := Lib.hid (show ¬ (F2 g ∨ (wr.heap.size ≤ g ∧ g < w4.heap.size)) by rintro (h | h); exact HGF2.out h; omega)
                clear hown7 hg7 hlie7 hf7 hVl
                have hrl := rowN_length (autoE l) L s c
                have hfl : ((natsI (rowN (autoE l) L s c)).map (Value.int .i64)).length = c := by simp [natsI, hrl]
                have HFS := Lib.hid (fill_set ((natsI (rowN (autoE l) L s c)).map (Value.int .i64)) (classes - c) (.int .i64 (k' : Nat)) (.int .i64 0) hfl (by omega))
                have z0 := HV7.out.cell (i := c) (u := .int .i64 0) (by rw [List.getElem?_append_right (by omega), hfl, Nat.sub_self, List.getElem?_replicate, if_pos (by omega)])
                have z1 := HV7.out.fz c
                clear hrl hfl
                go_upto_region 22 with fail
                refine abs_wp fun W8 hW8 => ?_
                have HA8 := Lib.hid (show ASt w.heap.size W8 mb ob classes (fun k => F2 k ∨ (wr.heap.size ≤ k ∧ k < w4.heap.size)) (.slice p7 (q2 + 1) c7) nv ov ((rowS (autoE l) s L (c + 1)).map nameK) (rowS (autoE l) s L (c + 1)) N O by
                  have e : rowS (autoE l) s L (c + 1) = L2 ++ [s'] := by rw [HPUT.out, putS, if_neg HFR.out]
                  have h := HA7.out.put HV7.out HG7.out c (.int .i64 k')
                  rw [hW8, e]
                  rw [putS, if_neg HFR.out] at h
                  exact h)
                have HV8 := Lib.hid (show VRow W8 g 3 ((natsI (rowN (autoE l) L s (c + 1))).map (.int .i64) ++ List.replicate (classes - (c + 1)) (.int .i64 0)) by
                  have h := HV7.out.set c (.int .i64 k')
                  rw [HFS.out] at h
                  rw [hW8, HROW.out]
                  have e : (natsI (rowN (autoE l) L s c ++ [k'])).map (Value.int .i64) = (natsI (rowN (autoE l) L s c)).map (Value.int .i64) ++ [.int .i64 (k' : Nat)] := by simp [natsI]
                  rw [e, show classes - (c + 1) = classes - c - 1 by omega]
                  exact h)
                have HB8 := Lib.hid (show Below w.heap.size w W8 by rw [hW8]; exact HB7.out.trans ((Fr.setCell (F := fun k => k = g) w7 rfl _).below HB7.out.size (fun k (hk : k = g) => by omega)))
                clear hW8 z0 z1
                go_wp2_with fail
                go_roundw
                case rel => exact ⟨c + 1, _, by go_num, by omega, HA8.out, HV8.out, HG7.out, HB8.out⟩
                case measure => simp [intOf]; omega
            · have hcci : ¬ (c : Int) < classes := by omega
              obtain rfl : classes = c := by omega
              have hcl1 : cl (autoE l) classes (n + 1) = rowS (autoE l) s L classes := by rw [cl_succ (A := autoE l) (s := s) (by rw [← HLE.out]; exact HS.out), ← HLE.out]
              have HCL := Lib.hid hcl1
              have hq2n : q2 ≤ 100000 := by have := HRL.out classes; rw [← HL2.out, ← HQ2.out, ← HQ.out] at this; omega
              have hV9 := HV2.out
              rw [Nat.sub_self, List.replicate_zero, List.append_nil] at hV9
              have HV9 := Lib.hid hV9
              clear hcl1 hV9
              by_cases hbig : 2000 < q2
              · have HTM := Lib.hid (show TooMany (autoE l) classes from ⟨n + 1, by rw [HCL.out, ← HL2.out, ← HQ2.out]; exact hbig⟩)
                have hbi : (2000 : Int) < q2 := by omega
                go_wp2_with fail
                go_ret2
                exact ⟨HB2'.out, .inl ⟨HTM.out, rfl⟩⟩
              · have hbi : ¬ (2000 : Int) < q2 := by omega
                have HNS := Lib.hid (show nextsAt (autoE l) classes (n + 1) = N ++ [rowN (autoE l) L s classes] by rw [nextsAt_succ (s := s) (by rw [← HLE.out]; exact HS.out), HN.out, ← HLE.out])
                have HOS := Lib.hid (show outsAt L2 (fun s => bitsL (outE s)) (n + 1) = O ++ [bitsL (outE s)] by
                  have := outsAt_succ (A := autoE l) (classes := classes) (n := n) (s := s) (fun s => bitsL (outE s)) (by rw [← HLE.out]; exact HS.out)
                  rw [HCL.out, ← HL2.out, ← HLE.out, ← HO.out] at this
                  exact this)
                have hNl : N.length = n := by
                  rw [HN.out]
                  unfold nextsAt
                  rw [List.length_map, List.length_take, ← HLE.out, ← HQ.out]
                  omega
                have hOl : O.length = n := by
                  rw [HO.out]
                  unfold outsAt
                  rw [List.length_map, List.length_take, ← HQ.out]
                  omega
                have HNL := Lib.hid hNl
                have HOL := Lib.hid hOl
                obtain ⟨pn, cn, hnv⟩ := HA2.out.m.next.form
                obtain ⟨po, co, hov⟩ := HA2.out.m.outs.form
                rw [hNl] at hnv
                rw [hOl] at hov
                obtain ⟨m0, m1, m2⟩ := cells3 HA2.out.m.mach
                have f1 := fz_at HA2.out.m.mach 1
                have HNV := Lib.hid hnv
                have HOV := Lib.hid hov
                rw [hnv] at m1
                rw [hov] at m2
                have hal := below_alloc1 wr (.cells #[Value.slice (some ⟨g, 0, none⟩) classes classes] 46)
                have HAL := Lib.hid hal
                have hgF := HGF2.out
                have hgl := HV2.out.lt
                have HEN := Lib.hid (show nrowE (fun k => F2 k ∨ k = g) wr (rowN (autoE l) L s classes) [Value.slice (some ⟨g, 0, none⟩) classes classes] by
                  have hrl := rowN_length (autoE l) L s classes
                  have hnl2 : (natsI (rowN (autoE l) L s classes)).length = classes := by simp [natsI, hrl]
                  refine ⟨_, rfl, rfl, ?_, fun _ k hk => .inr (by injection hk with hk; exact hk.symm)⟩
                  have h := Raw.of_block (n := classes) (cs := (natsI (rowN (autoE l) L s classes)).map (Value.int .i64)) HV9.out
                  unfold Ints
                  rw [hnl2]
                  exact h)
                have HON := Lib.hid (show OwnL (nrowE (fun k => F2 k ∨ k = g) wr) 46 1 w.heap.size (wr.alloc (.cells #[Value.slice (some ⟨g, 0, none⟩) classes classes] 46)) (.slice pn n cn) N by
                  rw [← hnv]
                  exact OwnL.mono (OwnL.below HA2.out.m.next hal (Nat.le_refl _)) (fun x r hr => rowE.mono hr (fun k hk => .inl hk)))
                clear hnv hov hNl hOl
                go_wp2_with (refine stop_at (.call { callee := .builtin .append, args := #[.tmp 85, .tmp 87], argTypes := #[65, 65] }) rfl ?_)
                refine ⟨?_⟩
                refine wpList_append_nrows rfl (.tmp 85) (.tmp 87) rfl (.slice pn n cn) N n HNL.out rfl HON.out _ (rowN (autoE l) L s classes) rfl (ReadL.one wr _ _ [Value.slice (some ⟨g, 0, none⟩) classes classes] ⟨rfl, by simp [Value.oneCell']⟩ HEN.out) (by omega) (Nat.le_trans hb2s HAL.out.size) ?_
                intro p7 c7 w7 hown7 hg7 hlie7
                have hf7 : Fr (fun k => (Value.slice pn n cn).ownBlock = some k) wr w7 := (Fr.of_below HAL.out _).trans (Fr.grown (F := fun k => (Value.slice pn n cn).ownBlock = some k) hg7 (fun k h => h)) (fun _ _ h => h)
                have hob7 := (hf7.block ob (at_lt HA2.out.m.mach) (by rw [← HNV.out]; exact HA2.out.m.next.notAt HA2.out.m.mach (by decide))).trans HA2.out.m.mach
                obtain ⟨y0, y1, y2⟩ := cells3 hob7
                have f7 := fz_at hob7 1
                have HF7 := Lib.hid hf7
                have HOW7 := Lib.hid hown7
                have HLI7 := Lib.hid hlie7
                clear hown7 hg7 hlie7 hf7 hob7 m0 m1 m2 f1
                go_upto_region 26 with fail
                refine abs_wp fun W9 hW9 => ?_
                have h9 := HA2.out.newN hb2s (F' := fun k => F2 k ∨ k = g) (fun k hk => .inl hk) (fun k hk => by
                  rcases hk with hk | hk
                  · exact .inl hk
                  · subst hk
                    exact .inr ⟨hg0, hgl, fun e => HV2.out.not_mach HA2.out.m.mach e, HA2.out.m.next.notAt HV2.out (by decide), HA2.out.m.outs.notAt HV2.out (by decide), HA2.out.num.notAt HV2.out, HA2.out.list.notAt HV2.out (by decide)⟩) (w1 := w7) (w2 := W9) (nv' := .slice p7 (n + 1) c7) (N' := N ++ [rowN (autoE l) L s classes]) (by rw [HNV.out]; exact HF7.out) HOW7.out (by
                  rw [HNV.out]
                  rcases HLI7.out with h | h
                  · exact .inl h
                  · refine .inr fun k hk => ?_
                    rw [h] at hk
                    have := Option.some.inj hk
                    have := HAL.out.size
                    omega) hW9
                have HA9 := Lib.hid h9.1
                have HB9 := Lib.hid (HB2'.out.trans (h9.2.below hb2s (fun k hk => by
                  rcases hk with hk | hk
                  · exact (HA2.out.m.next.lt k hk).1
                  · rw [hk]; exact HA2.out.m.base0)))
                clear h9 hW9 y0 y1 y2 f7
                have hb9s := HB9.out.size
                have hql : q ≤ q2 := by have := (HRP.out classes).length_le; rw [HQ.out, HQ2.out, HL2.out]; exact this
                have hni2 : (n : Int) < q2 := by omega
                have hs2 : L2[n]? = some s := by
                  obtain ⟨r, hr⟩ := HRP.out classes
                  rw [HL2.out, ← hr, List.getElem?_append_left (by have := HQ.out; omega)]
                  exact HS.out
                obtain ⟨pv3, cv3, he, hq2c, hxx⟩ := HA9.out.list.read.at (by decide) HQ2.out.symm
                injection he with e1 e2 e3
                subst e1 e3
                obtain ⟨bl, ol, row, rfl, hbl2, hcell, hrow⟩ := hxx n s hs2
                obtain ⟨sv, rfl, -, hsv⟩ := hrow
                have d0 : W9.cell? ⟨bl, ol + n, none⟩ = some sv := by have := hcell 0 sv rfl; simpa using this
                obtain ⟨ps, cs, rfl, -, -⟩ := hsv.1.get (by decide)
                obtain ⟨m0, m1, m2⟩ := cells3 HA9.out.m.mach
                rw [HOV.out] at m2
                have HD0 := Lib.hid d0
                have HM2 := Lib.hid m2
                have HSV := Lib.hid hsv
                clear hxx hcell hsv hs2 e2 d0 m0 m1 m2
                refine wp_region_fin 15 (fun W => W.cell? ⟨ob, 2, none⟩ = some (.slice po n co) ∧ W.cell? ⟨bl, ol + n, none⟩ = some (.slice ps s.length cs)) (.reads [0, 1, 2, 3, 4, 5, 6, 7, 8, 9] (.one 10 (.one 11 (.one 12 (.one 13 (.one 14 (.last 15))))))) 107 (by kernel_rfl) (by kernel_rfl) rfl (fun _ _ _ _ _ h => h) ⟨HM2.out, HD0.out⟩ ?_
                apply plan_reads
                · intro W hW
                  obtain ⟨k0, k1⟩ := hW
                  repeat (refine wpRead_step (fun K hK => ?_); go_simp; refine hK _ ?_; clear hK K)
                  exact wpRead_nil rfl
                refine abs_plan fun WA hWA => ?_
                have hd9 : Fr (fun _ => False) W9 WA := by rw [hWA]; exact (Fr.refl (fun _ => False) _).drew
                have HAA := Lib.hid (show ASt w.heap.size WA mb ob classes (fun k => F2 k ∨ k = g) (.slice (some ⟨bl, ol, none⟩) q2 cv2) (.slice p7 (n + 1) c7) ov (L2.map nameK) L2 (N ++ [rowN (autoE l) L s classes]) O from HA9.out.fr hd9 (fun _ _ h => h.elim))
                have HBA := Lib.hid (HB9.out.trans (hd9.below hb9s (fun _ h => h.elim)))
                have HFIT := Lib.hid (fits_sit (fun k => F2 k ∨ k = g) WA bb l (HB0.out.to (HBA.out.mono (Nat.le_refl _))) hl _ s (LLF.fr HSV.out hd9 (fun _ _ h => h)) HSOK.out)
                have HA0 := Lib.hid (show WA.cell? ⟨ob, 2, none⟩ = some (.slice po n co) by rw [hWA]; exact HM2.out)
                have HA1' := Lib.hid (show WA.cell? ⟨bl, ol + n, none⟩ = some (.slice ps s.length cs) by rw [hWA]; exact HD0.out)
                have hbas := HBA.out.size
                clear hWA hd9
                refine plan_one rfl ?_
                go_wp2_with fail
                refine HFIT.out.mono ?_
                rintro e wz ⟨rfl, rfl⟩
                go_wp2_with fail
                refine Then.mk ⟨HA0.out, HA1'.out⟩ ?_
                refine plan_one rfl ?_
                obtain ⟨bz, hbz⟩ : ∃ bz, bz = bitsL (outE s) := ⟨_, rfl⟩
                have HBZ := Lib.hid hbz
                rw [← hbz]
                clear hbz
                have halA := below_alloc1 WA (.cells #[Value.int .u64 (bz : Nat)] 37)
                have HALA := Lib.hid halA
                have hA0b := cell_below halA (World.block_lt_of_cell? WA _ HA0.out) HA0.out
                have hA1b := cell_below halA (World.block_lt_of_cell? WA _ HA1'.out) HA1'.out
                have HS1 := Lib.hid (And.intro hA0b hA1b)
                have HOO := Lib.hid (show OwnL u64E 37 1 w.heap.size (WA.alloc (.cells #[Value.int .u64 (bz : Nat)] 37)) (.slice po n co) O by rw [← HOV.out]; exact OwnL.below HAA.out.m.outs halA (Nat.le_refl _))
                clear halA hA0b hA1b
                go_wp2_with fail
                refine Then.mk HS1.out ?_
                refine plan_one rfl ?_
                refine wpList_append_u64 rfl (.tmp 95) (.tmp 102) rfl (.slice po n co) O n HOL.out rfl HOO.out _ bz rfl (ReadL.one WA _ bz [Value.int .u64 (bz : Nat)] ⟨rfl, by simp [Value.oneCell']⟩ rfl) (by omega) (Nat.le_trans hbas HALA.out.size) ?_
                intro pB cB wB hownB hgB hlieB
                have hfB : Fr (fun k => (Value.slice po n co).ownBlock = some k) WA wB := (Fr.of_below HALA.out _).trans (Fr.grown (F := fun k => (Value.slice po n co).ownBlock = some k) hgB (fun k h => h)) (fun _ _ h => h)
                have HFB := Lib.hid hfB
                have hobB := (hfB.block ob (at_lt HAA.out.m.mach) (by rw [← HOV.out]; exact HAA.out.m.outs.notAt HAA.out.m.mach (by decide))).trans HAA.out.m.mach
                have HSB := Lib.hid (show wB.cell? ⟨ob, 2, none⟩ = some (.slice po n co) ∧ wB.cell? ⟨bl, ol + n, none⟩ = some (.slice ps s.length cs) from ⟨by rw [← HOV.out]; exact (cells3 hobB).2.2, hfB.cell (p := ⟨bl, ol + n, none⟩) (fun h => by
                  obtain ⟨cs1, hcs1⟩ := HAA.out.list.blkT bl rfl
                  exact HAA.out.m.outs.notAt hcs1 (by decide) (by rw [HOV.out]; exact h)) HA1'.out⟩)
                have HOB := Lib.hid hobB
                have HOWB := Lib.hid hownB
                have HLIB := Lib.hid hlieB
                clear hownB hgB hlieB hfB hobB
                go_wp2_with fail
                refine Then.mk HSB.out ?_
                refine plan_one rfl ?_
                go_wp2_with fail
                refine Then.mk HSB.out ?_
                refine plan_one rfl ?_
                go_wp2_with fail
                refine Then.mk HSB.out ?_
                refine plan_last rfl ?_
                obtain ⟨y0, y1, y2⟩ := cells3 HOB.out
                have fB := fz_at HOB.out 2
                go_wp2_with fail
                have hC := HAA.out.newO hbas (w1 := wB) (w2 := wB.setCell ⟨ob, 2, none⟩ (.slice pB (n + 1) cB)) (ov' := .slice pB (n + 1) cB) (O' := O ++ [bz]) (by rw [HOV.out]; exact HFB.out) HOWB.out (by
                  rw [HOV.out]
                  rcases HLIB.out with h | h
                  · exact .inl h
                  · refine .inr fun k hk => ?_
                    rw [h] at hk
                    have := Option.some.inj hk
                    have := HALA.out.size
                    omega) rfl
                go_roundw
                case rel =>
                  refine ⟨n + 1, (fun k => F2 k ∨ k = g), .slice p7 (n + 1) c7, .slice pB (n + 1) cB, by go_num, by rw [HCL.out, ← HL2.out, ← HQ2.out]; omega, by rw [HCL.out, ← HL2.out, ← HQ2.out]; omega, ?_, HBA.out.trans (hC.2.below hbas (fun k hk => ?_))⟩
                  · rw [HCL.out, ← HL2.out, HNS.out, HOS.out, ← HBZ.out]
                    exact hC.1
                  · rcases hk with hk | hk
                    · exact (HAA.out.m.outs.lt k hk).1
                    · rw [hk]; exact HAA.out.m.base0
                case measure => simp [intOf]; omega
        · have hni : ¬ (n : Int) < q := by omega
          obtain rfl : q = n := by omega
          have HOV := Lib.hid (show Over (autoE l) classes q by unfold Over; rw [← HLE.out, ← HQ.out]; exact Nat.le_refl _)
          have HFEW := Lib.hid (few_of_over HOV.out (by rw [← HLE.out, ← HQ.out]; exact hn2))
          have HSAME := Lib.hid (show cl (autoE l) classes 2000 = L from by rw [HLE.out]; exact over_mono HOV.out hn2)
          go_wp2_with fail
          go_ret2
          refine ⟨HBN.out, .inr ⟨HFEW.out, ob, hob0, rfl, ?_⟩⟩
          have h := HAS.out.m.machD
          rw [HSAME.out]
          have e1 : nextsAt (autoE l) classes q = nextsOf (autoE l) classes L := by rw [nextsAt_over HOV.out, HLE.out]
          have e2 : outsAt L (fun s => bitsL (outE s)) q = L.map fun s => bitsL (outE s) := by rw [HLE.out]; exact outsAt_over _ HOV.out
          rw [e1, e2] at h
          exact h
end Go.Proofs.Ytmooflmhbpckjaa
