import Derived.Test.YthmaokjhncokdaaBC
import Derived.Test.YthmaokjhncokdaaB9
import Derived.Test.YthmaokjhncokdaaBO
/-
  tables: Equal of two that are the same. No condition beyond what each theorem names.
-/
set_option linter.unusedVariables false
set_option linter.unusedSimpArgs false
namespace Go.Proofs.Ythmaokjhncokdaa
open Go.RowKit Classical

theorem equal_sameT (w : World) (ma mb c : Nat) (N : List (List Nat)) (O : List Nat) (hA : MachD w ma c N O) (hB : MachD w mb c N O) (b : Bd N O) :
    Calls Try.prog 44 #[.pointer (some ⟨ma, 0, none⟩), .pointer (some ⟨mb, 0, none⟩)] w fun e w' => e = .returned (.bool true) ∧ Below w.heap.size w w' := by
  have h := equal_m w ma mb c c N N O O hA hB b b
  have hd : decide (c = c ∧ O = O ∧ N = N) = true := by simp
  rwa [hd] at h

set_option maxRecDepth 100000 in
set_option maxHeartbeats 8000000 in
theorem tabs_same (w : World) (S T oa ob pa pb c br len : Nat) (N M : List (List Nat)) (O U : List Nat) (hS : TabAt w S (.pointer (some ⟨oa, 0, none⟩)) (.pointer (some ⟨ob, 0, none⟩)) br len) (hT : TabAt w T (.pointer (some ⟨pa, 0, none⟩)) (.pointer (some ⟨pb, 0, none⟩)) br len)
    (h1 : MachD w oa c N O) (h2 : MachD w ob c M U) (h3 : MachD w pa c N O) (h4 : MachD w pb c M U) (b1 : Bd N O) (b2 : Bd M U) :
    Calls Try.prog 19 #[.pointer (some ⟨S, 0, none⟩), .pointer (some ⟨T, 0, none⟩)] w fun e w' => e = .returned (.bool true) ∧ Below w.heap.size w w' := by
  have HS := Lib.hid (show ∀ W, Below w.heap.size w W → W.cell? ⟨S, 0, none⟩ = some (.pointer (some ⟨oa, 0, none⟩)) ∧ W.cell? ⟨S, 1, none⟩ = some (.pointer (some ⟨ob, 0, none⟩)) ∧ W.cell? ⟨S, 2, none⟩ = some (.int .u64 (br : Nat)) ∧ W.cell? ⟨S, 3, none⟩ = some (.int .i64 (len : Nat)) from fun W hW => cells4 ((hW.block S (at_lt hS)).trans hS))
  have HT := Lib.hid (show ∀ W, Below w.heap.size w W → W.cell? ⟨T, 0, none⟩ = some (.pointer (some ⟨pa, 0, none⟩)) ∧ W.cell? ⟨T, 1, none⟩ = some (.pointer (some ⟨pb, 0, none⟩)) ∧ W.cell? ⟨T, 2, none⟩ = some (.int .u64 (br : Nat)) ∧ W.cell? ⟨T, 3, none⟩ = some (.int .i64 (len : Nat)) from fun W hW => cells4 ((hW.block T (at_lt hT)).trans hT))
  have HM := Lib.hid (And.intro h1 (And.intro h2 (And.intro h3 h4)))
  have HBD := Lib.hid (And.intro b1 b2)
  clear h1 h2 h3 h4 b1 b2 hS hT
  go_enter Try.func19, Try.ntmps19
  go_upto_region 1 with fail
  refine wp_region_plan (fun W => Below w.heap.size w W) (.reads [0, 1, 2, 3, 4, 5, 6, 7, 8, 9, 10, 11, 12, 13, 14, 15, 16, 17, 18, 19, 20, 21, 22, 23, 24, 25, 26, 27, 28] (.one 29 (.reads [30, 31, 32, 33, 34, 35, 36, 37, 38, 39] (.one 40 (.reads [41, 42] .done))))) 47 (by kernel_rfl) (by kernel_rfl) rfl (fun _ _ _ _ _ h => h) (Below.refl _ _).drew ?_
  apply plan_reads
  · intro W hW
    obtain ⟨x0, x1, x2, x3⟩ := HS.out W hW
    obtain ⟨y0, y1, y2, y3⟩ := HT.out W hW
    clear hW
    repeat (refine wpRead_step (fun K hK => ?_); go_simp; refine hK _ ?_; clear hK K)
    exact wpRead_nil rfl
  refine abs_plan fun W0 hW0 => ?_
  have HB0 := Lib.hid (show Below w.heap.size w W0 by rw [hW0]; exact (Below.refl _ _).drew)
  clear hW0
  refine plan_one rfl ?_
  have HE1 := Lib.hid (equal_sameT W0 oa pa c N O (HM.out.1.to HB0.out) (HM.out.2.2.1.to HB0.out) HBD.out.1)
  go_wp2_with fail
  refine HE1.out.mono ?_
  rintro e W1 ⟨rfl, hb1⟩
  have HB1 := Lib.hid (HB0.out.trans (hb1.mono HB0.out.size))
  clear hb1
  go_wp2_with fail
  refine Then.mk HB1.out ?_
  apply plan_reads
  · intro W hW
    obtain ⟨x0, x1, x2, x3⟩ := HS.out W hW
    obtain ⟨y0, y1, y2, y3⟩ := HT.out W hW
    clear hW
    repeat (refine wpRead_step (fun K hK => ?_); go_simp; refine hK _ ?_; clear hK K)
    exact wpRead_nil rfl
  refine plan_one rfl ?_
  have HE2 := Lib.hid (equal_sameT W1 ob pb c M U (HM.out.2.1.to HB1.out) (HM.out.2.2.2.to HB1.out) HBD.out.2)
  go_wp2_with fail
  refine HE2.out.mono ?_
  rintro e W2 ⟨rfl, hb2⟩
  have HB2 := Lib.hid (HB1.out.trans (hb2.mono HB1.out.size))
  clear hb2
  go_wp2_with fail
  refine Then.mk HB2.out ?_
  apply plan_reads
  · intro W hW
    repeat (refine wpRead_step (fun K hK => ?_); go_simp; refine hK _ ?_; clear hK K)
    exact wpRead_nil rfl
  refine plan_done ?_
  go_wp2_with fail
  go_ret
  exact ⟨rfl, HB2.out⟩
end Go.Proofs.Ythmaokjhncokdaa

/-
  tables: the small case that must work. No condition beyond what each theorem names.
-/
set_option linter.unusedVariables false
set_option linter.unusedSimpArgs false
namespace Go.Proofs.Ythmaokjhncokdaa
open Go.RowKit Classical

theorem set9_any (w : World) (c : Int) : Calls Try.prog 37 #[.int .i64 c] w fun e w' =>
    ∃ g, w.heap.size ≤ g ∧ g < w'.heap.size ∧ e = .returned (.agg #[.int .i64 1, .slice (some ⟨g, 0, none⟩) 1 1, .slice none 0 0]) ∧ Ints w' (.slice (some ⟨g, 0, none⟩) 1 1) [c] ∧ Below w.heap.size w w' := by
  go_enter Try.func37, Try.ntmps37
  go_wp2
  refine bodyPost_ret (v := .agg #[.int .i64 1, .slice (some ⟨w.heap.size + 1, 0, none⟩) 1 1, .slice none 0 0]) (by simp [results, Try.results37, go_sem]) rfl ⟨w.heap.size + 1, by omega, by simp, rfl, ?_, ?_⟩
  · refine ⟨some ⟨w.heap.size + 1, 0, none⟩, 1, rfl, by simp, fun _ => ⟨_, _, rfl, fun j u hu => ?_⟩⟩
    match j, hu with
    | 0, hu =>
      simp at hu
      subst hu
      simp
    | j + 1, hu => simp at hu
  · exact (((Below.refl _ _).alloc (Nat.le_refl _) _).alloc (by simp) _)

theorem node_set {w : World} {c : Int} {g : Nat} (h : Ints w (.slice (some ⟨g, 0, none⟩) 1 1) [c]) : NodeIs w (.mk 1 [c] []) (.int .i64 1) (.slice (some ⟨g, 0, none⟩) 1 1) (.slice none 0 0) := by
  rw [nodeIs_iff]
  exact ⟨rfl, h, by unfold R; simp, by unfold R; simp, [], ⟨by simp, none, 0, rfl, by simp, fun h => by simp at h⟩, rfl, fun i h => by simp at h⟩

theorem rev_set (c : List Int) : revX (.mk 1 c []) = .mk 1 c [] := by simp [revX, revL]
def rShown : Rl := ⟨x0, x1, false, false⟩
theorem shown_lefts : leftsL [rShown] = [(x0, false)] := rfl
theorem shown_rights : rightsL [rShown] = [(x1, false)] := by
  show [(revX x1, false)] = _
  unfold x1
  rw [rev_set]
theorem shown_ok : CompOk (2 : Nat) [rShown] := by
  refine ⟨by simp, fun r hr => ?_, ?_, ?_⟩
  · rw [List.mem_singleton.1 hr]; exact ⟨x0_right, x1_right⟩
  · rw [shown_lefts]
    exact ⟨by omega, by omega, by simp, fun e he => by rw [List.mem_singleton.1 he]; exact ⟨x0_right, by simp [x0, insideB, insideL]⟩⟩
  · rw [shown_rights]
    exact ⟨by omega, by omega, by simp, fun e he => by rw [List.mem_singleton.1 he]; exact ⟨x1_right, by simp [x1, insideB, insideL]⟩⟩

set_option maxRecDepth 100000 in
set_option maxHeartbeats 8000000 in
theorem shown9 (w : World) : Calls Try.prog 15 #[] w (Says true w) := by
  go_enter Try.func15, Try.ntmps15
  go_wp2_with fail
  have HA0 := Lib.hid (below_alloc1 w (.cells #[.string { data := #[97] }, .string { data := #[98] }] 9))
  refine (set9_any _ 0).mono ?_
  rintro e w1 ⟨g0, -, -, rfl, hi0, hb1⟩
  have HI0 := Lib.hid hi0
  have HB1 := Lib.hid (HA0.out.trans (hb1.mono HA0.out.size))
  clear hi0 hb1 HA0
  go_wp2_with fail
  refine (set9_any _ 1).mono ?_
  rintro e w2 ⟨g1, -, -, rfl, hi1, hb2⟩
  have HI1 := Lib.hid hi1
  have HI0' := Lib.hid (HI0.out.to hb2 (Nat.le_refl _))
  have HB2 := Lib.hid (HB1.out.trans (hb2.mono HB1.out.size))
  clear hi1 hb2
  have HAL := Lib.hid (below_alloc1 w2 (.cells #[.int .i64 1, .slice (some ⟨g0, 0, none⟩) 1 1, .slice none 0 0, .int .i64 1, .slice (some ⟨g1, 0, none⟩) 1 1, .slice none 0 0, .bool false, .bool false] 54))
  have HRU := Lib.hid (show Rules (w2.alloc (.cells #[.int .i64 1, .slice (some ⟨g0, 0, none⟩) 1 1, .slice none 0 0, .int .i64 1, .slice (some ⟨g1, 0, none⟩) 1 1, .slice none 0 0, .bool false, .bool false] 54)) (.slice (some ⟨w2.heap.size, 0, none⟩) 1 1) [rShown] from by
    refine ⟨[[.int .i64 1, .slice (some ⟨g0, 0, none⟩) 1 1, .slice none 0 0, .int .i64 1, .slice (some ⟨g1, 0, none⟩) 1 1, .slice none 0 0, .bool false, .bool false]], ⟨?_, ?_⟩, rfl, fun i hi => ?_⟩
    · intro r hr
      rw [List.mem_singleton.1 hr]; rfl
    · exact Raw.of_block (cs := [.int .i64 1, .slice (some ⟨g0, 0, none⟩) 1 1, .slice none 0 0, .int .i64 1, .slice (some ⟨g1, 0, none⟩) 1 1, .slice none 0 0, .bool false, .bool false]) (heap_alloc_new w2 _)
    · obtain rfl : i = 0 := by simpa using hi
      exact ⟨_, rfl, _, _, _, _, _, _, rfl, node_set (HI0'.out.to HAL.out (Nat.le_refl _)), node_set (HI1.out.to HAL.out (Nat.le_refl _))⟩)
  have HCO := Lib.hid (compile_any _ (some ⟨w.heap.size, 0, none⟩) 2 2 _ [rShown] HRU.out (by simp))
  go_wp2_with fail
  refine HCO.out.mono ?_
  rintro e w4 ⟨hb4, hcase⟩
  have HB4 := Lib.hid (HB2.out.trans ((HAL.out.trans (hb4.mono HAL.out.size)).mono HB2.out.size))
  clear hb4
  rw [shown_lefts, shown_rights] at hcase
  rcases hcase with ⟨hno, -⟩ | ⟨-, hnone, -⟩ | ⟨-, T, oa, ob, N, O, M, U, -, hbu, hbu2, rfl, htab, hm1, hm2⟩
  · exact (hno shown_ok).elim
  · rcases hnone with h | h
    · have := built_det built_x0 h; cases this
    · have := built_det built_x1 h; cases this
  obtain ⟨hN, hO⟩ := some_pairs (O := [0, 1]) (N := [[1, 0], [1, 0]]) (Option.some.inj (built_det built_x0 hbu))
  obtain ⟨hM, hU⟩ := some_pairs (O := [0, 1]) (N := [[0, 1], [0, 1]]) (Option.some.inj (built_det built_x1 hbu2))
  subst hN hO hM hU
  have HTAB := Lib.hid (show TabAt w4 T (.pointer (some ⟨oa, 0, none⟩)) (.pointer (some ⟨ob, 0, none⟩)) 0 1 from htab)
  have HM1 := Lib.hid hm1
  have HM2 := Lib.hid hm2
  have HCO2 := Lib.hid (compile_any w4 none 0 0 (.slice none 0 0) [] ⟨[], ⟨by simp, none, 0, rfl, by simp, fun h => by simp at h⟩, rfl, fun i h => by simp at h⟩ (by simp))
  clear hbu hbu2 htab hm1 hm2 HCO HRU HAL
  go_wp2_with fail
  refine HCO2.out.mono ?_
  rintro e w5 ⟨hb5, hcase⟩
  have HB5 := Lib.hid (HB4.out.trans (hb5.mono HB4.out.size))
  have HTAB5 := Lib.hid (show TabAt w5 T _ _ _ _ from (hb5.block _ (at_lt HTAB.out)).trans HTAB.out)
  have HM15 := Lib.hid (HM1.out.to hb5)
  have HM25 := Lib.hid (HM2.out.to hb5)
  have hz : ¬ CompOk (0 : Nat) [] := fun h => by have := h.2.2.1.1; omega
  obtain rfl : e = .returned (.tuple #[.pointer none, .int .i64 1]) := by
    rcases hcase with ⟨-, h⟩ | ⟨h, -⟩ | ⟨h, -⟩
    · exact h
    · exact (hz h).elim
    · exact (hz h).elim
  clear hb5 hcase hz HCO2
  obtain ⟨y0, y1, y2, y3⟩ := cells4 HTAB5.out
  obtain ⟨-, pn, cn, po, co, -, -, a2, -⟩ := HM15.out.get (nn := 2) rfl rfl
  obtain ⟨-, pn2, cn2, po2, co2, -, -, b2, -⟩ := HM25.out.get (nn := 2) rfl rfl
  have HD1 := Lib.hid (decide_any w5 T _ _ 0 1 1 1 HTAB5.out (by decide) (by decide) (by decide) (by decide))
  have HD2 := Lib.hid (decide_any w5 T _ _ 0 1 1 0 HTAB5.out (by decide) (by decide) (by decide) (by decide))
  have e1 : decB 1 (1 &&& 1) 0 = false := by
    rw [decB_hit (k := 0) (by omega) (by decide) (fun j hj => by omega)]; decide
  have e2 : decB 1 (1 &&& 0) 0 = true := decB_end (fun j hj => by
    have : j = 0 := by omega
    subst this; decide)
  rw [e1] at HD1
  rw [e2] at HD2
  have HEQ := Lib.hid (tabs_same w5 T T oa ob oa ob 2 0 1 _ _ _ _ HTAB5.out HTAB5.out HM15.out HM25.out HM15.out HM25.out ⟨by simp, by simp, fun r hr => by simp at hr; rw [hr]; simp⟩ ⟨by simp, by simp, fun r hr => by simp at hr; rw [hr]; simp⟩)
  clear e1 e2
  go_wp2_with fail
  refine HD1.out.mono ?_
  rintro e w6 ⟨rfl, rfl⟩
  go_wp2_with fail
  refine HD2.out.mono ?_
  rintro e w6 ⟨rfl, rfl⟩
  clear y0 y1 y2 y3 a2 b2
  go_wp2_with fail
  refine HEQ.out.mono ?_
  rintro e w6 ⟨rfl, hb6⟩
  have HB6 := Lib.hid (HB5.out.trans (hb6.mono HB5.out.size))
  clear hb6
  go_wp2_with fail
  go_ret
  exact ⟨rfl, HB6.out⟩
end Go.Proofs.Ythmaokjhncokdaa

/-
  TablesMany: there may be forty rules and not more, and twenty-four classes. No condition beyond what each theorem names.
-/
set_option linter.unusedVariables false
set_option linter.unusedSimpArgs false
namespace Go.Proofs.Ythmaokjhncokdaa
open Go.RowKit Classical

theorem infoRule : (Try.prog.info? 54).map (fun i => (i.zero, i.size, i.bytes)) = some (some (.agg #[.int .i64 0, .slice none 0 0, .slice none 0 0, .int .i64 0, .slice none 0 0, .slice none 0 0, .bool false, .bool false]), 8, 120) := by kernel_rfl
theorem infoStr : (Try.prog.info? 9).map (fun i => (i.zero, i.size, i.bytes)) = some (some (.string ByteArray.empty), 1, 16) := by kernel_rfl

theorem make_strs (t : TypeId) (ht : Try.prog.underlying t = some (.slice 9)) (w : World) (c : Int) (n : Nat) (hc : c = n) (hn : n ≤ 1000001) :
    (Instr.makeSlice t (.int .i64 c) (.int .i64 c)).run Try.prog w = .ok (.slice (some ⟨w.heap.size, 0, none⟩) n n) (w.alloc (.cells (madeCells #[Value.string ByteArray.empty] n) 9)) := by
  subst hc
  obtain ⟨i0, hi, hz0, hz1, hz2⟩ := info_parts infoStr
  have := run_make (P := Try.prog) w t 9 i0 (.string ByteArray.empty) ht hi hz0 .i64 .i64 n n (by omega) (by omega) (by rw [hz2]; omega) (by omega)
  rw [hz1] at this
  simp only [Int.toNat_natCast, Nat.mul_one] at this
  rw [this, show (Value.string ByteArray.empty).cells = #[Value.string ByteArray.empty] from rfl]

section
variable {ops : Array Oper} {rest : List Oper} {o : Oper} {a : Act} {w : World} {Q : Exit → Act → World → Prop} {base : Nat} {E : Rl → List Value → Prop}
theorem wpList_append_rules (hgd : o.guard = none) (s x : Operand) (ho : o.op = .call { callee := .builtin .append, args := #[s, x], argTypes := #[23, 23] })
    (v : Value) (xs : List Rl) (n : Nat) (hn : xs.length = n) (hs : a.eval s = v) (hown : OwnL E 54 8 base w v xs) (xv : Value) (ys : List Rl) (m : Nat) (hm : ys.length = m) (hx : a.eval x = xv) (hr : ReadL E 8 w xv ys) (hlen : n + m ≤ 1000000) (hbase : base ≤ w.heap.size)
    (h : ∀ p c w', OwnL E 54 8 base w' (.slice p (n + m) c) (xs ++ ys) → w.grownBy w' v.ownBlock → ((Value.slice p (n + m) c).ownBlock = v.ownBlock ∨ (Value.slice p (n + m) c).ownBlock = some w.heap.size) → wpList Try.prog ops Q rest (a.put o.dst (.slice p (n + m) c)) w') : wpList Try.prog ops Q (o :: rest) a w := by
  subst hn hm
  obtain ⟨i0, hi, hz0, hz1, hz2⟩ := info_parts infoRule
  exact wpList_append_L hgd s x 23 ho i0 _ 120 Try.underlying23 hi hz0 hz1 hz2 rfl (by decide) v xs hs hown xv ys hx hr (by unfold maxLen; omega) (by omega) hbase h
end

/-- a rule, by its cells, with where its parts lie -/
def ruleF (F : Nat → Prop) (w : World) (r : Rl) (row : List Value) : Prop := ∃ a b c d e f, row = [a, b, c, d, e, f, .bool r.brk, .bool r.start] ∧ NodeF F w r.left a b c ∧ NodeF F w r.right d e f
theorem ruleF.fr {F G : Nat → Prop} {w w' : World} {x : Rl} {row : List Value} (h : ruleF F w x row) (hf : Fr G w w') (hg : ∀ k, F k → ¬ G k) : ruleF F w' x row := by
  obtain ⟨a, b, c, d, e, f, rfl, h1, h2⟩ := h
  exact ⟨a, b, c, d, e, f, rfl, h1.fr hf hg, h2.fr hf hg⟩
theorem ruleF.below {F : Nat → Prop} {B : Nat} {w w' : World} {x : Rl} {row : List Value} (h : ruleF F w x row) (hb : Below B w w') (hB : w.heap.size ≤ B) : ruleF F w' x row := by
  obtain ⟨a, b, c, d, e, f, rfl, h1, h2⟩ := h
  exact ⟨a, b, c, d, e, f, rfl, NodeF.below hb hB _ h1, NodeF.below hb hB _ h2⟩
theorem ruleF.mono {F G : Nat → Prop} {w : World} {x : Rl} {row : List Value} (h : ruleF F w x row) (hg : ∀ k, F k → G k) : ruleF G w x row := by
  obtain ⟨a, b, c, d, e, f, rfl, h1, h2⟩ := h
  exact ⟨a, b, c, d, e, f, rfl, NodeF.mono hg _ h1, NodeF.mono hg _ h2⟩
theorem ruleF.is {F : Nat → Prop} {w : World} {x : Rl} {row : List Value} (h : ruleF F w x row) : RuleIs w x row := by
  obtain ⟨a, b, c, d, e, f, rfl, h1, h2⟩ := h
  exact ⟨a, b, c, d, e, f, rfl, h1.is, h2.is⟩
theorem rules_read {F : Nat → Prop} {w : World} {v : Value} {rs : List Rl} (h : ReadL (ruleF F w) 8 w v rs) : Rules w v rs := by
  obtain ⟨rows, h1, h2, h3, h4⟩ := h
  refine ⟨rows, ⟨fun r hr => (h3 r hr).1, by rw [h2]; exact h1⟩, h2, fun i hi => ?_⟩
  obtain ⟨row, g1, g2⟩ := h4 i hi
  exact ⟨row, g1, g2.is⟩

/-- where the parts' classes lie: not in the box, and not in the list of the rules -/
def FM9 (base G : Nat) (w : World) (pv : Value) (k : Nat) : Prop := base ≤ k ∧ k < w.heap.size ∧ k ≠ G ∧ pv.ownBlock ≠ some k

theorem nodeF_set9 {F : Nat → Prop} {w : World} {cls : List Int} {C n : Nat} (h : Ints w (.slice (some ⟨C, 0, none⟩) n n) cls) (hF : F C) (hb : cls.length * 8 ≤ R) : NodeF F w (.mk 1 cls []) (.int .i64 1) (.slice (some ⟨C, 0, none⟩) n n) (.slice none 0 0) := by
  rw [nodeF_iff]
  refine ⟨rfl, h, fun _ k hk => ?_, hb, by unfold R; simp, [], ⟨by simp, none, 0, rfl, by simp, fun h => by simp at h⟩, fun h => by simp at h, rfl, fun i h => by simp at h⟩
  have : C = k := by simpa [Value.ownBlock] using hk
  subst this
  exact hF

/-- the i-th rule: all alike, but that every other one says break -/
def ruleM (i : Nat) : Rl := ⟨.mk 1 [0] [], .mk 1 [0] [], bits .and .i64 (i : Int) 1 == 1, false⟩
def manyL (k : Nat) : List Rl := (List.range k).map ruleM
theorem manyL_succ (k : Nat) : manyL (k + 1) = manyL k ++ [ruleM k] := by unfold manyL; rw [List.range_succ, List.map_append]; rfl
theorem manyL_length (k : Nat) : (manyL k).length = k := by unfold manyL; simp
theorem many_lefts (k : Nat) : leftsL (manyL k) = List.replicate k (.mk 1 [0] [], false) := by
  unfold leftsL manyL
  rw [List.map_map]
  refine List.ext_getElem (by simp) fun i h1 h2 => ?_
  simp [ruleM]
theorem many_rights (k : Nat) : rightsL (manyL k) = List.replicate k (.mk 1 [0] [], false) := by
  unfold rightsL manyL
  rw [List.map_map]
  refine List.ext_getElem (by simp) fun i h1 h2 => ?_
  simp [ruleM, rev_set]
theorem many_ok {n k : Nat} (hk : k ≤ 63) : CompOk n (manyL k) ↔ 1 ≤ n ∧ n ≤ 24 ∧ k ≤ 40 := by
  constructor
  · intro h
    have h1 := h.1
    rw [manyL_length] at h1
    have h2 := h.2.2.1.1
    have h3 := h.2.2.1.2.1
    exact ⟨by omega, by omega, h1⟩
  · rintro ⟨h1, h2, h3⟩
    have ha : ArgOk n (List.replicate k (.mk 1 [0] [], false)) := ⟨by omega, by omega, by simp; omega, fun e he => by
      rw [List.eq_of_mem_replicate he]
      exact ⟨x0_right, by simp [insideB, insideL]; omega⟩⟩
    refine ⟨by rw [manyL_length]; exact h3, fun r hr => ?_, by rw [many_lefts]; exact ha, by rw [many_rights]; exact ha⟩
    obtain ⟨i, -, rfl⟩ := List.mem_map.1 hr
    exact ⟨x0_right, x0_right⟩
theorem many_break {k : Nat} (hk : 0 < k) : (breaksL (manyL k)).testBit 0 = false := by
  unfold breaksL
  rw [bitsL_get _ 0 (by rw [List.length_map, manyL_length]; exact hk)]
  simp [manyL, ruleM]
  decide

structure ManyAt (base G : Nat) (tB : TypeId) (cs : Value) (w0 w : World) (k : Nat) (pv : Value) : Prop where
  box : w.heap[G]? = some (.cells #[cs, pv] tB)
  own : OwnL (ruleF (FM9 base G w pv) w) 54 8 base w pv (manyL k)
  apart : pv.ownBlock ≠ some G
  base_le : base ≤ G
  below : Below base w0 w

end Go.Proofs.Ythmaokjhncokdaa

/-
  tables: few (a ruleset of at most eight rules that are not too large). No condition beyond what each theorem names.
-/
set_option linter.unusedVariables false
set_option linter.unusedSimpArgs false
namespace Go.Proofs.Ythmaokjhncokdaa
open Go.RowKit Classical

def smallB (x : Nd) : Bool := decide (countT x ≤ 30) && decide (starsI x ≤ 3)
def smallR (r : Rl) : Bool := smallB r.left && smallB r.right
def few9L (rs : List Rl) : List Rl := (rs.filter smallR).take 8

theorem few9_length (rs : List Rl) : (few9L rs).length ≤ 8 := by unfold few9L; rw [List.length_take]; omega
theorem few9_snoc {rs : List Rl} {k : Nat} {r : Rl} (hr : rs[k]? = some r) (h8 : (few9L (rs.take k)).length < 8) : few9L (rs.take (k + 1)) = few9L (rs.take k) ++ (if smallR r then [r] else []) := by
  unfold few9L at *
  rw [take_snoc hr, List.filter_append]
  rw [List.length_take] at h8
  generalize (rs.take k).filter smallR = F at *
  cases h : smallR r
  · rw [List.filter_cons_of_neg (by simp [h])]
    simp
  · rw [List.filter_cons_of_pos h, List.filter_nil]
    rw [List.take_of_length_le (by simp; omega), List.take_of_length_le (by omega)]
    rfl
theorem few9_full {rs : List Rl} {k : Nat} (h8 : ¬ (few9L (rs.take k)).length < 8) : few9L (rs.take k) = few9L rs := by
  unfold few9L at *
  rw [List.length_take] at h8
  have e : rs.filter smallR = (rs.take k).filter smallR ++ (rs.drop k).filter smallR := by rw [← List.filter_append, List.take_append_drop]
  rw [e, List.take_append_of_le_length (by omega)]

set_option maxHeartbeats 2000000 in
theorem small9_any (x : Nd) (w : World) (a b c : Value) (hx : NodeIs w x a b c) : Calls Try.prog 38 #[.agg #[a, b, c]] w fun e w' => e = .returned (.bool (smallB x)) ∧ Below w.heap.size w w' := by
  have HX := Lib.hid hx
  obtain ⟨op, pp, l, c1, q, m, d, rfl, rfl, rfl⟩ := hx.form
  clear hx
  go_enter Try.func38, Try.ntmps38
  go_upto_region 1 with fail
  refine abs_wp fun W hW => ?_
  obtain ⟨B, hB⟩ : ∃ B, B = w.heap.size := ⟨_, rfl⟩
  have hbox : W.heap[B]? = some (.cells #[.int .i64 op, .slice pp l c1, .slice q m d] 52) := by rw [hW, hB]; exact heap_alloc_new _ _
  have hbe : Below w.heap.size w W := by rw [hW]; exact below_alloc1 _ _
  rw [← hB]
  have HBE := Lib.hid hbe
  have HBOX := Lib.hid hbox
  obtain ⟨x0, x1, x2⟩ := cells3 hbox
  have HC := Lib.hid (count_any x W _ _ _ (HX.out.to hbe (Nat.le_refl _)))
  clear hW hbox hbe hB
  go_wp2_with fail
  refine HC.out.mono ?_
  rintro e w1 ⟨rfl, hb1⟩
  have HB1 := Lib.hid (HBE.out.trans (hb1.mono HBE.out.size))
  have HBOX1 := Lib.hid ((hb1.block _ (at_lt HBOX.out)).trans HBOX.out)
  clear hb1 x0 x1 x2
  obtain ⟨x0, x1, x2⟩ := cells3 HBOX1.out
  obtain ⟨nC, hnC⟩ : ∃ nC, nC = countT x := ⟨_, rfl⟩
  rw [← hnC]
  by_cases h1 : nC ≤ 30
  · have HS := Lib.hid (stars_any x w1 _ _ _ (HX.out.to HB1.out (Nat.le_refl _)))
    have HN := Lib.hid hnC
    clear hnC
    go_wp2_with fail
    refine HS.out.mono ?_
    rintro e w2 ⟨rfl, hb2⟩
    have HB2 := Lib.hid (HB1.out.trans (hb2.mono HB1.out.size))
    clear hb2 x0 x1 x2
    obtain ⟨nS, hnS⟩ : ∃ nS, nS = starsI x := ⟨_, rfl⟩
    rw [← hnS]
    have HNS := Lib.hid hnS
    clear hnS
    go_wp2_with fail
    go_ret
    exact ⟨ret_val (by unfold smallB; rw [← HN.out, ← HNS.out, decide_eq_true h1]; simp), HB2.out⟩
  · have HN := Lib.hid hnC
    clear hnC
    go_wp2_with fail
    go_ret
    exact ⟨ret_val (by unfold smallB; rw [← HN.out, decide_eq_false (by omega)]; rfl), HB1.out⟩

def FewPost9 (w0 w : World) (nc : Nat) (rs : List Rl) (e : Ending) (w' : World) : Prop := ∃ pc cc pv, e = .returned (.agg #[.slice pc (min nc 30) cc, pv]) ∧ OwnL (RuleIs w0) 54 8 w.heap.size w' pv (few9L rs) ∧ Below w.heap.size w w'

structure FewAt9 (w0 w : World) (B G : Nat) (tB tG : TypeId) (bx : Array Value) (cs : Value) (z : Array Value) (rs : List Rl) (k : Nat) (W : World) (pv : Value) : Prop where
  box : W.heap[B]? = some (.cells bx tB)
  res : W.heap[B + 1]? = some (.cells z 25)
  out : W.heap[G]? = some (.cells #[cs, pv] tG)
  own : OwnL (RuleIs w0) 54 8 w.heap.size W pv (few9L (rs.take k))
  apart : pv.ownBlock ≠ some B ∧ pv.ownBlock ≠ some (B + 1) ∧ pv.ownBlock ≠ some G
  below : Below w.heap.size w W

theorem FewAt9.keep {w0 w : World} {B G : Nat} {tB tG : TypeId} {bx : Array Value} {cs : Value} {z : Array Value} {rs : List Rl} {k : Nat} {W W' : World} {pv : Value} (h : FewAt9 w0 w B G tB tG bx cs z rs k W pv) (hb : Below W.heap.size W W') : FewAt9 w0 w B G tB tG bx cs z rs k W' pv :=
  ⟨(hb.block _ (at_lt h.box)).trans h.box, (hb.block _ (at_lt h.res)).trans h.res, (hb.block _ (at_lt h.out)).trans h.out, h.own.below hb (Nat.le_refl _), h.apart, h.below.trans (hb.mono h.below.size)⟩
theorem FewAt9.next {w0 w : World} {B G : Nat} {tB tG : TypeId} {bx : Array Value} {cs : Value} {z : Array Value} {rs : List Rl} {k : Nat} {W : World} {pv : Value} (h : FewAt9 w0 w B G tB tG bx cs z rs k W pv) (hs : few9L (rs.take (k + 1)) = few9L (rs.take k)) : FewAt9 w0 w B G tB tG bx cs z rs (k + 1) W pv :=
  ⟨h.box, h.res, h.out, by rw [hs]; exact h.own, h.apart, h.below⟩

set_option maxRecDepth 100000 in
set_option maxHeartbeats 8000000 in
theorem few9_any (w0 w : World) (hw0 : Below w0.heap.size w0 w) (pc : Option Addr) (nc cc : Nat) (hcc : nc ≤ cc) (hpc : 0 < nc → ∃ a, pc = some a) (rv : Value) (rs : List Rl) (hr : Rules w0 rv rs) (hl : rs.length ≤ 9223372036854775807) :
    Calls Try.prog 16 #[.agg #[.slice pc nc cc, rv]] w (FewPost9 w0 w nc rs) := by
  obtain ⟨pr, cr, rfl, hcr, hget⟩ := hr.get
  obtain ⟨m, hm⟩ : ∃ m, m = rs.length := ⟨_, rfl⟩
  have HGET := Lib.hid (show ∀ i r, rs[i]? = some r → ∃ b off, pr = some ⟨b, off, none⟩ ∧ b < w0.heap.size ∧ ∃ row, cellsAt w0 b (off + i * 8) row ∧ RuleIs w0 r row from fun i r h => by
    obtain ⟨hi, rfl⟩ := List.getElem?_eq_some_iff.1 h
    obtain ⟨b, off, e, h1, h2⟩ := hget (by omega)
    exact ⟨b, off, e, h1, h2 i hi⟩)
  have HM := Lib.hid hm
  have HPC := Lib.hid hpc
  have HW0 := Lib.hid hw0
  clear hw0
  rw [← hm] at hcr hl ⊢
  clear hr hget hm hpc
  go_enter Try.func16, Try.ntmps16
  go_upto_region 1 with fail
  refine abs_wp fun W hW => ?_
  obtain ⟨bW, hb0, hr0⟩ := two_allocs w _ _ W hW
  obtain ⟨B, hB⟩ : ∃ B, B = w.heap.size := ⟨_, rfl⟩
  rw [← hB] at hb0
  obtain ⟨tB, hb0⟩ : ∃ tB, W.heap[B]? = some (.cells #[.slice pc nc cc, .slice pr m cr] tB) := ⟨_, hb0⟩
  have HBW := Lib.hid bW
  have HBX := Lib.hid hb0
  have HB := Lib.hid hB
  have HR0 := Lib.hid hr0
  rw [← hB]
  obtain ⟨x0, x1⟩ := cells2 hb0
  clear hW bW hb0 hr0 hB
  go_cut [3] (fun v wx => ∃ G pc' cc' tG, v = .pointer (some ⟨G, 0, none⟩) ∧ w.heap.size + 2 ≤ G ∧ wx.heap[G]? = some (.cells #[.slice pc' (min nc 30) cc', .slice none 0 0] tG) ∧ Below W.heap.size W wx)
  case first =>
    cases pc with
    | none =>
      have h0 : nc = 0 := by
        rcases Nat.eq_zero_or_pos nc with h | h
        · exact h
        · obtain ⟨a, ha⟩ := HPC.out h; cases ha
      subst h0
      have HSZ := Lib.hid (show w.heap.size + 2 ≤ W.heap.size by have h1 := at_lt HR0.out; omega)
      go_wp2_with fail
      go_meet
      case rel => exact ⟨_, _, _, _, rfl, HSZ.out, heap_alloc_new _ _, below_alloc1 _ _⟩
    | some ad =>
      have HSZ := Lib.hid (show w.heap.size + 2 ≤ W.heap.size by have h1 := at_lt HR0.out; omega)
      by_cases h30 : nc ≤ 30
      · have h31 : ¬ (30 : Int) < nc := by omega
        have hmin : (min (nc : Int) 30).toNat = min nc 30 := by omega
        go_wp2_with fail
        go_meet
        case rel => exact ⟨W.heap.size, some ad, cc, 25, rfl, HSZ.out, by rw [show min nc 30 = nc by omega]; exact heap_alloc_new _ _, below_alloc1 _ _⟩
      · have h31 : (30 : Int) < nc := by omega
        go_wp2_with fail
        go_meet
        case rel => exact ⟨W.heap.size, some ad, cc, 25, rfl, HSZ.out, by rw [show (min (nc : Int) 30).toNat = min nc 30 by omega]; exact heap_alloc_new _ _, below_alloc1 _ _⟩
  case rest =>
    obtain ⟨G, pc', cc', tG, rfl, hG, hbox, hb⟩ := hcut
    obtain ⟨mn, hmn⟩ : ∃ mn, mn = min nc 30 := ⟨_, rfl⟩
    rw [← hmn] at hbox
    have HMN := Lib.hid hmn
    have HGB := Lib.hid (show B + 1 < G by have := HB.out; omega)
    have HF0 := Lib.hid (show FewAt9 w0 w B G tB tG #[.slice pc nc cc, .slice pr m cr] (.slice pc' mn cc') #[.slice none 0 0, .slice none 0 0] rs 0 wc (.slice none 0 0) from ⟨(hb.block _ (at_lt HBX.out)).trans HBX.out, by rw [HB.out]; exact (hb.block _ (at_lt HR0.out)).trans HR0.out, hbox, OwnL.nil _, by simp [Value.ownBlock], HBW.out.trans (hb.mono HBW.out.size)⟩)
    clear hmn hG hbox hb x0 x1
    go_wp2_with fail
    go_loopw [4] (fun i wz => ∃ k : Nat, i = .int .i64 k ∧ k ≤ m ∧ ∃ pv, (FewAt9 w0 w B G tB tG #[.slice pc nc cc, .slice pr m cr] (.slice pc' mn cc') #[.slice none 0 0, .slice none 0 0] rs k wz pv)) (fun i _ => m - (intOf i).toNat)
    case atStart => exact ⟨0, rfl, by omega, _, HF0.out⟩
    case round =>
      obtain ⟨k, rfl, hk, pv, hf⟩ := hrel
      have HF := Lib.hid hf
      obtain ⟨pq, cq, hpv⟩ := hf.own.form
      obtain ⟨nq, hnq⟩ : ∃ nq, nq = (few9L (rs.take k)).length := ⟨_, rfl⟩
      rw [← hnq] at hpv
      subst hpv
      have HNQ := Lib.hid hnq
      have hq8 : nq ≤ 8 := by rw [hnq]; exact few9_length _
      obtain ⟨x0, x1⟩ := cells2 hf.box
      obtain ⟨y0, y1⟩ := cells2 hf.out
      clear hf hnq
      by_cases hgo : k < m ∧ nq < 8
      · have hki : (k : Int) < m := by omega
        have hk0 : (0 : Int) ≤ k := by omega
        have hqi : (nq : Int) < 8 := by omega
        have hkr : k < rs.length := by rw [← HM.out]; exact hgo.1
        obtain ⟨r, hrk⟩ : ∃ r, rs[k]? = some r := ⟨_, List.getElem?_eq_getElem hkr⟩
        obtain ⟨bp, op, rfl, hbp, row, hcell, hri⟩ := HGET.out k r hrk
        have HRI := Lib.hid hri
        have HSN := Lib.hid (few9_snoc hrk (by rw [← HNQ.out]; exact hgo.2))
        obtain ⟨a1, b1, c1, d1, e1, f1, rfl, hnl, hnr⟩ := hri
        obtain ⟨opx, ppx, lx, c1x, qx, mx, dx, rfl, rfl, rfl⟩ := hnl.form
        obtain ⟨opy, ppy, ly, c1y, qy, my, dy, rfl, rfl, rfl⟩ := hnr.form
        have HNL := Lib.hid hnl
        have HNR := Lib.hid hnr
        obtain ⟨bk, hbk⟩ : ∃ bk, bk = r.brk := ⟨_, rfl⟩
        obtain ⟨st, hst⟩ : ∃ st, st = r.start := ⟨_, rfl⟩
        rw [← hbk, ← hst] at hcell HRI
        have z0 := cell_below (HW0.out.trans (HF.out.below.mono HW0.out.size)) hbp (hcell 0 _ rfl)
        have z1 := cell_below (HW0.out.trans (HF.out.below.mono HW0.out.size)) hbp (hcell 1 _ rfl)
        have z2 := cell_below (HW0.out.trans (HF.out.below.mono HW0.out.size)) hbp (hcell 2 _ rfl)
        have z3 := cell_below (HW0.out.trans (HF.out.below.mono HW0.out.size)) hbp (hcell 3 _ rfl)
        have z4 := cell_below (HW0.out.trans (HF.out.below.mono HW0.out.size)) hbp (hcell 4 _ rfl)
        have z5 := cell_below (HW0.out.trans (HF.out.below.mono HW0.out.size)) hbp (hcell 5 _ rfl)
        have z6 := cell_below (HW0.out.trans (HF.out.below.mono HW0.out.size)) hbp (hcell 6 _ rfl)
        have z7 := cell_below (HW0.out.trans (HF.out.below.mono HW0.out.size)) hbp (hcell 7 _ rfl)
        simp only [Nat.add_zero] at z0
        clear hcell hrk hbk hst hnl hnr hbp hkr
        go_upto_region 6 with fail
        refine abs_wp fun W1 hW1 => ?_
        have HX1 := Lib.hid (show W1.heap[wr.heap.size]? = some (.cells #[.int .i64 opx, .slice ppx lx c1x, .slice qx mx dx, .int .i64 opy, .slice ppy ly c1y, .slice qy my dy, .bool bk, .bool st] 54) by rw [hW1]; exact heap_alloc_new _ _)
        have HD1 := Lib.hid (show Below wr.heap.size wr W1 by rw [hW1]; exact below_alloc1 _ _)
        obtain ⟨X, hX⟩ : ∃ X, X = wr.heap.size := ⟨_, rfl⟩
        rw [← hX] at HX1 ⊢
        have HXE := Lib.hid hX
        have HB1 := Lib.hid (HF.out.below.trans (HD1.out.mono HF.out.below.size))
        clear hW1 hX z0 z1 z2 z3 z4 z5 z6 z7 x0 x1 y0 y1
        obtain ⟨z0, z1, z2, z3, z4, z5, z6, z7⟩ := cells8 HX1.out
        have HS1 := Lib.hid (small9_any r.left W1 _ _ _ (HNL.out.to (HW0.out.trans (HB1.out.mono HW0.out.size)) (Nat.le_refl _)))
        cases hsl : smallB r.left
        · have HSR := Lib.hid (show smallR r = false by unfold smallR; rw [hsl]; rfl)
          rw [hsl] at HS1
          clear hsl
          go_wp2_with fail
          refine HS1.out.mono ?_
          rintro e w2 ⟨rfl, hb2⟩
          have HD2 := Lib.hid (HD1.out.trans (hb2.mono HD1.out.size))
          clear hb2 z0 z1 z2 z3 z4 z5 z6 z7
          have HNX := Lib.hid ((HF.out.keep HD2.out).next (by rw [HSN.out]; simp [HSR.out]))
          go_wp2_with fail
          go_roundw
          case rel => exact ⟨k + 1, by go_num, by omega, _, HNX.out⟩
          case measure => simp [intOf]; omega
        · have HSL := Lib.hid hsl
          rw [hsl] at HS1
          clear hsl
          go_wp2_with fail
          refine HS1.out.mono ?_
          rintro e w2 ⟨rfl, hb2⟩
          have HD2 := Lib.hid (HD1.out.trans (hb2.mono HD1.out.size))
          have HB2 := Lib.hid (HB1.out.trans (hb2.mono HB1.out.size))
          have HX2 := Lib.hid ((hb2.block _ (at_lt HX1.out)).trans HX1.out)
          clear hb2 z0 z1 z2 z3 z4 z5 z6 z7
          obtain ⟨z0, z1, z2, z3, z4, z5, z6, z7⟩ := cells8 HX2.out
          have HS2 := Lib.hid (small9_any r.right w2 _ _ _ (HNR.out.to (HW0.out.trans (HB2.out.mono HW0.out.size)) (Nat.le_refl _)))
          cases hsr : smallB r.right
          · have HSR := Lib.hid (show smallR r = false by unfold smallR; rw [hsr, Bool.and_false])
            rw [hsr] at HS2
            clear hsr
            go_wp2_with fail
            refine HS2.out.mono ?_
            rintro e w3 ⟨rfl, hb3⟩
            have HD3 := Lib.hid (HD2.out.trans (hb3.mono HD2.out.size))
            clear hb3 z0 z1 z2 z3 z4 z5 z6 z7
            have HNX := Lib.hid ((HF.out.keep HD3.out).next (by rw [HSN.out]; simp [HSR.out]))
            go_wp2_with fail
            go_roundw
            case rel => exact ⟨k + 1, by go_num, by omega, _, HNX.out⟩
            case measure => simp [intOf]; omega
          · have HSR := Lib.hid (show smallR r = true by unfold smallR; rw [HSL.out, hsr]; rfl)
            rw [hsr] at HS2
            clear hsr
            go_wp2_with fail
            refine HS2.out.mono ?_
            rintro e w3 ⟨rfl, hb3⟩
            have HD3 := Lib.hid (HD2.out.trans (hb3.mono HD2.out.size))
            have HX3 := Lib.hid ((hb3.block _ (at_lt HX2.out)).trans HX2.out)
            have HF3 := Lib.hid (HF.out.keep HD3.out)
            clear hb3 z0 z1 z2 z3 z4 z5 z6 z7
            obtain ⟨z0, z1, z2, z3, z4, z5, z6, z7⟩ := cells8 HX3.out
            obtain ⟨y0, y1⟩ := cells2 HF3.out.out
            have HAL := Lib.hid (below_alloc1 w3 (.cells #[.int .i64 opx, .slice ppx lx c1x, .slice qx mx dx, .int .i64 opy, .slice ppy ly c1y, .slice qy my dy, .bool bk, .bool st] 54))
            go_wp2_with (refine stop_at (.call { callee := .builtin .append, args := #[.tmp 41, .tmp 43], argTypes := #[23, 23] }) rfl ?_)
            refine ⟨?_⟩
            refine wpList_append_rules rfl (.tmp 41) (.tmp 43) rfl (.slice pq nq cq) (few9L (rs.take k)) nq HNQ.out.symm rfl (HF3.out.own.below HAL.out (Nat.le_refl _)) _ [r] 1 rfl rfl (ReadL.one w3 _ _ [.int .i64 opx, .slice ppx lx c1x, .slice qx mx dx, .int .i64 opy, .slice ppy ly c1y, .slice qy my dy, .bool bk, .bool st] ⟨rfl, by simp [Value.oneCell']⟩ HRI.out) (by omega) (Nat.le_trans HF3.out.below.size HAL.out.size) ?_
            intro p4 c4 w4 hown4 hg4 hlie4
            have hf4 : Fr (fun j => (Value.slice pq nq cq).ownBlock = some j) w3 w4 := (Fr.of_below HAL.out _).trans (Fr.grown (F := fun j => (Value.slice pq nq cq).ownBlock = some j) hg4 (fun k h => h)) (fun _ _ h => h)
            have hz4 : (w3.alloc (.cells #[.int .i64 opx, .slice ppx lx c1x, .slice qx mx dx, .int .i64 opy, .slice ppy ly c1y, .slice qy my dy, .bool bk, .bool st] 54)).heap.size = w3.heap.size + 1 := by simp
            rw [hz4] at hlie4
            have HF4 := Lib.hid hf4
            have HBO4 := Lib.hid ((hf4.block G (at_lt HF3.out.out) HF3.out.apart.2.2).trans HF3.out.out)
            have HFR := Lib.hid (Fr.setCell (F := fun j => j = G) w4 (p := ⟨G, 1, none⟩) rfl (.slice p4 (nq + 1) c4))
            have HNX := Lib.hid (show FewAt9 w0 w B G tB tG #[.slice pc nc cc, .slice (some ⟨bp, op, none⟩) m cr] (.slice pc' mn cc') #[.slice none 0 0, .slice none 0 0] rs (k + 1) (w4.setCell ⟨G, 1, none⟩ (.slice p4 (nq + 1) c4)) (.slice p4 (nq + 1) c4) from by
              have key : ∀ j, (Value.slice pq nq cq).ownBlock ≠ some j → j < w3.heap.size → (Value.slice p4 (nq + 1) c4).ownBlock ≠ some j := fun j h1 h2 he => by
                rcases hlie4 with h | h
                · exact h1 (h ▸ he)
                · rw [he] at h; injection h with h; omega
              have hap := key G HF3.out.apart.2.2 (at_lt HF3.out.out)
              have hgb := HGB.out
              refine ⟨(HFR.out.block B (by have h1 := at_lt HF3.out.box; have h2 := hf4.size; omega) (by omega)).trans ((hf4.block B (at_lt HF3.out.box) HF3.out.apart.1).trans HF3.out.box), (HFR.out.block (B + 1) (by have h1 := at_lt HF3.out.res; have h2 := hf4.size; omega) (by omega)).trans ((hf4.block (B + 1) (at_lt HF3.out.res) HF3.out.apart.2.1).trans HF3.out.res), blk_set HBO4.out 1 (.slice p4 (nq + 1) c4), ?_, ⟨key B HF3.out.apart.1 (at_lt HF3.out.box), key (B + 1) HF3.out.apart.2.1 (at_lt HF3.out.res), hap⟩, ?_⟩
              · rw [HSN.out, HSR.out]
                exact hown4.fr HFR.out (fun j hj he => hap (he ▸ hj))
              · exact (HF3.out.below.trans (hf4.below HF3.out.below.size (fun j hj => (HF3.out.own.lt j hj).1))).trans (HFR.out.below (by have h1 := HF3.out.below.size; have h2 := hf4.size; omega) (fun j hj => by have hj : j = G := hj; have h1 := HB.out; omega)))
            have x2 := (cells2 HBO4.out).2
            have f2 := fz_at HBO4.out 1
            clear hown4 hg4 hlie4 hf4 hz4 y0 y1 z0 z1 z2 z3 z4 z5 z6 z7
            go_wp2_with fail
            go_roundw
            case rel => exact ⟨k + 1, by go_num, by omega, _, HNX.out⟩
            case measure => simp [intOf]; omega
      · have HOUT := Lib.hid (show few9L (rs.take k) = few9L rs from by
          by_cases h : nq < 8
          · have hkm : k = rs.length := by have := HM.out; omega
            rw [hkm, List.take_length]
          · exact few9_full (by rw [← HNQ.out]; exact h))
        by_cases hkm : k < m
        · have hki : (k : Int) < m := by omega
          have hqi : ¬ (nq : Int) < 8 := by omega
          clear hgo
          go_wp2_with (refine wpList_store_obj rfl (.tmp 2) (.tmp 46) 25 rfl (B + 1) rfl [.slice pc' mn cc', .slice pq nq cq] rfl _ _ HF.out.res (by kernel_rfl) rfl (by simp [Value.oneCell']) ?_; intro w5 hb5 hf5)
          obtain ⟨s0, s1⟩ := cells2 hb5
          have hbe : Below w.heap.size w w5 := HF.out.below.trans (hf5.below HF.out.below.size (fun q hq => by have hq : q = B + 1 := hq; have := HB.out; omega))
          refine bodyPost_ret (v := .agg #[.slice pc' mn cc', .slice pq nq cq]) (by simp [results, Try.results16, go_sem, s0, s1]) rfl ⟨pc', cc', _, by rw [HMN.out], by rw [← HOUT.out]; exact HF.out.own.fr hf5 (fun q hq he => HF.out.apart.2.1 (he ▸ hq)), hbe⟩
        · have hki : ¬ (k : Int) < m := by omega
          clear hgo
          go_wp2_with (refine wpList_store_obj rfl (.tmp 2) (.tmp 46) 25 rfl (B + 1) rfl [.slice pc' mn cc', .slice pq nq cq] rfl _ _ HF.out.res (by kernel_rfl) rfl (by simp [Value.oneCell']) ?_; intro w5 hb5 hf5)
          obtain ⟨s0, s1⟩ := cells2 hb5
          have hbe : Below w.heap.size w w5 := HF.out.below.trans (hf5.below HF.out.below.size (fun q hq => by have hq : q = B + 1 := hq; have := HB.out; omega))
          refine bodyPost_ret (v := .agg #[.slice pc' mn cc', .slice pq nq cq]) (by simp [results, Try.results16, go_sem, s0, s1]) rfl ⟨pc', cc', _, by rw [HMN.out], by rw [← HOUT.out]; exact HF.out.own.fr hf5 (fun q hq he => HF.out.apart.2.1 (he ▸ hq)), hbe⟩
end Go.Proofs.Ythmaokjhncokdaa

