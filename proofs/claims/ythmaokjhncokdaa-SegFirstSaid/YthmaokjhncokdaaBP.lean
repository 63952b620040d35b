import Derived.Test.YthmaokjhncokdaaB1
import Derived.SizedLaws
/-
  What arguments read as: numbers, expressions, rules. Plain theorems; no condition.
-/
set_option linter.unusedVariables false
set_option linter.unusedSimpArgs false
set_option maxRecDepth 100000
namespace Go.Proofs.Ythmaokjhncokdaa
open Go.ChangeShapes Go.WideShapes Go.ChangeAt Go.RowKit Go.Deep
section
variable {H : Type} {enc : TypeId × Value → H} {w : World} {base : Nat} {spare : Nat → Bool} {held : Bool}
theorem cellsNode : Try.prog.cellsOf 52 = 3 := by kernel_rfl

theorem cellsInt : Try.prog.cellsOf 3 = 1 := by kernel_rfl

theorem cellsBool : Try.prog.cellsOf 4 = 1 := by kernel_rfl

theorem cellsInts : Try.prog.cellsOf 46 = 1 := by kernel_rfl

theorem cellsNodes : Try.prog.cellsOf 50 = 1 := by kernel_rfl

theorem bytesInt : Try.prog.bytesOf 3 = 8 := by kernel_rfl

theorem bytesNode : Try.prog.bytesOf 52 = 56 := by kernel_rfl

/-- what is read is within the reach -/
def Sized (t : TypeId) (d : DataW H) : Prop := ∀ n ∈ DataW.weights Try.prog t d, n ≤ R

theorem weights_all {e : TypeId} : ∀ {l : List (DataW H)} {i : Nat} {d : DataW H}, l[i]? = some d → ∀ n ∈ DataW.weights Try.prog e d, n ∈ DataW.weightsAll Try.prog e l
  | [], i, d, h, n, hn => by simp at h
  | x :: r, 0, d, h, n, hn => by
    simp only [List.getElem?_cons_zero, Option.some.injEq] at h
    subst h
    simp only [DataW.weightsAll, List.mem_append]
    exact .inl hn
  | x :: r, i + 1, d, h, n, hn => by
    simp only [List.getElem?_cons_succ] at h
    simp only [DataW.weightsAll, List.mem_append]
    exact .inr (weights_all h n hn)

theorem add_off (b off j k : Nat) : ((⟨b, off, none⟩ : Addr).add j).add k = ⟨b, off + j + k, none⟩ := by
  unfold Addr.add
  split <;> split <;> simp_all

theorem cells_at {a : Addr} {n sz i : Nat} {cs : List Value} (h : w.cells? base (a.add (i * sz)) sz = some cs) (hs : 0 < sz) : ∃ b off, a.block = b ∧ a.off = off ∧ cs.length = sz ∧ (i = 0 → a.spot = none) ∧ (a.spot = none → cellsAt w b (off + i * sz) cs) := by
  obtain ⟨h1, h2, h3⟩ := World.cells?_some h
  obtain ⟨b, off, spot⟩ := a
  refine ⟨b, off, rfl, rfl, h2, fun hi => ?_, fun hsp j u hu => ?_⟩
  · subst hi
    have := h3 0 hs
    rw [List.getElem?_eq_getElem (by omega)] at this
    simpa [Addr.add] using World.cell?_spot this
  · have hsp' : spot = none := hsp
    subst hsp'
    have hj : j < sz := by have := (List.getElem?_eq_some_iff.1 hu).1; omega
    have := h3 j hj
    rw [hu, add_off] at this
    exact this

theorem slice_rows {e : TypeId} {sz : Nat} (hsz : 0 < sz) {a : Addr} {len : Nat} {F : Nat → List Value} (hx : ∀ i, i < len → w.cells? base (a.add (i * sz)) sz = some (F i)) (cap : Nat) (hc : len ≤ cap) :
    Rows w sz (.slice (some a) len cap) ((List.range len).map F) := by
  refine ⟨fun r hr => ?_, some a, cap, by simp, by simpa using hc, fun h0 => ?_⟩
  · obtain ⟨i, hi, rfl⟩ := List.mem_map.1 hr
    have := (World.cells?_some (hx i (List.mem_range.1 hi))).2.1
    exact this
  · have hl : ∀ r ∈ (List.range len).map F, r.length = sz := fun r hr => by
      obtain ⟨i, hi, rfl⟩ := List.mem_map.1 hr
      exact (World.cells?_some (hx i (List.mem_range.1 hi))).2.1
    rw [flatten_length hl, List.length_map, List.length_range] at h0
    have hpos : 0 < len := Nat.pos_of_mul_pos_right h0
    obtain ⟨b, off, e1, e2, -, hsp, -⟩ := cells_at (n := 0) (hx 0 hpos) hsz
    obtain ⟨b', off', spot⟩ := a
    have hs0 : spot = none := hsp rfl
    subst hs0
    refine ⟨b', off', rfl, fun j u hu => ?_⟩
    have hj := (List.getElem?_eq_some_iff.1 hu).1
    rw [flatten_length hl, List.length_map, List.length_range] at hj
    have hi : j / sz < len := Nat.div_lt_of_lt_mul (by rw [Nat.mul_comm]; exact hj)
    obtain ⟨b2, off2, e3, e4, -, -, hcell⟩ := cells_at (n := 0) (hx (j / sz) hi) hsz
    have hg := flatten_get (rows := (List.range len).map F) (i := j / sz) (row := F (j / sz)) hl (by simp [hi]) (j % sz) (Nat.mod_lt _ hsz)
    rw [show j / sz * sz + j % sz = j by rw [Nat.mul_comm]; exact Nat.div_add_mod j sz, hu] at hg
    have := hcell rfl (j % sz) u hg.symm
    subst e3 e4
    rwa [Nat.add_assoc, show j / sz * sz + j % sz = j by rw [Nat.mul_comm]; exact Nat.div_add_mod j sz] at this

/-- a slice of anything, element by element -/
theorem slice_of {t e : TypeId} {fuel : Nat} {cs : List Value} {x : DataW H × List MemPlace} (ht : Try.prog.underlying t = some (.slice e)) (hpos : 0 < Try.prog.cellsOf e) (h : DataW.trod enc Try.prog w base spare held fuel t cs = some x) (hs : Sized t x.1) :
    ∃ (v : Value) (n : Nat) (rows : List (List Value)) (D : Nat → DataW H × List MemPlace), n < fuel ∧ cs = [v] ∧ Rows w (Try.prog.cellsOf e) v rows ∧ rows.length * Try.prog.bytesOf e ≤ R ∧ rows.length ≤ maxLen ∧
      ∀ i (h : i < rows.length), DataW.trod enc Try.prog w base spare held n e rows[i] = some (D i) ∧ Sized e (D i).1 := by
  rcases DataW.trod_slice ht h with ⟨rfl, rfl⟩ | ⟨a, len, cap, elems, rest, n, rfl, rfl, rfl, hb, hl, hm, hlen, hel, -, -⟩
  · cases fuel with
    | zero => simp [DataW.trod] at h
    | succ n => exact ⟨_, n, [], fun _ => (.nil, []), Nat.lt_succ_self _, rfl, ⟨by simp, none, 0, rfl, by simp, fun h => by simp at h⟩, by simp, by simp, fun i h => by simp at h⟩
  · have hex : ∀ i, i < len → ∃ c : List Value, w.cells? base (a.add (i * Try.prog.cellsOf e)) (Try.prog.cellsOf e) = some c ∧ DataW.trod enc Try.prog w base spare held n e c = elems[i]? := by
      intro i hi
      have := hel i hi
      rw [List.getElem?_eq_getElem (by omega)] at this
      obtain ⟨c, h1, h2⟩ := Option.bind_eq_some_iff.1 this
      exact ⟨c, h1, by rw [h2, List.getElem?_eq_getElem (by omega)]⟩
    obtain ⟨F, hF⟩ := choose_lt hex
    refine ⟨_, n, (List.range len).map F, fun i => elems[i]?.getD (.nil, []), Nat.lt_succ_self _, rfl, slice_rows hpos (e := e) (fun i hi => (hF i hi).1) cap hl, ?_, by simp; omega, fun i hi => ?_⟩
    · have := hs _ (show (elems.length + rest.length) * Try.prog.bytesOf e ∈ _ by simp [DataW.weights, ht])
      simp only [List.length_map, List.length_range]
      rw [← hlen]
      exact Nat.le_trans (Nat.mul_le_mul_right _ (Nat.le_add_right _ _)) this
    · have hi' : i < len := by simpa using hi
      have he : elems[i]? = some elems[i] := List.getElem?_eq_getElem (by omega)
      refine ⟨?_, ?_⟩
      · simp only [List.getElem_map, List.getElem_range, he, Option.getD_some]
        rw [(hF i hi').2, he]
      · intro m hm'
        simp only [he, Option.getD_some] at hm'
        refine hs m ?_
        simp only [DataW.weights, ht, List.mem_cons, List.mem_append]
        exact .inr (.inl (weights_all (i := i) (by simp [he]) m hm'))

theorem ints_of {fuel : Nat} {cs : List Value} {x : DataW H × List MemPlace} (h : DataW.trod enc Try.prog w base spare held fuel 46 cs = some x) (hs : Sized 46 x.1) : ∃ v xs, cs = [v] ∧ Ints w v xs ∧ xs.length * 8 ≤ R ∧ ∀ y ∈ xs, -9223372036854775808 ≤ y ∧ y ≤ 9223372036854775807 := by
  obtain ⟨v, n, rows, D, -, rfl, ⟨h1, h2⟩, h3, -, h4⟩ := slice_of Try.underlying46 (by rw [cellsInt]; omega) h hs
  rw [bytesInt] at h3
  have hex : ∀ i, i < rows.length → ∃ y : Int, rows[i]? = some [.int .i64 y] ∧ -9223372036854775808 ≤ y ∧ y ≤ 9223372036854775807 := by
    intro i hi
    obtain ⟨g, -⟩ := h4 i hi
    obtain ⟨y, e, -, hw⟩ := DataW.trod_int Try.underlying3 g
    refine ⟨y, by rw [List.getElem?_eq_getElem hi, e], ?_⟩
    simp [Lit.wf, IntKind.min, IntKind.max, IntKind.signed, IntKind.bits] at hw
    omega
  obtain ⟨f, hf⟩ := choose_lt hex
  have hfl : rows.flatten = ((List.range rows.length).map f).map (Value.int .i64) := by
    have : rows = (List.range rows.length).map fun i => [.int .i64 (f i)] := by
      apply List.ext_getElem
      · simp
      · intro i g1 g2
        have := (hf i g1).1
        rw [List.getElem?_eq_getElem g1] at this
        simpa using this
    have e : rows.flatten = ((List.range rows.length).map fun i => [Value.int .i64 (f i)]).flatten := congrArg List.flatten this
    rw [e]
    generalize List.range rows.length = l
    induction l with
    | nil => rfl
    | cons x r ih => simp [ih]
  refine ⟨v, (List.range rows.length).map f, rfl, ?_, by simpa using h3, fun y hy => ?_⟩
  · unfold Ints
    rw [← hfl]
    simpa using h2
  · obtain ⟨i, hi, rfl⟩ := List.mem_map.1 hy
    exact (hf i (List.mem_range.1 hi)).2

theorem node_of : ∀ (fuel : Nat) {cs : List Value} {x : DataW H × List MemPlace}, DataW.trod enc Try.prog w base spare held fuel 52 cs = some x → Sized 52 x.1 → ∃ nd a b c, cs = [a, b, c] ∧ NodeIs w nd a b c := by
  intro fuel
  induction fuel using Nat.strongRecOn with
  | _ fuel ih =>
    intro cs x h hs
    obtain ⟨xs, n, rfl, rfl, hl, hlen, hf⟩ := DataW.trod_struct Try.underlying52 h
    rw [cellsNode] at hl
    match cs, hl with
    | [c0, c1, c2], _ =>
      have hxl : xs.length = 3 := by simpa using hlen
      have h0 := hf 0 _ rfl
      have h1 := hf 1 _ rfl
      have h2 := hf 2 _ rfl
      simp only [List.getElem_toArray, List.getElem_cons_zero, List.getElem_cons_succ, cellsInt, cellsInts, cellsNodes] at h0 h1 h2
      rw [List.getElem?_eq_getElem (show 0 < xs.length by omega)] at h0
      rw [List.getElem?_eq_getElem (show 1 < xs.length by omega)] at h1
      rw [List.getElem?_eq_getElem (show 2 < xs.length by omega)] at h2
      have hsz : ∀ (j : Nat) (t : TypeId) (hj : j < xs.length), [3, 46, 50][j]? = some t → Sized t xs[j].1 := by
        intro j t hj ht n hn
        refine hs n ?_
        simp only [DataW.weights, Try.underlying52]
        exact DataW.weights_mem_each (j := j) (t := t) (d := xs[j].1) (by simpa using ht) (by simp [hj]) n hn
      obtain ⟨op, e0, -⟩ := DataW.trod_int Try.underlying3 h0
      obtain ⟨v1, cls, e1, hcls, hcb, -⟩ := ints_of h1 (hsz 1 _ (by omega) rfl)
      obtain ⟨v2, m, rows, D, hm, e2, hrows, hpb, -, hel⟩ := slice_of Try.underlying50 (by rw [cellsNode]; omega) h2 (hsz 2 _ (by omega) rfl)
      simp at e0 e1 e2
      subst e0 e1 e2
      rw [cellsNode] at hrows
      rw [bytesNode] at hpb
      have hex : ∀ i, i < rows.length → ∃ nd : Nd, ∃ a b c, rows[i]? = some [a, b, c] ∧ NodeIs w nd a b c := by
        intro i hi
        obtain ⟨g1, g2⟩ := hel i hi
        obtain ⟨nd, a, b, c, e, hn⟩ := ih m (by omega) g1 g2
        exact ⟨nd, a, b, c, by rw [List.getElem?_eq_getElem hi, e], hn⟩
      have : Inhabited Nd := ⟨.mk 0 [] []⟩
      obtain ⟨f, hf'⟩ := choose_lt hex
      refine ⟨.mk op cls ((List.range rows.length).map f), _, _, _, rfl, ?_⟩
      rw [nodeIs_iff]
      refine ⟨rfl, hcls, hcb, by simpa using hpb, rows, hrows, by simp, fun i hi => ?_⟩
      have hi' : i < rows.length := by simpa using hi
      obtain ⟨a, b, c, g1, g2⟩ := hf' i hi'
      exact ⟨a, b, c, g1, by simpa using g2⟩

theorem sized_arg {ts : List TypeId} {ds : List (DataW H)} (h : (DataW.weightsEach Try.prog ts ds).all (· ≤ reachBytes) = true) (j : Nat) (t : TypeId) (d : DataW H) (ht : ts[j]? = some t) (hd : ds[j]? = some d) : Sized t d := by
  intro n hn
  have := List.all_eq_true.1 h _ (DataW.weights_mem_each ht hd n hn)
  have h2 : decide (n ≤ reachBytes) = true := this
  have h3 : n ≤ reachBytes := of_decide_eq_true h2
  exact h3

theorem ints_open {r : Reach} {b0 : Nat} {v : Value} {d : DataW H} {p : List MemPlace} (hv : Value.okWide Try.prog w r b0 46 v) (h : DataW.Trod enc Try.prog w base spare held 46 v d p) (hs : Sized 46 d) : ∃ xs, Ints w v xs ∧ xs.length * 8 ≤ R ∧ ∀ y ∈ xs, -9223372036854775808 ≤ y ∧ y ≤ 9223372036854775807 := by
  obtain ⟨a0, len0, cap0, rfl⟩ := okWide_slice Try.underlying46 hv
  obtain ⟨fuel, hf⟩ := h
  obtain ⟨v, xs, e, h1, h2⟩ := ints_of hf hs
  simp only [Value.cells, List.cons.injEq, and_true] at e
  subst e
  exact ⟨xs, h1, h2⟩

theorem node_open {r : Reach} {b0 : Nat} {v : Value} {d : DataW H} {p : List MemPlace} (hv : Value.okWide Try.prog w r b0 52 v) (h : DataW.Trod enc Try.prog w base spare held 52 v d p) (hs : Sized 52 d) : ∃ nd a b c, v = .agg #[a, b, c] ∧ NodeIs w nd a b c := by
  obtain ⟨cs, rfl, -⟩ := okWide_struct Try.underlying52 hv
  obtain ⟨fuel, hf⟩ := h
  obtain ⟨nd, a, b, c, e, h1⟩ := node_of fuel hf hs
  refine ⟨nd, a, b, c, ?_, h1⟩
  congr 1
  apply Array.toList_inj.1
  simpa [Value.cells] using e

end
end Go.Proofs.Ythmaokjhncokdaa

/-
  A ruleset as an argument: how its rows are opened. Plain theorems; no condition.
-/
set_option linter.unusedVariables false
set_option linter.unusedSimpArgs false
set_option maxRecDepth 100000
namespace Go.Proofs.Ythmaokjhncokdaa
open Go.ChangeShapes Go.WideShapes Go.ChangeAt Go.RowKit Go.Deep
section
variable {H : Type} {enc : TypeId × Value → H} {w : World} {base : Nat} {spare : Nat → Bool} {held : Bool}
theorem cellsRule : Try.prog.cellsOf 54 = 8 := by kernel_rfl
theorem cellsStr : Try.prog.cellsOf 9 = 1 := by kernel_rfl
theorem cellsStrs : Try.prog.cellsOf 22 = 1 := by kernel_rfl
theorem cellsRules : Try.prog.cellsOf 23 = 1 := by kernel_rfl
theorem cellsRuleset : Try.prog.cellsOf 25 = 2 := by kernel_rfl

theorem rule_of {fuel : Nat} {cs : List Value} {x : DataW H × List MemPlace} (h : DataW.trod enc Try.prog w base spare held fuel 54 cs = some x) (hs : Sized 54 x.1) : ∃ r, RuleIs w r cs := by
  obtain ⟨xs, n, rfl, rfl, hl, hlen, hf⟩ := DataW.trod_struct Try.underlying54 h
  rw [cellsRule] at hl
  match cs, hl with
  | [c0, c1, c2, c3, c4, c5, c6, c7], _ =>
    have hxl : xs.length = 4 := by simpa using hlen
    have h0 := hf 0 _ rfl
    have h1 := hf 1 _ rfl
    have h2 := hf 2 _ rfl
    have h3 := hf 3 _ rfl
    simp only [List.getElem_toArray, List.getElem_cons_zero, List.getElem_cons_succ, cellsNode, cellsBool] at h0 h1 h2 h3
    rw [List.getElem?_eq_getElem (show 0 < xs.length by omega)] at h0
    rw [List.getElem?_eq_getElem (show 1 < xs.length by omega)] at h1
    rw [List.getElem?_eq_getElem (show 2 < xs.length by omega)] at h2
    rw [List.getElem?_eq_getElem (show 3 < xs.length by omega)] at h3
    have hsz : ∀ (j : Nat) (t : TypeId) (hj : j < xs.length), [52, 52, 4, 4][j]? = some t → Sized t xs[j].1 := by
      intro j t hj ht n hn
      refine hs n ?_
      simp only [DataW.weights, Try.underlying54]
      exact DataW.weights_mem_each (j := j) (t := t) (d := xs[j].1) (by simpa using ht) (by simp [hj]) n hn
    obtain ⟨x1, a, b, c, e0, hx1⟩ := node_of _ h0 (hsz 0 _ (by omega) rfl)
    obtain ⟨x2, d, e, f, e1, hx2⟩ := node_of _ h1 (hsz 1 _ (by omega) rfl)
    obtain ⟨brk, e2, -⟩ := DataW.trod_bool Try.underlying4 h2
    obtain ⟨st, e3, -⟩ := DataW.trod_bool Try.underlying4 h3
    simp at e0 e1 e2 e3
    obtain ⟨rfl, rfl, rfl⟩ := e0
    obtain ⟨rfl, rfl, rfl⟩ := e1
    subst e2 e3
    exact ⟨⟨x1, x2, brk, st⟩, _, _, _, _, _, _, rfl, hx1, hx2⟩

theorem rules_of {fuel : Nat} {cs : List Value} {x : DataW H × List MemPlace} (h : DataW.trod enc Try.prog w base spare held fuel 23 cs = some x) (hs : Sized 23 x.1) : ∃ v rs, cs = [v] ∧ Rules w v rs ∧ rs.length ≤ maxLen := by
  obtain ⟨v, n, rows, D, -, rfl, hrows, -, hm, h4⟩ := slice_of Try.underlying23 (by rw [cellsRule]; omega) h hs
  rw [cellsRule] at hrows
  have hex : ∀ i, i < rows.length → ∃ r : Rl, ∃ row, rows[i]? = some row ∧ RuleIs w r row := by
    intro i hi
    obtain ⟨g1, g2⟩ := h4 i hi
    obtain ⟨r, hr⟩ := rule_of g1 g2
    exact ⟨r, _, List.getElem?_eq_getElem hi, hr⟩
  have : Inhabited Rl := ⟨⟨.mk 0 [] [], .mk 0 [] [], false, false⟩⟩
  obtain ⟨f, hf⟩ := choose_lt hex
  refine ⟨v, (List.range rows.length).map f, rfl, ⟨rows, hrows, by simp, fun i hi => ?_⟩, by simpa using hm⟩
  have hi' : i < rows.length := by simpa using hi
  obtain ⟨row, g1, g2⟩ := hf i hi'
  exact ⟨row, g1, by simpa using g2⟩

theorem ruleset_open {r : Reach} {b0 : Nat} {v : Value} {d : DataW H} {p : List MemPlace} (hv : Value.okWide Try.prog w r b0 25 v) (h : DataW.Trod enc Try.prog w base spare held 25 v d p) (hs : Sized 25 d) :
    ∃ pc nc cc rv rs, v = .agg #[.slice pc nc cc, rv] ∧ nc ≤ cc ∧ (0 < nc → ∃ a, pc = some a) ∧ nc ≤ maxLen ∧ Rules w rv rs ∧ rs.length ≤ maxLen := by
  obtain ⟨cs, rfl, -⟩ := okWide_struct Try.underlying25 hv
  obtain ⟨fuel, hf0⟩ := h
  obtain ⟨xs, n, rfl, e, hl, hlen, hf⟩ := DataW.trod_struct Try.underlying25 hf0
  obtain ⟨rfl, rfl⟩ := Prod.mk.inj e
  clear e
  rw [cellsRuleset] at hl
  obtain ⟨c0, c1, hcs⟩ : ∃ c0 c1, cs = #[c0, c1] := by
    have h2 : cs.toList.length = 2 := by simpa [Value.cells] using hl
    obtain ⟨l⟩ := cs
    match l, h2 with
    | [a, b], _ => exact ⟨a, b, rfl⟩
  subst hcs
  have hxl : xs.length = 2 := by simpa using hlen
  have h0 := hf 0 _ rfl
  have h1 := hf 1 _ rfl
  simp only [Value.cells, List.getElem_toArray, List.getElem_cons_zero, List.getElem_cons_succ, cellsStrs, cellsRules] at h0 h1
  rw [List.getElem?_eq_getElem (show 0 < xs.length by omega)] at h0
  rw [List.getElem?_eq_getElem (show 1 < xs.length by omega)] at h1
  have hsz : ∀ (j : Nat) (t : TypeId) (hj : j < xs.length), [22, 23][j]? = some t → Sized t xs[j].1 := by
    intro j t hj ht n hn
    refine hs n ?_
    simp only [DataW.weights, Try.underlying25]
    exact DataW.weights_mem_each (j := j) (t := t) (d := xs[j].1) (by simpa using ht) (by simp [hj]) n hn
  obtain ⟨v1, n1, rows, D, -, e1, ⟨hr1, hrows⟩, -, hm1, -⟩ := slice_of Try.underlying22 (by rw [cellsStr]; omega) h0 (hsz 0 _ (by omega) rfl)
  obtain ⟨v2, rs, e2, h3, h4⟩ := rules_of h1 (hsz 1 _ (by omega) rfl)
  simp at e1 e2
  subst e1 e2
  obtain ⟨pc, cc, rfl, hc, hp⟩ := hrows
  refine ⟨pc, rows.length, cc, _, rs, rfl, hc, fun hpos => ?_, hm1, h3, h4⟩
  rw [cellsStr] at hr1
  obtain ⟨b, off, e, -⟩ := hp (by rw [flatten_length hr1]; omega)
  exact ⟨_, e⟩
end
end Go.Proofs.Ythmaokjhncokdaa

