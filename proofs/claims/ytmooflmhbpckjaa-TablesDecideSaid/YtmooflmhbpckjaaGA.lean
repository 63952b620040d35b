import Derived.ProofKit
import Derived.OpenShut
import Derived.Below
import Derived.Carry
import Derived.Deep.Slices
import Derived.Test.YtmooflmhbpckjaaMem
import Derived.SizedLaws
import Derived.Test.YtmooflmhbpckjaaNO
import Derived.IntWalk
import Derived.Test.YtmooflmhbpckjaaDI
import Derived.Test.YtmooflmhbpckjaaEMm
import Derived.Test.YtmooflmhbpckjaaLib
import Derived.KernelRfl
/-
  A law's row out of a walk that ends 'true' and leaves all that was there as it was. Plain theorems over any program; no condition.
-/
set_option linter.unusedVariables false
set_option linter.unusedSimpArgs false
namespace Go.Proofs.Ytmooflmhbpckjaa
open Go.ChangeShapes Go.WideShapes Go.ChangeAt Go.RowKit
section
variable {H : Type} {enc : TypeId × Value → H} {P : Program}

/-- a law's end: the answer; what was there is as it was -/
def Says (b : Bool) (w : World) (e : Ending) (w' : World) : Prop := e = .returned (.bool b) ∧ Below w.heap.size w w'

theorem trodAll_below (hl : laidOutB P = true) {W W' : World} (hb : Below W.heap.size W W') (sp : Nat → Bool) : ∀ (ts : List TypeId) (vs : List Value) (ds : List (DataW H)) (ps : List MemPlace), (∀ t ∈ ts, P.readableRec t = true ∧ t < P.types.size) →
    DataW.TrodAll enc P W 0 (fun _ => true) true ts vs ds ps → (∀ p ∈ ps, p.block < W.heap.size) → (∀ p ∈ ps, sp p.block = true) → DataW.TrodAll enc P W' 0 sp true ts vs ds ps
  | [], vs, ds, ps, _, h, _, _ => by
    obtain ⟨rfl, rfl, rfl⟩ := trodAll_nil h
    exact trodAll_mk0
  | t :: ts, vs, ds, ps, hp, h, hlt, hsp => by
    obtain ⟨v, vs, d, ds, p, q, rfl, rfl, rfl, h1, h2⟩ := trodAll_cons h
    obtain ⟨hr, hrow⟩ := hp t (by simp)
    exact trodAll_cons_mk (WideElems.Trod_stays hl hr hrow h1 (fun x hx => hb.same (hlt x (by simp [hx]))) (fun x hx => hsp x (by simp [hx])))
      (trodAll_below hl hb sp ts vs ds q (fun t' h' => hp t' (by simp [h'])) h2 (fun x hx => hlt x (by simp [hx])) (fun x hx => hsp x (by simp [hx])))

theorem trodAll_length {W : World} {base : Nat} {spare : Nat → Bool} {held : Bool} : ∀ (ts : List TypeId) (vs : List Value) (ds : List (DataW H)) (ps : List MemPlace), DataW.TrodAll enc P W base spare held ts vs ds ps → ds.length = ts.length
  | [], vs, ds, ps, h => by
    obtain ⟨rfl, rfl, rfl⟩ := trodAll_nil h
    rfl
  | t :: ts, vs, ds, ps, h => by
    obtain ⟨v, vs, d, ds, p, q, rfl, rfl, rfl, h1, h2⟩ := trodAll_cons h
    simp [trodAll_length ts vs ds q h2]

theorem law_post {f : Func} {s : ChangeSpec} {t : TypeId} (hl : laidOutB P = true) (hp : ∀ t ∈ f.params.toList, P.readableRec t = true ∧ t < P.types.size) (hr : f.resultTypes = #[t]) (ht : P.underlying t = some .bool) (hvars : s.vars = [])
    (hs : ∀ ds : List (DataW H), ds.length = f.params.size → (s.fn H (ds ++ [])).results = [.lit (.bool true)] ∧ (s.fn H (ds ++ [])).args = ds ∧ (s.fn H (ds ++ [])).vars = [])
    {W W' : World} {args : Array Value} {ds gs : List (DataW H)} {before : List MemPlace} (hW : DataW.Whole enc P f.params.toList s.vars false W args.toList ds gs before) (hb : Below W.heap.size W W') :
    s.post enc P f false true false false W args (.bool true) W' := by
  have hlt : ∀ p ∈ before, p.block < W.heap.size := fun p hp => hW.lt p hp
  have hW' := hW
  obtain ⟨p, q, hA, hV, rfl, hfz, hnd⟩ := hW
  rw [hvars] at hV
  obtain ⟨rfl, rfl⟩ := trodVars_none hV
  simp only [List.append_nil] at hW' hlt
  have hlen : ds.length = f.params.size := by rw [trodAll_length _ _ _ _ hA]; simp
  obtain ⟨s1, s2, s3⟩ := hs ds hlen
  have hres : ∀ (b : Nat) (sp : Nat → Bool) (hd : Bool), DataW.TrodAll enc P W' b sp hd f.resultTypes.toList ((Value.bool true).resultList f.resultTypes.size) (s.fn H (ds ++ [])).results [] := by
    intro b sp hd
    rw [s1, hr]
    exact trodAll_cons_mk (shut_bool ht _) trodAll_mk0
  have hargs : ∀ sp : Nat → Bool, (∀ x ∈ p, sp x.block = true) → DataW.TrodAll enc P W' 0 sp true f.params.toList args.toList (s.fn H (ds ++ [])).args p := by
    intro sp hsp
    rw [s2]
    exact trodAll_below hl hb sp _ _ _ _ hp hA hlt hsp
  have hvs : ∀ sp : Nat → Bool, DataW.TrodVars enc P W' sp s.vars (s.fn H (ds ++ [])).vars [] := by
    intro sp
    rw [s3, hvars]
    rfl
  have hold : ∀ x ∈ p, (fun b => decide (b < W.heap.size)) x.block = true := fun x hx => by simpa using hlt x hx
  refine ⟨ds, [], p, [], p, [], hW', hres _ _ _, hargs _ hold, hvs _, World.keptBut_mono (fun x hx => ⟨hx, ?_⟩) (hb.frame (· ∈ p)), fun h => by cases h⟩
  simpa using hx
end
end Go.Proofs.Ytmooflmhbpckjaa

/-
  What arguments read as: numbers, expressions, rules. Plain theorems; no condition.
-/
set_option linter.unusedVariables false
set_option linter.unusedSimpArgs false
set_option maxRecDepth 100000
namespace Go.Proofs.Ytmooflmhbpckjaa
open Go.ChangeShapes Go.WideShapes Go.ChangeAt Go.RowKit Go.Deep
section
variable {H : Type} {enc : TypeId × Value → H} {w : World} {base : Nat} {spare : Nat → Bool} {held : Bool}
theorem cellsNode : Try.prog.cellsOf 49 = 3 := by kernel_rfl

theorem cellsInt : Try.prog.cellsOf 3 = 1 := by kernel_rfl

theorem cellsBool : Try.prog.cellsOf 4 = 1 := by kernel_rfl

theorem cellsInts : Try.prog.cellsOf 46 = 1 := by kernel_rfl

theorem cellsNodes : Try.prog.cellsOf 47 = 1 := by kernel_rfl

theorem bytesInt : Try.prog.bytesOf 3 = 8 := by kernel_rfl

theorem bytesNode : Try.prog.bytesOf 49 = 56 := by kernel_rfl

/-- what is read is within the reach -/
def Sized (t : TypeId) (d : DataW H) : Prop := ∀ n ∈ DataW.weights Try.prog t d, n ≤ R

theorem weights_all {e : TypeId} : ∀ {l : List (DataW H)} {i : Nat} {d : DataW H}, l[i]? = some d → ∀ n ∈ DataW.weights Try.prog e d, n ∈ DataW.weightsAll Try.prog e l
  | [], i, d, h, n, hn => by simp at h
  | x :: r, 0, d, h, n, hn => by
    simp only [List.getElem?_cons_zero, Option.some.injEq] at h
    subst h
    simp only [DataW.weightsAll, List.mem_append]
    exact .inl hn
  | x :: r, i + 1, d, h, n, hn => by
    simp only [List.getElem?_cons_succ] at h
    simp only [DataW.weightsAll, List.mem_append]
    exact .inr (weights_all h n hn)

theorem add_off (b off j k : Nat) : ((⟨b, off, none⟩ : Addr).add j).add k = ⟨b, off + j + k, none⟩ := by
  unfold Addr.add
  split <;> split <;> simp_all

theorem cells_at {a : Addr} {n sz i : Nat} {cs : List Value} (h : w.cells? base (a.add (i * sz)) sz = some cs) (hs : 0 < sz) : ∃ b off, a.block = b ∧ a.off = off ∧ cs.length = sz ∧ (i = 0 → a.spot = none) ∧ (a.spot = none → cellsAt w b (off + i * sz) cs) := by
  obtain ⟨h1, h2, h3⟩ := World.cells?_some h
  obtain ⟨b, off, spot⟩ := a
  refine ⟨b, off, rfl, rfl, h2, fun hi => ?_, fun hsp j u hu => ?_⟩
  · subst hi
    have := h3 0 hs
    rw [List.getElem?_eq_getElem (by omega)] at this
    simpa [Addr.add] using World.cell?_spot this
  · have hsp' : spot = none := hsp
    subst hsp'
    have hj : j < sz := by have := (List.getElem?_eq_some_iff.1 hu).1; omega
    have := h3 j hj
    rw [hu, add_off] at this
    exact this

theorem slice_rows {e : TypeId} {sz : Nat} (hsz : 0 < sz) {a : Addr} {len : Nat} {F : Nat → List Value} (hx : ∀ i, i < len → w.cells? base (a.add (i * sz)) sz = some (F i)) (cap : Nat) (hc : len ≤ cap) :
    Rows w sz (.slice (some a) len cap) ((List.range len).map F) := by
  refine ⟨fun r hr => ?_, some a, cap, by simp, by simpa using hc, fun h0 => ?_⟩
  · obtain ⟨i, hi, rfl⟩ := List.mem_map.1 hr
    have := (World.cells?_some (hx i (List.mem_range.1 hi))).2.1
    exact this
  · have hl : ∀ r ∈ (List.range len).map F, r.length = sz := fun r hr => by
      obtain ⟨i, hi, rfl⟩ := List.mem_map.1 hr
      exact (World.cells?_some (hx i (List.mem_range.1 hi))).2.1
    rw [flatten_length hl, List.length_map, List.length_range] at h0
    have hpos : 0 < len := Nat.pos_of_mul_pos_right h0
    obtain ⟨b, off, e1, e2, -, hsp, -⟩ := cells_at (n := 0) (hx 0 hpos) hsz
    obtain ⟨b', off', spot⟩ := a
    have hs0 : spot = none := hsp rfl
    subst hs0
    refine ⟨b', off', rfl, fun j u hu => ?_⟩
    have hj := (List.getElem?_eq_some_iff.1 hu).1
    rw [flatten_length hl, List.length_map, List.length_range] at hj
    have hi : j / sz < len := Nat.div_lt_of_lt_mul (by rw [Nat.mul_comm]; exact hj)
    obtain ⟨b2, off2, e3, e4, -, -, hcell⟩ := cells_at (n := 0) (hx (j / sz) hi) hsz
    have hg := flatten_get (rows := (List.range len).map F) (i := j / sz) (row := F (j / sz)) hl (by simp [hi]) (j % sz) (Nat.mod_lt _ hsz)
    rw [show j / sz * sz + j % sz = j by rw [Nat.mul_comm]; exact Nat.div_add_mod j sz, hu] at hg
    have := hcell rfl (j % sz) u hg.symm
    subst e3 e4
    rwa [Nat.add_assoc, show j / sz * sz + j % sz = j by rw [Nat.mul_comm]; exact Nat.div_add_mod j sz] at this

/-- a slice of anything, element by element -/
theorem slice_of {t e : TypeId} {fuel : Nat} {cs : List Value} {x : DataW H × List MemPlace} (ht : Try.prog.underlying t = some (.slice e)) (hpos : 0 < Try.prog.cellsOf e) (h : DataW.trod enc Try.prog w base spare held fuel t cs = some x) (hs : Sized t x.1) :
    ∃ (v : Value) (n : Nat) (rows : List (List Value)) (D : Nat → DataW H × List MemPlace), n < fuel ∧ cs = [v] ∧ Rows w (Try.prog.cellsOf e) v rows ∧ rows.length * Try.prog.bytesOf e ≤ R ∧ rows.length ≤ maxLen ∧
      ∀ i (h : i < rows.length), DataW.trod enc Try.prog w base spare held n e rows[i] = some (D i) ∧ Sized e (D i).1 := by
  rcases DataW.trod_slice ht h with ⟨rfl, rfl⟩ | ⟨a, len, cap, elems, rest, n, rfl, rfl, rfl, hb, hl, hm, hlen, hel, -, -⟩
  · cases fuel with
    | zero => simp [DataW.trod] at h
    | succ n => exact ⟨_, n, [], fun _ => (.nil, []), Nat.lt_succ_self _, rfl, ⟨by simp, none, 0, rfl, by simp, fun h => by simp at h⟩, by simp, by simp, fun i h => by simp at h⟩
  · have hex : ∀ i, i < len → ∃ c : List Value, w.cells? base (a.add (i * Try.prog.cellsOf e)) (Try.prog.cellsOf e) = some c ∧ DataW.trod enc Try.prog w base spare held n e c = elems[i]? := by
      intro i hi
      have := hel i hi
      rw [List.getElem?_eq_getElem (by omega)] at this
      obtain ⟨c, h1, h2⟩ := Option.bind_eq_some_iff.1 this
      exact ⟨c, h1, by rw [h2, List.getElem?_eq_getElem (by omega)]⟩
    obtain ⟨F, hF⟩ := choose_lt hex
    refine ⟨_, n, (List.range len).map F, fun i => elems[i]?.getD (.nil, []), Nat.lt_succ_self _, rfl, slice_rows hpos (e := e) (fun i hi => (hF i hi).1) cap hl, ?_, by simp; omega, fun i hi => ?_⟩
    · have := hs _ (show (elems.length + rest.length) * Try.prog.bytesOf e ∈ _ by simp [DataW.weights, ht])
      simp only [List.length_map, List.length_range]
      rw [← hlen]
      exact Nat.le_trans (Nat.mul_le_mul_right _ (Nat.le_add_right _ _)) this
    · have hi' : i < len := by simpa using hi
      have he : elems[i]? = some elems[i] := List.getElem?_eq_getElem (by omega)
      refine ⟨?_, ?_⟩
      · simp only [List.getElem_map, List.getElem_range, he, Option.getD_some]
        rw [(hF i hi').2, he]
      · intro m hm'
        simp only [he, Option.getD_some] at hm'
        refine hs m ?_
        simp only [DataW.weights, ht, List.mem_cons, List.mem_append]
        exact .inr (.inl (weights_all (i := i) (by simp [he]) m hm'))

theorem ints_of {fuel : Nat} {cs : List Value} {x : DataW H × List MemPlace} (h : DataW.trod enc Try.prog w base spare held fuel 46 cs = some x) (hs : Sized 46 x.1) : ∃ v xs, cs = [v] ∧ Ints w v xs ∧ xs.length * 8 ≤ R ∧ ∀ y ∈ xs, -9223372036854775808 ≤ y ∧ y ≤ 9223372036854775807 := by
  obtain ⟨v, n, rows, D, -, rfl, ⟨h1, h2⟩, h3, -, h4⟩ := slice_of Try.underlying46 (by rw [cellsInt]; omega) h hs
  rw [bytesInt] at h3
  have hex : ∀ i, i < rows.length → ∃ y : Int, rows[i]? = some [.int .i64 y] ∧ -9223372036854775808 ≤ y ∧ y ≤ 9223372036854775807 := by
    intro i hi
    obtain ⟨g, -⟩ := h4 i hi
    obtain ⟨y, e, -, hw⟩ := DataW.trod_int Try.underlying3 g
    refine ⟨y, by rw [List.getElem?_eq_getElem hi, e], ?_⟩
    simp [Lit.wf, IntKind.min, IntKind.max, IntKind.signed, IntKind.bits] at hw
    omega
  obtain ⟨f, hf⟩ := choose_lt hex
  have hfl : rows.flatten = ((List.range rows.length).map f).map (Value.int .i64) := by
    have : rows = (List.range rows.length).map fun i => [.int .i64 (f i)] := by
      apply List.ext_getElem
      · simp
      · intro i g1 g2
        have := (hf i g1).1
        rw [List.getElem?_eq_getElem g1] at this
        simpa using this
    have e : rows.flatten = ((List.range rows.length).map fun i => [Value.int .i64 (f i)]).flatten := congrArg List.flatten this
    rw [e]
    generalize List.range rows.length = l
    induction l with
    | nil => rfl
    | cons x r ih => simp [ih]
  refine ⟨v, (List.range rows.length).map f, rfl, ?_, by simpa using h3, fun y hy => ?_⟩
  · unfold Ints
    rw [← hfl]
    simpa using h2
  · obtain ⟨i, hi, rfl⟩ := List.mem_map.1 hy
    exact (hf i (List.mem_range.1 hi)).2

theorem node_of : ∀ (fuel : Nat) {cs : List Value} {x : DataW H × List MemPlace}, DataW.trod enc Try.prog w base spare held fuel 49 cs = some x → Sized 49 x.1 → ∃ nd a b c, cs = [a, b, c] ∧ NodeIs w nd a b c := by
  intro fuel
  induction fuel using Nat.strongRecOn with
  | _ fuel ih =>
    intro cs x h hs
    obtain ⟨xs, n, rfl, rfl, hl, hlen, hf⟩ := DataW.trod_struct Try.underlying49 h
    rw [cellsNode] at hl
    match cs, hl with
    | [c0, c1, c2], _ =>
      have hxl : xs.length = 3 := by simpa using hlen
      have h0 := hf 0 _ rfl
      have h1 := hf 1 _ rfl
      have h2 := hf 2 _ rfl
      simp only [List.getElem_toArray, List.getElem_cons_zero, List.getElem_cons_succ, cellsInt, cellsInts, cellsNodes] at h0 h1 h2
      rw [List.getElem?_eq_getElem (show 0 < xs.length by omega)] at h0
      rw [List.getElem?_eq_getElem (show 1 < xs.length by omega)] at h1
      rw [List.getElem?_eq_getElem (show 2 < xs.length by omega)] at h2
      have hsz : ∀ (j : Nat) (t : TypeId) (hj : j < xs.length), [3, 46, 47][j]? = some t → Sized t xs[j].1 := by
        intro j t hj ht n hn
        refine hs n ?_
        simp only [DataW.weights, Try.underlying49]
        exact DataW.weights_mem_each (j := j) (t := t) (d := xs[j].1) (by simpa using ht) (by simp [hj]) n hn
      obtain ⟨op, e0, -⟩ := DataW.trod_int Try.underlying3 h0
      obtain ⟨v1, cls, e1, hcls, hcb, -⟩ := ints_of h1 (hsz 1 _ (by omega) rfl)
      obtain ⟨v2, m, rows, D, hm, e2, hrows, hpb, -, hel⟩ := slice_of Try.underlying47 (by rw [cellsNode]; omega) h2 (hsz 2 _ (by omega) rfl)
      simp at e0 e1 e2
      subst e0 e1 e2
      rw [cellsNode] at hrows
      rw [bytesNode] at hpb
      have hex : ∀ i, i < rows.length → ∃ nd : Nd, ∃ a b c, rows[i]? = some [a, b, c] ∧ NodeIs w nd a b c := by
        intro i hi
        obtain ⟨g1, g2⟩ := hel i hi
        obtain ⟨nd, a, b, c, e, hn⟩ := ih m (by omega) g1 g2
        exact ⟨nd, a, b, c, by rw [List.getElem?_eq_getElem hi, e], hn⟩
      have : Inhabited Nd := ⟨.mk 0 [] []⟩
      obtain ⟨f, hf'⟩ := choose_lt hex
      refine ⟨.mk op cls ((List.range rows.length).map f), _, _, _, rfl, ?_⟩
      rw [nodeIs_iff]
      refine ⟨rfl, hcls, hcb, by simpa using hpb, rows, hrows, by simp, fun i hi => ?_⟩
      have hi' : i < rows.length := by simpa using hi
      obtain ⟨a, b, c, g1, g2⟩ := hf' i hi'
      exact ⟨a, b, c, g1, by simpa using g2⟩

theorem sized_arg {ts : List TypeId} {ds : List (DataW H)} (h : (DataW.weightsEach Try.prog ts ds).all (· ≤ reachBytes) = true) (j : Nat) (t : TypeId) (d : DataW H) (ht : ts[j]? = some t) (hd : ds[j]? = some d) : Sized t d := by
  intro n hn
  have := List.all_eq_true.1 h _ (DataW.weights_mem_each ht hd n hn)
  have h2 : decide (n ≤ reachBytes) = true := this
  have h3 : n ≤ reachBytes := of_decide_eq_true h2
  exact h3

theorem ints_open {r : Reach} {b0 : Nat} {v : Value} {d : DataW H} {p : List MemPlace} (hv : Value.okWide Try.prog w r b0 46 v) (h : DataW.Trod enc Try.prog w base spare held 46 v d p) (hs : Sized 46 d) : ∃ xs, Ints w v xs ∧ xs.length * 8 ≤ R ∧ ∀ y ∈ xs, -9223372036854775808 ≤ y ∧ y ≤ 9223372036854775807 := by
  obtain ⟨a0, len0, cap0, rfl⟩ := okWide_slice Try.underlying46 hv
  obtain ⟨fuel, hf⟩ := h
  obtain ⟨v, xs, e, h1, h2⟩ := ints_of hf hs
  simp only [Value.cells, List.cons.injEq, and_true] at e
  subst e
  exact ⟨xs, h1, h2⟩

theorem node_open {r : Reach} {b0 : Nat} {v : Value} {d : DataW H} {p : List MemPlace} (hv : Value.okWide Try.prog w r b0 49 v) (h : DataW.Trod enc Try.prog w base spare held 49 v d p) (hs : Sized 49 d) : ∃ nd a b c, v = .agg #[a, b, c] ∧ NodeIs w nd a b c := by
  obtain ⟨cs, rfl, -⟩ := okWide_struct Try.underlying49 hv
  obtain ⟨fuel, hf⟩ := h
  obtain ⟨nd, a, b, c, e, h1⟩ := node_of fuel hf hs
  refine ⟨nd, a, b, c, ?_, h1⟩
  congr 1
  apply Array.toList_inj.1
  simpa [Value.cells] using e

end
end Go.Proofs.Ytmooflmhbpckjaa

/-
  Expressions that are built; the small case that must work. No condition beyond what each theorem names.
-/
set_option linter.unusedVariables false
set_option linter.unusedSimpArgs false
namespace Go.Proofs.Ytmooflmhbpckjaa
open Go.RowKit

theorem nodes_built {w : World} {g : Nat} {cs : List Value} {T : TypeId} (h : w.heap[g]? = some (.cells cs.toArray T)) (ns : List Nd) (rows : List (List Value)) (hr : rows.flatten = cs) (h2 : rows.length = ns.length) (h4 : ∀ i (h : i < ns.length), ∃ x y z, rows[i]? = some [x, y, z] ∧ NodeIs w ns[i] x y z) :
    Nodes w (.slice (some ⟨g, 0, none⟩) ns.length ns.length) ns := by
  subst hr
  refine Nodes.mk (Raw.of_block h) h2 (fun r hr => ?_) h4
  obtain ⟨i, hi, rfl⟩ := List.getElem_of_mem hr
  obtain ⟨x, y, z, h5, h6⟩ := h4 i (by omega)
  rw [List.getElem?_eq_getElem hi] at h5
  rw [Option.some.inj h5]
  obtain ⟨op, p, l, c1, q, m, d, rfl, rfl, rfl⟩ := h6.form
  exact ⟨_, _, _, _, _, _, _, rfl⟩

theorem node_one {w : World} {x : Nd} {a b c : Value} (hx : NodeIs w x a b c) (op : Int) (T : TypeId) : NodeIs (w.alloc (.cells #[a, b, c] T)) (.mk op [] [x]) (.int .i64 op) (.slice none 0 0) (.slice (some ⟨w.heap.size, 0, none⟩) 1 1) := by
  rw [nodeIs_iff]
  refine ⟨rfl, Ints.nil _, by unfold R; simp, by unfold R; simp, nodes_built (cs := [a, b, c]) (heap_alloc_new _ _) [x] [[a, b, c]] rfl rfl fun i hi => ?_⟩
  obtain rfl : i = 0 := by simpa using hi
  exact ⟨a, b, c, rfl, hx.to (below_alloc1 _ _) (Nat.le_refl _)⟩

theorem node_two {w : World} {x y : Nd} {a b c d e f : Value} (hx : NodeIs w x a b c) (hy : NodeIs w y d e f) (op : Int) (T : TypeId) : NodeIs (w.alloc (.cells #[a, b, c, d, e, f] T)) (.mk op [] [x, y]) (.int .i64 op) (.slice none 0 0) (.slice (some ⟨w.heap.size, 0, none⟩) 2 2) := by
  rw [nodeIs_iff]
  refine ⟨rfl, Ints.nil _, by unfold R; simp, by unfold R; simp, nodes_built (cs := [a, b, c, d, e, f]) (heap_alloc_new _ _) [x, y] [[a, b, c], [d, e, f]] rfl rfl fun i hi => ?_⟩
  have hi' : i = 0 ∨ i = 1 := by simp at hi; omega
  rcases hi' with rfl | rfl
  · exact ⟨a, b, c, rfl, hx.to (below_alloc1 _ _) (Nat.le_refl _)⟩
  · exact ⟨d, e, f, rfl, hy.to (below_alloc1 _ _) (Nat.le_refl _)⟩

theorem node_three {w : World} {x y z : Nd} {a b c d e f g h i' : Value} (hx : NodeIs w x a b c) (hy : NodeIs w y d e f) (hz : NodeIs w z g h i') (op : Int) (T : TypeId) : NodeIs (w.alloc (.cells #[a, b, c, d, e, f, g, h, i'] T)) (.mk op [] [x, y, z]) (.int .i64 op) (.slice none 0 0) (.slice (some ⟨w.heap.size, 0, none⟩) 3 3) := by
  rw [nodeIs_iff]
  refine ⟨rfl, Ints.nil _, by unfold R; simp, by unfold R; simp, nodes_built (cs := [a, b, c, d, e, f, g, h, i']) (heap_alloc_new _ _) [x, y, z] [[a, b, c], [d, e, f], [g, h, i']] rfl rfl fun i hi => ?_⟩
  have hi' : i = 0 ∨ i = 1 ∨ i = 2 := by simp at hi; omega
  rcases hi' with rfl | rfl | rfl
  · exact ⟨a, b, c, rfl, hx.to (below_alloc1 _ _) (Nat.le_refl _)⟩
  · exact ⟨d, e, f, rfl, hy.to (below_alloc1 _ _) (Nat.le_refl _)⟩
  · exact ⟨g, h, i', rfl, hz.to (below_alloc1 _ _) (Nat.le_refl _)⟩

theorem new_ok (x : Nd) (w : World) (a b c : Value) (hx : NodeIs w x a b c) (hr : RightX x) : Calls Try.prog 35 #[.agg #[a, b, c]] w fun e w' => ∃ m, e = .returned (.tuple #[.pointer (some ⟨m, 0, none⟩), .int .i64 0]) ∧ MachR w' m (mach x) ∧ Below w.heap.size w w' := by
  refine (new_any x w a b c hx).mono fun e w' ⟨hb, h⟩ => ?_
  rcases h with ⟨-, m, -, he, hm⟩ | ⟨h, -⟩
  · exact ⟨m, he, hm, hb⟩
  · rw [rightB_iff.2 hr] at h; cases h

theorem new_no (x : Nd) (w : World) (a b c : Value) (hx : NodeIs w x a b c) (hr : rightB x = false) : Calls Try.prog 35 #[.agg #[a, b, c]] w fun e w' => e = .returned (.tuple #[.pointer none, .int .i64 1]) ∧ Below w.heap.size w w' := by
  refine (new_any x w a b c hx).mono fun e w' ⟨hb, h⟩ => ?_
  rcases h with ⟨h, -⟩ | ⟨-, he⟩
  · rw [hr] at h; cases h
  · exact ⟨he, hb⟩

def xS : Nd := .mk 2 [] [.mk 1 [1] [], .mk 4 [] [.mk 1 [2] []]]

theorem rising_one (c : Int) (h0 : 0 ≤ c) (h1 : c < 24) : rising [c] := by
  intro i hi
  obtain rfl : i = 0 := by simpa using hi
  exact ⟨h0, h1, fun h => by omega⟩

theorem xS_right : RightX xS := by
  unfold RightX xS
  refine ⟨?_, by simp [cnt, cntL]⟩
  simp only [Wf, WfL, and_true, true_and]
  refine ⟨by omega, by omega, by simp, by simp, by simp, rising_nil, ⟨by omega, by omega, by simp, by simp, by simp, rising_one 1 (by omega) (by omega)⟩, by omega, by omega, by simp, by simp, by simp, rising_nil, by omega, by omega, by simp, by simp, by simp, rising_one 2 (by omega) (by omega)⟩

theorem bad_right : rightB (.mk 4 [] []) = false := by
  cases h : rightB (.mk 4 [] [])
  · rfl
  · have := (rightB_iff.1 h).1
    unfold Wf at this
    have := this.2.2.2.2.1 (.inl rfl)
    simp at this

theorem xS_iff (row : List Int) (q : Nat) : M row xS 0 q ↔ row[0]? = some 1 ∧ Star (fun a b => b = a + 1 ∧ row[a]? = some 2) 1 q := by
  unfold xS
  rw [M_2]
  simp only [Mseq]
  constructor
  · rintro ⟨c, h1, d, h2, rfl⟩
    obtain ⟨rfl, u, h3, h4⟩ := (M_1 _ _).1 h1
    obtain rfl : u = 1 := by simpa using h4
    refine ⟨h3, ((M_4 _ _).1 h2).2.mono fun a b h => ?_⟩
    obtain ⟨rfl, u, h5, h6⟩ := (M_1 _ _).1 (Malt_one.1 h)
    obtain rfl : u = 2 := by simpa using h6
    exact ⟨rfl, h5⟩
  · rintro ⟨h1, h2⟩
    refine ⟨1, (M_1 _ _).2 ⟨rfl, 1, h1, by simp⟩, q, (M_4 _ _).2 ⟨rfl, h2.mono fun a b h => Malt_one.2 ((M_1 _ _).2 ⟨h.1, 2, h.2, by simp⟩)⟩, rfl⟩

theorem xS_fit : fitB xS [1] = true ∧ fitB xS [1, 2, 2] = true ∧ fitB xS [2] = false ∧ fitB xS [] = false := by
  refine ⟨fitB_iff.2 ((xS_iff _ _).2 ⟨rfl, .refl _⟩), fitB_iff.2 ((xS_iff _ _).2 ⟨rfl, .step (.step (.refl _) ⟨rfl, rfl⟩) ⟨rfl, rfl⟩⟩), ?_, ?_⟩
  · cases h : fitB xS [2]
    · rfl
    · have := ((xS_iff _ _).1 (fitB_iff.1 h)).1
      simp at this
  · cases h : fitB xS []
    · rfl
    · have := ((xS_iff _ _).1 (fitB_iff.1 h)).1
      simp at this

end Go.Proofs.Ytmooflmhbpckjaa

/-
  Reverse: an expression that fits the turned rows. No condition beyond what each theorem names.
-/
set_option linter.unusedVariables false
set_option linter.unusedSimpArgs false
namespace Go.Proofs.Ytmooflmhbpckjaa
open Go.RowKit

mutual
/-- an expression that fits the turned rows -/
def revX : Nd → Nd
  | .mk op cls ps => .mk op cls (if op = 2 then (revL ps).reverse else revL ps)
def revL : List Nd → List Nd
  | [] => []
  | x :: r => revX x :: revL r
end

theorem revL_map : ∀ (l : List Nd), revL l = l.map revX
  | [] => by simp [revL]
  | x :: r => by simp [revL, revL_map r]

theorem revL_length (l : List Nd) : (revL l).length = l.length := by rw [revL_map]; simp

theorem revL_snoc {ps : List Nd} {k : Nat} (hk : k < ps.length) : revL (ps.take (k + 1)) = revL (ps.take k) ++ [revX ps[k]] := by
  rw [List.take_succ_eq_append_getElem hk, revL_map, revL_map, List.map_append]; rfl

theorem Lies.and {F G : Nat → Prop} {v : Value} {n : Nat} (h : Lies F v n) (g : Lies G v n) : Lies (fun k => F k ∧ G k) v n := fun h0 k hk => ⟨h h0 k hk, g h0 k hk⟩

theorem NodeF.lt {F : Nat → Prop} {w : World} : ∀ (x : Nd) {a b c : Value}, NodeF F w x a b c → NodeF (fun k => F k ∧ k < w.heap.size) w x a b c
  | .mk op cls parts, a, b, c, h => by
    rw [nodeF_iff] at *
    obtain ⟨h1, h2, h2', h3, h4, rows, ⟨h5, h5'⟩, h6, h7, h8⟩ := h
    refine ⟨h1, h2, h2'.and (Raw.lies h2 (by simp)), h3, h4, rows, ⟨h5, h5'⟩, h6.and (Raw.lies h5' (fun h => by rw [flatten_length h5, h7]; omega)), h7, fun i hi => ?_⟩
    obtain ⟨x, y, z, h9, h10⟩ := h8 i hi
    exact ⟨x, y, z, h9, NodeF.lt parts[i] h10⟩
  termination_by x => SizeOf.sizeOf x
  decreasing_by exact Nd.part_lt hi

/-- where the parts lie: from a block on, but not in these -/
def FE (b0 O R : Nat) (w : World) (pv : Value) (k : Nat) : Prop := b0 ≤ k ∧ k < w.heap.size ∧ pv.ownBlock ≠ some k ∧ k ≠ O ∧ k ≠ R

/-- slices.Reverse of a list of one's own: only its own row is turned -/
theorem rev_own2 (w : World) (base n : Nat) (v : Value) (rows : List (List Value)) (hn : n ≤ 9000000000000000000) (hl : rows.length = n) (hr : ∀ r ∈ rows, ndRow r) (h : w.ownsRow base 49 3 v n rows.flatten) :
    Calls Try.prog 34 #[v] w fun e w' => Raw w' v n rows.reverse.flatten ∧ Fr (fun k => v.ownBlock = some k) w w' ∧ ∃ u, e = .returned u := by
  have h' := h
  obtain ⟨h1, h2⟩ := h'
  rcases h2 with ⟨rfl, rfl⟩ | ⟨g, cap, cur, rfl, hb, hg, hnc, -⟩
  · have : rows = [] := by simpa using hl
    subst this
    clear h h1 hl hr
    go_enter Try.func34, Try.ntmps34
    go_wp2_with fail
    go_loopw [2, 3] (fun u v wr => u = .int .i64 0 ∧ v = .int .i64 (-1) ∧ wr = w) (fun _ v _ => 0)
    case atStart => exact ⟨rfl, rfl, rfl⟩
    case round =>
      obtain ⟨rfl, rfl, rfl⟩ := hrel
      go_wp2
      go_end0
      exact ⟨⟨none, 0, rfl, Nat.le_refl _, fun h => by simp at h⟩, Fr.refl _ _, _, rfl⟩
  · refine (rev_any w g n cap rows hl hn (Array.getElem?_eq_some_iff.1 hg).1 (NRow.of_own h hr)).mono fun e w' ⟨k1, k2, k3⟩ => ⟨k1.raw (by simpa using hl) hnc, k2.mono (fun k _ hk => by rw [hk]; rfl), k3⟩

theorem OwnL.rev {F : Nat → Prop} {w : World} {base : Nat} {v : Value} {ns : List Nd} (h : OwnL (nodeE F w) 49 3 base w v ns) : ∃ rows : List (List Value), w.ownsRow base 49 3 v ns.length rows.flatten ∧ rows.length = ns.length ∧ (∀ r ∈ rows, ndRow r) ∧ ∀ i (h : i < ns.length), ∃ x y z, rows[i]? = some [x, y, z] ∧ NodeF F w ns[i] x y z := by
  obtain ⟨rows, h1, h2, h3, h4⟩ := h
  refine ⟨rows, h1, h2, fun r hr => ?_, fun i hi => ?_⟩
  · obtain ⟨i, hi, rfl⟩ := List.getElem_of_mem hr
    obtain ⟨row, g1, a, b, c, rfl, g2⟩ := h4 i (by omega)
    obtain ⟨op, p, l, c1, q, m, d, rfl, rfl, rfl⟩ := (g2.is).form
    rw [List.getElem?_eq_getElem hi] at g1
    exact ⟨_, _, _, _, _, _, _, Option.some.inj g1⟩
  · obtain ⟨row, g1, a, b, c, rfl, g2⟩ := h4 i hi
    exact ⟨a, b, c, g1, g2⟩

def RevAt (x : Nd) : Prop := ∀ (w : World) (a b c : Value), NodeIs w x a b c →
    Calls Try.prog 23 #[.agg #[a, b, c]] w fun e w' => ∃ a' b' c', e = .returned (.agg #[a', b', c']) ∧ NodeF (fun k => w.heap.size ≤ k) w' (revX x) a' b' c' ∧ Below w.heap.size w w'

/-- what stands behind the first part: the expression, the place of the answer, and the answer so far -/
def OutAt (w : World) (B R : Nat) (xr : Array Value) (op : Int) (cls : List Int) (o : Value) (W : World) : Prop :=
  ∃ (O : Nat) (cv : Value), o = .pointer (some ⟨O, 0, none⟩) ∧ R < O ∧ W.heap[B]? = some (.cells xr 49) ∧ W.heap[R]? = some (.cells #[.int .i64 0, .slice none 0 0, .slice none 0 0] 49) ∧ W.heap[O]? = some (.cells #[.int .i64 op, cv, .slice none 0 0] 49) ∧
    OwnL intE 3 1 w.heap.size W cv cls ∧ Below w.heap.size w W
set_option maxRecDepth 100000 in
set_option maxHeartbeats 8000000 in
theorem rev_step (op : Int) (cls : List Int) (ps : List Nd) (ih : ∀ x ∈ ps, RevAt x) : RevAt (.mk op cls ps) := by
  intro w a b c hx
  have IH := Lib.hid ih
  rw [nodeIs_iff] at hx
  obtain ⟨rfl, hcl, hcb, hpb, hps⟩ := hx
  obtain ⟨pc, capc, rfl, hcc, -⟩ := hcl.get
  obtain ⟨pp, capp, rfl, hcp, hxp⟩ := hps.get
  have HCL := Lib.hid hcl
  have HPB := Lib.hid hpb
  have HCB := Lib.hid hcb
  unfold R at hcb hpb
  have HXP := Lib.hid hxp
  clear hcl hps hxp ih
  go_enter Try.func23, Try.ntmps23
  go_upto_region 1 with fail
  refine abs_wp fun W hW => ?_
  obtain ⟨B, hB⟩ : ∃ B, B = w.heap.size := ⟨_, rfl⟩
  have hbx : W.heap[B]? = some (.cells #[.int .i64 op, .slice pc cls.length capc, .slice pp ps.length capp] 49) := by rw [hW, hB, heap_alloc_old _ _ (by simp)]; exact heap_alloc_new _ _
  have hbr : W.heap[B + 1]? = some (.cells #[.int .i64 0, .slice none 0 0, .slice none 0 0] 49) := by rw [hW, hB]; exact heap_alloc2_new _ _ _
  have hbW : Below w.heap.size w W := by rw [hW]; exact (below_alloc1 w _).alloc (by simp) _
  rw [← hB]
  have HB := Lib.hid hB
  have HBX := Lib.hid hbx
  have HBR := Lib.hid hbr
  have HBW := Lib.hid hbW
  clear hW hbx hbr hbW hB
  go_cut [3] (fun o W1 => OutAt w B (B + 1) #[.int .i64 op, .slice pc cls.length capc, .slice pp ps.length capp] op cls o W1)
  case first =>
    have HSS := Lib.hid (show ∀ W', Below W.heap.size W W' → W'.heap[B]? = some (.cells #[.int .i64 op, .slice pc cls.length capc, .slice pp ps.length capp] 49) from fun W' h => (h.block B (at_lt HBX.out)).trans HBX.out)
    refine wp_region_fin 7 (fun W' => W'.heap[B]? = some (.cells #[.int .i64 op, .slice pc cls.length capc, .slice pp ps.length capp] 49)) (.reads [0, 1, 2, 3] (.two 4 (.reads [5] (.one 6 (.last 7))) 6 (.one 4 (.reads [5] (.last 7))))) 34 (by kernel_rfl) (by kernel_rfl) rfl (fun _ _ _ _ _ h => h) (HSS.out _ (Below.refl _ _).drew) ?_
    apply plan_reads
    · intro W' hW'
      obtain ⟨s0, s1, s2⟩ := cells3 hW'
      repeat (refine wpRead_step (fun K hK => ?_); go_simp; refine hK _ ?_; clear hK K)
      exact wpRead_nil rfl
    refine abs_plan fun W0 hW0 => ?_
    have HB0 := Lib.hid (show Below W.heap.size W W0 by rw [hW0]; exact (Below.refl _ _).drew)
    clear hW0
    have hcle := HCB.out
    unfold R at hcle
    refine plan_two rfl rfl ?_ ?_
    · have HC := Lib.hid (clone_ints W0 (.slice pc cls.length capc) cls.length (cls.map (Value.int .i64)) (by omega) (by simp) (fun u hu => by obtain ⟨x, -, rfl⟩ := List.mem_map.1 hu; rfl) ((HCL.out.to HBW.out (Nat.le_refl _)).to HB0.out (Nat.le_refl _)))
      go_wp2_with fail
      refine HC.out.mono ?_
      rintro e W1 ⟨v1, rfl, hown, hb1⟩
      have hown' := ownL_ints hown
      obtain ⟨p1, c1, rfl⟩ := hown'.form
      have HOW := Lib.hid hown'
      have HB1 := Lib.hid (HB0.out.trans (hb1.mono HB0.out.size))
      have HSZ := Lib.hid hb1.size
      clear hown hown' hb1 HC
      go_wp2_with fail
      refine Then.mk (HSS.out _ HB1.out) ?_
      apply plan_reads
      · intro W' hW'
        repeat (refine wpRead_step (fun K hK => ?_); go_simp; refine hK _ ?_; clear hK K)
        exact wpRead_nil rfl
      refine plan_one rfl ?_
      go_wp2_with fail
      have ha := below_alloc1 W1 (.cells #[.int .i64 0, .slice none 0 0, .slice none 0 0] 49)
      refine Then.mk (HSS.out _ (HB1.out.trans (ha.mono HB1.out.size))) ?_
      refine plan_last rfl ?_
      refine wpList_store_obj rfl (.tmp 3) (.tmp 11) 49 rfl W1.heap.size rfl [.int .i64 op, .slice p1 cls.length c1, .slice none 0 0] rfl _ _ (heap_alloc_new _ _) (by kernel_rfl) rfl (by simp [Value.oneCell']) ?_
      intro w2 hb2 hf2
      have HREL := Lib.hid (show OutAt w B (B + 1) #[.int .i64 op, .slice pc cls.length capc, .slice pp ps.length capp] op cls (.pointer (some ⟨W1.heap.size, 0, none⟩)) w2 from by
        have h1 : Below W.heap.size W w2 := (HB1.out.trans (ha.mono HB1.out.size)).trans (hf2.below (by simp; have := HB1.out.size; omega) (fun k hk => by have hk : k = W1.heap.size := hk; have := HB1.out.size; omega))
        refine ⟨_, .slice p1 cls.length c1, rfl, by have := at_lt HBR.out; have := HB1.out.size; omega, (h1.block _ (at_lt HBX.out)).trans HBX.out, (h1.block _ (at_lt HBR.out)).trans HBR.out, hb2, ?_, HBW.out.trans (h1.mono HBW.out.size)⟩
        have h2 := HOW.out.based (show w.heap.size ≤ W0.heap.size from Nat.le_trans HBW.out.size HB0.out.size)
        exact (h2.below ha (Nat.le_refl _)).fr hf2 (fun k hk he => by have he : k = W1.heap.size := he; have := (h2.lt k hk).2; omega))
      clear hb2 hf2 ha
      go_wp2_with fail
      go_meet
      case rel => exact HREL.out
    · have ha := below_alloc1 W0 (.cells #[.int .i64 0, .slice none 0 0, .slice none 0 0] 49)
      go_wp2_with fail
      refine Then.mk (HSS.out _ (HB0.out.trans (ha.mono HB0.out.size))) ?_
      refine abs_plan fun W1 hW1 => ?_
      have HO := Lib.hid (show W1.heap[W0.heap.size]? = some (.cells #[.int .i64 0, .slice none 0 0, .slice none 0 0] 49) by rw [hW1]; exact heap_alloc_new _ _)
      have HB1 := Lib.hid (show Below W.heap.size W W1 by rw [hW1]; exact HB0.out.trans (ha.mono HB0.out.size))
      have HSZ1 := Lib.hid (show W0.heap.size < W1.heap.size by rw [hW1]; simp)
      clear hW1 ha
      refine plan_one rfl ?_
      have HC := Lib.hid (clone_ints W1 (.slice pc cls.length capc) cls.length (cls.map (Value.int .i64)) (by omega) (by simp) (fun u hu => by obtain ⟨x, -, rfl⟩ := List.mem_map.1 hu; rfl) ((HCL.out.to HBW.out (Nat.le_refl _)).to HB1.out (Nat.le_refl _)))
      go_wp2_with fail
      refine HC.out.mono ?_
      rintro e W2 ⟨v1, rfl, hown, hb1⟩
      have hown' := ownL_ints hown
      obtain ⟨p1, c1, rfl⟩ := hown'.form
      have HOW := Lib.hid hown'
      have HB2 := Lib.hid (HB1.out.trans (hb1.mono HB1.out.size))
      have HO2 := Lib.hid ((hb1.block _ (at_lt HO.out)).trans HO.out)
      clear hown hown' hb1 HC
      go_wp2_with fail
      refine Then.mk (HSS.out _ HB2.out) ?_
      apply plan_reads
      · intro W' hW'
        repeat (refine wpRead_step (fun K hK => ?_); go_simp; refine hK _ ?_; clear hK K)
        exact wpRead_nil rfl
      refine plan_last rfl ?_
      refine wpList_store_obj rfl (.tmp 3) (.tmp 11) 49 rfl W0.heap.size rfl [.int .i64 op, .slice p1 cls.length c1, .slice none 0 0] rfl _ _ HO2.out (by kernel_rfl) rfl (by simp [Value.oneCell']) ?_
      intro w2 hb2 hf2
      have HREL := Lib.hid (show OutAt w B (B + 1) #[.int .i64 op, .slice pc cls.length capc, .slice pp ps.length capp] op cls (.pointer (some ⟨W0.heap.size, 0, none⟩)) w2 from by
        have h1 : Below W.heap.size W w2 := HB2.out.trans (hf2.below HB2.out.size (fun k hk => by have hk : k = W0.heap.size := hk; have := HB0.out.size; omega))
        refine ⟨_, .slice p1 cls.length c1, rfl, by have := at_lt HBR.out; have := HB0.out.size; omega, (h1.block _ (at_lt HBX.out)).trans HBX.out, (h1.block _ (at_lt HBR.out)).trans HBR.out, hb2, ?_, HBW.out.trans (h1.mono HBW.out.size)⟩
        have h2 := HOW.out.based (show w.heap.size ≤ W1.heap.size from Nat.le_trans HBW.out.size HB1.out.size)
        exact h2.fr hf2 (fun k hk he => by have he : k = W0.heap.size := he; have := (HOW.out.lt k hk).1; have := HSZ1.out; omega))
      clear hb2 hf2
      go_wp2_with fail
      go_meet
      case rel => exact HREL.out
  case rest =>
    obtain ⟨O, cv, rfl, hRO, hbx, hbr, hbo, hcv, hb⟩ := hcut
    have HBXW := Lib.hid hbx
    have HBRW := Lib.hid hbr
    have HBOW := Lib.hid hbo
    have HCVW := Lib.hid hcv
    have HBWW := Lib.hid hb
    obtain ⟨pq0, cq0, hcv0⟩ := hcv.form
    subst hcv0
    obtain ⟨x0, x1, x2⟩ := cells3 hbx
    clear hbx hbr hbo hcv hb
    go_wp2_with fail
    go_loopw [15] (fun i wr => ∃ (k : Nat) (pv : Value), i = .int .i64 k ∧ k ≤ ps.length ∧ wr.heap[B]? = some (.cells #[.int .i64 op, .slice pc cls.length capc, .slice pp ps.length capp] 49) ∧ wr.heap[B + 1]? = some (.cells #[.int .i64 0, .slice none 0 0, .slice none 0 0] 49) ∧ wr.heap[O]? = some (.cells #[.int .i64 op, .slice pq0 cls.length cq0, pv] 49) ∧
      OwnL (nodeE (FE w.heap.size O (B + 1) wr pv) wr) 49 3 w.heap.size wr pv (revL (ps.take k)) ∧ (∀ q, pv.ownBlock = some q → q ≠ O ∧ q ≠ B + 1 ∧ q ≠ B) ∧ OwnL intE 3 1 w.heap.size wr (.slice pq0 cls.length cq0) cls ∧ Below w.heap.size w wr) (fun i _ => ps.length - (intOf i).toNat)
    case atStart => exact ⟨0, .slice none 0 0, rfl, by omega, HBXW.out, HBRW.out, HBOW.out, OwnL.nil _, (fun q hq => by cases hq), HCVW.out, HBWW.out⟩
    case round =>
      obtain ⟨k, pv, rfl, h1, hbx, hbr, hbo, hown, hpne, hcv, hb⟩ := hrel
      have HBXR := Lib.hid hbx
      have HBRR := Lib.hid hbr
      have HBOR := Lib.hid hbo
      have HOWN := Lib.hid hown
      have HPNE := Lib.hid hpne
      have HCVR := Lib.hid hcv
      have HBR' := Lib.hid hb
      obtain ⟨pq, cq, rfl⟩ := hown.form
      have hll : (revL (ps.take k)).length = k := by rw [revL_length, List.length_take]; omega
      rw [hll] at HBOR HOWN HPNE
      have HLL := Lib.hid hll
      have hbsz := hb.size
      clear hbx hbr hbo hown hpne hcv hll
      by_cases hk : k < ps.length
      · obtain ⟨bb, off, rfl, hbl, hxx⟩ := HXP.out (by omega)
        obtain ⟨x, y, z, c0, c1, c2, hnode⟩ := hxx k hk
        have r0 := cell_below hb hbl c0
        have r1 := cell_below hb hbl c1
        have r2 := cell_below hb hbl c2
        obtain ⟨o1, p1, l1, d1, q1, m1, e1, rfl, rfl, rfl⟩ := hnode.form
        have HNODE := Lib.hid (hnode.to hb (Nat.le_refl _))
        have HIH := Lib.hid (IH.out ps[k] (List.getElem_mem hk))
        have HSTEP := Lib.hid (revL_snoc hk)
        have hkk : (k : Int) < ps.length := by omega
        have hk0 : (0 : Int) ≤ k := by omega
        clear hxx c0 c1 c2 hnode hb
        go_upto_region 5 with fail
        refine abs_wp fun Wp hWp => ?_
        obtain ⟨P, hP⟩ : ∃ P, P = wr.heap.size := ⟨_, rfl⟩
        have HPP := Lib.hid (show Wp.heap[P]? = some (.cells #[.int .i64 o1, .slice p1 l1 d1, .slice q1 m1 e1] 49) by rw [hWp, hP]; exact heap_alloc_new _ _)
        have HBP := Lib.hid (show Below wr.heap.size wr Wp by rw [hWp]; exact below_alloc1 _ _)
        have HPZ := Lib.hid hP
        rw [← hP]
        clear hWp hP r0 r1 r2
        have HSS := Lib.hid (show ∀ W', Below Wp.heap.size Wp W' → (W'.heap[O]? = some (.cells #[.int .i64 op, .slice pq0 cls.length cq0, .slice pq k cq] 49) ∧ W'.heap[P]? = some (.cells #[.int .i64 o1, .slice p1 l1 d1, .slice q1 m1 e1] 49)) from fun W' h =>
          ⟨(h.block O (Nat.lt_of_lt_of_le (at_lt HBOR.out) HBP.out.size)).trans ((HBP.out.block O (at_lt HBOR.out)).trans HBOR.out), (h.block P (at_lt HPP.out)).trans HPP.out⟩)
        refine wp_region_fin 7 (fun W' => W'.heap[O]? = some (.cells #[.int .i64 op, .slice pq0 cls.length cq0, .slice pq k cq] 49) ∧ W'.heap[P]? = some (.cells #[.int .i64 o1, .slice p1 l1 d1, .slice q1 m1 e1] 49)) (.reads [0, 1, 2] (.one 3 (.one 4 (.one 5 (.one 6 (.last 7)))))) 34 (by kernel_rfl) (by kernel_rfl) rfl (fun _ _ _ _ _ h => h) (HSS.out _ (Below.refl _ _).drew) ?_
        apply plan_reads
        · intro W' hW'
          obtain ⟨s0, s1, s2⟩ := cells3 hW'.1
          obtain ⟨t0, t1, t2⟩ := cells3 hW'.2
          repeat (refine wpRead_step (fun K hK => ?_); go_simp; refine hK _ ?_; clear hK K)
          exact wpRead_nil rfl
        refine abs_plan fun W0 hW0 => ?_
        have HB0 := Lib.hid (show Below Wp.heap.size Wp W0 by rw [hW0]; exact (Below.refl _ _).drew)
        clear hW0
        refine plan_one rfl ?_
        have HC := Lib.hid (HIH.out W0 _ _ _ ((HNODE.out.to HBP.out (Nat.le_refl _)).to HB0.out (Nat.le_refl _)))
        go_wp2_with fail
        refine HC.out.mono ?_
        rintro e W1 ⟨a', b', c', rfl, hnt, hb1⟩
        have HSW := Lib.hid (show wr.heap.size < W0.heap.size by have := at_lt HPP.out; have := HPZ.out; have := HB0.out.size; omega)
        have HB1 := Lib.hid (HB0.out.trans (hb1.mono HB0.out.size))
        have HNT := Lib.hid hnt.lt
        have HND := Lib.hid (nodeE.cells (F := fun k => W0.heap.size ≤ k) ⟨a', b', c', rfl, hnt⟩)
        have HB01 := Lib.hid hb1.size
        clear hnt hb1 HC
        go_wp2_with fail
        refine Then.mk (HSS.out _ HB1.out) ?_
        refine plan_one rfl ?_
        have ha := below_alloc1 W1 (.cells #[a', b', c'] 49)
        go_wp2_with fail
        refine Then.mk (HSS.out _ (HB1.out.trans (ha.mono HB1.out.size))) ?_
        refine abs_plan fun W2 hW2 => ?_
        have HBN := Lib.hid (show Below W1.heap.size W1 W2 by rw [hW2]; exact ha)
        have HSZ2 := Lib.hid (show W1.heap.size < W2.heap.size by rw [hW2]; simp)
        have HB2 := Lib.hid (HB1.out.trans (HBN.out.mono HB1.out.size))
        have HBR2 := Lib.hid (show Below wr.heap.size wr W2 from HBP.out.trans (HB2.out.mono HBP.out.size))
        have HG := Lib.hid (show ∀ q, (W0.heap.size ≤ q ∧ q < W1.heap.size) → (w.heap.size ≤ q ∧ q < W1.heap.size ∧ (Value.slice pq k cq).ownBlock ≠ some q ∧ q ≠ O ∧ q ≠ B + 1) from fun q hq => by
          have h2 := HSW.out
          have h3 := at_lt HBOR.out
          have h4 := at_lt HBRR.out
          exact ⟨by omega, hq.2, (fun he => by have h3 := (HOWN.out.lt q he).2; omega), by omega, by omega⟩)
        have HE2 := Lib.hid (show nodeE (fun q => w.heap.size ≤ q ∧ q < W1.heap.size ∧ (Value.slice pq k cq).ownBlock ≠ some q ∧ q ≠ O ∧ q ≠ B + 1) W2 (revX ps[k]) [a', b', c'] from ⟨a', b', c', rfl, (NodeF.mono HG.out _ HNT.out).below HBN.out (Nat.le_refl _)⟩)
        have HNEW := Lib.hid (show ReadL (nodeE (fun q => w.heap.size ≤ q ∧ q < W1.heap.size ∧ (Value.slice pq k cq).ownBlock ≠ some q ∧ q ≠ O ∧ q ≠ B + 1) W2) 3 W2 (.slice (some ⟨W1.heap.size, 0, none⟩) 1 1) [revX ps[k]] by
          have h := HE2.out
          rw [hW2] at h ⊢
          exact ReadL.one W1 _ _ _ HND.out h)
        have HOLD := Lib.hid (show OwnL (nodeE (fun q => w.heap.size ≤ q ∧ q < W1.heap.size ∧ (Value.slice pq k cq).ownBlock ≠ some q ∧ q ≠ O ∧ q ≠ B + 1) W2) 49 3 w.heap.size W2 (.slice pq k cq) (revL (ps.take k)) from (HOWN.out.below HBR2.out (Nat.le_refl _)).mono (fun x r hx => by
          obtain ⟨u0, u1, u2, rfl, hu⟩ := hx
          exact ⟨u0, u1, u2, rfl, NodeF.mono (fun q hq => by
            have h0 := HB01.out
            have h2 := HSW.out
            obtain ⟨g1, g2, g3, g4, g5⟩ := hq
            exact ⟨g1, by omega, g3, g4, g5⟩) _ (hu.below HBR2.out (Nat.le_refl _))⟩))
        have HS2 := Lib.hid (HSS.out _ HB2.out)
        clear hW2 ha
        refine plan_one rfl ?_
        refine wpList_append_nodes rfl (.tmp 20) (.tmp 23) rfl (.slice pq k cq) (revL (ps.take k)) rfl HOLD.out (.slice (some ⟨W1.heap.size, 0, none⟩) 1 1) [revX ps[k]] rfl HNEW.out (by have h2 := HPB.out; have h3 := HLL.out; rw [h3]; simp; omega) (Nat.le_trans hbsz HBR2.out.size) ?_
        intro p4 c4 w4 hown4 hg4 hlie4
        have hl4 : (revL (ps.take k)).length + [revX ps[k]].length = k + 1 := by rw [HLL.out]; rfl
        rw [hl4] at hown4 hlie4 ⊢
        have HF4 := Lib.hid (Fr.grown (F := fun q => (Value.slice pq k cq).ownBlock = some q) hg4 (fun q h => h))
        have HS4 := Lib.hid (show W2.heap.size ≤ w4.heap.size from hg4.size)
        have HPN4 := Lib.hid (show ∀ q, (Value.slice p4 (k + 1) c4).ownBlock = some q → q ≠ O ∧ q ≠ B + 1 ∧ q ≠ B from fun q hq => by
          rcases hlie4 with h7 | h7
          · exact HPNE.out q (h7 ▸ hq)
          · rw [hq] at h7
            injection h7 with h7
            have h2 := at_lt HS2.out.1
            have h3 := at_lt HBXR.out
            have h4 := at_lt HBRR.out
            have h5 := HBR2.out.size
            omega)
        have HOW4 := Lib.hid (show OwnL (nodeE (FE w.heap.size O (B + 1) w4 (.slice p4 (k + 1) c4)) w4) 49 3 w.heap.size w4 (.slice p4 (k + 1) c4) (revL (ps.take (k + 1))) by
          rw [HSTEP.out]
          refine hown4.mono fun x r hx => ?_
          obtain ⟨u0, u1, u2, rfl, hu⟩ := hx
          refine ⟨u0, u1, u2, rfl, NodeF.mono (fun q hq => ?_) _ (hu.fr HF4.out (fun q hq he => hq.2.2.1 he))⟩
          obtain ⟨g1, g2, g3, g4, g5⟩ := hq
          have h5 := HSZ2.out
          have h6 := HS4.out
          refine ⟨g1, by omega, fun he => ?_, g4, g5⟩
          rcases hlie4 with h7 | h7
          · exact g3 (h7 ▸ he)
          · rw [he] at h7; injection h7 with h7; omega)
        have keep4 : ∀ {q : Nat} {o : Obj}, q ≠ O → wr.heap[q]? = some o → (Value.slice pq k cq).ownBlock ≠ some q → w4.heap[q]? = some o := fun {q o} _ hq hn =>
          (HF4.out.block q (Nat.lt_of_lt_of_le (at_lt hq) HBR2.out.size) hn).trans ((HBR2.out.block q (at_lt hq)).trans hq)
        have HBO4 := Lib.hid ((HF4.out.block O (at_lt HS2.out.1) (fun he => (HPNE.out O he).1 rfl)).trans HS2.out.1)
        have HP4 := Lib.hid ((HF4.out.block P (at_lt HS2.out.2) (fun he => by have h1 := (HOWN.out.lt P he).2; have := HPZ.out; omega)).trans HS2.out.2)
        have HBX4 := Lib.hid ((HF4.out.block B (Nat.lt_of_lt_of_le (at_lt HBXR.out) HBR2.out.size) (fun he => (HPNE.out B he).2.2 rfl)).trans ((HBR2.out.block B (at_lt HBXR.out)).trans HBXR.out))
        have HBR4 := Lib.hid ((HF4.out.block (B + 1) (Nat.lt_of_lt_of_le (at_lt HBRR.out) HBR2.out.size) (fun he => (HPNE.out _ he).2.1 rfl)).trans ((HBR2.out.block (B + 1) (at_lt HBRR.out)).trans HBRR.out))
        have HCV4 := Lib.hid ((HCVR.out.below HBR2.out (Nat.le_refl _)).fr HF4.out (fun q hq he => (HCVR.out.apart HOWN.out (by decide)) q hq he))
        have HBB4 := Lib.hid (show Below w.heap.size wr w4 from (HBR2.out.mono hbsz).trans (HF4.out.below (Nat.le_trans hbsz HBR2.out.size) (fun q hq => (HOWN.out.lt q hq).1)))
        have f2 := fz_at HBO4.out 2
        have y2 := (cells3 HBO4.out).2.2
        clear hown4 hg4 hlie4 hl4 keep4
        go_wp2_with fail
        refine Then.mk ⟨HBO4.out, HP4.out⟩ ?_
        refine plan_one rfl ?_
        go_wp2_with fail
        refine Then.mk ⟨HBO4.out, HP4.out⟩ ?_
        refine plan_last rfl ?_
        go_wp2_with fail
        have HFR := Lib.hid (Fr.setCell (F := fun q => q = O) w4 (p := ⟨O, 2, none⟩) rfl (.slice p4 (k + 1) c4))
        have HBO5 := Lib.hid (blk_set HBO4.out 2 (.slice p4 (k + 1) c4))
        have HNB := Lib.hid (show B ≠ O ∧ B + 1 ≠ O by omega)
        clear y2 f2
        go_roundw
        case rel =>
          refine ⟨k + 1, .slice p4 (k + 1) c4, by go_num, by omega, (HFR.out.block B (at_lt HBX4.out) HNB.out.1).trans HBX4.out, (HFR.out.block (B + 1) (at_lt HBR4.out) HNB.out.2).trans HBR4.out, HBO5.out, ?_, HPN4.out, HCV4.out.fr HFR.out (fun q hq he => HCV4.out.notAt HBO4.out (by decide) (by rw [hq]; exact congrArg some he)), ?_⟩
          · refine (HOW4.out.fr HFR.out (fun q hq he => (HPN4.out q hq).1 he)).mono fun x r hx => ?_
            obtain ⟨u0, u1, u2, rfl, hu⟩ := hx
            refine ⟨u0, u1, u2, rfl, NodeF.mono (fun q hq => ?_) _ (hu.fr HFR.out (fun q hq he => hq.2.2.2.1 he))⟩
            obtain ⟨g1, g2, g3, g4, g5⟩ := hq
            exact ⟨g1, Nat.lt_of_lt_of_le g2 HFR.out.size, g3, g4, g5⟩
          · exact (HBR'.out.trans HBB4.out).trans (HFR.out.below (Nat.le_trans HBR'.out.size HBB4.out.size) (fun q hq => by have hq : q = O := hq; have := HB.out; omega))
        case measure => simp [intOf]; omega
      · have hkk : ¬ (k : Int) < ps.length := by omega
        obtain rfl : k = ps.length := by omega
        have HTK := Lib.hid (show ps.take ps.length = ps from List.take_length)
        rw [HTK.out] at HOWN
        have HSTAY := Lib.hid (show ∀ W', Fr (fun q => (Value.slice pq ps.length cq).ownBlock = some q) wr W' → (W'.heap[O]? = some (.cells #[.int .i64 op, .slice pq0 cls.length cq0, .slice pq ps.length cq] 49) ∧ W'.heap[B + 1]? = some (.cells #[.int .i64 0, .slice none 0 0, .slice none 0 0] 49) ∧ OwnL intE 3 1 w.heap.size W' (.slice pq0 cls.length cq0) cls ∧ Below w.heap.size w W') from fun W' hf =>
          ⟨(hf.block O (at_lt HBOR.out) (fun he => (HPNE.out O he).1 rfl)).trans HBOR.out, (hf.block _ (at_lt HBRR.out) (fun he => (HPNE.out _ he).2.1 rfl)).trans HBRR.out, HCVR.out.fr hf (fun q hq he => (HCVR.out.apart HOWN.out (by decide)) q hq he),
            HBR'.out.trans (hf.below hbsz (fun q hq => (HOWN.out.lt q hq).1))⟩)
        obtain ⟨x0, x1, x2⟩ := cells3 HBXR.out
        obtain ⟨z0, z1, z2⟩ := cells3 HBOR.out
        have HFIN := Lib.hid (show ∀ (W5 : World) (ns : List Nd), ns.length = ps.length → NodesF (fun q => w.heap.size ≤ q) W5 (.slice pq ps.length cq) ns → Ints W5 (.slice pq0 cls.length cq0) cls → NodeF (fun q => w.heap.size ≤ q) W5 (.mk op cls ns) (.int .i64 op) (.slice pq0 cls.length cq0) (.slice pq ps.length cq) from fun W5 ns hl h1 h2 => by
          rw [nodeF_iff]
          exact ⟨rfl, h2, fun _ q hq => (HCVR.out.lt q hq).1, HCB.out, by have := HPB.out; omega, h1⟩)
        obtain ⟨rows, g1, g2, g3, g4⟩ := OwnL.rev HOWN.out
        have hrl : (revL ps).length = ps.length := revL_length ps
        have HLI := Lib.hid (show ∀ n, Lies (fun q => w.heap.size ≤ q) (.slice pq ps.length cq) n from fun n _ q hq => (HOWN.out.lt q hq).1)
        by_cases h2 : op = 2
        · subst h2
          have HG4 := Lib.hid g4
          have HG2 := Lib.hid g2
          have HG3 := Lib.hid g3
          have HRV := Lib.hid (rev_own2 wr w.heap.size ps.length _ rows (by omega) (by omega) g3 (by rw [hrl] at g1; exact g1))
          have HRL := Lib.hid hrl
          clear g1 g2 g3 g4 hrl hb
          go_wp2_with fail
          refine HRV.out.mono ?_
          rintro e w4 ⟨hraw, hf4, u, rfl⟩
          have HRAW := Lib.hid hraw
          have HF4 := Lib.hid hf4
          have HST := Lib.hid (HSTAY.out w4 hf4)
          clear hraw hf4 z0 z1 z2 x0 x1 x2
          obtain ⟨z0, z1, z2⟩ := cells3 HST.out.1
          go_wp2_with (refine wpList_store_obj rfl (.tmp 2) (.tmp 33) 49 rfl (B + 1) rfl [.int .i64 2, .slice pq0 cls.length cq0, .slice pq ps.length cq] rfl _ _ HST.out.2.1 (by kernel_rfl) rfl (by simp [Value.oneCell']) ?_; intro w5 hb5 hf5)
          obtain ⟨s0, s1, s2⟩ := cells3 hb5
          have hbe : Below w.heap.size w w5 := HST.out.2.2.2.trans (hf5.below HST.out.2.2.2.size (fun q hq => by have hq : q = B + 1 := hq; have := HB.out; omega))
          refine bodyPost_ret (v := .agg #[.int .i64 2, .slice pq0 cls.length cq0, .slice pq ps.length cq]) (by simp [results, Try.results23, go_sem, s0, s1, s2]) rfl ⟨_, _, _, rfl, ?_, hbe⟩
          have hne : ∀ q, FE w.heap.size O (B + 1) wr (Value.slice pq ps.length cq) q → w.heap.size ≤ q := fun q hq => hq.1
          have e : revX (.mk 2 cls ps) = .mk 2 cls (revL ps).reverse := by rw [revX, if_pos rfl]
          rw [e]
          refine HFIN.out w5 _ (by rw [List.length_reverse, HRL.out]) ?_ ((HST.out.2.2.1.fr hf5 (fun q hq he => HST.out.2.2.1.notAt HST.out.2.1 (by decide) (by rw [hq]; exact congrArg some he))).read.ints)
          have hlen : (revL ps).reverse.length = ps.length := by rw [List.length_reverse, HRL.out]
          refine ⟨rows.reverse, ⟨fun r hr => ?_, ?_⟩, HLI.out _, by rw [List.length_reverse, List.length_reverse, HG2.out], fun i hi => ?_⟩
          · obtain ⟨a0, a1, a2, a3, a4, a5, a6, rfl⟩ := HG3.out r (List.mem_reverse.1 hr)
            rfl
          · have h := HRAW.out
            rw [List.length_reverse, HG2.out, HRL.out]
            exact Raw.fr hf5 h (fun _ q hq he => (HPNE.out q hq).2.1 he)
          · rw [List.length_reverse] at hi
            have hi2 : (revL ps).length - 1 - i < (revL ps).length := by omega
            obtain ⟨a, b, c, k1, k2⟩ := HG4.out _ hi2
            refine ⟨a, b, c, ?_, ?_⟩
            · rw [List.getElem?_reverse (by rw [HG2.out]; exact hi), HG2.out]; exact k1
            · rw [List.getElem_reverse]
              exact NodeF.mono hne _ ((k2.fr HF4.out (fun q hq he => hq.2.2.1 he)).fr hf5 (fun q hq he => hq.2.2.2.2 he))
        · have h2' : (op == 2) = false := by simp [h2]
          have HRL := Lib.hid hrl
          have H2 := Lib.hid h2
          clear g1 g2 g3 g4 hrl h2 hb
          go_wp2_with (refine wpList_store_obj rfl (.tmp 2) (.tmp 33) 49 rfl (B + 1) rfl [.int .i64 op, .slice pq0 cls.length cq0, .slice pq ps.length cq] rfl _ _ HBRR.out (by kernel_rfl) rfl (by simp [Value.oneCell']) ?_; intro w5 hb5 hf5)
          obtain ⟨s0, s1, s2⟩ := cells3 hb5
          have hbe : Below w.heap.size w w5 := HBR'.out.trans (hf5.below hbsz (fun q hq => by have hq : q = B + 1 := hq; have := HB.out; omega))
          refine bodyPost_ret (v := .agg #[.int .i64 op, .slice pq0 cls.length cq0, .slice pq ps.length cq]) (by simp [results, Try.results23, go_sem, s0, s1, s2]) rfl ⟨_, _, _, rfl, ?_, hbe⟩
          have e : revX (.mk op cls ps) = .mk op cls (revL ps) := by rw [revX, if_neg H2.out]
          rw [e]
          refine HFIN.out w5 _ HRL.out ?_ ((HCVR.out.fr hf5 (fun q hq he => HCVR.out.notAt HBRR.out (by decide) (by rw [hq]; exact congrArg some he))).read.ints)
          have hown := HOWN.out
          have h3 : OwnL (nodeE (fun q => w.heap.size ≤ q) w5) 49 3 w.heap.size w5 (.slice pq ps.length cq) (revL ps) := (hown.fr hf5 (fun q hq he => (HPNE.out q hq).2.1 he)).mono fun x r hx => by
            obtain ⟨u0, u1, u2, rfl, hu⟩ := hx
            exact ⟨u0, u1, u2, rfl, NodeF.mono (fun q hq => hq.1) _ (hu.fr hf5 (fun q hq he => hq.2.2.2.2 he))⟩
          exact h3.read.nodesF (HLI.out _)

theorem rev_x : ∀ (x : Nd), RevAt x
  | .mk op cls ps => rev_step op cls ps (fun x hx => rev_x x)
  termination_by x => SizeOf.sizeOf x
  decreasing_by
    have := List.sizeOf_lt_of_mem hx
    simp; omega
end Go.Proofs.Ytmooflmhbpckjaa

/-
  Turned expressions and turned rows. Plain theorems; no program.
-/
set_option linter.unusedVariables false
set_option linter.unusedSimpArgs false
namespace Go.Proofs.Ytmooflmhbpckjaa

theorem revX_mk (op : Int) (cls : List Int) (ps : List Nd) : revX (.mk op cls ps) = .mk op cls (if op = 2 then (ps.map revX).reverse else ps.map revX) := by
  rw [revX, revL_map]

theorem mem_revX {op : Int} {ps : List Nd} {x : Nd} (hx : x ∈ ps) : revX x ∈ (if op = 2 then (ps.map revX).reverse else ps.map revX) := by
  split
  · simp; exact ⟨x, hx, rfl⟩
  · simp; exact ⟨x, hx, rfl⟩

theorem len_revX {op : Int} {ps : List Nd} : (if op = 2 then (ps.map revX).reverse else ps.map revX).length = ps.length := by
  split <;> simp

/-- what is matched is matched from the end -/
theorem M_rev {t : List Int} {n : Nat} (hn : n = t.length) : ∀ (x : Nd) {a b : Nat}, b ≤ n → M t x a b → M t.reverse (revX x) (n - b) (n - a)
  | .mk op cls parts, a, b, hb, h => by
    have hpart : ∀ x ∈ parts, ∀ a b, b ≤ n → M t x a b → M t.reverse (revX x) (n - b) (n - a) := by
      intro x hx a b hb h
      have := List.sizeOf_lt_of_mem hx
      exact M_rev hn x hb h
    have hseq : ∀ (l : List Nd), (∀ x ∈ l, x ∈ parts) → ∀ a b, b ≤ n → Mseq t l a b → Mseq t.reverse (l.map revX).reverse (n - b) (n - a) := by
      intro l
      induction l with
      | nil => intro _ a b _ h; simp only [Mseq] at h; subst h; simp [Mseq]
      | cons x r ih =>
        intro hm a b hb h
        simp only [Mseq] at h
        obtain ⟨c, h2, h3⟩ := h
        rw [List.map_cons, List.reverse_cons, Mseq_append]
        have hcb := Mseq_le h3
        exact ⟨n - c, ih (fun y hy => hm y (by simp [hy])) _ _ hb h3, Mseq_one.2 (hpart x (hm x (by simp)) _ _ (by omega) h2)⟩
    have halt : ∀ a b, b ≤ n → Malt t parts a b → Malt t.reverse (if op = 2 then (parts.map revX).reverse else parts.map revX) (n - b) (n - a) := by
      intro a b hb h
      obtain ⟨x, hx, h2⟩ := Malt_mem.1 h
      exact Malt_mem.2 ⟨revX x, mem_revX hx, hpart x hx _ _ hb h2⟩
    rw [revX_mk]
    unfold M at h ⊢
    split at h
    · rename_i h0; rw [if_pos h0]; omega
    · rename_i h0; rw [if_neg h0]
      split at h
      · rename_i h2; rw [if_pos h2]
        obtain ⟨rfl, c, h2, h3⟩ := h
        refine ⟨by omega, c, ?_, h3⟩
        rw [List.getElem?_reverse (by omega)]
        rw [← h2]
        congr 1; omega
      · rename_i h2; rw [if_neg h2]
        split at h
        · rename_i h2; rw [if_pos h2, if_pos h2]; exact hseq parts (fun _ h => h) a b hb h
        · rename_i h2; rw [if_neg h2]
          split at h
          · rename_i h2; rw [if_pos h2]; exact halt a b hb h
          · rename_i h2; rw [if_neg h2]
            split at h
            · rename_i h2; rw [if_pos h2]
              refine ⟨by rw [len_revX]; exact h.1, ?_⟩
              obtain ⟨-, h⟩ := h
              induction h with
              | refl => exact .refl _
              | step _ h3 ih => exact Star.head (halt _ _ hb h3) (ih (Nat.le_trans (Malt_le h3) hb))
            · rename_i h2; rw [if_neg h2]
              split at h
              · rename_i h2; rw [if_pos h2]
                refine ⟨by rw [len_revX]; exact h.1, ?_⟩
                rcases h.2 with rfl | h
                · exact .inl rfl
                · exact .inr (halt a b hb h)
              · exact h.elim
  termination_by x => SizeOf.sizeOf x
  decreasing_by all_goals (simp; omega)

theorem rev_rev : ∀ (x : Nd), revX (revX x) = x
  | .mk op cls ps => by
    rw [revX_mk, revX_mk]
    have h : (ps.map revX).map revX = ps := by
      rw [List.map_map]
      conv => rhs; rw [← List.map_id ps]
      refine List.map_congr_left fun x hx => ?_
      have := List.sizeOf_lt_of_mem hx
      exact rev_rev x
    congr 1
    split
    · rw [List.map_reverse, List.reverse_reverse, h]
    · exact h
  termination_by x => SizeOf.sizeOf x
  decreasing_by (simp; omega)

theorem cntL_sum : ∀ (l : List Nd), cntL l = (l.map cnt).sum
  | [] => by simp [cntL]
  | x :: r => by simp [cntL, cntL_sum r]

theorem cnt_rev : ∀ (x : Nd), cnt (revX x) = cnt x
  | .mk op cls ps => by
    have h : (ps.map revX).map cnt = ps.map cnt := by
      rw [List.map_map]
      refine List.map_congr_left fun x hx => ?_
      have := List.sizeOf_lt_of_mem hx
      exact cnt_rev x
    rw [revX_mk]
    simp only [cnt, cntL_sum]
    split
    · rw [List.map_reverse, List.sum_reverse, h]
    · rw [h]
  termination_by x => SizeOf.sizeOf x
  decreasing_by (simp; omega)

theorem Wf_rev : ∀ (x : Nd) (d : Nat), Wf d x → Wf d (revX x)
  | .mk op cls ps, d, h => by
    unfold Wf at h
    obtain ⟨h1, h2, h3, h4, h5, h6, h7⟩ := h
    rw [revX_mk]
    unfold Wf
    refine ⟨h1, h2, h3, fun h => ?_, fun h => by rw [len_revX]; exact h5 h, h6, ?_⟩
    · rw [h4 h]; simp
    · rw [WfL_iff] at h7 ⊢
      intro y hy
      have : ∃ x ∈ ps, revX x = y := by
        split at hy
        · simpa using hy
        · simpa using hy
      obtain ⟨x, hx, rfl⟩ := this
      have := List.sizeOf_lt_of_mem hx
      exact Wf_rev x (d + 1) (h7 x hx)
  termination_by x => SizeOf.sizeOf x
  decreasing_by (simp; omega)

theorem right_rev {x : Nd} (h : RightX x) : RightX (revX x) := ⟨Wf_rev x 1 h.1, by rw [cnt_rev]; exact h.2⟩

theorem rightB_rev (x : Nd) : rightB (revX x) = rightB x := by
  rw [Bool.eq_iff_iff, rightB_iff, rightB_iff]
  exact ⟨fun h => by have := right_rev h; rwa [rev_rev] at this, right_rev⟩

theorem fit_rev (x : Nd) (row : List Int) : fitB (revX x) row.reverse = fitB x row := by
  rw [Bool.eq_iff_iff, fitB_iff, fitB_iff, List.length_reverse]
  constructor
  · intro h
    have := M_rev (t := row.reverse) (n := row.length) (by simp) (revX x) (Nat.le_refl _) h
    rw [List.reverse_reverse, rev_rev] at this
    simpa using this
  · intro h
    have := M_rev (t := row) (n := row.length) rfl x (Nat.le_refl _) h
    simpa using this
end Go.Proofs.Ytmooflmhbpckjaa

/-
  Count, depth, Stars of an expression. No condition beyond what each theorem names.
-/
set_option linter.unusedVariables false
set_option linter.unusedSimpArgs false
namespace Go.Proofs.Ytmooflmhbpckjaa
open Go.RowKit

mutual
/-- how many nodes Count tells of: it stops behind four hundred -/
def countT : Nd → Int
  | .mk _ _ ps => countTL 1 ps
def countTL : Int → List Nd → Int
  | a, [] => a
  | a, x :: r => if a ≤ 400 then countTL (wrap64 (a + countT x)) r else a
end

mutual
def depthI : Nd → Int
  | .mk _ _ ps => wrap64 (depthIL 0 ps + 1)
def depthIL : Int → List Nd → Int
  | a, [] => a
  | a, x :: r => depthIL (max a (depthI x)) r
end

mutual
def starsI : Nd → Int
  | .mk op _ ps => if op = 4 then wrap64 (starsIL 0 ps + 1) else starsIL 0 ps
def starsIL : Int → List Nd → Int
  | a, [] => a
  | a, x :: r => starsIL (max a (starsI x)) r
end

theorem depthIL_snoc (a : Int) : ∀ (l : List Nd) (x : Nd), depthIL a (l ++ [x]) = max (depthIL a l) (depthI x)
  | [], x => by simp [depthIL]
  | y :: r, x => by
    simp only [List.cons_append, depthIL]
    exact depthIL_snoc _ r x

theorem starsIL_snoc (a : Int) : ∀ (l : List Nd) (x : Nd), starsIL a (l ++ [x]) = max (starsIL a l) (starsI x)
  | [], x => by simp [starsIL]
  | y :: r, x => by
    simp only [List.cons_append, starsIL]
    exact starsIL_snoc _ r x

/-- Count so far, as long as it goes on -/
def countTo (ps : List Nd) (k : Nat) (a : Int) : Prop := countTL a (ps.drop k) = countTL 1 ps

theorem countTo_step {ps : List Nd} {k : Nat} {a : Int} (hk : k < ps.length) (h : countTo ps k a) (ha : a ≤ 400) : countTo ps (k + 1) (wrap64 (a + countT ps[k])) := by
  unfold countTo at *
  rw [← h, List.drop_eq_getElem_cons hk, countTL, if_pos ha]

theorem countTo_stop {ps : List Nd} {k : Nat} {a : Int} (hk : k < ps.length) (h : countTo ps k a) (ha : ¬ a ≤ 400) : a = countTL 1 ps := by
  unfold countTo at *
  rw [← h, List.drop_eq_getElem_cons hk, countTL, if_neg ha]

theorem countTo_end {ps : List Nd} {k : Nat} {a : Int} (hk : ¬ k < ps.length) (h : countTo ps k a) : a = countTL 1 ps := by
  unfold countTo at *
  rw [← h, List.drop_of_length_le (by omega), countTL]

theorem countTL_eq : ∀ (l : List Nd) (a : Int), 1 ≤ a → (a : Int) + (cntL l : Int) ≤ 400 → (∀ x ∈ l, cnt x ≤ 400 → countT x = cnt x) → countTL a l = a + cntL l
  | [], a, _, _, _ => by simp [countTL, cntL]
  | x :: r, a, h2, h3, h4 => by
    simp only [cntL] at h3 ⊢
    have hx := cnt_pos x
    rw [countTL, if_pos (by omega), h4 x (by simp) (by omega)]
    have e : wrap64 (a + cnt x) = a + cnt x := by
      exact IntWalk.wrap64_in _ (by omega)
    rw [e, countTL_eq r _ (by omega) (by omega) (fun y hy => h4 y (by simp [hy]))]
    omega

theorem countT_eq : ∀ (x : Nd), cnt x ≤ 400 → countT x = cnt x
  | .mk op cls ps, h => by
    simp only [cnt] at h ⊢
    rw [countT, countTL_eq ps 1 (by omega) (by omega) (fun y hy => by
      have := List.sizeOf_lt_of_mem hy
      exact countT_eq y)]
    omega
  termination_by x => SizeOf.sizeOf x
  decreasing_by (simp; omega)

mutual
/-- how deep an expression is -/
def depthN : Nd → Nat
  | .mk _ _ ps => 1 + depthNL ps
def depthNL : List Nd → Nat
  | [] => 0
  | x :: r => max (depthN x) (depthNL r)
end

theorem depthNL_le : ∀ {l : List Nd} {x : Nd}, x ∈ l → depthN x ≤ depthNL l
  | [], x, h => by simp at h
  | y :: r, x, h => by
    simp only [depthNL]
    rcases List.mem_cons.1 h with rfl | h
    · omega
    · have := depthNL_le h; omega

theorem depthNL_bound : ∀ {l : List Nd} {n : Nat}, (∀ x ∈ l, depthN x ≤ n) → depthNL l ≤ n
  | [], n, _ => by simp [depthNL]
  | y :: r, n, h => by
    simp only [depthNL]
    have h1 := h y (by simp)
    have h2 := depthNL_bound (l := r) (n := n) (fun x hx => h x (by simp [hx]))
    omega

theorem depthIL_eq : ∀ (l : List Nd) (a : Nat), (∀ x ∈ l, depthI x = depthN x) → depthIL a l = max a (depthNL l)
  | [], a, _ => by simp [depthIL, depthNL]
  | x :: r, a, h => by
    rw [depthIL, h x (by simp), show max (a : Int) (depthN x : Int) = ((max a (depthN x) : Nat) : Int) by omega, depthIL_eq r _ (fun y hy => h y (by simp [hy]))]
    simp only [depthNL]
    omega

theorem depthI_eq : ∀ (x : Nd), depthN x ≤ 1000 → depthI x = depthN x
  | .mk op cls ps, h => by
    simp only [depthN] at h ⊢
    have e : depthIL 0 ps = depthNL ps := by
      have := depthIL_eq ps 0 (fun y hy => by
        have := List.sizeOf_lt_of_mem hy
        have := depthNL_le hy
        exact depthI_eq y (by omega))
      simpa using this
    rw [depthI, e]
    rw [IntWalk.wrap64_in _ (by omega)]
    omega
  termination_by x => SizeOf.sizeOf x
  decreasing_by (simp; omega)

theorem Wf_depth : ∀ (x : Nd) (d : Nat), Wf d x → d + depthN x ≤ 33
  | .mk op cls ps, d, h => by
    unfold Wf at h
    obtain ⟨h1, -, -, -, -, -, h7⟩ := h
    rw [WfL_iff] at h7
    simp only [depthN]
    have := depthNL_bound (l := ps) (n := 32 - d) (fun y hy => by
      have := List.sizeOf_lt_of_mem hy
      have := Wf_depth y (d + 1) (h7 y hy)
      omega)
    omega
  termination_by x => SizeOf.sizeOf x
  decreasing_by (simp; omega)

theorem Wf_move : ∀ (x : Nd) (d e : Nat), Wf d x → e + depthN x ≤ 33 → Wf e x
  | .mk op cls ps, d, e, h, he => by
    unfold Wf at h ⊢
    obtain ⟨h1, h2, h3, h4, h5, h6, h7⟩ := h
    rw [WfL_iff] at h7 ⊢
    simp only [depthN] at he
    refine ⟨by omega, h2, h3, h4, h5, h6, fun y hy => ?_⟩
    have := List.sizeOf_lt_of_mem hy
    have := depthNL_le hy
    exact Wf_move y (d + 1) (e + 1) (h7 y hy) (by omega)
  termination_by x => SizeOf.sizeOf x
  decreasing_by (simp; omega)

/-- right, of at most a hundred nodes, and not deeper than twenty -/
structure Small (x : Nd) : Prop where
  right : RightX x
  cnt : cnt x ≤ 100
  depth : depthN x ≤ 20

theorem small_of {x : Nd} (h : RightX x) (h1 : countT x ≤ 100) (h2 : depthI x ≤ 20) : Small x := by
  have h3 := Wf_depth x 1 h.1
  rw [countT_eq x h.2] at h1
  rw [depthI_eq x (by omega)] at h2
  exact ⟨h, by omega, by omega⟩


def CountAt (x : Nd) : Prop := ∀ (w : World) (a b c : Value), NodeIs w x a b c →
    Calls Try.prog 30 #[.agg #[a, b, c]] w fun e w' => e = .returned (.int .i64 (countT x)) ∧ Below w.heap.size w w'

set_option maxRecDepth 100000 in
set_option maxHeartbeats 4000000 in
theorem count_step (op : Int) (cls : List Int) (ps : List Nd) (ih : ∀ x ∈ ps, CountAt x) : CountAt (.mk op cls ps) := by
  intro w a b c hx
  have IH := Lib.hid ih
  rw [nodeIs_iff] at hx
  obtain ⟨rfl, hcl, hcb, hpb, hps⟩ := hx
  obtain ⟨pc, capc, rfl, hcc, hxc⟩ := hcl.get
  obtain ⟨pp, capp, rfl, hcp, hxp⟩ := hps.get
  unfold R at hcb hpb
  have HXP := Lib.hid hxp
  clear hcl hps hxc hxp ih
  go_enter Try.func30, Try.ntmps30
  go_upto_region 1 with fail
  refine abs_wp fun W hW => ?_
  obtain ⟨B, hB⟩ : ∃ B, B = w.heap.size := ⟨_, rfl⟩
  have hbox : W.heap[B]? = some (.cells #[.int .i64 op, .slice pc cls.length capc, .slice pp ps.length capp] 49) := by rw [hW, hB]; exact heap_alloc_new _ _
  have hBW : Below w.heap.size w W := by rw [hW]; exact below_alloc1 _ _
  rw [← hB]
  have HBW := Lib.hid hBW
  have HBOX := Lib.hid hbox
  clear hW hbox hB hBW
  go_wp2_with fail
  go_loopw [3, 4] (fun d i wr => ∃ (k : Nat) (a : Int), i = .int .i64 k ∧ k ≤ ps.length ∧ d = .int .i64 a ∧ countTo ps k a ∧ Below W.heap.size W wr) (fun _ i _ => ps.length - (intOf i).toNat)
  case atStart => exact ⟨0, _, rfl, by omega, rfl, by unfold countTo; rw [List.drop_zero], Below.refl _ _⟩
  case round =>
    obtain ⟨k, a, rfl, h1, rfl, hrl, hb⟩ := hrel
    have HRL := Lib.hid hrl
    have HBR := Lib.hid hb
    have hbox := (hb.block _ (at_lt HBOX.out)).trans HBOX.out
    obtain ⟨y0, y1, y2⟩ := cells3 hbox
    have HBWR := Lib.hid (HBW.out.trans (hb.mono HBW.out.size))
    have hbw := HBWR.out
    clear hb hrl hbox
    by_cases hk : k < ps.length
    · obtain ⟨bb, off, rfl, hbl, hxx⟩ := HXP.out (by omega)
      obtain ⟨x, y, z, c0, c1, c2, hnode⟩ := hxx k hk
      have r0 := cell_below hbw hbl c0
      have r1 := cell_below hbw hbl c1
      have r2 := cell_below hbw hbl c2
      have HD := Lib.hid (IH.out ps[k] (List.getElem_mem hk) wr x y z (hnode.to hbw (Nat.le_refl _)))
      have hkk : (k : Int) < ps.length := by omega
      have hk0 : (0 : Int) ≤ k := by omega
      clear hxx c0 c1 c2 hnode hbw
      by_cases ha : a ≤ 400
      · have HST := Lib.hid (countTo_step hk HRL.out ha)
        generalize countT ps[k] = dk at *
        go_wp2_with fail
        refine HD.out.mono ?_
        rintro e w1 ⟨rfl, hb1⟩
        have HB1 := Lib.hid (HBR.out.trans (hb1.mono HBR.out.size))
        clear y0 y1 y2 r0 r1 r2 hb1
        go_wp2_with fail
        go_roundw
        case rel => exact ⟨k + 1, _, by go_num, by omega, rfl, HST.out, HB1.out⟩
        case measure => simp [intOf]; omega
      · have HST := Lib.hid (countTo_stop hk HRL.out ha)
        go_wp2_with fail
        go_ret
        exact ⟨ret_int (by rw [countT]; exact HST.out), HBWR.out⟩
    · have hkk : ¬ (k : Int) < ps.length := by omega
      have HST := Lib.hid (countTo_end hk HRL.out)
      go_wp2_with fail
      go_ret
      exact ⟨ret_int (by rw [countT]; exact HST.out), HBWR.out⟩

theorem count_any : ∀ (x : Nd), CountAt x
  | .mk op cls ps => count_step op cls ps (fun x hx => count_any x)
  termination_by x => SizeOf.sizeOf x
  decreasing_by
    have := List.sizeOf_lt_of_mem hx
    simp; omega

def StarsAt (x : Nd) : Prop := ∀ (w : World) (a b c : Value), NodeIs w x a b c →
    Calls Try.prog 31 #[.agg #[a, b, c]] w fun e w' => e = .returned (.int .i64 (starsI x)) ∧ Below w.heap.size w w'

set_option maxRecDepth 100000 in
set_option maxHeartbeats 4000000 in
theorem stars_step (op : Int) (cls : List Int) (ps : List Nd) (ih : ∀ x ∈ ps, StarsAt x) : StarsAt (.mk op cls ps) := by
  intro w a b c hx
  have IH := Lib.hid ih
  rw [nodeIs_iff] at hx
  obtain ⟨rfl, hcl, hcb, hpb, hps⟩ := hx
  obtain ⟨pc, capc, rfl, hcc, hxc⟩ := hcl.get
  obtain ⟨pp, capp, rfl, hcp, hxp⟩ := hps.get
  unfold R at hcb hpb
  have HXP := Lib.hid hxp
  clear hcl hps hxc hxp ih
  go_enter Try.func31, Try.ntmps31
  go_upto_region 1 with fail
  refine abs_wp fun W hW => ?_
  obtain ⟨B, hB⟩ : ∃ B, B = w.heap.size := ⟨_, rfl⟩
  have hbox : W.heap[B]? = some (.cells #[.int .i64 op, .slice pc cls.length capc, .slice pp ps.length capp] 49) := by rw [hW, hB]; exact heap_alloc_new _ _
  have hBW : Below w.heap.size w W := by rw [hW]; exact below_alloc1 _ _
  rw [← hB]
  have HBW := Lib.hid hBW
  have HBOX := Lib.hid hbox
  clear hW hbox hB hBW
  go_wp2_with fail
  go_loopw [3, 4] (fun d i wr => ∃ (k : Nat) (a : Int), i = .int .i64 k ∧ k ≤ ps.length ∧ d = .int .i64 a ∧ a = starsIL 0 (ps.take k) ∧ Below W.heap.size W wr) (fun _ i _ => ps.length - (intOf i).toNat)
  case atStart => exact ⟨0, _, rfl, by omega, rfl, rfl, Below.refl _ _⟩
  case round =>
    obtain ⟨k, a, rfl, h1, rfl, hrl, hb⟩ := hrel
    have HRL := Lib.hid hrl
    have HBR := Lib.hid hb
    have hbox := (hb.block _ (at_lt HBOX.out)).trans HBOX.out
    obtain ⟨y0, y1, y2⟩ := cells3 hbox
    have HBWR := Lib.hid (HBW.out.trans (hb.mono HBW.out.size))
    have hbw := HBWR.out
    clear hb hrl hbox
    by_cases hk : k < ps.length
    · obtain ⟨bb, off, rfl, hbl, hxx⟩ := HXP.out (by omega)
      obtain ⟨x, y, z, c0, c1, c2, hnode⟩ := hxx k hk
      have r0 := cell_below hbw hbl c0
      have r1 := cell_below hbw hbl c1
      have r2 := cell_below hbw hbl c2
      have HD := Lib.hid (IH.out ps[k] (List.getElem_mem hk) wr x y z (hnode.to hbw (Nat.le_refl _)))
      have hkk : (k : Int) < ps.length := by omega
      have hk0 : (0 : Int) ≤ k := by omega
      clear hxx c0 c1 c2 hnode hbw
      have HST := Lib.hid (show max a (starsI ps[k]) = starsIL 0 (ps.take (k + 1)) by rw [List.take_succ_eq_append_getElem hk, starsIL_snoc, HRL.out])
      generalize starsI ps[k] = dk at *
      go_wp2_with fail
      refine HD.out.mono ?_
      rintro e w1 ⟨rfl, hb1⟩
      have HB1 := Lib.hid (HBR.out.trans (hb1.mono HBR.out.size))
      clear y0 y1 y2 r0 r1 r2 hb1
      go_wp2_with fail
      all_goals
        go_roundw
        case rel => exact ⟨k + 1, _, by go_num, by omega, rfl, by first | exact HST.out | (rw [← HST.out]; omega), HB1.out⟩
        case measure => simp [intOf]; omega
    · have hkk : ¬ (k : Int) < ps.length := by omega
      have hke : ps.take k = ps := List.take_of_length_le (by omega)
      have HF := Lib.hid (show a = starsIL 0 ps by have h := HRL.out; rwa [hke] at h)
      clear hke
      by_cases h4 : op = 4
      · subst h4
        go_wp2_with fail
        go_ret
        exact ⟨ret_int (by rw [starsI, if_pos rfl, ← HF.out]), HBWR.out⟩
      · have h4' : (op == 4) = false := by simp [h4]
        have H4 := Lib.hid h4
        clear h4
        go_wp2_with fail
        go_ret
        exact ⟨ret_int (by rw [starsI, if_neg H4.out, ← HF.out]), HBWR.out⟩

theorem stars_any : ∀ (x : Nd), StarsAt x
  | .mk op cls ps => stars_step op cls ps (fun x hx => stars_any x)
  termination_by x => SizeOf.sizeOf x
  decreasing_by
    have := List.sizeOf_lt_of_mem hx
    simp; omega
end Go.Proofs.Ytmooflmhbpckjaa

/-
  small, fits; what expressions that are put together fit. No condition beyond what each theorem names.
-/
set_option linter.unusedVariables false
set_option linter.unusedSimpArgs false
namespace Go.Proofs.Ytmooflmhbpckjaa
open Go.RowKit

/-- what is matched is matched in another text that reads the same elsewhere -/
theorem M_move {t u : List Int} (g : Nat → Nat) : ∀ (x : Nd) (a b : Nat), (∀ k, a ≤ k → k < b → t[g k]? = u[k]? ∧ g (k + 1) = g k + 1) → M u x a b → M t x (g a) (g b)
  | .mk op cls parts, a, b, hg, h => by
    have hpart : ∀ x ∈ parts, ∀ a b, (∀ k, a ≤ k → k < b → t[g k]? = u[k]? ∧ g (k + 1) = g k + 1) → M u x a b → M t x (g a) (g b) := by
      intro x hx a b hg h
      have := List.sizeOf_lt_of_mem hx
      exact M_move g x a b hg h
    have hseq : ∀ (l : List Nd), (∀ x ∈ l, x ∈ parts) → ∀ a b, (∀ k, a ≤ k → k < b → t[g k]? = u[k]? ∧ g (k + 1) = g k + 1) → Mseq u l a b → Mseq t l (g a) (g b) := by
      intro l
      induction l with
      | nil => intro _ a b _ h; simp only [Mseq] at h ⊢; rw [h]
      | cons x r ih =>
        intro hm a b hg h
        simp only [Mseq] at h ⊢
        obtain ⟨c, h2, h3⟩ := h
        have l1 := M_le h2
        have l2 := Mseq_le h3
        exact ⟨g c, hpart x (hm x (by simp)) _ _ (fun k h1 h2 => hg k h1 (by omega)) h2, ih (fun y hy => hm y (by simp [hy])) _ _ (fun k h1 h2 => hg k (by omega) h2) h3⟩
    have halt : ∀ a b, (∀ k, a ≤ k → k < b → t[g k]? = u[k]? ∧ g (k + 1) = g k + 1) → Malt u parts a b → Malt t parts (g a) (g b) := by
      intro a b hg h
      obtain ⟨x, hx, h2⟩ := Malt_mem.1 h
      exact Malt_mem.2 ⟨x, hx, hpart x hx _ _ hg h2⟩
    unfold M at h ⊢
    split at h
    · rename_i h0; rw [if_pos h0, h]
    · rename_i h0; rw [if_neg h0]
      split at h
      · rename_i h2; rw [if_pos h2]
        obtain ⟨rfl, c, h2, h3⟩ := h
        obtain ⟨g1, g2⟩ := hg a (Nat.le_refl _) (by omega)
        exact ⟨g2, c, by rw [g1]; exact h2, h3⟩
      · rename_i h2; rw [if_neg h2]
        split at h
        · rename_i h2; rw [if_pos h2]; exact hseq parts (fun _ h => h) a b hg h
        · rename_i h2; rw [if_neg h2]
          split at h
          · rename_i h2; rw [if_pos h2]; exact halt a b hg h
          · rename_i h2; rw [if_neg h2]
            split at h
            · rename_i h2; rw [if_pos h2]
              refine ⟨h.1, ?_⟩
              obtain ⟨-, h⟩ := h
              have key : ∀ {a b}, Star (Malt u parts) a b → (∀ k, a ≤ k → k < b → t[g k]? = u[k]? ∧ g (k + 1) = g k + 1) → a ≤ b ∧ Star (Malt t parts) (g a) (g b) := by
                intro a b h
                induction h with
                | refl => intro _; exact ⟨Nat.le_refl _, .refl _⟩
                | step h4 h3 ih =>
                  intro hg
                  have l1 := Malt_le h3
                  obtain ⟨i1, i2⟩ := ih (fun k h1 h2 => hg k h1 (by omega))
                  exact ⟨by omega, .step i2 (halt _ _ (fun k h1 h2 => hg k (by omega) h2) h3)⟩
              exact (key h hg).2
            · rename_i h2; rw [if_neg h2]
              split at h
              · rename_i h2; rw [if_pos h2]
                refine ⟨h.1, ?_⟩
                rcases h.2 with rfl | h
                · exact .inl rfl
                · exact .inr (halt a b hg h)
              · exact h.elim
  termination_by x => SizeOf.sizeOf x
  decreasing_by all_goals (simp; omega)

/-- of a row's beginning -/
theorem fit_take {x : Nd} {row : List Int} {k : Nat} (hk : k ≤ row.length) : fitB x (row.take k) = true ↔ M row x 0 k := by
  rw [fitB_iff, List.length_take, Nat.min_eq_left hk]
  constructor
  · exact M_move id x 0 k (fun j h1 h2 => ⟨by simp only [id]; rw [List.getElem?_take_of_lt h2], rfl⟩)
  · exact M_move id x 0 k (fun j h1 h2 => ⟨by simp only [id]; rw [List.getElem?_take_of_lt h2], rfl⟩)

/-- of a row's end -/
theorem fit_drop {x : Nd} {row : List Int} {k : Nat} (hk : k ≤ row.length) : fitB x (row.drop k) = true ↔ M row x k row.length := by
  rw [fitB_iff, List.length_drop]
  constructor
  · intro h
    have := M_move (t := row) (· + k) x 0 (row.length - k) (fun j h1 h2 => ⟨by rw [List.getElem?_drop, Nat.add_comm], by omega⟩) h
    simpa [Nat.sub_add_cancel hk] using this
  · intro h
    have := M_move (t := row.drop k) (· - k) x k row.length (fun j h1 h2 => ⟨by rw [List.getElem?_drop, show k + (j - k) = j by omega], by omega⟩) h
    simpa using this

theorem fit_seq2 {x y : Nd} {row : List Int} : fitB (.mk 2 [] [x, y]) row = true ↔ ∃ k, k ≤ row.length ∧ fitB x (row.take k) = true ∧ fitB y (row.drop k) = true := by
  rw [fitB_iff, M_2]
  simp only [Mseq]
  constructor
  · rintro ⟨c, h1, d, h2, rfl⟩
    have l2 := M_le h2
    exact ⟨c, l2, (fit_take l2).2 h1, (fit_drop l2).2 h2⟩
  · rintro ⟨c, h0, h1, h2⟩
    exact ⟨c, (fit_take h0).1 h1, _, (fit_drop h0).1 h2, rfl⟩

theorem fit_alt2 {x y : Nd} {row : List Int} : fitB (.mk 3 [] [x, y]) row = (fitB x row || fitB y row) := by
  rw [Bool.eq_iff_iff, Bool.or_eq_true, fitB_iff, fitB_iff, fitB_iff, M_3]
  simp [Malt]

theorem fit_opt {x : Nd} {row : List Int} : fitB (.mk 5 [] [x]) row = (fitB x row || decide (row.length = 0)) := by
  rw [Bool.eq_iff_iff, Bool.or_eq_true, fitB_iff, fitB_iff, decide_eq_true_iff, M_5, Malt_one]
  constructor
  · rintro ⟨-, h | h⟩
    · exact .inr h.symm
    · exact .inl h
  · rintro (h | h)
    · exact ⟨rfl, .inr h⟩
    · exact ⟨rfl, .inl h.symm⟩

theorem star_head {r : Nat → Nat → Prop} {a b : Nat} (h : Star r a b) : a = b ∨ ∃ c, r a c ∧ Star r c b := by
  induction h with
  | refl => exact .inl rfl
  | step h1 h2 ih =>
    rcases ih with rfl | ⟨c, h3, h4⟩
    · exact .inr ⟨_, h2, .refl _⟩
    · exact .inr ⟨c, h3, .step h4 h2⟩

theorem fit_star {x : Nd} {row : List Int} : fitB (.mk 4 [] [x]) row = (fitB (.mk 2 [] [x, .mk 4 [] [x]]) row || decide (row.length = 0)) := by
  rw [Bool.eq_iff_iff, Bool.or_eq_true, fitB_iff, fitB_iff, decide_eq_true_iff, M_4, M_2]
  simp only [Mseq]
  constructor
  · rintro ⟨-, h⟩
    rcases star_head h with h | ⟨c, h1, h2⟩
    · exact .inr h.symm
    · exact .inl ⟨c, Malt_one.1 h1, _, (M_4 _ _).2 ⟨rfl, h2⟩, rfl⟩
  · rintro (⟨c, h1, d, h2, rfl⟩ | h)
    · exact ⟨rfl, Star.head (Malt_one.2 h1) ((M_4 _ _).1 h2).2⟩
    · exact ⟨rfl, h ▸ .refl _⟩

theorem Small.at {x : Nd} (h : Small x) {d : Nat} (hd : d ≤ 13) : Wf d x := Wf_move x 1 d h.right.1 (by have := h.depth; omega)

theorem right_one {x : Nd} (h : Small x) (op : Int) (ho : 2 ≤ op ∧ op ≤ 5) : RightX (.mk op [] [x]) := by
  refine ⟨?_, by have := h.cnt; simp only [cnt, cntL]; omega⟩
  unfold Wf
  exact ⟨by omega, by omega, fun _ => rfl, by omega, fun _ => rfl, rising_nil, by simp only [WfL, and_true]; exact h.at (by omega)⟩

/-- two right expressions put together -/
theorem right_two {x y : Nd} {d : Nat} (hx : Wf (d + 1) x) (hy : Wf (d + 1) y) (hd : d ≤ 30) (op : Int) (ho : op = 2 ∨ op = 3) : Wf d (.mk op [] [x, y]) := by
  unfold Wf
  exact ⟨by omega, by omega, fun _ => rfl, by omega, by omega, rising_nil, by simp only [WfL, and_true]; exact ⟨hx, hy⟩⟩

theorem right_three {x y z : Nd} {d : Nat} (hx : Wf (d + 1) x) (hy : Wf (d + 1) y) (hz : Wf (d + 1) z) (hd : d ≤ 30) (op : Int) (ho : op = 2 ∨ op = 3) : Wf d (.mk op [] [x, y, z]) := by
  unfold Wf
  exact ⟨by omega, by omega, fun _ => rfl, by omega, by omega, rising_nil, by simp only [WfL, and_true]; exact ⟨hx, hy, hz⟩⟩

theorem right_star {x : Nd} {d : Nat} (hx : Wf (d + 1) x) (hd : d ≤ 30) : Wf d (.mk 4 [] [x]) := by
  unfold Wf
  exact ⟨by omega, by omega, fun _ => rfl, by omega, fun _ => rfl, rising_nil, by simp only [WfL, and_true]; exact hx⟩

def SmallPost (w : World) (x : Nd) (e : Ending) (w' : World) : Prop := ∃ b : Bool, e = .returned (.bool b) ∧ (b = true → Small x) ∧ Below w.heap.size w w'

end Go.Proofs.Ytmooflmhbpckjaa

/-
  dfa, plain: expressions in another order, or one that tells nothing new. No program, no condition beyond what each theorem names.
-/
set_option linter.unusedVariables false
set_option linter.unusedSimpArgs false
namespace Go.Proofs.Ytmooflmhbpckjaa
open Classical

/-- behind a row: the situation of an expression -/
noncomputable def atRow (t : List Nat) (e : Nd × Bool) : List Int := runE (mach e.1) e.2 (t.map fun (c : Nat) => (c : Int))

theorem runA_at (l : List (Nd × Bool)) (t : List Nat) : runA (autoE l) (autoE l).start t = l.map (atRow t) := runA_E l _ t rfl

/-- A LIST OF EXPRESSIONS IN WHICH ANOTHER ONE'S LIE: their automata go together -/
theorem homE {l l' : List (Nd × Bool)} (classes : Nat) (f : List (List Int) → List (List Int)) (hsub : ∀ e ∈ l, e ∈ l') (hf : ∀ t : List Nat, f (l.map (atRow t)) = l'.map (atRow t)) : Hom (autoE l) (autoE l') classes f where
  start := by
    have h := hf []
    exact h
  step := fun t _ c _ => by
    have h1 := runA_at l (t ++ [c])
    have h2 := runA_at l' (t ++ [c])
    rw [runA_snoc] at h1 h2
    rw [h1, hf, ← h2, runA_at l', runA_at l, hf]
  inj := fun t u _ _ h => by
    rw [runA_at, runA_at] at h ⊢
    rw [hf, hf] at h
    apply List.map_congr_left
    intro e he
    exact List.map_inj_left.1 h e (hsub e he)

/-- turned round -/
theorem hom_turn (l : List (Nd × Bool)) (classes : Nat) : Hom (autoE l) (autoE l.reverse) classes List.reverse :=
  homE classes _ (fun e he => List.mem_reverse.2 he) (fun t => by rw [List.map_reverse])

/-- the last one once more -/
theorem hom_again (l : List (Nd × Bool)) (e : Nd × Bool) (classes : Nat) : Hom (autoE (l ++ [e])) (autoE ((l ++ [e]) ++ [e])) classes (fun s => s ++ [s.getLastD []]) :=
  homE classes _ (fun x hx => List.mem_append.2 (.inl hx)) (fun t => by simp)

theorem mach_never : mach (.mk 3 [] []) = layF (.mk 3 [] []) [] := rfl

/-- one that is in the same situation behind each row -/
theorem hom_const (l : List (Nd × Bool)) (e : Nd × Bool) (s0 : List Int) (he : ∀ t, atRow t e = s0) (classes : Nat) : Hom (autoE l) (autoE (l ++ [e])) classes (fun s => s ++ [s0]) :=
  homE classes _ (fun x hx => List.mem_append.2 (.inl hx)) (fun t => by simp [he t])

end Go.Proofs.Ytmooflmhbpckjaa

/-
  dfa, plain: an expression that never fits is always in the same situation. No program, no condition beyond what each theorem names.
-/
set_option linter.unusedVariables false
set_option linter.unusedSimpArgs false
namespace Go.Proofs.Ytmooflmhbpckjaa
open Classical

def neverX : Nd := .mk 3 [] []

theorem mach_neverX : mach neverX = [⟨[], false, []⟩, ⟨[], false, []⟩] := by
  unfold neverX mach
  simp [layF, altF, joinF, z0]

theorem closed_none (S : List Sta) : closedL S [] = [] := by
  refine List.eq_nil_iff_forall_not_mem.2 fun v h => ?_
  obtain ⟨k, -, -, ⟨r, h2, -⟩, -⟩ := mem_closedL.1 h
  simp at h2

theorem never_start : closedL (mach neverX) [0] = [] := by
  refine List.eq_nil_iff_forall_not_mem.2 fun v h => ?_
  obtain ⟨k, -, -, ⟨r, h2, h3⟩, h4⟩ := mem_closedL.1 h
  rw [mach_neverX] at h3 h4
  have h0 : r = 0 := by simp at h2; omega
  subst h0
  have hk : k = 0 := by
    cases h3 with
    | refl => rfl
    | @step b _ _ h5 => rcases b with _ | _ | b <;> simp [Free, at_, z0] at h5
  subst hk
  rcases h4 with h4 | h4
  · simp [at_] at h4
  · cases h4

theorem never_row : ∀ (n : Nat) (row : List Int), row.length = n → runE (mach neverX) false row = []
  | 0, row, h => by
    obtain rfl : row = [] := List.eq_nil_of_length_eq_zero h
    exact never_start
  | n + 1, row, h => by
    obtain ⟨r, c, rfl⟩ : ∃ r c, row = r ++ [c] := by
      rcases List.eq_nil_or_concat row with rfl | ⟨r, c, rfl⟩
      · simp at h
      · exact ⟨r, c, by simp⟩
    rw [runE_snoc, never_row n r (by simpa using h)]
    unfold stepE
    rw [if_neg (by simp), never_start]
    have e : closedL (mach neverX) (stepTo (mach neverX) [] c) = [] := closed_none _
    rw [e]
    simp [uniR]

theorem hom_never (l : List (Nd × Bool)) (classes : Nat) : Hom (autoE l) (autoE (l ++ [(neverX, false)])) classes (fun s => s ++ [[]]) :=
  hom_const l (neverX, false) [] (fun t => never_row (t.map fun (c : Nat) => (c : Int)).length (t.map fun (c : Nat) => (c : Int)) rfl) classes

end Go.Proofs.Ytmooflmhbpckjaa

/-
  dfa, plain: expressions that fit the same (DfaEqual). No program, no condition beyond what each theorem names.
-/
set_option linter.unusedVariables false
set_option linter.unusedSimpArgs false
namespace Go.Proofs.Ytmooflmhbpckjaa
open Classical

theorem fit_twice (x : Nd) (row : List Int) : fitB (.mk 3 [] [x, x]) row = fitB x row := by
  rw [fit_alt2, Bool.or_self]
theorem fit_behind (x : Nd) (row : List Int) : fitB (.mk 2 [] [x, .mk 0 [] []]) row = fitB x row := by
  rw [Bool.eq_iff_iff, fitB_iff, fitB_iff]
  simp [M, Mseq]
/-- any number of it, as one or more, or none -/
theorem fit_more (x : Nd) (row : List Int) : fitB (.mk 5 [] [.mk 2 [] [x, .mk 4 [] [x]]]) row = fitB (.mk 4 [] [x]) row := by
  rw [fit_opt, fit_star]

/-- what fits the same has the same language -/
theorem tells_same {x y : Nd} (h : ∀ row, fitB x row = fitB y row) (whole : Bool) (classes : Nat) : tellsE [(x, whole)] classes = tellsE [(y, whole)] classes := by
  funext t
  unfold tellsE fitsE
  simp only [List.map_cons, List.map_nil, h]

end Go.Proofs.Ytmooflmhbpckjaa

/-
  dfa, plain: what a machine that was built tells. No program, no condition beyond what each theorem names.
-/
set_option linter.unusedVariables false
set_option linter.unusedSimpArgs false
namespace Go.Proofs.Ytmooflmhbpckjaa
open Classical

/-- a machine that was built: its ways are of its states; behind each row it tells which expressions fit -/
theorem built_tells {l : List (Nd × Bool)} (hl : ∀ e ∈ l, RightX e.1) {classes : Nat} {N : List (List Nat)} {O : List (Option (List Bool))} (h : Built (autoE l) outE classes (some (N, O))) :
    OkN N O classes ∧ 0 < N.length ∧ N.length ≤ 400 ∧ ∀ t : List Nat, (∀ c ∈ t, c < classes) → O[runN N 0 t]? = some (some (l.map fun e => fitsE e.1 e.2 (t.map fun (c : Nat) => (c : Int)))) := by
  rcases h with ⟨h, -⟩ | ⟨hf, hle, he⟩
  · cases h
  obtain ⟨e1, e2⟩ := Prod.mk.inj (Option.some.inj he)
  have ho := canon_over outE hf
  have hpos0 := cl_pos (langAuto (langA (autoE l) outE classes (autoE l).start)) classes 2000
  have hst := cl_start (langAuto (langA (autoE l) outE classes (autoE l).start)) classes 2000
  unfold canonL at hle
  unfold canonNext canonL at e1
  unfold canonOut canonL at e2
  have hct := fun t ht i l' => canon_tells (l0 := langA (autoE l) outE classes (autoE l).start) (n := 2000) ho t ht (i := i) (l := l')
  unfold canonNext canonOut canonL at hct
  generalize 2000 = K at *
  have hlen : N.length = (cl (langAuto (langA (autoE l) outE classes (autoE l).start)) classes K).length := by rw [e1, nextsOf, List.length_map]
  refine ⟨?_, by omega, by omega, fun t ht => ?_⟩
  · rw [e1, e2]
    exact okN_of (fun l => l []) (over_closed ho)
  · rw [e1, e2, hct t ht 0 _ hst]
    show some (langA (autoE l) outE classes (autoE l).start t) = _
    rw [lang_E hl, tellsE, if_pos ht]

/-- the beginning of a row leads there from where the rest goes on -/
theorem runN_append (N : List (List Nat)) : ∀ (t u : List Nat) (i : Nat), runN N i (t ++ u) = runN N (runN N i t) u
  | [], _, _ => rfl
  | c :: t, u, i => runN_append N t u (goN N i c)

theorem runN_lt {β : Type} {N : List (List Nat)} {O : List β} {classes : Nat} (h : OkN N O classes) : ∀ (t : List Nat) (i : Nat), i < N.length → (∀ c ∈ t, c < classes) → runN N i t < N.length
  | [], i, hi, _ => hi
  | c :: t, i, hi, hc => runN_lt h t _ (h.go hi (hc c (by simp))) (fun d hd => hc d (by simp [hd]))

end Go.Proofs.Ytmooflmhbpckjaa

/-
  dfa, plain: the states are numbered as they are met (DfaLeast). No program, no condition beyond what each theorem names.
-/
set_option linter.unusedVariables false
set_option linter.unusedSimpArgs false
namespace Go.Proofs.Ytmooflmhbpckjaa
open Classical

section
variable {σ : Type}

/-- how many have been met when of the i-th the first c classes have been looked at -/
noncomputable def metN (A : Auto σ) (classes i c : Nat) : Nat := match (cl A classes i)[i]? with
  | some s => (rowS A s (cl A classes i) c).length
  | none => (cl A classes i).length

theorem metN_first (A : Auto σ) (classes : Nat) : metN A classes 0 0 = 1 := by
  unfold metN
  rw [cl_start]
  simp [rowS, cl]

variable {A : Auto σ} {classes n i : Nat}

/-- the next one's turn begins with what has been met -/
theorem metN_next (h : Over A classes n) (hi : i < (cl A classes n).length) : metN A classes (i + 1) 0 = metN A classes i classes := by
  have hs := over_get h (List.getElem?_eq_getElem hi)
  have e : cl A classes (i + 1) = rowS A (cl A classes n)[i] (cl A classes i) classes := by rw [cl, hs]
  have e2 : metN A classes i classes = (cl A classes (i + 1)).length := by unfold metN; rw [hs, e]
  rw [e2]
  unfold metN
  split
  · rfl
  · rfl

/-- a way leads to one that has been met, or to the next one -/
theorem metN_step (h : Over A classes n) (hi : i < (cl A classes n).length) {c : Nat} (hc : c < classes) :
    goN (nextsOf A classes (cl A classes n)) i c ≤ metN A classes i c ∧ metN A classes i (c + 1) = if goN (nextsOf A classes (cl A classes n)) i c = metN A classes i c then metN A classes i c + 1 else metN A classes i c := by
  have hg := List.getElem?_eq_getElem hi
  have hs := over_get h hg
  have hin : i + 1 ≤ n := by unfold Over at h; omega
  rw [nextsOf_go hg hc, row_place hs hc (cl_mono A classes hin)]
  unfold metN
  rw [hs]
  refine ⟨place_le _ _, ?_⟩
  show (rowS A _ _ (c + 1)).length = _
  rw [rowS, put_length]

/-- one whose turn it is has been met -/
theorem metN_gt (h : Over A classes n) (hi : i < (cl A classes n).length) : i < metN A classes i 0 := by
  have hs := over_get h (List.getElem?_eq_getElem hi)
  have hl := (List.getElem?_eq_some_iff.1 hs).1
  unfold metN
  rw [hs]
  exact hl

/-- at last all have been met -/
theorem metN_last (h : Over A classes n) : metN A classes (cl A classes n).length 0 = (cl A classes n).length := by
  have hle : (cl A classes n).length ≤ n := h
  have h1 := (cl_mono A classes hle).length_le
  have ho : Over A classes (cl A classes n).length := h1
  have e : cl A classes (cl A classes n).length = cl A classes n := over_same ho h
  unfold metN
  rw [e, List.getElem?_eq_none (Nat.le_refl _)]

end
end Go.Proofs.Ytmooflmhbpckjaa

/-
  dfa, plain: what is built of one set, what a machine tells by its bits, how many situations one expression has. No program, no condition beyond what each theorem names.
-/
set_option linter.unusedVariables false
set_option linter.unusedSimpArgs false
namespace Go.Proofs.Ytmooflmhbpckjaa
open Classical

/-! ### bits -/
theorem lang_map {σ β γ : Type} (A : Auto σ) (out : σ → β) (f : β → γ) (classes : Nat) (s : σ) : langA A (fun s => f (out s)) classes s = fun t => (langA A out classes s t).map f := by
  funext t
  unfold langA
  split <;> rfl
theorem lang_N {l : List (Nd × Bool)} (hl : ∀ e ∈ l, RightX e.1) (classes : Nat) : langA (autoE l) outN classes (autoE l).start = fun t => (tellsE l classes t).map bitsL := by
  have h := lang_map (autoE l) outE bitsL classes (autoE l).start
  rw [lang_E hl] at h
  exact h

/-- a machine that was built: its ways are of its states; behind each row it tells which expressions fit -/
theorem built_bits {l : List (Nd × Bool)} (hl : ∀ e ∈ l, RightX e.1) {classes : Nat} {N : List (List Nat)} {O : List Nat} (h : Built (autoE l) outN classes (some (N, O.map some))) :
    OkN N O classes ∧ 0 < N.length ∧ N.length ≤ 400 ∧ ∀ t : List Nat, (∀ c ∈ t, c < classes) → O[runN N 0 t]? = some (bitsL (l.map fun e => fitsE e.1 e.2 (t.map fun (c : Nat) => (c : Int)))) := by
  rcases h with ⟨h, -⟩ | ⟨hf, hle, he⟩
  · cases h
  obtain ⟨e1, e2⟩ := Prod.mk.inj (Option.some.inj he)
  have ho := canon_over outN hf
  have hpos0 := cl_pos (langAuto (langA (autoE l) outN classes (autoE l).start)) classes 2000
  have hst := cl_start (langAuto (langA (autoE l) outN classes (autoE l).start)) classes 2000
  unfold canonL at hle
  unfold canonNext canonL at e1
  unfold canonOut canonL at e2
  have hct := fun t ht i l' => canon_tells (l0 := langA (autoE l) outN classes (autoE l).start) (n := 2000) ho t ht (i := i) (l := l')
  unfold canonNext canonOut canonL at hct
  generalize 2000 = K at *
  have hlen : N.length = (cl (langAuto (langA (autoE l) outN classes (autoE l).start)) classes K).length := by rw [e1, nextsOf, List.length_map]
  have hok : OkN N (O.map some) classes := by
    rw [e1, e2]
    exact okN_of (fun l => l []) (over_closed ho)
  refine ⟨⟨by rw [hok.len, List.length_map], hok.row⟩, by omega, by omega, fun t ht => ?_⟩
  have h1 : (O.map some)[runN N 0 t]? = some (langA (autoE l) outN classes (autoE l).start t) := by
    rw [e2, e1]
    exact hct t ht 0 _ hst
  rw [lang_N hl] at h1
  have h2 : tellsE l classes t = some (l.map fun e => fitsE e.1 e.2 (t.map fun (c : Nat) => (c : Int))) := by unfold tellsE; rw [if_pos ht]
  simp only [h2] at h1
  rw [List.getElem?_map] at h1
  cases ho2 : O[runN N 0 t]? with
  | none => rw [ho2] at h1; cases h1
  | some o =>
    rw [ho2] at h1
    have h3 := Option.some.inj h1
    rw [Option.map_some] at h3
    exact h3

/-- what Build comes to is one thing -/
theorem built_det {σ β : Type} {A : Auto σ} {out : σ → β} {classes : Nat} {r r' : Option (List (List Nat) × List (Option β))} (h : Built A out classes r) (h' : Built A out classes r') : r = r' := by
  rcases h with ⟨h1, h2⟩ | ⟨h1, h2, h3⟩ <;> rcases h' with ⟨k1, k2⟩ | ⟨k1, k2, k3⟩
  · rw [h1, k1]
  · rcases h2 with h2 | h2
    · exact absurd h2 k1
    · omega
  · rcases k2 with k2 | k2
    · exact absurd k2 h1
    · omega
  · rw [h3, k3]

/-! ### how many situations one expression has -/
def powL : List Int → List (List Int)
  | [] => [[]]
  | a :: r => powL r ++ (powL r).map (a :: ·)
theorem powL_length : ∀ l : List Int, (powL l).length = 2 ^ l.length
  | [] => rfl
  | a :: r => by rw [powL, List.length_append, List.length_map, powL_length r, List.length_cons, Nat.pow_succ]; omega
theorem powL_filter (p : Int → Bool) : ∀ l : List Int, l.filter p ∈ powL l
  | [] => by simp [powL]
  | a :: r => by
    have ih := powL_filter p r
    rw [powL, List.mem_append]
    cases h : p a
    · rw [List.filter_cons_of_neg (by simp [h])]; exact .inl ih
    · rw [List.filter_cons_of_pos h]; exact .inr (List.mem_map.2 ⟨_, ih, rfl⟩)

/-- the states that a situation may have -/
noncomputable def coreL (S : List Sta) : List Int := ((List.range S.length).filter fun k => decide (core S k)).map fun (k : Nat) => (k : Int)
theorem coreL_rises (S : List Sta) : Rises (coreL S) := by
  unfold Rises coreL
  rw [List.pairwise_map]
  exact (List.pairwise_lt_range.filter _).imp (fun h => Int.ofNat_lt.2 h)
theorem mem_coreL {S : List Sta} {v : Int} : v ∈ coreL S ↔ ∃ k : Nat, v = k ∧ k < S.length ∧ core S k := by
  unfold coreL
  rw [List.mem_map]
  constructor
  · rintro ⟨k, hk, rfl⟩
    obtain ⟨h1, h2⟩ := List.mem_filter.1 hk
    exact ⟨k, rfl, List.mem_range.1 h1, of_decide_eq_true h2⟩
  · rintro ⟨k, rfl, h1, h2⟩
    exact ⟨k, List.mem_filter.2 ⟨List.mem_range.2 h1, decide_eq_true h2⟩, rfl⟩
theorem closed_core {S : List Sta} {l : List Int} {v : Int} (h : v ∈ closedL S l) : v ∈ coreL S := by
  obtain ⟨k, rfl, h1, -, h2⟩ := mem_closedL.1 h
  exact mem_coreL.2 ⟨k, rfl, h1, h2⟩
theorem step_core {S : List Sta} {whole : Bool} {s : List Int} {c v : Int} (h : v ∈ stepE S whole s c) : v ∈ coreL S := by
  unfold stepE at h
  split at h
  · exact closed_core h
  · rcases (mem_uniR (fun v hv => closedL_range hv) (fun v hv => closedL_range hv)).1 h with h | h
    · exact closed_core h
    · exact closed_core h
theorem step_rises {S : List Sta} {whole : Bool} {s : List Int} {c : Int} : Rises (stepE S whole s c) := by
  unfold stepE
  split
  · exact closedL_rises _ _
  · exact uniR_rises _ _ _
theorem rises_pow {c s : List Int} (hc : Rises c) (hs : Rises s) (h : ∀ v ∈ s, v ∈ c) : s ∈ powL c := by
  have e : s = c.filter fun v => decide (v ∈ s) := rises_ext hs (hc.filter _) fun v => by
    rw [List.mem_filter]
    exact ⟨fun hv => ⟨h v hv, decide_eq_true hv⟩, fun hv => of_decide_eq_true hv.2⟩
  rw [e]
  exact powL_filter _ c
theorem few_sits (x : Nd) (whole : Bool) (classes : Nat) (h : 2 ^ (coreL (mach x)).length ≤ 2000) : ¬ TooMany (autoE [(x, whole)]) classes := by
  rintro ⟨n, hn⟩
  have hall : ∀ s ∈ cl (autoE [(x, whole)]) classes n, s ∈ (powL (coreL (mach x))).map fun s => [s] := fun s hs => by
    obtain ⟨t, -, rfl⟩ := cl_met _ _ _ s hs
    rw [runA_E [(x, whole)] _ t rfl]
    refine List.mem_map.2 ⟨runE (mach x) whole (t.map fun (c : Nat) => (c : Int)), ?_, rfl⟩
    generalize t.map (fun (c : Nat) => (c : Int)) = row
    rcases List.eq_nil_or_concat row with rfl | ⟨r, c, rfl⟩
    · exact rises_pow (coreL_rises _) (closedL_rises _ _) (fun v hv => closed_core hv)
    · rw [List.concat_eq_append, runE_snoc]
      exact rises_pow (coreL_rises _) step_rises (fun v hv => step_core hv)
  have := sub_len _ _ (cl_nodup _ _ _) hall
  rw [List.length_map, powL_length] at this
  omega

/-! ### of one set -/
def x0 : Nd := .mk 1 [0] []
theorem x0_right : RightX x0 := by
  refine ⟨?_, by simp [x0, cnt, cntL]⟩
  unfold x0 Wf
  refine ⟨by omega, by omega, by simp, by simp, by omega, fun i h => ?_, by simp [WfL]⟩
  have : i = 0 := by simpa using h
  subst this
  simp
theorem fit_x0 (row : List Int) : fitB x0 row = true ↔ row = [0] := by
  rw [fitB_iff, x0, M_1]
  unfold one
  constructor
  · rintro ⟨h1, c, h2, h3⟩
    match row, h1 with
    | [a], _ =>
      simp at h2 h3
      rw [h2, h3]
  · rintro rfl
    exact ⟨rfl, 0, rfl, by simp⟩
theorem tells_x0 (t : List Nat) : fitsE x0 false (t.map fun (c : Nat) => (c : Int)) = decide (t.getLast? = some 0) := by
  unfold fitsE
  rw [if_neg (by simp)]
  rw [Bool.eq_iff_iff, decide_eq_true_iff, decide_eq_true_iff]
  constructor
  · rintro ⟨k, hk, h⟩
    rw [fit_x0] at h
    have h1 := congrArg List.getLast? h
    rw [List.getLast?_drop] at h1
    split at h1
    · cases h1
    · rw [List.getLast?_map] at h1
      cases hg : t.getLast? with
      | none => rw [hg] at h1; cases h1
      | some c =>
        rw [hg] at h1
        have h2 : (c : Int) = 0 := Option.some.inj h1
        have : c = 0 := by omega
        rw [this]
  · intro h
    obtain ⟨r, rfl⟩ : ∃ r, t = r ++ [0] := by
      rcases List.eq_nil_or_concat t with rfl | ⟨r, c, rfl⟩
      · cases h
      · rw [List.concat_eq_append] at h ⊢
        rw [List.getLast?_append] at h
        have : c = 0 := by simpa using h
        exact ⟨r, by rw [this]⟩
    refine ⟨r.length, by simp, ?_⟩
    rw [fit_x0, List.map_append, List.drop_left' (by simp)]
    rfl
end Go.Proofs.Ytmooflmhbpckjaa

/-
  dfa, plain: the machine of one set. No program, no condition beyond what each theorem names.
-/
set_option linter.unusedVariables false
set_option linter.unusedSimpArgs false
namespace Go.Proofs.Ytmooflmhbpckjaa
open Classical

noncomputable def G0 : List Nat → Option Nat := fun t => if ∀ c ∈ t, c < 2 then some (if t.getLast? = some 0 then 1 else 0) else none
noncomputable def G1 : List Nat → Option Nat := fun t => if ∀ c ∈ t, c < 2 then some (if t = [] ∨ t.getLast? = some 0 then 1 else 0) else none

theorem cons_low (c : Nat) (hc : c < 2) (t : List Nat) : (∀ d ∈ c :: t, d < 2) ↔ ∀ d ∈ t, d < 2 := by simp [hc]
theorem last_cons (c : Nat) (t : List Nat) : (c :: t).getLast? = some 0 ↔ (t = [] ∧ c = 0) ∨ t.getLast? = some 0 := by
  cases t with
  | nil => simp
  | cons d r => simp [List.getLast?_cons_cons]
theorem G00 : (fun t => G0 (0 :: t)) = G1 := by
  funext t
  unfold G0 G1
  simp only [cons_low 0 (by omega), last_cons, and_true]
theorem G01 : (fun t => G0 (1 :: t)) = G0 := by
  funext t
  unfold G0
  simp only [cons_low 1 (by omega), last_cons]
  simp
theorem G10 : (fun t => G1 (0 :: t)) = G1 := by
  funext t
  unfold G1
  simp only [cons_low 0 (by omega), last_cons, and_true]
  simp
theorem G11 : (fun t => G1 (1 :: t)) = G0 := by
  funext t
  unfold G0 G1
  simp only [cons_low 1 (by omega), last_cons]
  simp
theorem G_ne : G0 ≠ G1 := fun h => by
  have := congrFun h []
  simp [G0, G1] at this

theorem lang_x0 : langA (autoE [(x0, false)]) outN 2 (autoE [(x0, false)]).start = G0 := by
  rw [lang_N (fun e he => by rw [List.mem_singleton.1 he]; exact x0_right)]
  funext t
  unfold tellsE G0
  split
  · simp only [List.map_cons, List.map_nil, Option.map_some]
    rw [tells_x0]
    by_cases h : t.getLast? = some 0
    · rw [if_pos h, decide_eq_true h]; rfl
    · rw [if_neg h, decide_eq_false h]; rfl
  · rfl

theorem clG1 : cl (langAuto G0) 2 1 = [G0, G1] := by
  have h0 : cl (langAuto G0) 2 0 = [G0] := rfl
  rw [cl, h0]
  show putS (putS [G0] (fun t => G0 (0 :: t))) (fun t => G0 (1 :: t)) = _
  rw [G00, G01]
  have h1 : putS [G0] G1 = [G0, G1] := by rw [putS, if_neg (by simp only [List.mem_singleton]; exact fun h => G_ne h.symm)]; rfl
  rw [h1, putS, if_pos (by simp)]
theorem clG2 : cl (langAuto G0) 2 2 = [G0, G1] := by
  rw [cl, clG1]
  show putS (putS [G0, G1] (fun t => G1 (0 :: t))) (fun t => G1 (1 :: t)) = _
  rw [G10, G11, putS, if_pos (by rw [putS, if_pos (by simp)]; simp), putS, if_pos (by simp)]
theorem canonG : canonL G0 2 2000 = [G0, G1] := by
  unfold canonL
  have ho : Over (langAuto G0) 2 2 := by unfold Over; rw [clG2]; simp
  rw [over_mono ho (by omega), clG2]

theorem placeG0 : place [G0, G1] G0 = 0 := by
  have h := place_own (l := [G0, G1]) (by simp [G_ne]) (i := 0) (by simp)
  exact h
theorem placeG1 : place [G0, G1] G1 = 1 := by
  have h := place_own (l := [G0, G1]) (by simp [G_ne]) (i := 1) (by simp)
  exact h

theorem built_x0 : Built (autoE [(x0, false)]) outN 2 (some ([[1, 0], [1, 0]], [some 0, some 1])) := by
  have hm : (mach x0).length = 2 := by rw [mach_len (Wf_good x0 1 x0_right.1)]; simp [x0, cnt, cntL]
  have hc : (coreL (mach x0)).length ≤ 2 := by
    unfold coreL
    rw [List.length_map, ← hm]
    exact Nat.le_trans (List.length_filter_le _ _) (by simp)
  have hf : ¬ TooMany (autoE [(x0, false)]) 2 := few_sits x0 false 2 (Nat.le_trans (Nat.pow_le_pow_right (by omega) hc) (by omega))
  have hn : canonNext G0 2 2000 = [[1, 0], [1, 0]] := by
    unfold canonNext
    rw [canonG]
    show [[place [G0, G1] (fun t => G0 (0 :: t)), place [G0, G1] (fun t => G0 (1 :: t))], [place [G0, G1] (fun t => G1 (0 :: t)), place [G0, G1] (fun t => G1 (1 :: t))]] = _
    rw [G00, G01, G10, G11, placeG0, placeG1]
  have ho : canonOut G0 2 2000 = [some 0, some 1] := by
    unfold canonOut
    rw [canonG]
    show [G0 [], G1 []] = _
    simp [G0, G1]
  refine .inr ⟨hf, ?_, ?_⟩
  · rw [lang_x0, canonG]; simp
  · rw [lang_x0, hn, ho]
end Go.Proofs.Ytmooflmhbpckjaa

/-
  foolscaplaw08: expressions as arguments; few. No condition beyond what each theorem names.
-/
set_option linter.unusedVariables false
set_option linter.unusedSimpArgs false
set_option maxRecDepth 100000
namespace Go.Proofs.Ytmooflmhbpckjaa
open Go.ChangeShapes Go.WideShapes Go.ChangeAt Go.RowKit Go.Deep

section
variable {H : Type} {enc : TypeId × Value → H} {w : World} {base : Nat} {spare : Nat → Bool} {held : Bool}
theorem cellsBool8 : Try.prog.cellsOf 4 = 1 := by kernel_rfl
theorem cellsNode8 : Try.prog.cellsOf 49 = 3 := by kernel_rfl
theorem cellsExpr8 : Try.prog.cellsOf 79 = 4 := by kernel_rfl

theorem expr_of {fuel : Nat} {cs : List Value} {x : DataW H × List MemPlace} (h : DataW.trod enc Try.prog w base spare held fuel 79 cs = some x) (hs : Sized 79 x.1) : ∃ e, exprE w e cs := by
  obtain ⟨xs, n, rfl, rfl, hl, hlen, hf⟩ := DataW.trod_struct Try.underlying79 h
  rw [cellsExpr8] at hl
  match cs, hl with
  | [c0, c1, c2, c3], _ =>
    have hxl : xs.length = 2 := by simpa using hlen
    have h0 := hf 0 _ rfl
    have h1 := hf 1 _ rfl
    simp only [List.getElem_toArray, List.getElem_cons_zero, List.getElem_cons_succ, cellsNode8, cellsBool8] at h0 h1
    rw [List.getElem?_eq_getElem (show 0 < xs.length by omega)] at h0
    rw [List.getElem?_eq_getElem (show 1 < xs.length by omega)] at h1
    have hsz : ∀ (j : Nat) (t : TypeId) (hj : j < xs.length), [49, 4][j]? = some t → Sized t xs[j].1 := by
      intro j t hj ht n hn
      refine hs n ?_
      simp only [DataW.weights, Try.underlying79]
      exact DataW.weights_mem_each (j := j) (t := t) (d := xs[j].1) (by simpa using ht) (by simp [hj]) n hn
    obtain ⟨x1, a, b, c, e0, hx1⟩ := node_of _ h0 (hsz 0 _ (by omega) rfl)
    obtain ⟨brk, e1, -⟩ := DataW.trod_bool Try.underlying4 h1
    simp at e0 e1
    obtain ⟨rfl, rfl, rfl⟩ := e0
    subst e1
    exact ⟨(x1, brk), _, _, _, rfl, hx1⟩

theorem exprs_of {fuel : Nat} {cs : List Value} {x : DataW H × List MemPlace} (h : DataW.trod enc Try.prog w base spare held fuel 78 cs = some x) (hs : Sized 78 x.1) : ∃ v l, cs = [v] ∧ ReadL (exprE w) 4 w v l ∧ l.length ≤ maxLen := by
  obtain ⟨v, n, rows, D, -, rfl, hrows, -, hm, h4⟩ := slice_of Try.underlying78 (by rw [cellsExpr8]; omega) h hs
  rw [cellsExpr8] at hrows
  have hex : ∀ i, i < rows.length → ∃ e : Nd × Bool, ∃ row, rows[i]? = some row ∧ exprE w e row := by
    intro i hi
    obtain ⟨g1, g2⟩ := h4 i hi
    obtain ⟨e, he⟩ := expr_of g1 g2
    exact ⟨e, _, List.getElem?_eq_getElem hi, he⟩
  have : Inhabited (Nd × Bool) := ⟨(.mk 0 [] [], false)⟩
  obtain ⟨f, hf⟩ := choose_lt hex
  refine ⟨v, (List.range rows.length).map f, rfl, ⟨rows, by simpa using hrows.2, by simp, fun r hr => ?_, fun i hi => ?_⟩, by simpa using hm⟩
  · obtain ⟨i, hi, rfl⟩ := List.getElem_of_mem hr
    obtain ⟨row, g1, a, b, c, rfl, hn⟩ := hf i hi
    rw [List.getElem?_eq_getElem hi] at g1
    rw [Option.some.inj g1]
    obtain ⟨op, p, l, c1, q, m, d, rfl, rfl, rfl⟩ := hn.form
    simp [Value.oneCell']
  · have hi' : i < rows.length := by simpa using hi
    obtain ⟨row, g1, g2⟩ := hf i hi'
    exact ⟨row, g1, by simpa using g2⟩

theorem exprs_open {r : Reach} {b0 : Nat} {v : Value} {d : DataW H} {p : List MemPlace} (hv : Value.okWide Try.prog w r b0 78 v) (h : DataW.Trod enc Try.prog w base spare held 78 v d p) (hs : Sized 78 d) : ∃ l, ReadL (exprE w) 4 w v l ∧ l.length ≤ maxLen := by
  obtain ⟨a0, len0, cap0, rfl⟩ := okWide_slice Try.underlying78 hv
  obtain ⟨fuel, hf⟩ := h
  obtain ⟨v, l, e, h1, h2⟩ := exprs_of hf hs
  simp only [Value.cells, List.cons.injEq, and_true] at e
  subst e
  exact ⟨l, h1, h2⟩
end

/-! ### few -/
/-- not too large -/
def notLarge (x : Nd × Bool) : Bool := decide (countT x.1 ≤ 40) && decide (starsI x.1 ≤ 3)
def fewL (l : List (Nd × Bool)) : List (Nd × Bool) := (l.take 8).filter notLarge
theorem fewL_length (l : List (Nd × Bool)) : (fewL l).length ≤ 8 := by
  unfold fewL
  exact Nat.le_trans (List.length_filter_le _ _) (by rw [List.length_take]; omega)
theorem few_snoc {l : List (Nd × Bool)} {k : Nat} (hk : k < l.length) (h8 : k < 8) : ((l.take 8).take (k + 1)).filter notLarge = ((l.take 8).take k).filter notLarge ++ (if notLarge l[k] then [l[k]] else []) := by
  rw [List.take_succ_eq_append_getElem (by rw [List.length_take]; omega), List.filter_append]
  congr 1
  rw [List.getElem_take]
  cases h : notLarge l[k] <;> simp [List.filter_cons, h]

theorem infoExpr : (Try.prog.info? 71).map (fun i => (i.zero, i.size, i.bytes)) = some (some (.agg #[.int .i64 0, .slice none 0 0, .slice none 0 0, .bool false]), 4, 64) := by kernel_rfl
theorem infoExpr8 : (Try.prog.info? 79).map (fun i => (i.zero, i.size, i.bytes)) = some (some (.agg #[.int .i64 0, .slice none 0 0, .slice none 0 0, .bool false]), 4, 64) := by kernel_rfl

section
variable {ops : Array Oper} {rest : List Oper} {o : Oper} {a : Act} {w : World} {Q : Exit → Act → World → Prop} {base : Nat} {E : Nd × Bool → List Value → Prop}
theorem wpList_append_exprs (hgd : o.guard = none) (s x : Operand) (ho : o.op = .call { callee := .builtin .append, args := #[s, x], argTypes := #[69, 69] })
    (v : Value) (xs : List (Nd × Bool)) (n : Nat) (hn : xs.length = n) (hs : a.eval s = v) (hown : OwnL E 71 4 base w v xs) (xv : Value) (ys : List (Nd × Bool)) (m : Nat) (hm : ys.length = m) (hx : a.eval x = xv) (hr : ReadL E 4 w xv ys) (hlen : n + m ≤ 1000000) (hbase : base ≤ w.heap.size)
    (h : ∀ p c w', OwnL E 71 4 base w' (.slice p (n + m) c) (xs ++ ys) → w.grownBy w' v.ownBlock → ((Value.slice p (n + m) c).ownBlock = v.ownBlock ∨ (Value.slice p (n + m) c).ownBlock = some w.heap.size) → wpList Try.prog ops Q rest (a.put o.dst (.slice p (n + m) c)) w') : wpList Try.prog ops Q (o :: rest) a w := by
  subst hn hm
  obtain ⟨i0, hi, hz0, hz1, hz2⟩ := info_parts infoExpr
  exact wpList_append_L hgd s x 69 ho i0 _ 64 Try.underlying69 hi hz0 hz1 hz2 rfl (by decide) v xs hs hown xv ys hx hr (by unfold maxLen; omega) (by omega) hbase h
theorem wpList_append_exprs8 (hgd : o.guard = none) (s x : Operand) (ho : o.op = .call { callee := .builtin .append, args := #[s, x], argTypes := #[78, 78] })
    (v : Value) (xs : List (Nd × Bool)) (n : Nat) (hn : xs.length = n) (hs : a.eval s = v) (hown : OwnL E 79 4 base w v xs) (xv : Value) (y : Nd × Bool) (hx : a.eval x = xv) (hr : ReadL E 4 w xv [y]) (hlen : n + 1 ≤ 1000000) (hbase : base ≤ w.heap.size)
    (h : ∀ p c w', OwnL E 79 4 base w' (.slice p (n + 1) c) (xs ++ [y]) → w.grownBy w' v.ownBlock → ((Value.slice p (n + 1) c).ownBlock = v.ownBlock ∨ (Value.slice p (n + 1) c).ownBlock = some w.heap.size) → wpList Try.prog ops Q rest (a.put o.dst (.slice p (n + 1) c)) w') : wpList Try.prog ops Q (o :: rest) a w := by
  subst hn
  obtain ⟨i0, hi, hz0, hz1, hz2⟩ := info_parts infoExpr8
  exact wpList_append_L hgd s x 78 ho i0 _ 64 Try.underlying78 hi hz0 hz1 hz2 rfl (by decide) v xs hs hown xv [y] hx hr (by unfold maxLen; simp; omega) (by simp; omega) hbase h
end

def FewPost (w : World) (L : List (Nd × Bool)) (e : Ending) (w' : World) : Prop :=
  ∃ va vb, e = .returned (.tuple #[va, vb]) ∧ OwnL (exprE w) 71 4 w.heap.size w' va L ∧ OwnL (exprE w) 79 4 w.heap.size w' vb L ∧ Below w.heap.size w w'

end Go.Proofs.Ytmooflmhbpckjaa

/-
  Two facts of the program that every row asks for. No condition.
-/
set_option linter.unusedVariables false
namespace Go.Proofs.Ytmooflmhbpckjaa
theorem own : ownKnob Try.prog.godebug = none := by kernel_rfl
theorem laidOut : laidOutB Try.prog = true := by kernel_rfl
end Go.Proofs.Ytmooflmhbpckjaa

/-
  dfa, plain: expressions written otherwise (DfaEqual, DfaEither): they are right, and fit the same. No condition beyond what each theorem names.
-/
set_option linter.unusedVariables false
set_option linter.unusedSimpArgs false
namespace Go.Proofs.Ytmooflmhbpckjaa
open Classical Go.RowKit

mutual
theorem depth_cnt : ∀ x : Nd, depthN x ≤ cnt x
  | .mk op cls ps => by
    have := depth_cntL ps
    simp only [depthN, cnt]
    omega
theorem depth_cntL : ∀ ps : List Nd, depthNL ps ≤ cntL ps
  | [] => by simp [depthNL, cntL]
  | x :: r => by
    have := depth_cnt x
    have := depth_cntL r
    simp only [depthNL, cntL]
    omega
end
theorem small_cnt {x : Nd} (h : RightX x) (hc : countT x ≤ 20) : Small x ∧ cnt x ≤ 20 := by
  have h1 := countT_eq x h.2
  have h2 := depth_cnt x
  exact ⟨⟨h, by omega, by omega⟩, by omega⟩

theorem wf_empty {d : Nat} (hd : d ≤ 30) : Wf d (.mk 0 [] []) := by
  unfold Wf
  exact ⟨by omega, by omega, fun _ => rfl, fun _ => rfl, by omega, rising_nil, by simp only [WfL]⟩
theorem right_alt2 {x y : Nd} (hx : Small x) (hy : Small y) : RightX (.mk 3 [] [x, y]) :=
  ⟨right_two (hx.at (by omega)) (hy.at (by omega)) (by omega) 3 (.inr rfl), by have := hx.cnt; have := hy.cnt; simp only [cnt, cntL]; omega⟩
theorem right_behind {x : Nd} (hx : Small x) : RightX (.mk 2 [] [x, .mk 0 [] []]) :=
  ⟨right_two (hx.at (by omega)) (wf_empty (by omega)) (by omega) 2 (.inl rfl), by have := hx.cnt; simp only [cnt, cntL]; omega⟩
theorem right_more {x : Nd} (hx : Small x) : RightX (.mk 5 [] [.mk 2 [] [x, .mk 4 [] [x]]]) := by
  refine ⟨?_, by have := hx.cnt; simp only [cnt, cntL]; omega⟩
  unfold Wf
  exact ⟨by omega, by omega, fun _ => rfl, by omega, fun _ => rfl, rising_nil, by
    simp only [WfL, and_true]
    exact right_two (hx.at (by omega)) (right_star (hx.at (by omega)) (by omega)) (by omega) 2 (.inl rfl)⟩

theorem argOk_one {n : Int} {l : List (Nd × Bool)} {y : Nd} {b : Bool} (h : ArgOk n l) (hr : RightX y) (hi : insideB n y = true) : ArgOk n [(y, b)] :=
  ⟨h.1, h.2.1, by simp, fun e he => by rw [List.mem_singleton.1 he]; exact ⟨hr, hi⟩⟩

/-- one that fits the same is built to the same -/
theorem built_eq {x y : Nd} {b : Bool} {n : Nat} {m m' : List (List Nat) × List (Option Nat)} (hx : RightX x) (hy : RightX y) (h : ∀ row, fitB x row = fitB y row) (h1 : Built (autoE [(x, b)]) outN n (some m)) (h2 : Built (autoE [(y, b)]) outN n (some m')) : m = m' := by
  refine built_same ?_ h1 h2
  rw [lang_N (fun e he => by rw [List.mem_singleton.1 he]; exact hx), lang_N (fun e he => by rw [List.mem_singleton.1 he]; exact hy), tells_same h]

/-- an argument of one expression -/
theorem one_expr {w : World} {x : Nd} {a b c : Value} (hn : NodeIs w x a b c) (wh : Bool) (T : TypeId) : ReadL (exprE (w.alloc (.cells #[a, b, c, .bool wh] T))) 4 (w.alloc (.cells #[a, b, c, .bool wh] T)) (.slice (some ⟨w.heap.size, 0, none⟩) 1 1) [(x, wh)] := by
  have hn' := hn.to (below_alloc1 w (.cells #[a, b, c, .bool wh] T)) (Nat.le_refl _)
  obtain ⟨op, pp, l, c1, q, m, d, rfl, rfl, rfl⟩ := hn.form
  exact ReadL.one w T (x, wh) [.int .i64 op, .slice pp l c1, .slice q m d, .bool wh] ⟨rfl, by simp [Value.oneCell']⟩ ⟨_, _, _, rfl, hn'⟩

theorem some_pairs {N N2 : List (List Nat)} {O O2 : List Nat} (h : (N, O.map some) = (N2, O2.map some)) : N = N2 ∧ O = O2 := by
  obtain ⟨h1, h2⟩ := Prod.mk.inj h
  exact ⟨h1, (List.map_inj_right (fun x y h => Option.some.inj h)).1 h2⟩
theorem two_allocs (w : World) (o1 o2 : Obj) (W : World) (hW : W = (w.alloc o1).alloc o2) : Below w.heap.size w W ∧ W.heap[w.heap.size]? = some o1 ∧ W.heap[w.heap.size + 1]? = some o2 := by
  have s1 : (w.alloc o1).heap.size = w.heap.size + 1 := by simp
  have b1 := below_alloc1 w o1
  have b2 := below_alloc1 (w.alloc o1) o2
  subst hW
  refine ⟨b1.trans (b2.mono (by omega)), ?_, ?_⟩
  · rw [b2.block _ (by omega)]; exact heap_alloc_new _ _
  · rw [← s1]; exact heap_alloc_new _ _

/-- no expression at all: it fits nothing but the empty row -/
theorem node_none (w : World) : NodeIs w (.mk 0 [] []) (.int .i64 0) (.slice none 0 0) (.slice none 0 0) := by
  rw [nodeIs_iff]
  exact ⟨rfl, Ints.nil _, by unfold R; simp, by unfold R; simp, [], ⟨by simp, none, 0, rfl, by simp, fun h => by simp at h⟩, rfl, fun i h => by simp at h⟩
end Go.Proofs.Ytmooflmhbpckjaa

/-
  dfa, plain: the expression of DfaLimits has just 2^(n+1) languages behind its rows. No program, no condition beyond what each theorem names.
-/
set_option linter.unusedVariables false
set_option linter.unusedSimpArgs false
namespace Go.Proofs.Ytmooflmhbpckjaa
open Classical

def s0 : Nd := .mk 1 [0] []
def s01 : Nd := .mk 1 [0, 1] []
def xN (n : Nat) : Nd := .mk 2 [] (s0 :: List.replicate n s01)

theorem xN_right {n : Nat} (hn : n ≤ 11) : RightX (xN n) := by
  have hc : cntL (List.replicate n s01) = n := by
    clear hn
    induction n with
    | zero => rfl
    | succ k ih => rw [List.replicate_succ, cntL, ih]; simp [s01, cnt, cntL]; omega
  refine ⟨?_, by unfold xN; rw [cnt, cntL, hc]; simp [s0, cnt, cntL]; omega⟩
  unfold xN Wf
  refine ⟨by omega, by omega, fun _ => rfl, by omega, by omega, rising_nil, ?_⟩
  rw [WfL_iff]
  intro y hy
  have r01 : rising [0, 1] := by
    intro i hi
    have h' : i = 0 ∨ i = 1 := by simp at hi; omega
    rcases h' with rfl | rfl <;> simp
  rcases List.mem_cons.1 hy with rfl | hy
  · unfold s0 Wf
    exact ⟨by omega, by omega, by omega, fun _ => rfl, by omega, rising_one 0 (by omega) (by omega), by simp only [WfL]⟩
  · rw [List.eq_of_mem_replicate hy]
    unfold s01 Wf
    exact ⟨by omega, by omega, by omega, fun _ => rfl, by omega, r01, by simp only [WfL]⟩
theorem xN_inside (n : Nat) : insideB 2 (xN n) = true := by
  unfold xN
  rw [insideB, insideL]
  have h : insideL 2 (List.replicate n s01) = true := by
    induction n with
    | zero => rfl
    | succ k ih => rw [List.replicate_succ, insideL, ih]; simp [s01, insideB, insideL]
  rw [h]
  simp [s0, insideB, insideL]

/-- a row of two classes -/
def Two (t : List Nat) : Prop := ∀ c ∈ t, c < 2
theorem seq_s01 {t : List Nat} (ht : Two t) : ∀ (n a b : Nat), a ≤ t.length → (Mseq (t.map fun (c : Nat) => (c : Int)) (List.replicate n s01) a b ↔ b = a + n ∧ b ≤ t.length)
  | 0, a, b, ha => by
    simp only [List.replicate_zero, Mseq]
    constructor
    · rintro rfl; exact ⟨rfl, ha⟩
    · rintro ⟨h, -⟩; omega
  | n + 1, a, b, ha => by
    rw [List.replicate_succ, Mseq]
    constructor
    · rintro ⟨c, h1, h2⟩
      obtain ⟨rfl, u, h3, -⟩ := (M_1 _ _).1 h1
      have h4 := (List.getElem?_eq_some_iff.1 h3).1
      rw [List.length_map] at h4
      obtain ⟨h5, h6⟩ := (seq_s01 ht n _ b (by omega)).1 h2
      exact ⟨by omega, h6⟩
    · rintro ⟨h1, h2⟩
      have hal : a < t.length := by omega
      refine ⟨a + 1, (M_1 _ _).2 ⟨rfl, (t[a] : Int), by rw [List.getElem?_map, List.getElem?_eq_getElem hal]; rfl, ?_⟩, (seq_s01 ht n _ b (by omega)).2 ⟨by omega, h2⟩⟩
      have := ht t[a] (List.getElem_mem _)
      have h7 : t[a] = 0 ∨ t[a] = 1 := by omega
      rcases h7 with h7 | h7 <;> simp [h7]

/-- does it fit some end of a row? -/
theorem fits_xN {n : Nat} {t : List Nat} (ht : Two t) : fitsE (xN n) false (t.map fun (c : Nat) => (c : Int)) = decide ((List.replicate (n + 1) 1 ++ t)[t.length]? = some 0) := by
  unfold fitsE
  rw [if_neg (by simp), Bool.eq_iff_iff, decide_eq_true_iff, decide_eq_true_iff, List.length_map]
  have hM : ∀ k, k ≤ t.length → (fitB (xN n) ((t.map fun (c : Nat) => (c : Int)).drop k) = true ↔ t[k]? = some 0 ∧ t.length = k + 1 + n) := fun k hk => by
    rw [fit_drop (by rw [List.length_map]; exact hk), List.length_map, xN, M_2, Mseq]
    constructor
    · rintro ⟨c, h1, h2⟩
      obtain ⟨rfl, u, h3, h4⟩ := (M_1 _ _).1 h1
      have h5 := (List.getElem?_eq_some_iff.1 h3).1
      rw [List.length_map] at h5
      obtain rfl : u = 0 := by simpa using h4
      obtain ⟨h6, -⟩ := (seq_s01 ht n _ _ (by omega)).1 h2
      rw [List.getElem?_map, List.getElem?_eq_getElem h5] at h3
      have h7 : ((t[k] : Nat) : Int) = 0 := Option.some.inj h3
      exact ⟨by rw [List.getElem?_eq_getElem h5]; congr 1; omega, h6⟩
    · rintro ⟨h1, h2⟩
      refine ⟨k + 1, (M_1 _ _).2 ⟨rfl, 0, by rw [List.getElem?_map, h1]; rfl, by simp⟩, (seq_s01 ht n _ _ (by omega)).2 ⟨h2, Nat.le_refl _⟩⟩
  constructor
  · rintro ⟨k, hk, h⟩
    obtain ⟨h1, h2⟩ := (hM k hk).1 h
    rw [List.getElem?_append_right (by simp; omega), List.length_replicate, show t.length - (n + 1) = k by omega]
    exact h1
  · intro h
    by_cases hl : t.length < n + 1
    · rw [List.getElem?_append_left (by simpa using hl), List.getElem?_replicate, if_pos hl] at h
      cases h
    · rw [List.getElem?_append_right (by simp; omega), List.length_replicate] at h
      exact ⟨t.length - (n + 1), by omega, (hM _ (by omega)).2 ⟨h, by omega⟩⟩

/-- what is left to be told when the last n + 1 were these -/
noncomputable def resW (W : List Nat) : List Nat → Option Nat := fun u => if ∀ c ∈ u, c < 2 then some (if (W ++ u)[u.length]? = some 0 then 1 else 0) else none

theorem lang_xN {n : Nat} (hn : n ≤ 11) : langA (autoE [(xN n, false)]) outN 2 (autoE [(xN n, false)]).start = resW (List.replicate (n + 1) 1) := by
  rw [lang_N (fun e he => by rw [List.mem_singleton.1 he]; exact xN_right hn)]
  funext t
  unfold tellsE resW
  by_cases ht : ∀ c ∈ t, c < 2
  · rw [if_pos ht, if_pos ht]
    simp only [List.map_cons, List.map_nil, fits_xN ht, Option.map_some]
    by_cases h : (List.replicate (n + 1) 1 ++ t)[t.length]? = some 0
    · rw [if_pos h, decide_eq_true h]; rfl
    · rw [if_neg h, decide_eq_false h]; rfl
  · rw [if_neg ht, if_neg ht]; rfl

/-- the last n + 1 of a row -/
def lastW (n : Nat) (t : List Nat) : List Nat := (List.replicate (n + 1) 1 ++ t).drop t.length
theorem run_res {n : Nat} {t : List Nat} (ht : Two t) : runA (langAuto (resW (List.replicate (n + 1) 1))) (resW (List.replicate (n + 1) 1)) t = resW (lastW n t) := by
  funext u
  rw [runLang]
  unfold resW lastW
  by_cases hu : ∀ c ∈ u, c < 2
  · rw [if_pos hu, if_pos (fun c hc => by
      rcases List.mem_append.1 hc with hc | hc
      · exact ht c hc
      · exact hu c hc)]
    have e : (List.replicate (n + 1) 1 ++ (t ++ u))[(t ++ u).length]? = ((List.replicate (n + 1) 1 ++ t).drop t.length ++ u)[u.length]? := by
      have e1 : (List.replicate (n + 1) 1 ++ t).drop t.length ++ u = (List.replicate (n + 1) 1 ++ (t ++ u)).drop t.length := by
        rw [← List.append_assoc, List.drop_append_of_le_length (l₁ := List.replicate (n + 1) 1 ++ t) (by simp)]
      rw [e1, List.getElem?_drop, List.length_append]
    rw [e]
  · rw [if_neg hu, if_neg (fun h => hu (fun c hc => h c (List.mem_append.2 (.inr hc))))]

def wordsN : Nat → List (List Nat)
  | 0 => [[]]
  | k + 1 => (wordsN k).map (0 :: ·) ++ (wordsN k).map (1 :: ·)
theorem words_length : ∀ k, (wordsN k).length = 2 ^ k
  | 0 => rfl
  | k + 1 => by rw [wordsN, List.length_append, List.length_map, List.length_map, words_length k, Nat.pow_succ]; omega
theorem mem_words : ∀ (k : Nat) (t : List Nat), t ∈ wordsN k ↔ t.length = k ∧ Two t
  | 0, t => by
    simp only [wordsN, List.mem_singleton]
    constructor
    · rintro rfl; exact ⟨rfl, fun c hc => by simp at hc⟩
    · rintro ⟨h, -⟩; exact List.eq_nil_of_length_eq_zero h
  | k + 1, t => by
    rw [wordsN, List.mem_append, List.mem_map, List.mem_map]
    constructor
    · rintro (⟨r, hr, rfl⟩ | ⟨r, hr, rfl⟩)
      · obtain ⟨h1, h2⟩ := (mem_words k r).1 hr
        exact ⟨by simp [h1], fun c hc => by
          rcases List.mem_cons.1 hc with rfl | hc
          · omega
          · exact h2 c hc⟩
      · obtain ⟨h1, h2⟩ := (mem_words k r).1 hr
        exact ⟨by simp [h1], fun c hc => by
          rcases List.mem_cons.1 hc with rfl | hc
          · omega
          · exact h2 c hc⟩
    · rintro ⟨h1, h2⟩
      match t, h1 with
      | c :: r, h1 =>
        have hr : r ∈ wordsN k := (mem_words k r).2 ⟨by simpa using h1, fun d hd => h2 d (by simp [hd])⟩
        have hc : c = 0 ∨ c = 1 := by have := h2 c (by simp); omega
        rcases hc with rfl | rfl
        · exact .inl ⟨r, hr, rfl⟩
        · exact .inr ⟨r, hr, rfl⟩
theorem words_nodup : ∀ k, (wordsN k).Nodup
  | 0 => by simp [wordsN]
  | k + 1 => by
    rw [wordsN, List.nodup_append]
    have h : ∀ a : Nat, ((wordsN k).map (a :: ·)).Nodup := fun a => List.Pairwise.map (a :: ·) (fun x y (h : x ≠ y) e => h (by injection e)) (words_nodup k)
    refine ⟨h 0, h 1, fun x hx y hy e => ?_⟩
    obtain ⟨r, -, rfl⟩ := List.mem_map.1 hx
    obtain ⟨r', -, rfl⟩ := List.mem_map.1 hy
    injection e with e1
    omega

theorem res_inj {k : Nat} {W V : List Nat} (hW : W ∈ wordsN k) (hV : V ∈ wordsN k) (h : resW W = resW V) : W = V := by
  obtain ⟨w1, w2⟩ := (mem_words k W).1 hW
  obtain ⟨v1, v2⟩ := (mem_words k V).1 hV
  refine List.ext_getElem (by omega) fun i h1 h2 => ?_
  have h3 := congrFun h (List.replicate i 0)
  unfold resW at h3
  have hz : ∀ c ∈ List.replicate i 0, c < 2 := fun c hc => by rw [List.eq_of_mem_replicate hc]; omega
  rw [if_pos hz, if_pos hz, List.length_replicate, List.getElem?_append_left h1, List.getElem?_append_left h2, List.getElem?_eq_getElem h1, List.getElem?_eq_getElem h2] at h3
  have a1 := w2 W[i] (List.getElem_mem _)
  have a2 := v2 V[i] (List.getElem_mem _)
  have h4 := Option.some.inj h3
  simp only [Option.some.injEq] at h4
  by_cases b1 : W[i] = 0
  · by_cases b2 : V[i] = 0
    · omega
    · rw [if_pos b1, if_neg b2] at h4; omega
  · by_cases b2 : V[i] = 0
    · rw [if_neg b1, if_pos b2] at h4; omega
    · omega

theorem last_word {n : Nat} {t : List Nat} (ht : Two t) : lastW n t ∈ wordsN (n + 1) := by
  refine (mem_words _ _).2 ⟨by unfold lastW; simp, fun c hc => ?_⟩
  unfold lastW at hc
  rcases List.mem_append.1 (List.mem_of_mem_drop hc) with hc | hc
  · rw [List.eq_of_mem_replicate hc]; omega
  · exact ht c hc
theorem last_self {n : Nat} {t : List Nat} (h : t.length = n + 1) : lastW n t = t := by
  unfold lastW
  rw [List.drop_left' (by simp [h])]

theorem res_count {n K : Nat} (ho : Over (langAuto (resW (List.replicate (n + 1) 1))) 2 K) : (cl (langAuto (resW (List.replicate (n + 1) 1))) 2 K).length = 2 ^ (n + 1) := by
  have h1 := sub_len (cl (langAuto (resW (List.replicate (n + 1) 1))) 2 K) ((wordsN (n + 1)).map resW) (cl_nodup _ _ _) (fun l hl => by
    obtain ⟨t, ht, rfl⟩ := cl_met _ _ _ l hl
    refine List.mem_map.2 ⟨lastW n t, last_word ht, ?_⟩
    exact (run_res ht).symm)
  have hinj : ((wordsN (n + 1)).map resW).Nodup := by
    have : ∀ l : List (List Nat), l.Nodup → (∀ x ∈ l, x ∈ wordsN (n + 1)) → (l.map resW).Nodup := by
      intro l
      induction l with
      | nil => intro _ _; simp
      | cons x r ih =>
        intro hn hs
        rw [List.nodup_cons] at hn
        rw [List.map_cons, List.nodup_cons]
        refine ⟨fun h => ?_, ih hn.2 (fun y hy => hs y (by simp [hy]))⟩
        obtain ⟨y, hy, e⟩ := List.mem_map.1 h
        rw [← res_inj (hs y (by simp [hy])) (hs x (by simp)) e] at hn
        exact hn.1 hy
    exact this _ (words_nodup _) (fun x hx => hx)
  have h2 := sub_len ((wordsN (n + 1)).map resW) (cl (langAuto (resW (List.replicate (n + 1) 1))) 2 K) hinj (fun l hl => by
    obtain ⟨t, ht, rfl⟩ := List.mem_map.1 hl
    obtain ⟨t1, t2⟩ := (mem_words _ _).1 ht
    have h3 := over_run ho t t2 (s := (langAuto (resW (List.replicate (n + 1) 1))).start) (List.mem_of_getElem? (cl_start _ _ _))
    have h4 : runA (langAuto (resW (List.replicate (n + 1) 1))) (resW (List.replicate (n + 1) 1)) t ∈ cl (langAuto (resW (List.replicate (n + 1) 1))) 2 K := h3
    rw [run_res t2, last_self t1] at h4
    exact h4)
  rw [List.length_map, words_length] at h1 h2
  omega

/-! ### how many states count -/
def setsC (S : List Sta) : Nat := (S.map (·.set)).count true
theorem setsC_join (L : List Sta) (i : Nat) (ts : List Int) : setsC (joinF L i ts) = setsC L := by
  unfold setsC joinF
  congr 1
  refine List.ext_getElem (by simp) fun j h1 h2 => ?_
  rw [List.getElem_map, List.getElem_map, List.getElem_modify]
  split <;> rfl
theorem setsC_app (L M : List Sta) : setsC (L ++ M) = setsC L + setsC M := by unfold setsC; rw [List.map_append, List.count_append]
theorem setsC_seq : ∀ (ps : List Nd) (L : List Sta) (a : Nat), (∀ p ∈ ps, ∃ c, p = .mk 1 c []) → setsC (seqF ps L a).1 = setsC L + ps.length
  | [], L, a, _ => by rw [seqF]; rfl
  | p :: r, L, a, h => by
    obtain ⟨c, rfl⟩ := h p (by simp)
    rw [seqF, setsC_seq r _ _ (fun q hq => h q (by simp [hq])), setsC_join]
    have : setsC (layF (.mk 1 c []) L) = setsC L + 1 := by
      rw [layF, if_pos rfl, setsC_app, setsC_app]
      rfl
    rw [this, List.length_cons]
    omega
theorem setsC_xN (n : Nat) : setsC (mach (xN n)) = n + 1 := by
  unfold mach xN
  rw [layF, if_neg (by omega), if_neg (by omega), if_pos rfl, setsC_join, setsC_seq _ _ _ (fun p hp => by
    rcases List.mem_cons.1 hp with rfl | hp
    · exact ⟨_, rfl⟩
    · rw [List.eq_of_mem_replicate hp]; exact ⟨_, rfl⟩)]
  have : setsC (([] ++ [z0]) ++ [z0]) = 0 := rfl
  rw [this, List.length_cons, List.length_replicate]
  omega
theorem countP_range (S : List Sta) : ((List.range S.length).filter fun k => (at_ S k).set).length = setsC S := by
  have h : (List.range S.length).map (fun k => (at_ S k).set) = S.map (·.set) := by
    refine List.ext_getElem (by simp) fun j h1 h2 => ?_
    rw [List.getElem_map, List.getElem_map, List.getElem_range]
    have : at_ S j = S[j]'(by simpa using h2) := by unfold at_; rw [List.getD_eq_getElem?_getD, List.getElem?_eq_getElem (by simpa using h2)]; rfl
    rw [this]
  unfold setsC
  rw [← h, List.count, List.countP_map, List.countP_eq_length_filter]
  congr 1
  refine List.filter_congr fun k _ => ?_
  simp
theorem core_few (S : List Sta) : (coreL S).length ≤ setsC S + 1 := by
  unfold coreL
  rw [List.length_map, ← countP_range S]
  have key : ∀ l : List Nat, l.Nodup → (l.filter fun k => decide (core S k)).length ≤ (l.filter fun k => (at_ S k).set).length + (if 1 ∈ l then 1 else 0) := by
    intro l
    induction l with
    | nil => intro _; simp
    | cons x r ih =>
      intro hn
      rw [List.nodup_cons] at hn
      have h := ih hn.2
      by_cases hc : core S x
      · rw [List.filter_cons_of_pos (by simpa using hc), List.length_cons]
        by_cases hs : (at_ S x).set = true
        · rw [List.filter_cons_of_pos (by simpa using hs), List.length_cons]
          by_cases h1 : 1 ∈ r
          · rw [if_pos h1] at h; rw [if_pos (by simp [h1])]; omega
          · rw [if_neg h1] at h; split <;> omega
        · rw [List.filter_cons_of_neg (by simpa using hs)]
          rcases hc with hc | rfl
          · exact (hs hc).elim
          · rw [if_neg hn.1] at h; rw [if_pos (by simp)]; omega
      · rw [List.filter_cons_of_neg (by simpa using hc)]
        have hs : ¬ (at_ S x).set = true := fun h => hc (.inl h)
        rw [List.filter_cons_of_neg (by simpa using hs)]
        by_cases h1 : 1 ∈ r
        · rw [if_pos h1] at h; rw [if_pos (by simp [h1])]; omega
        · rw [if_neg h1] at h; split <;> omega
  refine Nat.le_trans (key _ List.nodup_range) (Nat.add_le_add_left ?_ _)
  split <;> omega

/-! ### what is built -/
theorem limits_some {n : Nat} (hn : n ≤ 11) {N : List (List Nat)} {O : List Nat} (h : Built (autoE [(xN n, false)]) outN 2 (some (N, O.map some))) : O.length = 2 ^ (n + 1) ∧ 2 ^ (n + 1) ≤ 400 := by
  rcases h with ⟨h, -⟩ | ⟨hf, hle, he⟩
  · cases h
  obtain ⟨-, e2⟩ := Prod.mk.inj (Option.some.inj he)
  have ho := canon_over outN hf
  rw [lang_xN hn] at ho hle e2
  unfold canonL at hle
  unfold canonOut canonL at e2
  generalize 2000 = K at *
  have h1 := res_count ho
  have h2 := congrArg List.length e2
  rw [List.length_map, List.length_map] at h2
  omega
theorem limits_none {n : Nat} (hn : n ≤ 11) (h : Built (autoE [(xN n, false)]) outN 2 none) : 400 < 2 ^ (n + 1) := by
  rcases Nat.lt_or_ge 400 (2 ^ (n + 1)) with h4 | h4
  · exact h4
  have h7 : n ≤ 7 := by
    rcases Nat.lt_or_ge 7 n with h8 | h8
    · have : (2 : Nat) ^ 9 ≤ 2 ^ (n + 1) := Nat.pow_le_pow_right (by omega) (by omega)
      omega
    · exact h8
  have hf : ¬ TooMany (autoE [(xN n, false)]) 2 := few_sits _ _ _ (by
    have h1 := core_few (mach (xN n))
    rw [setsC_xN] at h1
    have : (2 : Nat) ^ (coreL (mach (xN n))).length ≤ 2 ^ 9 := Nat.pow_le_pow_right (by omega) (by omega)
    omega)
  rcases h with ⟨-, h⟩ | ⟨-, -, h⟩
  · have ho := canon_over outN hf
    rw [lang_xN hn] at ho h
    unfold canonL at h
    generalize 2000 = K at *
    have h1 := res_count ho
    rcases h with h | h
    · exact (hf h).elim
    · omega
  · cases h
end Go.Proofs.Ytmooflmhbpckjaa

/-
  tables, plain: rules that are all alike cost no states; what is built of a list, when it is. No program, no condition beyond what each theorem names.
-/
set_option linter.unusedVariables false
set_option linter.unusedSimpArgs false
namespace Go.Proofs.Ytmooflmhbpckjaa
open Classical

theorem rep_few (x : Nd) (whole : Bool) (classes m n : Nat) : (cl (autoE (List.replicate m (x, whole))) classes n).length ≤ 2 ^ (coreL (mach x)).length := by
  have hall : ∀ s ∈ cl (autoE (List.replicate m (x, whole))) classes n, s ∈ (powL (coreL (mach x))).map fun s => List.replicate m s := fun s hs => by
    obtain ⟨t, -, rfl⟩ := cl_met _ _ _ s hs
    rw [runA_E (List.replicate m (x, whole)) _ t rfl]
    refine List.mem_map.2 ⟨runE (mach x) whole (t.map fun (c : Nat) => (c : Int)), ?_, by rw [List.map_replicate]⟩
    generalize t.map (fun (c : Nat) => (c : Int)) = row
    rcases List.eq_nil_or_concat row with rfl | ⟨r, c, rfl⟩
    · exact rises_pow (coreL_rises _) (closedL_rises _ _) (fun v hv => closed_core hv)
    · rw [List.concat_eq_append, runE_snoc]
      exact rises_pow (coreL_rises _) step_rises (fun v hv => step_core hv)
  have := sub_len _ _ (cl_nodup _ _ _) hall
  rwa [List.length_map, powL_length] at this

/-- few situations: it is built -/
theorem not_none {l : List (Nd × Bool)} {classes : Nat} (h : ∀ n, (cl (autoE l) classes n).length ≤ 400) : ¬ Built (autoE l) outN classes none := by
  have hf : ¬ TooMany (autoE l) classes := fun ⟨n, hn⟩ => by have := h n; omega
  rintro (⟨-, h1⟩ | ⟨-, -, h1⟩)
  · have h2 := canon_le outN hf
    have h3 := h 2000
    generalize 2000 = K at *
    rcases h1 with h1 | h1
    · exact hf h1
    · omega
  · cases h1

theorem rep_set (c : List Int) (whole : Bool) (classes m : Nat) : ¬ Built (autoE (List.replicate m (.mk 1 c [], whole))) outN classes none := by
  refine not_none fun n => ?_
  have h1 := rep_few (.mk 1 c []) whole classes m n
  have h2 := core_few (mach (.mk 1 c []))
  have h3 : setsC (mach (.mk 1 c [])) = 1 := by
    unfold mach
    rw [layF, if_pos rfl, setsC_app, setsC_app]
    rfl
  rw [h3] at h2
  have h4 : (2 : Nat) ^ (coreL (mach (.mk 1 c []))).length ≤ 2 ^ 2 := Nat.pow_le_pow_right (by omega) h2
  omega
end Go.Proofs.Ytmooflmhbpckjaa

/-
  tables, plain: the machine of the set of class 1. No program, no condition beyond what each theorem names.
-/
set_option linter.unusedVariables false
set_option linter.unusedSimpArgs false
namespace Go.Proofs.Ytmooflmhbpckjaa
open Classical

def x1 : Nd := .mk 1 [1] []
theorem x1_right : RightX x1 := by
  refine ⟨?_, by simp [x1, cnt, cntL]⟩
  unfold x1 Wf
  exact ⟨by omega, by omega, by omega, fun _ => rfl, by omega, rising_one 1 (by omega) (by omega), by simp only [WfL]⟩
theorem fit_x1 (row : List Int) : fitB x1 row = true ↔ row = [1] := by
  rw [fitB_iff, x1, M_1]
  unfold one
  constructor
  · rintro ⟨h1, c, h2, h3⟩
    match row, h1 with
    | [a], _ =>
      simp at h2 h3
      rw [h2, h3]
  · rintro rfl
    exact ⟨rfl, 1, rfl, by simp⟩
theorem tells_x1 (t : List Nat) : fitsE x1 false (t.map fun (c : Nat) => (c : Int)) = decide (t.getLast? = some 1) := by
  unfold fitsE
  rw [if_neg (by simp)]
  rw [Bool.eq_iff_iff, decide_eq_true_iff, decide_eq_true_iff]
  constructor
  · rintro ⟨k, hk, h⟩
    rw [fit_x1] at h
    have h1 := congrArg List.getLast? h
    rw [List.getLast?_drop] at h1
    split at h1
    · cases h1
    · rw [List.getLast?_map] at h1
      cases hg : t.getLast? with
      | none => rw [hg] at h1; cases h1
      | some c =>
        rw [hg] at h1
        have h2 : (c : Int) = 1 := Option.some.inj h1
        have : c = 1 := by omega
        rw [this]
  · intro h
    obtain ⟨r, rfl⟩ : ∃ r, t = r ++ [1] := by
      rcases List.eq_nil_or_concat t with rfl | ⟨r, c, rfl⟩
      · cases h
      · rw [List.concat_eq_append] at h ⊢
        rw [List.getLast?_append] at h
        have : c = 1 := by simpa using h
        exact ⟨r, by rw [this]⟩
    refine ⟨r.length, by simp, ?_⟩
    rw [fit_x1, List.map_append, List.drop_left' (by simp)]
    rfl

noncomputable def H0 : List Nat → Option Nat := fun t => if ∀ c ∈ t, c < 2 then some (if t.getLast? = some 1 then 1 else 0) else none
noncomputable def H1 : List Nat → Option Nat := fun t => if ∀ c ∈ t, c < 2 then some (if t = [] ∨ t.getLast? = some 1 then 1 else 0) else none

theorem cons_low1 (c : Nat) (hc : c < 2) (t : List Nat) : (∀ d ∈ c :: t, d < 2) ↔ ∀ d ∈ t, d < 2 := by simp [hc]
theorem last_cons1 (c : Nat) (t : List Nat) : (c :: t).getLast? = some 1 ↔ (t = [] ∧ c = 1) ∨ t.getLast? = some 1 := by
  cases t with
  | nil => simp
  | cons d r => simp [List.getLast?_cons_cons]
theorem H00 : (fun t => H0 (0 :: t)) = H0 := by
  funext t
  unfold H0
  simp only [cons_low1 0 (by omega), last_cons1]
  simp
theorem H01 : (fun t => H0 (1 :: t)) = H1 := by
  funext t
  unfold H0 H1
  simp only [cons_low1 1 (by omega), last_cons1, and_true]
theorem H10 : (fun t => H1 (0 :: t)) = H0 := by
  funext t
  unfold H0 H1
  simp only [cons_low1 0 (by omega), last_cons1]
  simp
theorem H11 : (fun t => H1 (1 :: t)) = H1 := by
  funext t
  unfold H1
  simp only [cons_low1 1 (by omega), last_cons1, and_true]
  simp
theorem H_ne : H0 ≠ H1 := fun h => by
  have := congrFun h []
  simp [H0, H1] at this

theorem lang_x1 : langA (autoE [(x1, false)]) outN 2 (autoE [(x1, false)]).start = H0 := by
  rw [lang_N (fun e he => by rw [List.mem_singleton.1 he]; exact x1_right)]
  funext t
  unfold tellsE H0
  split
  · simp only [List.map_cons, List.map_nil, Option.map_some]
    rw [tells_x1]
    by_cases h : t.getLast? = some 1
    · rw [if_pos h, decide_eq_true h]; rfl
    · rw [if_neg h, decide_eq_false h]; rfl
  · rfl

theorem clH1 : cl (langAuto H0) 2 1 = [H0, H1] := by
  have h0 : cl (langAuto H0) 2 0 = [H0] := rfl
  rw [cl, h0]
  show putS (putS [H0] (fun t => H0 (0 :: t))) (fun t => H0 (1 :: t)) = _
  rw [H00, H01]
  have h1 : putS [H0] H0 = [H0] := by rw [putS, if_pos (by simp)]
  rw [h1, putS, if_neg (by simp only [List.mem_singleton]; exact fun h => H_ne h.symm)]
  rfl
theorem clH2 : cl (langAuto H0) 2 2 = [H0, H1] := by
  rw [cl, clH1]
  show putS (putS [H0, H1] (fun t => H1 (0 :: t))) (fun t => H1 (1 :: t)) = _
  rw [H10, H11, putS, if_pos (by rw [putS, if_pos (by simp)]; simp), putS, if_pos (by simp)]
theorem canonH : canonL H0 2 2000 = [H0, H1] := by
  unfold canonL
  have ho : Over (langAuto H0) 2 2 := by unfold Over; rw [clH2]; simp
  rw [over_mono ho (by omega), clH2]

theorem placeH0 : place [H0, H1] H0 = 0 := by
  have h := place_own (l := [H0, H1]) (by simp [H_ne]) (i := 0) (by simp)
  exact h
theorem placeH1 : place [H0, H1] H1 = 1 := by
  have h := place_own (l := [H0, H1]) (by simp [H_ne]) (i := 1) (by simp)
  exact h

theorem built_x1 : Built (autoE [(x1, false)]) outN 2 (some ([[0, 1], [0, 1]], [some 0, some 1])) := by
  have hm : (mach x1).length = 2 := by rw [mach_len (Wf_good x1 1 x1_right.1)]; simp [x1, cnt, cntL]
  have hc : (coreL (mach x1)).length ≤ 2 := by
    unfold coreL
    rw [List.length_map, ← hm]
    exact Nat.le_trans (List.length_filter_le _ _) (by simp)
  have hf : ¬ TooMany (autoE [(x1, false)]) 2 := few_sits x1 false 2 (Nat.le_trans (Nat.pow_le_pow_right (by omega) hc) (by omega))
  have hn : canonNext H0 2 2000 = [[0, 1], [0, 1]] := by
    unfold canonNext
    rw [canonH]
    show [[place [H0, H1] (fun t => H0 (0 :: t)), place [H0, H1] (fun t => H0 (1 :: t))], [place [H0, H1] (fun t => H1 (0 :: t)), place [H0, H1] (fun t => H1 (1 :: t))]] = _
    rw [H00, H01, H10, H11, placeH0, placeH1]
  have ho : canonOut H0 2 2000 = [some 0, some 1] := by
    unfold canonOut
    rw [canonH]
    show [H0 [], H1 []] = _
    simp [H0, H1]
  refine .inr ⟨hf, ?_, ?_⟩
  · rw [lang_x1, canonH]; simp
  · rw [lang_x1, hn, ho]
end Go.Proofs.Ytmooflmhbpckjaa

/-
  tables, plain: what Compile comes to. No program, no condition beyond what each theorem names.
-/
set_option linter.unusedVariables false
set_option linter.unusedSimpArgs false
namespace Go.Proofs.Ytmooflmhbpckjaa
open Classical

theorem insideL_all (n : Int) : ∀ ps : List Nd, insideL n ps = ps.all (insideB n)
  | [] => rfl
  | p :: r => by rw [insideL, insideL_all n r, List.all_cons]
theorem inside_rev (n : Int) : ∀ x : Nd, insideB n (revX x) = insideB n x
  | .mk op cls ps => by
    have ih : ∀ p ∈ ps, insideB n (revX p) = insideB n p := fun p hp => by
      have := List.sizeOf_lt_of_mem hp
      exact inside_rev n p
    have h : (revL ps).all (insideB n) = ps.all (insideB n) := by
      rw [revL_map, List.all_map]
      induction ps with
      | nil => rfl
      | cons p r ihr =>
        rw [List.all_cons, List.all_cons, ihr (fun q hq => ih q (by simp [hq]))]
        rw [show (insideB n ∘ revX) p = insideB n p from ih p (by simp)]
    rw [revX, insideB, insideB, insideL_all, insideL_all, ← h]
    split
    · rw [List.all_reverse]
    · rfl
  termination_by x => SizeOf.sizeOf x
  decreasing_by
    simp
    omega

def leftsL (rs : List Rl) : List (Nd × Bool) := rs.map fun r => (r.left, r.start)
def rightsL (rs : List Rl) : List (Nd × Bool) := rs.map fun r => (revX r.right, false)
def breaksL (rs : List Rl) : Nat := bitsL (rs.map fun r => r.brk)
/-- may it be compiled at all? -/
def CompOk (n : Int) (rs : List Rl) : Prop := rs.length ≤ 40 ∧ (∀ r ∈ rs, RightX r.left ∧ RightX r.right) ∧ ArgOk n (leftsL rs) ∧ ArgOk n (rightsL rs)
end Go.Proofs.Ytmooflmhbpckjaa

