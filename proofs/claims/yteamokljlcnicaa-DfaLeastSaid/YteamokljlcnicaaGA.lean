import Derived.ProofKit
import Derived.OpenShut
import Derived.Below
import Derived.Carry
import Derived.Deep.Slices
import Derived.Test.YteamokljlcnicaaMem
import Derived.SizedLaws
import Derived.Test.YteamokljlcnicaaNO
import Derived.IntWalk
import Derived.Test.YteamokljlcnicaaDI
import Derived.Test.YteamokljlcnicaaEMm
import Derived.Test.YteamokljlcnicaaLib
import Derived.KernelRfl
/-
  A law's row out of a walk that ends 'true' and leaves all that was there as it was. Plain theorems over any program; no condition.
-/
set_option linter.unusedVariables false
set_option linter.unusedSimpArgs false
namespace Go.Proofs.Yteamokljlcnicaa
open Go.ChangeShapes Go.WideShapes Go.ChangeAt Go.RowKit
section
variable {H : Type} {enc : TypeId × Value → H} {P : Program}

/-- a law's end: the answer; what was there is as it was -/
def Says (b : Bool) (w : World) (e : Ending) (w' : World) : Prop := e = .returned (.bool b) ∧ Below w.heap.size w w'

theorem trodAll_below (hl : laidOutB P = true) {W W' : World} (hb : Below W.heap.size W W') (sp : Nat → Bool) : ∀ (ts : List TypeId) (vs : List Value) (ds : List (DataW H)) (ps : List MemPlace), (∀ t ∈ ts, P.readableRec t = true ∧ t < P.types.size) →
    DataW.TrodAll enc P W 0 (fun _ => true) true ts vs ds ps → (∀ p ∈ ps, p.block < W.heap.size) → (∀ p ∈ ps, sp p.block = true) → DataW.TrodAll enc P W' 0 sp true ts vs ds ps
  | [], vs, ds, ps, _, h, _, _ => by
    obtain ⟨rfl, rfl, rfl⟩ := trodAll_nil h
    exact trodAll_mk0
  | t :: ts, vs, ds, ps, hp, h, hlt, hsp => by
    obtain ⟨v, vs, d, ds, p, q, rfl, rfl, rfl, h1, h2⟩ := trodAll_cons h
    obtain ⟨hr, hrow⟩ := hp t (by simp)
    exact trodAll_cons_mk (WideElems.Trod_stays hl hr hrow h1 (fun x hx => hb.same (hlt x (by simp [hx]))) (fun x hx => hsp x (by simp [hx])))
      (trodAll_below hl hb sp ts vs ds q (fun t' h' => hp t' (by simp [h'])) h2 (fun x hx => hlt x (by simp [hx])) (fun x hx => hsp x (by simp [hx])))

theorem trodAll_length {W : World} {base : Nat} {spare : Nat → Bool} {held : Bool} : ∀ (ts : List TypeId) (vs : List Value) (ds : List (DataW H)) (ps : List MemPlace), DataW.TrodAll enc P W base spare held ts vs ds ps → ds.length = ts.length
  | [], vs, ds, ps, h => by
    obtain ⟨rfl, rfl, rfl⟩ := trodAll_nil h
    rfl
  | t :: ts, vs, ds, ps, h => by
    obtain ⟨v, vs, d, ds, p, q, rfl, rfl, rfl, h1, h2⟩ := trodAll_cons h
    simp [trodAll_length ts vs ds q h2]

theorem law_post {f : Func} {s : ChangeSpec} {t : TypeId} (hl : laidOutB P = true) (hp : ∀ t ∈ f.params.toList, P.readableRec t = true ∧ t < P.types.size) (hr : f.resultTypes = #[t]) (ht : P.underlying t = some .bool) (hvars : s.vars = [])
    (hs : ∀ ds : List (DataW H), ds.length = f.params.size → (s.fn H (ds ++ [])).results = [.lit (.bool true)] ∧ (s.fn H (ds ++ [])).args = ds ∧ (s.fn H (ds ++ [])).vars = [])
    {W W' : World} {args : Array Value} {ds gs : List (DataW H)} {before : List MemPlace} (hW : DataW.Whole enc P f.params.toList s.vars false W args.toList ds gs before) (hb : Below W.heap.size W W') :
    s.post enc P f false true false false W args (.bool true) W' := by
  have hlt : ∀ p ∈ before, p.block < W.heap.size := fun p hp => hW.lt p hp
  have hW' := hW
  obtain ⟨p, q, hA, hV, rfl, hfz, hnd⟩ := hW
  rw [hvars] at hV
  obtain ⟨rfl, rfl⟩ := trodVars_none hV
  simp only [List.append_nil] at hW' hlt
  have hlen : ds.length = f.params.size := by rw [trodAll_length _ _ _ _ hA]; simp
  obtain ⟨s1, s2, s3⟩ := hs ds hlen
  have hres : ∀ (b : Nat) (sp : Nat → Bool) (hd : Bool), DataW.TrodAll enc P W' b sp hd f.resultTypes.toList ((Value.bool true).resultList f.resultTypes.size) (s.fn H (ds ++ [])).results [] := by
    intro b sp hd
    rw [s1, hr]
    exact trodAll_cons_mk (shut_bool ht _) trodAll_mk0
  have hargs : ∀ sp : Nat → Bool, (∀ x ∈ p, sp x.block = true) → DataW.TrodAll enc P W' 0 sp true f.params.toList args.toList (s.fn H (ds ++ [])).args p := by
    intro sp hsp
    rw [s2]
    exact trodAll_below hl hb sp _ _ _ _ hp hA hlt hsp
  have hvs : ∀ sp : Nat → Bool, DataW.TrodVars enc P W' sp s.vars (s.fn H (ds ++ [])).vars [] := by
    intro sp
    rw [s3, hvars]
    rfl
  have hold : ∀ x ∈ p, (fun b => decide (b < W.heap.size)) x.block = true := fun x hx => by simpa using hlt x hx
  refine ⟨ds, [], p, [], p, [], hW', hres _ _ _, hargs _ hold, hvs _, World.keptBut_mono (fun x hx => ⟨hx, ?_⟩) (hb.frame (· ∈ p)), fun h => by cases h⟩
  simpa using hx
end
end Go.Proofs.Yteamokljlcnicaa

/-
  What arguments read as: numbers, expressions, rules. Plain theorems; no condition.
-/
set_option linter.unusedVariables false
set_option linter.unusedSimpArgs false
set_option maxRecDepth 100000
namespace Go.Proofs.Yteamokljlcnicaa
open Go.ChangeShapes Go.WideShapes Go.ChangeAt Go.RowKit Go.Deep
section
variable {H : Type} {enc : TypeId × Value → H} {w : World} {base : Nat} {spare : Nat → Bool} {held : Bool}
theorem cellsNode : Try.prog.cellsOf 38 = 3 := by kernel_rfl

theorem cellsInt : Try.prog.cellsOf 3 = 1 := by kernel_rfl

theorem cellsBool : Try.prog.cellsOf 4 = 1 := by kernel_rfl

theorem cellsInts : Try.prog.cellsOf 35 = 1 := by kernel_rfl

theorem cellsNodes : Try.prog.cellsOf 36 = 1 := by kernel_rfl

theorem bytesInt : Try.prog.bytesOf 3 = 8 := by kernel_rfl

theorem bytesNode : Try.prog.bytesOf 38 = 56 := by kernel_rfl

/-- what is read is within the reach -/
def Sized (t : TypeId) (d : DataW H) : Prop := ∀ n ∈ DataW.weights Try.prog t d, n ≤ R

theorem weights_all {e : TypeId} : ∀ {l : List (DataW H)} {i : Nat} {d : DataW H}, l[i]? = some d → ∀ n ∈ DataW.weights Try.prog e d, n ∈ DataW.weightsAll Try.prog e l
  | [], i, d, h, n, hn => by simp at h
  | x :: r, 0, d, h, n, hn => by
    simp only [List.getElem?_cons_zero, Option.some.injEq] at h
    subst h
    simp only [DataW.weightsAll, List.mem_append]
    exact .inl hn
  | x :: r, i + 1, d, h, n, hn => by
    simp only [List.getElem?_cons_succ] at h
    simp only [DataW.weightsAll, List.mem_append]
    exact .inr (weights_all h n hn)

theorem add_off (b off j k : Nat) : ((⟨b, off, none⟩ : Addr).add j).add k = ⟨b, off + j + k, none⟩ := by
  unfold Addr.add
  split <;> split <;> simp_all

theorem cells_at {a : Addr} {n sz i : Nat} {cs : List Value} (h : w.cells? base (a.add (i * sz)) sz = some cs) (hs : 0 < sz) : ∃ b off, a.block = b ∧ a.off = off ∧ cs.length = sz ∧ (i = 0 → a.spot = none) ∧ (a.spot = none → cellsAt w b (off + i * sz) cs) := by
  obtain ⟨h1, h2, h3⟩ := World.cells?_some h
  obtain ⟨b, off, spot⟩ := a
  refine ⟨b, off, rfl, rfl, h2, fun hi => ?_, fun hsp j u hu => ?_⟩
  · subst hi
    have := h3 0 hs
    rw [List.getElem?_eq_getElem (by omega)] at this
    simpa [Addr.add] using World.cell?_spot this
  · have hsp' : spot = none := hsp
    subst hsp'
    have hj : j < sz := by have := (List.getElem?_eq_some_iff.1 hu).1; omega
    have := h3 j hj
    rw [hu, add_off] at this
    exact this

theorem slice_rows {e : TypeId} {sz : Nat} (hsz : 0 < sz) {a : Addr} {len : Nat} {F : Nat → List Value} (hx : ∀ i, i < len → w.cells? base (a.add (i * sz)) sz = some (F i)) (cap : Nat) (hc : len ≤ cap) :
    Rows w sz (.slice (some a) len cap) ((List.range len).map F) := by
  refine ⟨fun r hr => ?_, some a, cap, by simp, by simpa using hc, fun h0 => ?_⟩
  · obtain ⟨i, hi, rfl⟩ := List.mem_map.1 hr
    have := (World.cells?_some (hx i (List.mem_range.1 hi))).2.1
    exact this
  · have hl : ∀ r ∈ (List.range len).map F, r.length = sz := fun r hr => by
      obtain ⟨i, hi, rfl⟩ := List.mem_map.1 hr
      exact (World.cells?_some (hx i (List.mem_range.1 hi))).2.1
    rw [flatten_length hl, List.length_map, List.length_range] at h0
    have hpos : 0 < len := Nat.pos_of_mul_pos_right h0
    obtain ⟨b, off, e1, e2, -, hsp, -⟩ := cells_at (n := 0) (hx 0 hpos) hsz
    obtain ⟨b', off', spot⟩ := a
    have hs0 : spot = none := hsp rfl
    subst hs0
    refine ⟨b', off', rfl, fun j u hu => ?_⟩
    have hj := (List.getElem?_eq_some_iff.1 hu).1
    rw [flatten_length hl, List.length_map, List.length_range] at hj
    have hi : j / sz < len := Nat.div_lt_of_lt_mul (by rw [Nat.mul_comm]; exact hj)
    obtain ⟨b2, off2, e3, e4, -, -, hcell⟩ := cells_at (n := 0) (hx (j / sz) hi) hsz
    have hg := flatten_get (rows := (List.range len).map F) (i := j / sz) (row := F (j / sz)) hl (by simp [hi]) (j % sz) (Nat.mod_lt _ hsz)
    rw [show j / sz * sz + j % sz = j by rw [Nat.mul_comm]; exact Nat.div_add_mod j sz, hu] at hg
    have := hcell rfl (j % sz) u hg.symm
    subst e3 e4
    rwa [Nat.add_assoc, show j / sz * sz + j % sz = j by rw [Nat.mul_comm]; exact Nat.div_add_mod j sz] at this

/-- a slice of anything, element by element -/
theorem slice_of {t e : TypeId} {fuel : Nat} {cs : List Value} {x : DataW H × List MemPlace} (ht : Try.prog.underlying t = some (.slice e)) (hpos : 0 < Try.prog.cellsOf e) (h : DataW.trod enc Try.prog w base spare held fuel t cs = some x) (hs : Sized t x.1) :
    ∃ (v : Value) (n : Nat) (rows : List (List Value)) (D : Nat → DataW H × List MemPlace), n < fuel ∧ cs = [v] ∧ Rows w (Try.prog.cellsOf e) v rows ∧ rows.length * Try.prog.bytesOf e ≤ R ∧ rows.length ≤ maxLen ∧
      ∀ i (h : i < rows.length), DataW.trod enc Try.prog w base spare held n e rows[i] = some (D i) ∧ Sized e (D i).1 := by
  rcases DataW.trod_slice ht h with ⟨rfl, rfl⟩ | ⟨a, len, cap, elems, rest, n, rfl, rfl, rfl, hb, hl, hm, hlen, hel, -, -⟩
  · cases fuel with
    | zero => simp [DataW.trod] at h
    | succ n => exact ⟨_, n, [], fun _ => (.nil, []), Nat.lt_succ_self _, rfl, ⟨by simp, none, 0, rfl, by simp, fun h => by simp at h⟩, by simp, by simp, fun i h => by simp at h⟩
  · have hex : ∀ i, i < len → ∃ c : List Value, w.cells? base (a.add (i * Try.prog.cellsOf e)) (Try.prog.cellsOf e) = some c ∧ DataW.trod enc Try.prog w base spare held n e c = elems[i]? := by
      intro i hi
      have := hel i hi
      rw [List.getElem?_eq_getElem (by omega)] at this
      obtain ⟨c, h1, h2⟩ := Option.bind_eq_some_iff.1 this
      exact ⟨c, h1, by rw [h2, List.getElem?_eq_getElem (by omega)]⟩
    obtain ⟨F, hF⟩ := choose_lt hex
    refine ⟨_, n, (List.range len).map F, fun i => elems[i]?.getD (.nil, []), Nat.lt_succ_self _, rfl, slice_rows hpos (e := e) (fun i hi => (hF i hi).1) cap hl, ?_, by simp; omega, fun i hi => ?_⟩
    · have := hs _ (show (elems.length + rest.length) * Try.prog.bytesOf e ∈ _ by simp [DataW.weights, ht])
      simp only [List.length_map, List.length_range]
      rw [← hlen]
      exact Nat.le_trans (Nat.mul_le_mul_right _ (Nat.le_add_right _ _)) this
    · have hi' : i < len := by simpa using hi
      have he : elems[i]? = some elems[i] := List.getElem?_eq_getElem (by omega)
      refine ⟨?_, ?_⟩
      · simp only [List.getElem_map, List.getElem_range, he, Option.getD_some]
        rw [(hF i hi').2, he]
      · intro m hm'
        simp only [he, Option.getD_some] at hm'
        refine hs m ?_
        simp only [DataW.weights, ht, List.mem_cons, List.mem_append]
        exact .inr (.inl (weights_all (i := i) (by simp [he]) m hm'))

theorem ints_of {fuel : Nat} {cs : List Value} {x : DataW H × List MemPlace} (h : DataW.trod enc Try.prog w base spare held fuel 35 cs = some x) (hs : Sized 35 x.1) : ∃ v xs, cs = [v] ∧ Ints w v xs ∧ xs.length * 8 ≤ R ∧ ∀ y ∈ xs, -9223372036854775808 ≤ y ∧ y ≤ 9223372036854775807 := by
  obtain ⟨v, n, rows, D, -, rfl, ⟨h1, h2⟩, h3, -, h4⟩ := slice_of Try.underlying35 (by rw [cellsInt]; omega) h hs
  rw [bytesInt] at h3
  have hex : ∀ i, i < rows.length → ∃ y : Int, rows[i]? = some [.int .i64 y] ∧ -9223372036854775808 ≤ y ∧ y ≤ 9223372036854775807 := by
    intro i hi
    obtain ⟨g, -⟩ := h4 i hi
    obtain ⟨y, e, -, hw⟩ := DataW.trod_int Try.underlying3 g
    refine ⟨y, by rw [List.getElem?_eq_getElem hi, e], ?_⟩
    simp [Lit.wf, IntKind.min, IntKind.max, IntKind.signed, IntKind.bits] at hw
    omega
  obtain ⟨f, hf⟩ := choose_lt hex
  have hfl : rows.flatten = ((List.range rows.length).map f).map (Value.int .i64) := by
    have : rows = (List.range rows.length).map fun i => [.int .i64 (f i)] := by
      apply List.ext_getElem
      · simp
      · intro i g1 g2
        have := (hf i g1).1
        rw [List.getElem?_eq_getElem g1] at this
        simpa using this
    have e : rows.flatten = ((List.range rows.length).map fun i => [Value.int .i64 (f i)]).flatten := congrArg List.flatten this
    rw [e]
    generalize List.range rows.length = l
    induction l with
    | nil => rfl
    | cons x r ih => simp [ih]
  refine ⟨v, (List.range rows.length).map f, rfl, ?_, by simpa using h3, fun y hy => ?_⟩
  · unfold Ints
    rw [← hfl]
    simpa using h2
  · obtain ⟨i, hi, rfl⟩ := List.mem_map.1 hy
    exact (hf i (List.mem_range.1 hi)).2

theorem node_of : ∀ (fuel : Nat) {cs : List Value} {x : DataW H × List MemPlace}, DataW.trod enc Try.prog w base spare held fuel 38 cs = some x → Sized 38 x.1 → ∃ nd a b c, cs = [a, b, c] ∧ NodeIs w nd a b c := by
  intro fuel
  induction fuel using Nat.strongRecOn with
  | _ fuel ih =>
    intro cs x h hs
    obtain ⟨xs, n, rfl, rfl, hl, hlen, hf⟩ := DataW.trod_struct Try.underlying38 h
    rw [cellsNode] at hl
    match cs, hl with
    | [c0, c1, c2], _ =>
      have hxl : xs.length = 3 := by simpa using hlen
      have h0 := hf 0 _ rfl
      have h1 := hf 1 _ rfl
      have h2 := hf 2 _ rfl
      simp only [List.getElem_toArray, List.getElem_cons_zero, List.getElem_cons_succ, cellsInt, cellsInts, cellsNodes] at h0 h1 h2
      rw [List.getElem?_eq_getElem (show 0 < xs.length by omega)] at h0
      rw [List.getElem?_eq_getElem (show 1 < xs.length by omega)] at h1
      rw [List.getElem?_eq_getElem (show 2 < xs.length by omega)] at h2
      have hsz : ∀ (j : Nat) (t : TypeId) (hj : j < xs.length), [3, 35, 36][j]? = some t → Sized t xs[j].1 := by
        intro j t hj ht n hn
        refine hs n ?_
        simp only [DataW.weights, Try.underlying38]
        exact DataW.weights_mem_each (j := j) (t := t) (d := xs[j].1) (by simpa using ht) (by simp [hj]) n hn
      obtain ⟨op, e0, -⟩ := DataW.trod_int Try.underlying3 h0
      obtain ⟨v1, cls, e1, hcls, hcb, -⟩ := ints_of h1 (hsz 1 _ (by omega) rfl)
      obtain ⟨v2, m, rows, D, hm, e2, hrows, hpb, -, hel⟩ := slice_of Try.underlying36 (by rw [cellsNode]; omega) h2 (hsz 2 _ (by omega) rfl)
      simp at e0 e1 e2
      subst e0 e1 e2
      rw [cellsNode] at hrows
      rw [bytesNode] at hpb
      have hex : ∀ i, i < rows.length → ∃ nd : Nd, ∃ a b c, rows[i]? = some [a, b, c] ∧ NodeIs w nd a b c := by
        intro i hi
        obtain ⟨g1, g2⟩ := hel i hi
        obtain ⟨nd, a, b, c, e, hn⟩ := ih m (by omega) g1 g2
        exact ⟨nd, a, b, c, by rw [List.getElem?_eq_getElem hi, e], hn⟩
      have : Inhabited Nd := ⟨.mk 0 [] []⟩
      obtain ⟨f, hf'⟩ := choose_lt hex
      refine ⟨.mk op cls ((List.range rows.length).map f), _, _, _, rfl, ?_⟩
      rw [nodeIs_iff]
      refine ⟨rfl, hcls, hcb, by simpa using hpb, rows, hrows, by simp, fun i hi => ?_⟩
      have hi' : i < rows.length := by simpa using hi
      obtain ⟨a, b, c, g1, g2⟩ := hf' i hi'
      exact ⟨a, b, c, g1, by simpa using g2⟩

theorem sized_arg {ts : List TypeId} {ds : List (DataW H)} (h : (DataW.weightsEach Try.prog ts ds).all (· ≤ reachBytes) = true) (j : Nat) (t : TypeId) (d : DataW H) (ht : ts[j]? = some t) (hd : ds[j]? = some d) : Sized t d := by
  intro n hn
  have := List.all_eq_true.1 h _ (DataW.weights_mem_each ht hd n hn)
  have h2 : decide (n ≤ reachBytes) = true := this
  have h3 : n ≤ reachBytes := of_decide_eq_true h2
  exact h3

theorem ints_open {r : Reach} {b0 : Nat} {v : Value} {d : DataW H} {p : List MemPlace} (hv : Value.okWide Try.prog w r b0 35 v) (h : DataW.Trod enc Try.prog w base spare held 35 v d p) (hs : Sized 35 d) : ∃ xs, Ints w v xs ∧ xs.length * 8 ≤ R ∧ ∀ y ∈ xs, -9223372036854775808 ≤ y ∧ y ≤ 9223372036854775807 := by
  obtain ⟨a0, len0, cap0, rfl⟩ := okWide_slice Try.underlying35 hv
  obtain ⟨fuel, hf⟩ := h
  obtain ⟨v, xs, e, h1, h2⟩ := ints_of hf hs
  simp only [Value.cells, List.cons.injEq, and_true] at e
  subst e
  exact ⟨xs, h1, h2⟩

theorem node_open {r : Reach} {b0 : Nat} {v : Value} {d : DataW H} {p : List MemPlace} (hv : Value.okWide Try.prog w r b0 38 v) (h : DataW.Trod enc Try.prog w base spare held 38 v d p) (hs : Sized 38 d) : ∃ nd a b c, v = .agg #[a, b, c] ∧ NodeIs w nd a b c := by
  obtain ⟨cs, rfl, -⟩ := okWide_struct Try.underlying38 hv
  obtain ⟨fuel, hf⟩ := h
  obtain ⟨nd, a, b, c, e, h1⟩ := node_of fuel hf hs
  refine ⟨nd, a, b, c, ?_, h1⟩
  congr 1
  apply Array.toList_inj.1
  simpa [Value.cells] using e

end
end Go.Proofs.Yteamokljlcnicaa

/-
  Expressions that are built; the small case that must work. No condition beyond what each theorem names.
-/
set_option linter.unusedVariables false
set_option linter.unusedSimpArgs false
namespace Go.Proofs.Yteamokljlcnicaa
open Go.RowKit

theorem nodes_built {w : World} {g : Nat} {cs : List Value} {T : TypeId} (h : w.heap[g]? = some (.cells cs.toArray T)) (ns : List Nd) (rows : List (List Value)) (hr : rows.flatten = cs) (h2 : rows.length = ns.length) (h4 : ∀ i (h : i < ns.length), ∃ x y z, rows[i]? = some [x, y, z] ∧ NodeIs w ns[i] x y z) :
    Nodes w (.slice (some ⟨g, 0, none⟩) ns.length ns.length) ns := by
  subst hr
  refine Nodes.mk (Raw.of_block h) h2 (fun r hr => ?_) h4
  obtain ⟨i, hi, rfl⟩ := List.getElem_of_mem hr
  obtain ⟨x, y, z, h5, h6⟩ := h4 i (by omega)
  rw [List.getElem?_eq_getElem hi] at h5
  rw [Option.some.inj h5]
  obtain ⟨op, p, l, c1, q, m, d, rfl, rfl, rfl⟩ := h6.form
  exact ⟨_, _, _, _, _, _, _, rfl⟩

theorem node_one {w : World} {x : Nd} {a b c : Value} (hx : NodeIs w x a b c) (op : Int) (T : TypeId) : NodeIs (w.alloc (.cells #[a, b, c] T)) (.mk op [] [x]) (.int .i64 op) (.slice none 0 0) (.slice (some ⟨w.heap.size, 0, none⟩) 1 1) := by
  rw [nodeIs_iff]
  refine ⟨rfl, Ints.nil _, by unfold R; simp, by unfold R; simp, nodes_built (cs := [a, b, c]) (heap_alloc_new _ _) [x] [[a, b, c]] rfl rfl fun i hi => ?_⟩
  obtain rfl : i = 0 := by simpa using hi
  exact ⟨a, b, c, rfl, hx.to (below_alloc1 _ _) (Nat.le_refl _)⟩

theorem node_two {w : World} {x y : Nd} {a b c d e f : Value} (hx : NodeIs w x a b c) (hy : NodeIs w y d e f) (op : Int) (T : TypeId) : NodeIs (w.alloc (.cells #[a, b, c, d, e, f] T)) (.mk op [] [x, y]) (.int .i64 op) (.slice none 0 0) (.slice (some ⟨w.heap.size, 0, none⟩) 2 2) := by
  rw [nodeIs_iff]
  refine ⟨rfl, Ints.nil _, by unfold R; simp, by unfold R; simp, nodes_built (cs := [a, b, c, d, e, f]) (heap_alloc_new _ _) [x, y] [[a, b, c], [d, e, f]] rfl rfl fun i hi => ?_⟩
  have hi' : i = 0 ∨ i = 1 := by simp at hi; omega
  rcases hi' with rfl | rfl
  · exact ⟨a, b, c, rfl, hx.to (below_alloc1 _ _) (Nat.le_refl _)⟩
  · exact ⟨d, e, f, rfl, hy.to (below_alloc1 _ _) (Nat.le_refl _)⟩

theorem node_three {w : World} {x y z : Nd} {a b c d e f g h i' : Value} (hx : NodeIs w x a b c) (hy : NodeIs w y d e f) (hz : NodeIs w z g h i') (op : Int) (T : TypeId) : NodeIs (w.alloc (.cells #[a, b, c, d, e, f, g, h, i'] T)) (.mk op [] [x, y, z]) (.int .i64 op) (.slice none 0 0) (.slice (some ⟨w.heap.size, 0, none⟩) 3 3) := by
  rw [nodeIs_iff]
  refine ⟨rfl, Ints.nil _, by unfold R; simp, by unfold R; simp, nodes_built (cs := [a, b, c, d, e, f, g, h, i']) (heap_alloc_new _ _) [x, y, z] [[a, b, c], [d, e, f], [g, h, i']] rfl rfl fun i hi => ?_⟩
  have hi' : i = 0 ∨ i = 1 ∨ i = 2 := by simp at hi; omega
  rcases hi' with rfl | rfl | rfl
  · exact ⟨a, b, c, rfl, hx.to (below_alloc1 _ _) (Nat.le_refl _)⟩
  · exact ⟨d, e, f, rfl, hy.to (below_alloc1 _ _) (Nat.le_refl _)⟩
  · exact ⟨g, h, i', rfl, hz.to (below_alloc1 _ _) (Nat.le_refl _)⟩

theorem new_ok (x : Nd) (w : World) (a b c : Value) (hx : NodeIs w x a b c) (hr : RightX x) : Calls Try.prog 26 #[.agg #[a, b, c]] w fun e w' => ∃ m, e = .returned (.tuple #[.pointer (some ⟨m, 0, none⟩), .int .i64 0]) ∧ MachR w' m (mach x) ∧ Below w.heap.size w w' := by
  refine (new_any x w a b c hx).mono fun e w' ⟨hb, h⟩ => ?_
  rcases h with ⟨-, m, -, he, hm⟩ | ⟨h, -⟩
  · exact ⟨m, he, hm, hb⟩
  · rw [rightB_iff.2 hr] at h; cases h

theorem new_no (x : Nd) (w : World) (a b c : Value) (hx : NodeIs w x a b c) (hr : rightB x = false) : Calls Try.prog 26 #[.agg #[a, b, c]] w fun e w' => e = .returned (.tuple #[.pointer none, .int .i64 1]) ∧ Below w.heap.size w w' := by
  refine (new_any x w a b c hx).mono fun e w' ⟨hb, h⟩ => ?_
  rcases h with ⟨h, -⟩ | ⟨-, he⟩
  · rw [hr] at h; cases h
  · exact ⟨he, hb⟩

def xS : Nd := .mk 2 [] [.mk 1 [1] [], .mk 4 [] [.mk 1 [2] []]]

theorem rising_one (c : Int) (h0 : 0 ≤ c) (h1 : c < 24) : rising [c] := by
  intro i hi
  obtain rfl : i = 0 := by simpa using hi
  exact ⟨h0, h1, fun h => by omega⟩

theorem xS_right : RightX xS := by
  unfold RightX xS
  refine ⟨?_, by simp [cnt, cntL]⟩
  simp only [Wf, WfL, and_true, true_and]
  refine ⟨by omega, by omega, by simp, by simp, by simp, rising_nil, ⟨by omega, by omega, by simp, by simp, by simp, rising_one 1 (by omega) (by omega)⟩, by omega, by omega, by simp, by simp, by simp, rising_nil, by omega, by omega, by simp, by simp, by simp, rising_one 2 (by omega) (by omega)⟩

theorem bad_right : rightB (.mk 4 [] []) = false := by
  cases h : rightB (.mk 4 [] [])
  · rfl
  · have := (rightB_iff.1 h).1
    unfold Wf at this
    have := this.2.2.2.2.1 (.inl rfl)
    simp at this

theorem xS_iff (row : List Int) (q : Nat) : M row xS 0 q ↔ row[0]? = some 1 ∧ Star (fun a b => b = a + 1 ∧ row[a]? = some 2) 1 q := by
  unfold xS
  rw [M_2]
  simp only [Mseq]
  constructor
  · rintro ⟨c, h1, d, h2, rfl⟩
    obtain ⟨rfl, u, h3, h4⟩ := (M_1 _ _).1 h1
    obtain rfl : u = 1 := by simpa using h4
    refine ⟨h3, ((M_4 _ _).1 h2).2.mono fun a b h => ?_⟩
    obtain ⟨rfl, u, h5, h6⟩ := (M_1 _ _).1 (Malt_one.1 h)
    obtain rfl : u = 2 := by simpa using h6
    exact ⟨rfl, h5⟩
  · rintro ⟨h1, h2⟩
    refine ⟨1, (M_1 _ _).2 ⟨rfl, 1, h1, by simp⟩, q, (M_4 _ _).2 ⟨rfl, h2.mono fun a b h => Malt_one.2 ((M_1 _ _).2 ⟨h.1, 2, h.2, by simp⟩)⟩, rfl⟩

theorem xS_fit : fitB xS [1] = true ∧ fitB xS [1, 2, 2] = true ∧ fitB xS [2] = false ∧ fitB xS [] = false := by
  refine ⟨fitB_iff.2 ((xS_iff _ _).2 ⟨rfl, .refl _⟩), fitB_iff.2 ((xS_iff _ _).2 ⟨rfl, .step (.step (.refl _) ⟨rfl, rfl⟩) ⟨rfl, rfl⟩⟩), ?_, ?_⟩
  · cases h : fitB xS [2]
    · rfl
    · have := ((xS_iff _ _).1 (fitB_iff.1 h)).1
      simp at this
  · cases h : fitB xS []
    · rfl
    · have := ((xS_iff _ _).1 (fitB_iff.1 h)).1
      simp at this

end Go.Proofs.Yteamokljlcnicaa

/-
  Reverse: an expression that fits the turned rows. No condition beyond what each theorem names.
-/
set_option linter.unusedVariables false
set_option linter.unusedSimpArgs false
namespace Go.Proofs.Yteamokljlcnicaa
open Go.RowKit

mutual
/-- an expression that fits the turned rows -/
def revX : Nd → Nd
  | .mk op cls ps => .mk op cls (if op = 2 then (revL ps).reverse else revL ps)
def revL : List Nd → List Nd
  | [] => []
  | x :: r => revX x :: revL r
end

theorem revL_map : ∀ (l : List Nd), revL l = l.map revX
  | [] => by simp [revL]
  | x :: r => by simp [revL, revL_map r]

theorem revL_length (l : List Nd) : (revL l).length = l.length := by rw [revL_map]; simp

theorem revL_snoc {ps : List Nd} {k : Nat} (hk : k < ps.length) : revL (ps.take (k + 1)) = revL (ps.take k) ++ [revX ps[k]] := by
  rw [List.take_succ_eq_append_getElem hk, revL_map, revL_map, List.map_append]; rfl

theorem Lies.and {F G : Nat → Prop} {v : Value} {n : Nat} (h : Lies F v n) (g : Lies G v n) : Lies (fun k => F k ∧ G k) v n := fun h0 k hk => ⟨h h0 k hk, g h0 k hk⟩

theorem NodeF.lt {F : Nat → Prop} {w : World} : ∀ (x : Nd) {a b c : Value}, NodeF F w x a b c → NodeF (fun k => F k ∧ k < w.heap.size) w x a b c
  | .mk op cls parts, a, b, c, h => by
    rw [nodeF_iff] at *
    obtain ⟨h1, h2, h2', h3, h4, rows, ⟨h5, h5'⟩, h6, h7, h8⟩ := h
    refine ⟨h1, h2, h2'.and (Raw.lies h2 (by simp)), h3, h4, rows, ⟨h5, h5'⟩, h6.and (Raw.lies h5' (fun h => by rw [flatten_length h5, h7]; omega)), h7, fun i hi => ?_⟩
    obtain ⟨x, y, z, h9, h10⟩ := h8 i hi
    exact ⟨x, y, z, h9, NodeF.lt parts[i] h10⟩
  termination_by x => SizeOf.sizeOf x
  decreasing_by exact Nd.part_lt hi

/-- where the parts lie: from a block on, but not in these -/
def FE (b0 O R : Nat) (w : World) (pv : Value) (k : Nat) : Prop := b0 ≤ k ∧ k < w.heap.size ∧ pv.ownBlock ≠ some k ∧ k ≠ O ∧ k ≠ R

theorem OwnL.rev {F : Nat → Prop} {w : World} {base : Nat} {v : Value} {ns : List Nd} (h : OwnL (nodeE F w) 38 3 base w v ns) : ∃ rows : List (List Value), w.ownsRow base 38 3 v ns.length rows.flatten ∧ rows.length = ns.length ∧ (∀ r ∈ rows, ndRow r) ∧ ∀ i (h : i < ns.length), ∃ x y z, rows[i]? = some [x, y, z] ∧ NodeF F w ns[i] x y z := by
  obtain ⟨rows, h1, h2, h3, h4⟩ := h
  refine ⟨rows, h1, h2, fun r hr => ?_, fun i hi => ?_⟩
  · obtain ⟨i, hi, rfl⟩ := List.getElem_of_mem hr
    obtain ⟨row, g1, a, b, c, rfl, g2⟩ := h4 i (by omega)
    obtain ⟨op, p, l, c1, q, m, d, rfl, rfl, rfl⟩ := (g2.is).form
    rw [List.getElem?_eq_getElem hi] at g1
    exact ⟨_, _, _, _, _, _, _, Option.some.inj g1⟩
  · obtain ⟨row, g1, a, b, c, rfl, g2⟩ := h4 i hi
    exact ⟨a, b, c, g1, g2⟩

/-- what stands behind the first part: the expression, the place of the answer, and the answer so far -/
def OutAt (w : World) (B R : Nat) (xr : Array Value) (op : Int) (cls : List Int) (o : Value) (W : World) : Prop :=
  ∃ (O : Nat) (cv : Value), o = .pointer (some ⟨O, 0, none⟩) ∧ R < O ∧ W.heap[B]? = some (.cells xr 38) ∧ W.heap[R]? = some (.cells #[.int .i64 0, .slice none 0 0, .slice none 0 0] 38) ∧ W.heap[O]? = some (.cells #[.int .i64 op, cv, .slice none 0 0] 38) ∧
    OwnL intE 3 1 w.heap.size W cv cls ∧ Below w.heap.size w W
end Go.Proofs.Yteamokljlcnicaa

/-
  Turned expressions and turned rows. Plain theorems; no program.
-/
set_option linter.unusedVariables false
set_option linter.unusedSimpArgs false
namespace Go.Proofs.Yteamokljlcnicaa

theorem revX_mk (op : Int) (cls : List Int) (ps : List Nd) : revX (.mk op cls ps) = .mk op cls (if op = 2 then (ps.map revX).reverse else ps.map revX) := by
  rw [revX, revL_map]

theorem mem_revX {op : Int} {ps : List Nd} {x : Nd} (hx : x ∈ ps) : revX x ∈ (if op = 2 then (ps.map revX).reverse else ps.map revX) := by
  split
  · simp; exact ⟨x, hx, rfl⟩
  · simp; exact ⟨x, hx, rfl⟩

theorem len_revX {op : Int} {ps : List Nd} : (if op = 2 then (ps.map revX).reverse else ps.map revX).length = ps.length := by
  split <;> simp

/-- what is matched is matched from the end -/
theorem M_rev {t : List Int} {n : Nat} (hn : n = t.length) : ∀ (x : Nd) {a b : Nat}, b ≤ n → M t x a b → M t.reverse (revX x) (n - b) (n - a)
  | .mk op cls parts, a, b, hb, h => by
    have hpart : ∀ x ∈ parts, ∀ a b, b ≤ n → M t x a b → M t.reverse (revX x) (n - b) (n - a) := by
      intro x hx a b hb h
      have := List.sizeOf_lt_of_mem hx
      exact M_rev hn x hb h
    have hseq : ∀ (l : List Nd), (∀ x ∈ l, x ∈ parts) → ∀ a b, b ≤ n → Mseq t l a b → Mseq t.reverse (l.map revX).reverse (n - b) (n - a) := by
      intro l
      induction l with
      | nil => intro _ a b _ h; simp only [Mseq] at h; subst h; simp [Mseq]
      | cons x r ih =>
        intro hm a b hb h
        simp only [Mseq] at h
        obtain ⟨c, h2, h3⟩ := h
        rw [List.map_cons, List.reverse_cons, Mseq_append]
        have hcb := Mseq_le h3
        exact ⟨n - c, ih (fun y hy => hm y (by simp [hy])) _ _ hb h3, Mseq_one.2 (hpart x (hm x (by simp)) _ _ (by omega) h2)⟩
    have halt : ∀ a b, b ≤ n → Malt t parts a b → Malt t.reverse (if op = 2 then (parts.map revX).reverse else parts.map revX) (n - b) (n - a) := by
      intro a b hb h
      obtain ⟨x, hx, h2⟩ := Malt_mem.1 h
      exact Malt_mem.2 ⟨revX x, mem_revX hx, hpart x hx _ _ hb h2⟩
    rw [revX_mk]
    unfold M at h ⊢
    split at h
    · rename_i h0; rw [if_pos h0]; omega
    · rename_i h0; rw [if_neg h0]
      split at h
      · rename_i h2; rw [if_pos h2]
        obtain ⟨rfl, c, h2, h3⟩ := h
        refine ⟨by omega, c, ?_, h3⟩
        rw [List.getElem?_reverse (by omega)]
        rw [← h2]
        congr 1; omega
      · rename_i h2; rw [if_neg h2]
        split at h
        · rename_i h2; rw [if_pos h2, if_pos h2]; exact hseq parts (fun _ h => h) a b hb h
        · rename_i h2; rw [if_neg h2]
          split at h
          · rename_i h2; rw [if_pos h2]; exact halt a b hb h
          · rename_i h2; rw [if_neg h2]
            split at h
            · rename_i h2; rw [if_pos h2]
              refine ⟨by rw [len_revX]; exact h.1, ?_⟩
              obtain ⟨-, h⟩ := h
              induction h with
              | refl => exact .refl _
              | step _ h3 ih => exact Star.head (halt _ _ hb h3) (ih (Nat.le_trans (Malt_le h3) hb))
            · rename_i h2; rw [if_neg h2]
              split at h
              · rename_i h2; rw [if_pos h2]
                refine ⟨by rw [len_revX]; exact h.1, ?_⟩
                rcases h.2 with rfl | h
                · exact .inl rfl
                · exact .inr (halt a b hb h)
              · exact h.elim
  termination_by x => SizeOf.sizeOf x
  decreasing_by all_goals (simp; omega)

theorem rev_rev : ∀ (x : Nd), revX (revX x) = x
  | .mk op cls ps => by
    rw [revX_mk, revX_mk]
    have h : (ps.map revX).map revX = ps := by
      rw [List.map_map]
      conv => rhs; rw [← List.map_id ps]
      refine List.map_congr_left fun x hx => ?_
      have := List.sizeOf_lt_of_mem hx
      exact rev_rev x
    congr 1
    split
    · rw [List.map_reverse, List.reverse_reverse, h]
    · exact h
  termination_by x => SizeOf.sizeOf x
  decreasing_by (simp; omega)

theorem cntL_sum : ∀ (l : List Nd), cntL l = (l.map cnt).sum
  | [] => by simp [cntL]
  | x :: r => by simp [cntL, cntL_sum r]

theorem cnt_rev : ∀ (x : Nd), cnt (revX x) = cnt x
  | .mk op cls ps => by
    have h : (ps.map revX).map cnt = ps.map cnt := by
      rw [List.map_map]
      refine List.map_congr_left fun x hx => ?_
      have := List.sizeOf_lt_of_mem hx
      exact cnt_rev x
    rw [revX_mk]
    simp only [cnt, cntL_sum]
    split
    · rw [List.map_reverse, List.sum_reverse, h]
    · rw [h]
  termination_by x => SizeOf.sizeOf x
  decreasing_by (simp; omega)

theorem Wf_rev : ∀ (x : Nd) (d : Nat), Wf d x → Wf d (revX x)
  | .mk op cls ps, d, h => by
    unfold Wf at h
    obtain ⟨h1, h2, h3, h4, h5, h6, h7⟩ := h
    rw [revX_mk]
    unfold Wf
    refine ⟨h1, h2, h3, fun h => ?_, fun h => by rw [len_revX]; exact h5 h, h6, ?_⟩
    · rw [h4 h]; simp
    · rw [WfL_iff] at h7 ⊢
      intro y hy
      have : ∃ x ∈ ps, revX x = y := by
        split at hy
        · simpa using hy
        · simpa using hy
      obtain ⟨x, hx, rfl⟩ := this
      have := List.sizeOf_lt_of_mem hx
      exact Wf_rev x (d + 1) (h7 x hx)
  termination_by x => SizeOf.sizeOf x
  decreasing_by (simp; omega)

theorem right_rev {x : Nd} (h : RightX x) : RightX (revX x) := ⟨Wf_rev x 1 h.1, by rw [cnt_rev]; exact h.2⟩

theorem rightB_rev (x : Nd) : rightB (revX x) = rightB x := by
  rw [Bool.eq_iff_iff, rightB_iff, rightB_iff]
  exact ⟨fun h => by have := right_rev h; rwa [rev_rev] at this, right_rev⟩

theorem fit_rev (x : Nd) (row : List Int) : fitB (revX x) row.reverse = fitB x row := by
  rw [Bool.eq_iff_iff, fitB_iff, fitB_iff, List.length_reverse]
  constructor
  · intro h
    have := M_rev (t := row.reverse) (n := row.length) (by simp) (revX x) (Nat.le_refl _) h
    rw [List.reverse_reverse, rev_rev] at this
    simpa using this
  · intro h
    have := M_rev (t := row) (n := row.length) rfl x (Nat.le_refl _) h
    simpa using this
end Go.Proofs.Yteamokljlcnicaa

/-
  Count, depth, Stars of an expression. No condition beyond what each theorem names.
-/
set_option linter.unusedVariables false
set_option linter.unusedSimpArgs false
namespace Go.Proofs.Yteamokljlcnicaa
open Go.RowKit

mutual
/-- how many nodes Count tells of: it stops behind four hundred -/
def countT : Nd → Int
  | .mk _ _ ps => countTL 1 ps
def countTL : Int → List Nd → Int
  | a, [] => a
  | a, x :: r => if a ≤ 400 then countTL (wrap64 (a + countT x)) r else a
end

mutual
def depthI : Nd → Int
  | .mk _ _ ps => wrap64 (depthIL 0 ps + 1)
def depthIL : Int → List Nd → Int
  | a, [] => a
  | a, x :: r => depthIL (max a (depthI x)) r
end

mutual
def starsI : Nd → Int
  | .mk op _ ps => if op = 4 then wrap64 (starsIL 0 ps + 1) else starsIL 0 ps
def starsIL : Int → List Nd → Int
  | a, [] => a
  | a, x :: r => starsIL (max a (starsI x)) r
end

theorem depthIL_snoc (a : Int) : ∀ (l : List Nd) (x : Nd), depthIL a (l ++ [x]) = max (depthIL a l) (depthI x)
  | [], x => by simp [depthIL]
  | y :: r, x => by
    simp only [List.cons_append, depthIL]
    exact depthIL_snoc _ r x

theorem starsIL_snoc (a : Int) : ∀ (l : List Nd) (x : Nd), starsIL a (l ++ [x]) = max (starsIL a l) (starsI x)
  | [], x => by simp [starsIL]
  | y :: r, x => by
    simp only [List.cons_append, starsIL]
    exact starsIL_snoc _ r x

/-- Count so far, as long as it goes on -/
def countTo (ps : List Nd) (k : Nat) (a : Int) : Prop := countTL a (ps.drop k) = countTL 1 ps

theorem countTo_step {ps : List Nd} {k : Nat} {a : Int} (hk : k < ps.length) (h : countTo ps k a) (ha : a ≤ 400) : countTo ps (k + 1) (wrap64 (a + countT ps[k])) := by
  unfold countTo at *
  rw [← h, List.drop_eq_getElem_cons hk, countTL, if_pos ha]

theorem countTo_stop {ps : List Nd} {k : Nat} {a : Int} (hk : k < ps.length) (h : countTo ps k a) (ha : ¬ a ≤ 400) : a = countTL 1 ps := by
  unfold countTo at *
  rw [← h, List.drop_eq_getElem_cons hk, countTL, if_neg ha]

theorem countTo_end {ps : List Nd} {k : Nat} {a : Int} (hk : ¬ k < ps.length) (h : countTo ps k a) : a = countTL 1 ps := by
  unfold countTo at *
  rw [← h, List.drop_of_length_le (by omega), countTL]

theorem countTL_eq : ∀ (l : List Nd) (a : Int), 1 ≤ a → (a : Int) + (cntL l : Int) ≤ 400 → (∀ x ∈ l, cnt x ≤ 400 → countT x = cnt x) → countTL a l = a + cntL l
  | [], a, _, _, _ => by simp [countTL, cntL]
  | x :: r, a, h2, h3, h4 => by
    simp only [cntL] at h3 ⊢
    have hx := cnt_pos x
    rw [countTL, if_pos (by omega), h4 x (by simp) (by omega)]
    have e : wrap64 (a + cnt x) = a + cnt x := by
      exact IntWalk.wrap64_in _ (by omega)
    rw [e, countTL_eq r _ (by omega) (by omega) (fun y hy => h4 y (by simp [hy]))]
    omega

theorem countT_eq : ∀ (x : Nd), cnt x ≤ 400 → countT x = cnt x
  | .mk op cls ps, h => by
    simp only [cnt] at h ⊢
    rw [countT, countTL_eq ps 1 (by omega) (by omega) (fun y hy => by
      have := List.sizeOf_lt_of_mem hy
      exact countT_eq y)]
    omega
  termination_by x => SizeOf.sizeOf x
  decreasing_by (simp; omega)

mutual
/-- how deep an expression is -/
def depthN : Nd → Nat
  | .mk _ _ ps => 1 + depthNL ps
def depthNL : List Nd → Nat
  | [] => 0
  | x :: r => max (depthN x) (depthNL r)
end

theorem depthNL_le : ∀ {l : List Nd} {x : Nd}, x ∈ l → depthN x ≤ depthNL l
  | [], x, h => by simp at h
  | y :: r, x, h => by
    simp only [depthNL]
    rcases List.mem_cons.1 h with rfl | h
    · omega
    · have := depthNL_le h; omega

theorem depthNL_bound : ∀ {l : List Nd} {n : Nat}, (∀ x ∈ l, depthN x ≤ n) → depthNL l ≤ n
  | [], n, _ => by simp [depthNL]
  | y :: r, n, h => by
    simp only [depthNL]
    have h1 := h y (by simp)
    have h2 := depthNL_bound (l := r) (n := n) (fun x hx => h x (by simp [hx]))
    omega

theorem depthIL_eq : ∀ (l : List Nd) (a : Nat), (∀ x ∈ l, depthI x = depthN x) → depthIL a l = max a (depthNL l)
  | [], a, _ => by simp [depthIL, depthNL]
  | x :: r, a, h => by
    rw [depthIL, h x (by simp), show max (a : Int) (depthN x : Int) = ((max a (depthN x) : Nat) : Int) by omega, depthIL_eq r _ (fun y hy => h y (by simp [hy]))]
    simp only [depthNL]
    omega

theorem depthI_eq : ∀ (x : Nd), depthN x ≤ 1000 → depthI x = depthN x
  | .mk op cls ps, h => by
    simp only [depthN] at h ⊢
    have e : depthIL 0 ps = depthNL ps := by
      have := depthIL_eq ps 0 (fun y hy => by
        have := List.sizeOf_lt_of_mem hy
        have := depthNL_le hy
        exact depthI_eq y (by omega))
      simpa using this
    rw [depthI, e]
    rw [IntWalk.wrap64_in _ (by omega)]
    omega
  termination_by x => SizeOf.sizeOf x
  decreasing_by (simp; omega)

theorem Wf_depth : ∀ (x : Nd) (d : Nat), Wf d x → d + depthN x ≤ 33
  | .mk op cls ps, d, h => by
    unfold Wf at h
    obtain ⟨h1, -, -, -, -, -, h7⟩ := h
    rw [WfL_iff] at h7
    simp only [depthN]
    have := depthNL_bound (l := ps) (n := 32 - d) (fun y hy => by
      have := List.sizeOf_lt_of_mem hy
      have := Wf_depth y (d + 1) (h7 y hy)
      omega)
    omega
  termination_by x => SizeOf.sizeOf x
  decreasing_by (simp; omega)

theorem Wf_move : ∀ (x : Nd) (d e : Nat), Wf d x → e + depthN x ≤ 33 → Wf e x
  | .mk op cls ps, d, e, h, he => by
    unfold Wf at h ⊢
    obtain ⟨h1, h2, h3, h4, h5, h6, h7⟩ := h
    rw [WfL_iff] at h7 ⊢
    simp only [depthN] at he
    refine ⟨by omega, h2, h3, h4, h5, h6, fun y hy => ?_⟩
    have := List.sizeOf_lt_of_mem hy
    have := depthNL_le hy
    exact Wf_move y (d + 1) (e + 1) (h7 y hy) (by omega)
  termination_by x => SizeOf.sizeOf x
  decreasing_by (simp; omega)

/-- right, of at most a hundred nodes, and not deeper than twenty -/
structure Small (x : Nd) : Prop where
  right : RightX x
  cnt : cnt x ≤ 100
  depth : depthN x ≤ 20

theorem small_of {x : Nd} (h : RightX x) (h1 : countT x ≤ 100) (h2 : depthI x ≤ 20) : Small x := by
  have h3 := Wf_depth x 1 h.1
  rw [countT_eq x h.2] at h1
  rw [depthI_eq x (by omega)] at h2
  exact ⟨h, by omega, by omega⟩


def CountAt (x : Nd) : Prop := ∀ (w : World) (a b c : Value), NodeIs w x a b c →
    Calls Try.prog 18 #[.agg #[a, b, c]] w fun e w' => e = .returned (.int .i64 (countT x)) ∧ Below w.heap.size w w'

set_option maxRecDepth 100000 in
set_option maxHeartbeats 4000000 in
theorem count_step (op : Int) (cls : List Int) (ps : List Nd) (ih : ∀ x ∈ ps, CountAt x) : CountAt (.mk op cls ps) := by
  intro w a b c hx
  have IH := Lib.hid ih
  rw [nodeIs_iff] at hx
  obtain ⟨rfl, hcl, hcb, hpb, hps⟩ := hx
  obtain ⟨pc, capc, rfl, hcc, hxc⟩ := hcl.get
  obtain ⟨pp, capp, rfl, hcp, hxp⟩ := hps.get
  unfold R at hcb hpb
  have HXP := Lib.hid hxp
  clear hcl hps hxc hxp ih
  go_enter Try.func18, Try.ntmps18
  go_upto_region 1 with fail
  refine abs_wp fun W hW => ?_
  obtain ⟨B, hB⟩ : ∃ B, B = w.heap.size := ⟨_, rfl⟩
  have hbox : W.heap[B]? = some (.cells #[.int .i64 op, .slice pc cls.length capc, .slice pp ps.length capp] 38) := by rw [hW, hB]; exact heap_alloc_new _ _
  have hBW : Below w.heap.size w W := by rw [hW]; exact below_alloc1 _ _
  rw [← hB]
  have HBW := Lib.hid hBW
  have HBOX := Lib.hid hbox
  clear hW hbox hB hBW
  go_wp2_with fail
  go_loopw [3, 4] (fun d i wr => ∃ (k : Nat) (a : Int), i = .int .i64 k ∧ k ≤ ps.length ∧ d = .int .i64 a ∧ countTo ps k a ∧ Below W.heap.size W wr) (fun _ i _ => ps.length - (intOf i).toNat)
  case atStart => exact ⟨0, _, rfl, by omega, rfl, by unfold countTo; rw [List.drop_zero], Below.refl _ _⟩
  case round =>
    obtain ⟨k, a, rfl, h1, rfl, hrl, hb⟩ := hrel
    have HRL := Lib.hid hrl
    have HBR := Lib.hid hb
    have hbox := (hb.block _ (at_lt HBOX.out)).trans HBOX.out
    obtain ⟨y0, y1, y2⟩ := cells3 hbox
    have HBWR := Lib.hid (HBW.out.trans (hb.mono HBW.out.size))
    have hbw := HBWR.out
    clear hb hrl hbox
    by_cases hk : k < ps.length
    · obtain ⟨bb, off, rfl, hbl, hxx⟩ := HXP.out (by omega)
      obtain ⟨x, y, z, c0, c1, c2, hnode⟩ := hxx k hk
      have r0 := cell_below hbw hbl c0
      have r1 := cell_below hbw hbl c1
      have r2 := cell_below hbw hbl c2
      have HD := Lib.hid (IH.out ps[k] (List.getElem_mem hk) wr x y z (hnode.to hbw (Nat.le_refl _)))
      have hkk : (k : Int) < ps.length := by omega
      have hk0 : (0 : Int) ≤ k := by omega
      clear hxx c0 c1 c2 hnode hbw
      by_cases ha : a ≤ 400
      · have HST := Lib.hid (countTo_step hk HRL.out ha)
        generalize countT ps[k] = dk at *
        go_wp2_with fail
        refine HD.out.mono ?_
        rintro e w1 ⟨rfl, hb1⟩
        have HB1 := Lib.hid (HBR.out.trans (hb1.mono HBR.out.size))
        clear y0 y1 y2 r0 r1 r2 hb1
        go_wp2_with fail
        go_roundw
        case rel => exact ⟨k + 1, _, by go_num, by omega, rfl, HST.out, HB1.out⟩
        case measure => simp [intOf]; omega
      · have HST := Lib.hid (countTo_stop hk HRL.out ha)
        go_wp2_with fail
        go_ret
        exact ⟨ret_int (by rw [countT]; exact HST.out), HBWR.out⟩
    · have hkk : ¬ (k : Int) < ps.length := by omega
      have HST := Lib.hid (countTo_end hk HRL.out)
      go_wp2_with fail
      go_ret
      exact ⟨ret_int (by rw [countT]; exact HST.out), HBWR.out⟩

theorem count_any : ∀ (x : Nd), CountAt x
  | .mk op cls ps => count_step op cls ps (fun x hx => count_any x)
  termination_by x => SizeOf.sizeOf x
  decreasing_by
    have := List.sizeOf_lt_of_mem hx
    simp; omega

def StarsAt (x : Nd) : Prop := ∀ (w : World) (a b c : Value), NodeIs w x a b c →
    Calls Try.prog 19 #[.agg #[a, b, c]] w fun e w' => e = .returned (.int .i64 (starsI x)) ∧ Below w.heap.size w w'

set_option maxRecDepth 100000 in
set_option maxHeartbeats 4000000 in
theorem stars_step (op : Int) (cls : List Int) (ps : List Nd) (ih : ∀ x ∈ ps, StarsAt x) : StarsAt (.mk op cls ps) := by
  intro w a b c hx
  have IH := Lib.hid ih
  rw [nodeIs_iff] at hx
  obtain ⟨rfl, hcl, hcb, hpb, hps⟩ := hx
  obtain ⟨pc, capc, rfl, hcc, hxc⟩ := hcl.get
  obtain ⟨pp, capp, rfl, hcp, hxp⟩ := hps.get
  unfold R at hcb hpb
  have HXP := Lib.hid hxp
  clear hcl hps hxc hxp ih
  go_enter Try.func19, Try.ntmps19
  go_upto_region 1 with fail
  refine abs_wp fun W hW => ?_
  obtain ⟨B, hB⟩ : ∃ B, B = w.heap.size := ⟨_, rfl⟩
  have hbox : W.heap[B]? = some (.cells #[.int .i64 op, .slice pc cls.length capc, .slice pp ps.length capp] 38) := by rw [hW, hB]; exact heap_alloc_new _ _
  have hBW : Below w.heap.size w W := by rw [hW]; exact below_alloc1 _ _
  rw [← hB]
  have HBW := Lib.hid hBW
  have HBOX := Lib.hid hbox
  clear hW hbox hB hBW
  go_wp2_with fail
  go_loopw [3, 4] (fun d i wr => ∃ (k : Nat) (a : Int), i = .int .i64 k ∧ k ≤ ps.length ∧ d = .int .i64 a ∧ a = starsIL 0 (ps.take k) ∧ Below W.heap.size W wr) (fun _ i _ => ps.length - (intOf i).toNat)
  case atStart => exact ⟨0, _, rfl, by omega, rfl, rfl, Below.refl _ _⟩
  case round =>
    obtain ⟨k, a, rfl, h1, rfl, hrl, hb⟩ := hrel
    have HRL := Lib.hid hrl
    have HBR := Lib.hid hb
    have hbox := (hb.block _ (at_lt HBOX.out)).trans HBOX.out
    obtain ⟨y0, y1, y2⟩ := cells3 hbox
    have HBWR := Lib.hid (HBW.out.trans (hb.mono HBW.out.size))
    have hbw := HBWR.out
    clear hb hrl hbox
    by_cases hk : k < ps.length
    · obtain ⟨bb, off, rfl, hbl, hxx⟩ := HXP.out (by omega)
      obtain ⟨x, y, z, c0, c1, c2, hnode⟩ := hxx k hk
      have r0 := cell_below hbw hbl c0
      have r1 := cell_below hbw hbl c1
      have r2 := cell_below hbw hbl c2
      have HD := Lib.hid (IH.out ps[k] (List.getElem_mem hk) wr x y z (hnode.to hbw (Nat.le_refl _)))
      have hkk : (k : Int) < ps.length := by omega
      have hk0 : (0 : Int) ≤ k := by omega
      clear hxx c0 c1 c2 hnode hbw
      have HST := Lib.hid (show max a (starsI ps[k]) = starsIL 0 (ps.take (k + 1)) by rw [List.take_succ_eq_append_getElem hk, starsIL_snoc, HRL.out])
      generalize starsI ps[k] = dk at *
      go_wp2_with fail
      refine HD.out.mono ?_
      rintro e w1 ⟨rfl, hb1⟩
      have HB1 := Lib.hid (HBR.out.trans (hb1.mono HBR.out.size))
      clear y0 y1 y2 r0 r1 r2 hb1
      go_wp2_with fail
      all_goals
        go_roundw
        case rel => exact ⟨k + 1, _, by go_num, by omega, rfl, by first | exact HST.out | (rw [← HST.out]; omega), HB1.out⟩
        case measure => simp [intOf]; omega
    · have hkk : ¬ (k : Int) < ps.length := by omega
      have hke : ps.take k = ps := List.take_of_length_le (by omega)
      have HF := Lib.hid (show a = starsIL 0 ps by have h := HRL.out; rwa [hke] at h)
      clear hke
      by_cases h4 : op = 4
      · subst h4
        go_wp2_with fail
        go_ret
        exact ⟨ret_int (by rw [starsI, if_pos rfl, ← HF.out]), HBWR.out⟩
      · have h4' : (op == 4) = false := by simp [h4]
        have H4 := Lib.hid h4
        clear h4
        go_wp2_with fail
        go_ret
        exact ⟨ret_int (by rw [starsI, if_neg H4.out, ← HF.out]), HBWR.out⟩

theorem stars_any : ∀ (x : Nd), StarsAt x
  | .mk op cls ps => stars_step op cls ps (fun x hx => stars_any x)
  termination_by x => SizeOf.sizeOf x
  decreasing_by
    have := List.sizeOf_lt_of_mem hx
    simp; omega
end Go.Proofs.Yteamokljlcnicaa

/-
  small, fits; what expressions that are put together fit. No condition beyond what each theorem names.
-/
set_option linter.unusedVariables false
set_option linter.unusedSimpArgs false
namespace Go.Proofs.Yteamokljlcnicaa
open Go.RowKit

/-- what is matched is matched in another text that reads the same elsewhere -/
theorem M_move {t u : List Int} (g : Nat → Nat) : ∀ (x : Nd) (a b : Nat), (∀ k, a ≤ k → k < b → t[g k]? = u[k]? ∧ g (k + 1) = g k + 1) → M u x a b → M t x (g a) (g b)
  | .mk op cls parts, a, b, hg, h => by
    have hpart : ∀ x ∈ parts, ∀ a b, (∀ k, a ≤ k → k < b → t[g k]? = u[k]? ∧ g (k + 1) = g k + 1) → M u x a b → M t x (g a) (g b) := by
      intro x hx a b hg h
      have := List.sizeOf_lt_of_mem hx
      exact M_move g x a b hg h
    have hseq : ∀ (l : List Nd), (∀ x ∈ l, x ∈ parts) → ∀ a b, (∀ k, a ≤ k → k < b → t[g k]? = u[k]? ∧ g (k + 1) = g k + 1) → Mseq u l a b → Mseq t l (g a) (g b) := by
      intro l
      induction l with
      | nil => intro _ a b _ h; simp only [Mseq] at h ⊢; rw [h]
      | cons x r ih =>
        intro hm a b hg h
        simp only [Mseq] at h ⊢
        obtain ⟨c, h2, h3⟩ := h
        have l1 := M_le h2
        have l2 := Mseq_le h3
        exact ⟨g c, hpart x (hm x (by simp)) _ _ (fun k h1 h2 => hg k h1 (by omega)) h2, ih (fun y hy => hm y (by simp [hy])) _ _ (fun k h1 h2 => hg k (by omega) h2) h3⟩
    have halt : ∀ a b, (∀ k, a ≤ k → k < b → t[g k]? = u[k]? ∧ g (k + 1) = g k + 1) → Malt u parts a b → Malt t parts (g a) (g b) := by
      intro a b hg h
      obtain ⟨x, hx, h2⟩ := Malt_mem.1 h
      exact Malt_mem.2 ⟨x, hx, hpart x hx _ _ hg h2⟩
    unfold M at h ⊢
    split at h
    · rename_i h0; rw [if_pos h0, h]
    · rename_i h0; rw [if_neg h0]
      split at h
      · rename_i h2; rw [if_pos h2]
        obtain ⟨rfl, c, h2, h3⟩ := h
        obtain ⟨g1, g2⟩ := hg a (Nat.le_refl _) (by omega)
        exact ⟨g2, c, by rw [g1]; exact h2, h3⟩
      · rename_i h2; rw [if_neg h2]
        split at h
        · rename_i h2; rw [if_pos h2]; exact hseq parts (fun _ h => h) a b hg h
        · rename_i h2; rw [if_neg h2]
          split at h
          · rename_i h2; rw [if_pos h2]; exact halt a b hg h
          · rename_i h2; rw [if_neg h2]
            split at h
            · rename_i h2; rw [if_pos h2]
              refine ⟨h.1, ?_⟩
              obtain ⟨-, h⟩ := h
              have key : ∀ {a b}, Star (Malt u parts) a b → (∀ k, a ≤ k → k < b → t[g k]? = u[k]? ∧ g (k + 1) = g k + 1) → a ≤ b ∧ Star (Malt t parts) (g a) (g b) := by
                intro a b h
                induction h with
                | refl => intro _; exact ⟨Nat.le_refl _, .refl _⟩
                | step h4 h3 ih =>
                  intro hg
                  have l1 := Malt_le h3
                  obtain ⟨i1, i2⟩ := ih (fun k h1 h2 => hg k h1 (by omega))
                  exact ⟨by omega, .step i2 (halt _ _ (fun k h1 h2 => hg k (by omega) h2) h3)⟩
              exact (key h hg).2
            · rename_i h2; rw [if_neg h2]
              split at h
              · rename_i h2; rw [if_pos h2]
                refine ⟨h.1, ?_⟩
                rcases h.2 with rfl | h
                · exact .inl rfl
                · exact .inr (halt a b hg h)
              · exact h.elim
  termination_by x => SizeOf.sizeOf x
  decreasing_by all_goals (simp; omega)

/-- of a row's beginning -/
theorem fit_take {x : Nd} {row : List Int} {k : Nat} (hk : k ≤ row.length) : fitB x (row.take k) = true ↔ M row x 0 k := by
  rw [fitB_iff, List.length_take, Nat.min_eq_left hk]
  constructor
  · exact M_move id x 0 k (fun j h1 h2 => ⟨by simp only [id]; rw [List.getElem?_take_of_lt h2], rfl⟩)
  · exact M_move id x 0 k (fun j h1 h2 => ⟨by simp only [id]; rw [List.getElem?_take_of_lt h2], rfl⟩)

/-- of a row's end -/
theorem fit_drop {x : Nd} {row : List Int} {k : Nat} (hk : k ≤ row.length) : fitB x (row.drop k) = true ↔ M row x k row.length := by
  rw [fitB_iff, List.length_drop]
  constructor
  · intro h
    have := M_move (t := row) (· + k) x 0 (row.length - k) (fun j h1 h2 => ⟨by rw [List.getElem?_drop, Nat.add_comm], by omega⟩) h
    simpa [Nat.sub_add_cancel hk] using this
  · intro h
    have := M_move (t := row.drop k) (· - k) x k row.length (fun j h1 h2 => ⟨by rw [List.getElem?_drop, show k + (j - k) = j by omega], by omega⟩) h
    simpa using this

theorem fit_seq2 {x y : Nd} {row : List Int} : fitB (.mk 2 [] [x, y]) row = true ↔ ∃ k, k ≤ row.length ∧ fitB x (row.take k) = true ∧ fitB y (row.drop k) = true := by
  rw [fitB_iff, M_2]
  simp only [Mseq]
  constructor
  · rintro ⟨c, h1, d, h2, rfl⟩
    have l2 := M_le h2
    exact ⟨c, l2, (fit_take l2).2 h1, (fit_drop l2).2 h2⟩
  · rintro ⟨c, h0, h1, h2⟩
    exact ⟨c, (fit_take h0).1 h1, _, (fit_drop h0).1 h2, rfl⟩

theorem fit_alt2 {x y : Nd} {row : List Int} : fitB (.mk 3 [] [x, y]) row = (fitB x row || fitB y row) := by
  rw [Bool.eq_iff_iff, Bool.or_eq_true, fitB_iff, fitB_iff, fitB_iff, M_3]
  simp [Malt]

theorem fit_opt {x : Nd} {row : List Int} : fitB (.mk 5 [] [x]) row = (fitB x row || decide (row.length = 0)) := by
  rw [Bool.eq_iff_iff, Bool.or_eq_true, fitB_iff, fitB_iff, decide_eq_true_iff, M_5, Malt_one]
  constructor
  · rintro ⟨-, h | h⟩
    · exact .inr h.symm
    · exact .inl h
  · rintro (h | h)
    · exact ⟨rfl, .inr h⟩
    · exact ⟨rfl, .inl h.symm⟩

theorem star_head {r : Nat → Nat → Prop} {a b : Nat} (h : Star r a b) : a = b ∨ ∃ c, r a c ∧ Star r c b := by
  induction h with
  | refl => exact .inl rfl
  | step h1 h2 ih =>
    rcases ih with rfl | ⟨c, h3, h4⟩
    · exact .inr ⟨_, h2, .refl _⟩
    · exact .inr ⟨c, h3, .step h4 h2⟩

theorem fit_star {x : Nd} {row : List Int} : fitB (.mk 4 [] [x]) row = (fitB (.mk 2 [] [x, .mk 4 [] [x]]) row || decide (row.length = 0)) := by
  rw [Bool.eq_iff_iff, Bool.or_eq_true, fitB_iff, fitB_iff, decide_eq_true_iff, M_4, M_2]
  simp only [Mseq]
  constructor
  · rintro ⟨-, h⟩
    rcases star_head h with h | ⟨c, h1, h2⟩
    · exact .inr h.symm
    · exact .inl ⟨c, Malt_one.1 h1, _, (M_4 _ _).2 ⟨rfl, h2⟩, rfl⟩
  · rintro (⟨c, h1, d, h2, rfl⟩ | h)
    · exact ⟨rfl, Star.head (Malt_one.2 h1) ((M_4 _ _).1 h2).2⟩
    · exact ⟨rfl, h ▸ .refl _⟩

theorem Small.at {x : Nd} (h : Small x) {d : Nat} (hd : d ≤ 13) : Wf d x := Wf_move x 1 d h.right.1 (by have := h.depth; omega)

theorem right_one {x : Nd} (h : Small x) (op : Int) (ho : 2 ≤ op ∧ op ≤ 5) : RightX (.mk op [] [x]) := by
  refine ⟨?_, by have := h.cnt; simp only [cnt, cntL]; omega⟩
  unfold Wf
  exact ⟨by omega, by omega, fun _ => rfl, by omega, fun _ => rfl, rising_nil, by simp only [WfL, and_true]; exact h.at (by omega)⟩

/-- two right expressions put together -/
theorem right_two {x y : Nd} {d : Nat} (hx : Wf (d + 1) x) (hy : Wf (d + 1) y) (hd : d ≤ 30) (op : Int) (ho : op = 2 ∨ op = 3) : Wf d (.mk op [] [x, y]) := by
  unfold Wf
  exact ⟨by omega, by omega, fun _ => rfl, by omega, by omega, rising_nil, by simp only [WfL, and_true]; exact ⟨hx, hy⟩⟩

theorem right_three {x y z : Nd} {d : Nat} (hx : Wf (d + 1) x) (hy : Wf (d + 1) y) (hz : Wf (d + 1) z) (hd : d ≤ 30) (op : Int) (ho : op = 2 ∨ op = 3) : Wf d (.mk op [] [x, y, z]) := by
  unfold Wf
  exact ⟨by omega, by omega, fun _ => rfl, by omega, by omega, rising_nil, by simp only [WfL, and_true]; exact ⟨hx, hy, hz⟩⟩

theorem right_star {x : Nd} {d : Nat} (hx : Wf (d + 1) x) (hd : d ≤ 30) : Wf d (.mk 4 [] [x]) := by
  unfold Wf
  exact ⟨by omega, by omega, fun _ => rfl, by omega, fun _ => rfl, rising_nil, by simp only [WfL, and_true]; exact hx⟩

def SmallPost (w : World) (x : Nd) (e : Ending) (w' : World) : Prop := ∃ b : Bool, e = .returned (.bool b) ∧ (b = true → Small x) ∧ Below w.heap.size w w'

end Go.Proofs.Yteamokljlcnicaa

/-
  dfa, plain: expressions in another order, or one that tells nothing new. No program, no condition beyond what each theorem names.
-/
set_option linter.unusedVariables false
set_option linter.unusedSimpArgs false
namespace Go.Proofs.Yteamokljlcnicaa
open Classical

/-- behind a row: the situation of an expression -/
noncomputable def atRow (t : List Nat) (e : Nd × Bool) : List Int := runE (mach e.1) e.2 (t.map fun (c : Nat) => (c : Int))

theorem runA_at (l : List (Nd × Bool)) (t : List Nat) : runA (autoE l) (autoE l).start t = l.map (atRow t) := runA_E l _ t rfl

/-- A LIST OF EXPRESSIONS IN WHICH ANOTHER ONE'S LIE: their automata go together -/
theorem homE {l l' : List (Nd × Bool)} (classes : Nat) (f : List (List Int) → List (List Int)) (hsub : ∀ e ∈ l, e ∈ l') (hf : ∀ t : List Nat, f (l.map (atRow t)) = l'.map (atRow t)) : Hom (autoE l) (autoE l') classes f where
  start := by
    have h := hf []
    exact h
  step := fun t _ c _ => by
    have h1 := runA_at l (t ++ [c])
    have h2 := runA_at l' (t ++ [c])
    rw [runA_snoc] at h1 h2
    rw [h1, hf, ← h2, runA_at l', runA_at l, hf]
  inj := fun t u _ _ h => by
    rw [runA_at, runA_at] at h ⊢
    rw [hf, hf] at h
    apply List.map_congr_left
    intro e he
    exact List.map_inj_left.1 h e (hsub e he)

/-- turned round -/
theorem hom_turn (l : List (Nd × Bool)) (classes : Nat) : Hom (autoE l) (autoE l.reverse) classes List.reverse :=
  homE classes _ (fun e he => List.mem_reverse.2 he) (fun t => by rw [List.map_reverse])

/-- the last one once more -/
theorem hom_again (l : List (Nd × Bool)) (e : Nd × Bool) (classes : Nat) : Hom (autoE (l ++ [e])) (autoE ((l ++ [e]) ++ [e])) classes (fun s => s ++ [s.getLastD []]) :=
  homE classes _ (fun x hx => List.mem_append.2 (.inl hx)) (fun t => by simp)

theorem mach_never : mach (.mk 3 [] []) = layF (.mk 3 [] []) [] := rfl

/-- one that is in the same situation behind each row -/
theorem hom_const (l : List (Nd × Bool)) (e : Nd × Bool) (s0 : List Int) (he : ∀ t, atRow t e = s0) (classes : Nat) : Hom (autoE l) (autoE (l ++ [e])) classes (fun s => s ++ [s0]) :=
  homE classes _ (fun x hx => List.mem_append.2 (.inl hx)) (fun t => by simp [he t])

end Go.Proofs.Yteamokljlcnicaa

/-
  dfa, plain: an expression that never fits is always in the same situation. No program, no condition beyond what each theorem names.
-/
set_option linter.unusedVariables false
set_option linter.unusedSimpArgs false
namespace Go.Proofs.Yteamokljlcnicaa
open Classical

def neverX : Nd := .mk 3 [] []

theorem mach_neverX : mach neverX = [⟨[], false, []⟩, ⟨[], false, []⟩] := by
  unfold neverX mach
  simp [layF, altF, joinF, z0]

theorem closed_none (S : List Sta) : closedL S [] = [] := by
  refine List.eq_nil_iff_forall_not_mem.2 fun v h => ?_
  obtain ⟨k, -, -, ⟨r, h2, -⟩, -⟩ := mem_closedL.1 h
  simp at h2

theorem never_start : closedL (mach neverX) [0] = [] := by
  refine List.eq_nil_iff_forall_not_mem.2 fun v h => ?_
  obtain ⟨k, -, -, ⟨r, h2, h3⟩, h4⟩ := mem_closedL.1 h
  rw [mach_neverX] at h3 h4
  have h0 : r = 0 := by simp at h2; omega
  subst h0
  have hk : k = 0 := by
    cases h3 with
    | refl => rfl
    | @step b _ _ h5 => rcases b with _ | _ | b <;> simp [Free, at_, z0] at h5
  subst hk
  rcases h4 with h4 | h4
  · simp [at_] at h4
  · cases h4

theorem never_row : ∀ (n : Nat) (row : List Int), row.length = n → runE (mach neverX) false row = []
  | 0, row, h => by
    obtain rfl : row = [] := List.eq_nil_of_length_eq_zero h
    exact never_start
  | n + 1, row, h => by
    obtain ⟨r, c, rfl⟩ : ∃ r c, row = r ++ [c] := by
      rcases List.eq_nil_or_concat row with rfl | ⟨r, c, rfl⟩
      · simp at h
      · exact ⟨r, c, by simp⟩
    rw [runE_snoc, never_row n r (by simpa using h)]
    unfold stepE
    rw [if_neg (by simp), never_start]
    have e : closedL (mach neverX) (stepTo (mach neverX) [] c) = [] := closed_none _
    rw [e]
    simp [uniR]

theorem hom_never (l : List (Nd × Bool)) (classes : Nat) : Hom (autoE l) (autoE (l ++ [(neverX, false)])) classes (fun s => s ++ [[]]) :=
  hom_const l (neverX, false) [] (fun t => never_row (t.map fun (c : Nat) => (c : Int)).length (t.map fun (c : Nat) => (c : Int)) rfl) classes

end Go.Proofs.Yteamokljlcnicaa

/-
  dfa, plain: expressions that fit the same (DfaEqual). No program, no condition beyond what each theorem names.
-/
set_option linter.unusedVariables false
set_option linter.unusedSimpArgs false
namespace Go.Proofs.Yteamokljlcnicaa
open Classical

theorem fit_twice (x : Nd) (row : List Int) : fitB (.mk 3 [] [x, x]) row = fitB x row := by
  rw [fit_alt2, Bool.or_self]
theorem fit_behind (x : Nd) (row : List Int) : fitB (.mk 2 [] [x, .mk 0 [] []]) row = fitB x row := by
  rw [Bool.eq_iff_iff, fitB_iff, fitB_iff]
  simp [M, Mseq]
/-- any number of it, as one or more, or none -/
theorem fit_more (x : Nd) (row : List Int) : fitB (.mk 5 [] [.mk 2 [] [x, .mk 4 [] [x]]]) row = fitB (.mk 4 [] [x]) row := by
  rw [fit_opt, fit_star]

/-- what fits the same has the same language -/
theorem tells_same {x y : Nd} (h : ∀ row, fitB x row = fitB y row) (whole : Bool) (classes : Nat) : tellsE [(x, whole)] classes = tellsE [(y, whole)] classes := by
  funext t
  unfold tellsE fitsE
  simp only [List.map_cons, List.map_nil, h]

end Go.Proofs.Yteamokljlcnicaa

/-
  dfa, plain: what a machine that was built tells. No program, no condition beyond what each theorem names.
-/
set_option linter.unusedVariables false
set_option linter.unusedSimpArgs false
namespace Go.Proofs.Yteamokljlcnicaa
open Classical

/-- a machine that was built: its ways are of its states; behind each row it tells which expressions fit -/
theorem built_tells {l : List (Nd × Bool)} (hl : ∀ e ∈ l, RightX e.1) {classes : Nat} {N : List (List Nat)} {O : List (Option (List Bool))} (h : Built (autoE l) outE classes (some (N, O))) :
    OkN N O classes ∧ 0 < N.length ∧ N.length ≤ 400 ∧ ∀ t : List Nat, (∀ c ∈ t, c < classes) → O[runN N 0 t]? = some (some (l.map fun e => fitsE e.1 e.2 (t.map fun (c : Nat) => (c : Int)))) := by
  rcases h with ⟨h, -⟩ | ⟨hf, hle, he⟩
  · cases h
  obtain ⟨e1, e2⟩ := Prod.mk.inj (Option.some.inj he)
  have ho := canon_over outE hf
  have hpos0 := cl_pos (langAuto (langA (autoE l) outE classes (autoE l).start)) classes 2000
  have hst := cl_start (langAuto (langA (autoE l) outE classes (autoE l).start)) classes 2000
  unfold canonL at hle
  unfold canonNext canonL at e1
  unfold canonOut canonL at e2
  have hct := fun t ht i l' => canon_tells (l0 := langA (autoE l) outE classes (autoE l).start) (n := 2000) ho t ht (i := i) (l := l')
  unfold canonNext canonOut canonL at hct
  generalize 2000 = K at *
  have hlen : N.length = (cl (langAuto (langA (autoE l) outE classes (autoE l).start)) classes K).length := by rw [e1, nextsOf, List.length_map]
  refine ⟨?_, by omega, by omega, fun t ht => ?_⟩
  · rw [e1, e2]
    exact okN_of (fun l => l []) (over_closed ho)
  · rw [e1, e2, hct t ht 0 _ hst]
    show some (langA (autoE l) outE classes (autoE l).start t) = _
    rw [lang_E hl, tellsE, if_pos ht]

/-- the beginning of a row leads there from where the rest goes on -/
theorem runN_append (N : List (List Nat)) : ∀ (t u : List Nat) (i : Nat), runN N i (t ++ u) = runN N (runN N i t) u
  | [], _, _ => rfl
  | c :: t, u, i => runN_append N t u (goN N i c)

theorem runN_lt {β : Type} {N : List (List Nat)} {O : List β} {classes : Nat} (h : OkN N O classes) : ∀ (t : List Nat) (i : Nat), i < N.length → (∀ c ∈ t, c < classes) → runN N i t < N.length
  | [], i, hi, _ => hi
  | c :: t, i, hi, hc => runN_lt h t _ (h.go hi (hc c (by simp))) (fun d hd => hc d (by simp [hd]))

end Go.Proofs.Yteamokljlcnicaa

/-
  dfa, plain: the states are numbered as they are met (DfaLeast). No program, no condition beyond what each theorem names.
-/
set_option linter.unusedVariables false
set_option linter.unusedSimpArgs false
namespace Go.Proofs.Yteamokljlcnicaa
open Classical

section
variable {σ : Type}

/-- how many have been met when of the i-th the first c classes have been looked at -/
noncomputable def metN (A : Auto σ) (classes i c : Nat) : Nat := match (cl A classes i)[i]? with
  | some s => (rowS A s (cl A classes i) c).length
  | none => (cl A classes i).length

theorem metN_first (A : Auto σ) (classes : Nat) : metN A classes 0 0 = 1 := by
  unfold metN
  rw [cl_start]
  simp [rowS, cl]

variable {A : Auto σ} {classes n i : Nat}

/-- the next one's turn begins with what has been met -/
theorem metN_next (h : Over A classes n) (hi : i < (cl A classes n).length) : metN A classes (i + 1) 0 = metN A classes i classes := by
  have hs := over_get h (List.getElem?_eq_getElem hi)
  have e : cl A classes (i + 1) = rowS A (cl A classes n)[i] (cl A classes i) classes := by rw [cl, hs]
  have e2 : metN A classes i classes = (cl A classes (i + 1)).length := by unfold metN; rw [hs, e]
  rw [e2]
  unfold metN
  split
  · rfl
  · rfl

/-- a way leads to one that has been met, or to the next one -/
theorem metN_step (h : Over A classes n) (hi : i < (cl A classes n).length) {c : Nat} (hc : c < classes) :
    goN (nextsOf A classes (cl A classes n)) i c ≤ metN A classes i c ∧ metN A classes i (c + 1) = if goN (nextsOf A classes (cl A classes n)) i c = metN A classes i c then metN A classes i c + 1 else metN A classes i c := by
  have hg := List.getElem?_eq_getElem hi
  have hs := over_get h hg
  have hin : i + 1 ≤ n := by unfold Over at h; omega
  rw [nextsOf_go hg hc, row_place hs hc (cl_mono A classes hin)]
  unfold metN
  rw [hs]
  refine ⟨place_le _ _, ?_⟩
  show (rowS A _ _ (c + 1)).length = _
  rw [rowS, put_length]

/-- one whose turn it is has been met -/
theorem metN_gt (h : Over A classes n) (hi : i < (cl A classes n).length) : i < metN A classes i 0 := by
  have hs := over_get h (List.getElem?_eq_getElem hi)
  have hl := (List.getElem?_eq_some_iff.1 hs).1
  unfold metN
  rw [hs]
  exact hl

/-- at last all have been met -/
theorem metN_last (h : Over A classes n) : metN A classes (cl A classes n).length 0 = (cl A classes n).length := by
  have hle : (cl A classes n).length ≤ n := h
  have h1 := (cl_mono A classes hle).length_le
  have ho : Over A classes (cl A classes n).length := h1
  have e : cl A classes (cl A classes n).length = cl A classes n := over_same ho h
  unfold metN
  rw [e, List.getElem?_eq_none (Nat.le_refl _)]

end
end Go.Proofs.Yteamokljlcnicaa

/-
  dfa, plain: what is built of one set, what a machine tells by its bits, how many situations one expression has. No program, no condition beyond what each theorem names.
-/
set_option linter.unusedVariables false
set_option linter.unusedSimpArgs false
namespace Go.Proofs.Yteamokljlcnicaa
open Classical

/-! ### bits -/
theorem lang_map {σ β γ : Type} (A : Auto σ) (out : σ → β) (f : β → γ) (classes : Nat) (s : σ) : langA A (fun s => f (out s)) classes s = fun t => (langA A out classes s t).map f := by
  funext t
  unfold langA
  split <;> rfl
theorem lang_N {l : List (Nd × Bool)} (hl : ∀ e ∈ l, RightX e.1) (classes : Nat) : langA (autoE l) outN classes (autoE l).start = fun t => (tellsE l classes t).map bitsL := by
  have h := lang_map (autoE l) outE bitsL classes (autoE l).start
  rw [lang_E hl] at h
  exact h

/-- a machine that was built: its ways are of its states; behind each row it tells which expressions fit -/
theorem built_bits {l : List (Nd × Bool)} (hl : ∀ e ∈ l, RightX e.1) {classes : Nat} {N : List (List Nat)} {O : List Nat} (h : Built (autoE l) outN classes (some (N, O.map some))) :
    OkN N O classes ∧ 0 < N.length ∧ N.length ≤ 400 ∧ ∀ t : List Nat, (∀ c ∈ t, c < classes) → O[runN N 0 t]? = some (bitsL (l.map fun e => fitsE e.1 e.2 (t.map fun (c : Nat) => (c : Int)))) := by
  rcases h with ⟨h, -⟩ | ⟨hf, hle, he⟩
  · cases h
  obtain ⟨e1, e2⟩ := Prod.mk.inj (Option.some.inj he)
  have ho := canon_over outN hf
  have hpos0 := cl_pos (langAuto (langA (autoE l) outN classes (autoE l).start)) classes 2000
  have hst := cl_start (langAuto (langA (autoE l) outN classes (autoE l).start)) classes 2000
  unfold canonL at hle
  unfold canonNext canonL at e1
  unfold canonOut canonL at e2
  have hct := fun t ht i l' => canon_tells (l0 := langA (autoE l) outN classes (autoE l).start) (n := 2000) ho t ht (i := i) (l := l')
  unfold canonNext canonOut canonL at hct
  generalize 2000 = K at *
  have hlen : N.length = (cl (langAuto (langA (autoE l) outN classes (autoE l).start)) classes K).length := by rw [e1, nextsOf, List.length_map]
  have hok : OkN N (O.map some) classes := by
    rw [e1, e2]
    exact okN_of (fun l => l []) (over_closed ho)
  refine ⟨⟨by rw [hok.len, List.length_map], hok.row⟩, by omega, by omega, fun t ht => ?_⟩
  have h1 : (O.map some)[runN N 0 t]? = some (langA (autoE l) outN classes (autoE l).start t) := by
    rw [e2, e1]
    exact hct t ht 0 _ hst
  rw [lang_N hl] at h1
  have h2 : tellsE l classes t = some (l.map fun e => fitsE e.1 e.2 (t.map fun (c : Nat) => (c : Int))) := by unfold tellsE; rw [if_pos ht]
  simp only [h2] at h1
  rw [List.getElem?_map] at h1
  cases ho2 : O[runN N 0 t]? with
  | none => rw [ho2] at h1; cases h1
  | some o =>
    rw [ho2] at h1
    have h3 := Option.some.inj h1
    rw [Option.map_some] at h3
    exact h3

/-- what Build comes to is one thing -/
theorem built_det {σ β : Type} {A : Auto σ} {out : σ → β} {classes : Nat} {r r' : Option (List (List Nat) × List (Option β))} (h : Built A out classes r) (h' : Built A out classes r') : r = r' := by
  rcases h with ⟨h1, h2⟩ | ⟨h1, h2, h3⟩ <;> rcases h' with ⟨k1, k2⟩ | ⟨k1, k2, k3⟩
  · rw [h1, k1]
  · rcases h2 with h2 | h2
    · exact absurd h2 k1
    · omega
  · rcases k2 with k2 | k2
    · exact absurd k2 h1
    · omega
  · rw [h3, k3]

/-! ### how many situations one expression has -/
def powL : List Int → List (List Int)
  | [] => [[]]
  | a :: r => powL r ++ (powL r).map (a :: ·)
theorem powL_length : ∀ l : List Int, (powL l).length = 2 ^ l.length
  | [] => rfl
  | a :: r => by rw [powL, List.length_append, List.length_map, powL_length r, List.length_cons, Nat.pow_succ]; omega
theorem powL_filter (p : Int → Bool) : ∀ l : List Int, l.filter p ∈ powL l
  | [] => by simp [powL]
  | a :: r => by
    have ih := powL_filter p r
    rw [powL, List.mem_append]
    cases h : p a
    · rw [List.filter_cons_of_neg (by simp [h])]; exact .inl ih
    · rw [List.filter_cons_of_pos h]; exact .inr (List.mem_map.2 ⟨_, ih, rfl⟩)

/-- the states that a situation may have -/
noncomputable def coreL (S : List Sta) : List Int := ((List.range S.length).filter fun k => decide (core S k)).map fun (k : Nat) => (k : Int)
theorem coreL_rises (S : List Sta) : Rises (coreL S) := by
  unfold Rises coreL
  rw [List.pairwise_map]
  exact (List.pairwise_lt_range.filter _).imp (fun h => Int.ofNat_lt.2 h)
theorem mem_coreL {S : List Sta} {v : Int} : v ∈ coreL S ↔ ∃ k : Nat, v = k ∧ k < S.length ∧ core S k := by
  unfold coreL
  rw [List.mem_map]
  constructor
  · rintro ⟨k, hk, rfl⟩
    obtain ⟨h1, h2⟩ := List.mem_filter.1 hk
    exact ⟨k, rfl, List.mem_range.1 h1, of_decide_eq_true h2⟩
  · rintro ⟨k, rfl, h1, h2⟩
    exact ⟨k, List.mem_filter.2 ⟨List.mem_range.2 h1, decide_eq_true h2⟩, rfl⟩
theorem closed_core {S : List Sta} {l : List Int} {v : Int} (h : v ∈ closedL S l) : v ∈ coreL S := by
  obtain ⟨k, rfl, h1, -, h2⟩ := mem_closedL.1 h
  exact mem_coreL.2 ⟨k, rfl, h1, h2⟩
theorem step_core {S : List Sta} {whole : Bool} {s : List Int} {c v : Int} (h : v ∈ stepE S whole s c) : v ∈ coreL S := by
  unfold stepE at h
  split at h
  · exact closed_core h
  · rcases (mem_uniR (fun v hv => closedL_range hv) (fun v hv => closedL_range hv)).1 h with h | h
    · exact closed_core h
    · exact closed_core h
theorem step_rises {S : List Sta} {whole : Bool} {s : List Int} {c : Int} : Rises (stepE S whole s c) := by
  unfold stepE
  split
  · exact closedL_rises _ _
  · exact uniR_rises _ _ _
theorem rises_pow {c s : List Int} (hc : Rises c) (hs : Rises s) (h : ∀ v ∈ s, v ∈ c) : s ∈ powL c := by
  have e : s = c.filter fun v => decide (v ∈ s) := rises_ext hs (hc.filter _) fun v => by
    rw [List.mem_filter]
    exact ⟨fun hv => ⟨h v hv, decide_eq_true hv⟩, fun hv => of_decide_eq_true hv.2⟩
  rw [e]
  exact powL_filter _ c
theorem few_sits (x : Nd) (whole : Bool) (classes : Nat) (h : 2 ^ (coreL (mach x)).length ≤ 2000) : ¬ TooMany (autoE [(x, whole)]) classes := by
  rintro ⟨n, hn⟩
  have hall : ∀ s ∈ cl (autoE [(x, whole)]) classes n, s ∈ (powL (coreL (mach x))).map fun s => [s] := fun s hs => by
    obtain ⟨t, -, rfl⟩ := cl_met _ _ _ s hs
    rw [runA_E [(x, whole)] _ t rfl]
    refine List.mem_map.2 ⟨runE (mach x) whole (t.map fun (c : Nat) => (c : Int)), ?_, rfl⟩
    generalize t.map (fun (c : Nat) => (c : Int)) = row
    rcases List.eq_nil_or_concat row with rfl | ⟨r, c, rfl⟩
    · exact rises_pow (coreL_rises _) (closedL_rises _ _) (fun v hv => closed_core hv)
    · rw [List.concat_eq_append, runE_snoc]
      exact rises_pow (coreL_rises _) step_rises (fun v hv => step_core hv)
  have := sub_len _ _ (cl_nodup _ _ _) hall
  rw [List.length_map, powL_length] at this
  omega

/-! ### of one set -/
def x0 : Nd := .mk 1 [0] []
theorem x0_right : RightX x0 := by
  refine ⟨?_, by simp [x0, cnt, cntL]⟩
  unfold x0 Wf
  refine ⟨by omega, by omega, by simp, by simp, by omega, fun i h => ?_, by simp [WfL]⟩
  have : i = 0 := by simpa using h
  subst this
  simp
theorem fit_x0 (row : List Int) : fitB x0 row = true ↔ row = [0] := by
  rw [fitB_iff, x0, M_1]
  unfold one
  constructor
  · rintro ⟨h1, c, h2, h3⟩
    match row, h1 with
    | [a], _ =>
      simp at h2 h3
      rw [h2, h3]
  · rintro rfl
    exact ⟨rfl, 0, rfl, by simp⟩
theorem tells_x0 (t : List Nat) : fitsE x0 false (t.map fun (c : Nat) => (c : Int)) = decide (t.getLast? = some 0) := by
  unfold fitsE
  rw [if_neg (by simp)]
  rw [Bool.eq_iff_iff, decide_eq_true_iff, decide_eq_true_iff]
  constructor
  · rintro ⟨k, hk, h⟩
    rw [fit_x0] at h
    have h1 := congrArg List.getLast? h
    rw [List.getLast?_drop] at h1
    split at h1
    · cases h1
    · rw [List.getLast?_map] at h1
      cases hg : t.getLast? with
      | none => rw [hg] at h1; cases h1
      | some c =>
        rw [hg] at h1
        have h2 : (c : Int) = 0 := Option.some.inj h1
        have : c = 0 := by omega
        rw [this]
  · intro h
    obtain ⟨r, rfl⟩ : ∃ r, t = r ++ [0] := by
      rcases List.eq_nil_or_concat t with rfl | ⟨r, c, rfl⟩
      · cases h
      · rw [List.concat_eq_append] at h ⊢
        rw [List.getLast?_append] at h
        have : c = 0 := by simpa using h
        exact ⟨r, by rw [this]⟩
    refine ⟨r.length, by simp, ?_⟩
    rw [fit_x0, List.map_append, List.drop_left' (by simp)]
    rfl
end Go.Proofs.Yteamokljlcnicaa

/-
  dfa, plain: the machine of one set. No program, no condition beyond what each theorem names.
-/
set_option linter.unusedVariables false
set_option linter.unusedSimpArgs false
namespace Go.Proofs.Yteamokljlcnicaa
open Classical

noncomputable def G0 : List Nat → Option Nat := fun t => if ∀ c ∈ t, c < 2 then some (if t.getLast? = some 0 then 1 else 0) else none
noncomputable def G1 : List Nat → Option Nat := fun t => if ∀ c ∈ t, c < 2 then some (if t = [] ∨ t.getLast? = some 0 then 1 else 0) else none

theorem cons_low (c : Nat) (hc : c < 2) (t : List Nat) : (∀ d ∈ c :: t, d < 2) ↔ ∀ d ∈ t, d < 2 := by simp [hc]
theorem last_cons (c : Nat) (t : List Nat) : (c :: t).getLast? = some 0 ↔ (t = [] ∧ c = 0) ∨ t.getLast? = some 0 := by
  cases t with
  | nil => simp
  | cons d r => simp [List.getLast?_cons_cons]
theorem G00 : (fun t => G0 (0 :: t)) = G1 := by
  funext t
  unfold G0 G1
  simp only [cons_low 0 (by omega), last_cons, and_true]
theorem G01 : (fun t => G0 (1 :: t)) = G0 := by
  funext t
  unfold G0
  simp only [cons_low 1 (by omega), last_cons]
  simp
theorem G10 : (fun t => G1 (0 :: t)) = G1 := by
  funext t
  unfold G1
  simp only [cons_low 0 (by omega), last_cons, and_true]
  simp
theorem G11 : (fun t => G1 (1 :: t)) = G0 := by
  funext t
  unfold G0 G1
  simp only [cons_low 1 (by omega), last_cons]
  simp
theorem G_ne : G0 ≠ G1 := fun h => by
  have := congrFun h []
  simp [G0, G1] at this

theorem lang_x0 : langA (autoE [(x0, false)]) outN 2 (autoE [(x0, false)]).start = G0 := by
  rw [lang_N (fun e he => by rw [List.mem_singleton.1 he]; exact x0_right)]
  funext t
  unfold tellsE G0
  split
  · simp only [List.map_cons, List.map_nil, Option.map_some]
    rw [tells_x0]
    by_cases h : t.getLast? = some 0
    · rw [if_pos h, decide_eq_true h]; rfl
    · rw [if_neg h, decide_eq_false h]; rfl
  · rfl

theorem clG1 : cl (langAuto G0) 2 1 = [G0, G1] := by
  have h0 : cl (langAuto G0) 2 0 = [G0] := rfl
  rw [cl, h0]
  show putS (putS [G0] (fun t => G0 (0 :: t))) (fun t => G0 (1 :: t)) = _
  rw [G00, G01]
  have h1 : putS [G0] G1 = [G0, G1] := by rw [putS, if_neg (by simp only [List.mem_singleton]; exact fun h => G_ne h.symm)]; rfl
  rw [h1, putS, if_pos (by simp)]
theorem clG2 : cl (langAuto G0) 2 2 = [G0, G1] := by
  rw [cl, clG1]
  show putS (putS [G0, G1] (fun t => G1 (0 :: t))) (fun t => G1 (1 :: t)) = _
  rw [G10, G11, putS, if_pos (by rw [putS, if_pos (by simp)]; simp), putS, if_pos (by simp)]
theorem canonG : canonL G0 2 2000 = [G0, G1] := by
  unfold canonL
  have ho : Over (langAuto G0) 2 2 := by unfold Over; rw [clG2]; simp
  rw [over_mono ho (by omega), clG2]

theorem placeG0 : place [G0, G1] G0 = 0 := by
  have h := place_own (l := [G0, G1]) (by simp [G_ne]) (i := 0) (by simp)
  exact h
theorem placeG1 : place [G0, G1] G1 = 1 := by
  have h := place_own (l := [G0, G1]) (by simp [G_ne]) (i := 1) (by simp)
  exact h

theorem built_x0 : Built (autoE [(x0, false)]) outN 2 (some ([[1, 0], [1, 0]], [some 0, some 1])) := by
  have hm : (mach x0).length = 2 := by rw [mach_len (Wf_good x0 1 x0_right.1)]; simp [x0, cnt, cntL]
  have hc : (coreL (mach x0)).length ≤ 2 := by
    unfold coreL
    rw [List.length_map, ← hm]
    exact Nat.le_trans (List.length_filter_le _ _) (by simp)
  have hf : ¬ TooMany (autoE [(x0, false)]) 2 := few_sits x0 false 2 (Nat.le_trans (Nat.pow_le_pow_right (by omega) hc) (by omega))
  have hn : canonNext G0 2 2000 = [[1, 0], [1, 0]] := by
    unfold canonNext
    rw [canonG]
    show [[place [G0, G1] (fun t => G0 (0 :: t)), place [G0, G1] (fun t => G0 (1 :: t))], [place [G0, G1] (fun t => G1 (0 :: t)), place [G0, G1] (fun t => G1 (1 :: t))]] = _
    rw [G00, G01, G10, G11, placeG0, placeG1]
  have ho : canonOut G0 2 2000 = [some 0, some 1] := by
    unfold canonOut
    rw [canonG]
    show [G0 [], G1 []] = _
    simp [G0, G1]
  refine .inr ⟨hf, ?_, ?_⟩
  · rw [lang_x0, canonG]; simp
  · rw [lang_x0, hn, ho]
end Go.Proofs.Yteamokljlcnicaa

/-
  foolscaplaw08: expressions as arguments; few. No condition beyond what each theorem names.
-/
set_option linter.unusedVariables false
set_option linter.unusedSimpArgs false
set_option maxRecDepth 100000
namespace Go.Proofs.Yteamokljlcnicaa
open Go.ChangeShapes Go.WideShapes Go.ChangeAt Go.RowKit Go.Deep

section
variable {H : Type} {enc : TypeId × Value → H} {w : World} {base : Nat} {spare : Nat → Bool} {held : Bool}
theorem cellsBool8 : Try.prog.cellsOf 4 = 1 := by kernel_rfl
theorem cellsNode8 : Try.prog.cellsOf 38 = 3 := by kernel_rfl
theorem cellsExpr8 : Try.prog.cellsOf 41 = 4 := by kernel_rfl

theorem expr_of {fuel : Nat} {cs : List Value} {x : DataW H × List MemPlace} (h : DataW.trod enc Try.prog w base spare held fuel 41 cs = some x) (hs : Sized 41 x.1) : ∃ e, exprE w e cs := by
  obtain ⟨xs, n, rfl, rfl, hl, hlen, hf⟩ := DataW.trod_struct Try.underlying41 h
  rw [cellsExpr8] at hl
  match cs, hl with
  | [c0, c1, c2, c3], _ =>
    have hxl : xs.length = 2 := by simpa using hlen
    have h0 := hf 0 _ rfl
    have h1 := hf 1 _ rfl
    simp only [List.getElem_toArray, List.getElem_cons_zero, List.getElem_cons_succ, cellsNode8, cellsBool8] at h0 h1
    rw [List.getElem?_eq_getElem (show 0 < xs.length by omega)] at h0
    rw [List.getElem?_eq_getElem (show 1 < xs.length by omega)] at h1
    have hsz : ∀ (j : Nat) (t : TypeId) (hj : j < xs.length), [38, 4][j]? = some t → Sized t xs[j].1 := by
      intro j t hj ht n hn
      refine hs n ?_
      simp only [DataW.weights, Try.underlying41]
      exact DataW.weights_mem_each (j := j) (t := t) (d := xs[j].1) (by simpa using ht) (by simp [hj]) n hn
    obtain ⟨x1, a, b, c, e0, hx1⟩ := node_of _ h0 (hsz 0 _ (by omega) rfl)
    obtain ⟨brk, e1, -⟩ := DataW.trod_bool Try.underlying4 h1
    simp at e0 e1
    obtain ⟨rfl, rfl, rfl⟩ := e0
    subst e1
    exact ⟨(x1, brk), _, _, _, rfl, hx1⟩

theorem exprs_of {fuel : Nat} {cs : List Value} {x : DataW H × List MemPlace} (h : DataW.trod enc Try.prog w base spare held fuel 22 cs = some x) (hs : Sized 22 x.1) : ∃ v l, cs = [v] ∧ ReadL (exprE w) 4 w v l ∧ l.length ≤ maxLen := by
  obtain ⟨v, n, rows, D, -, rfl, hrows, -, hm, h4⟩ := slice_of Try.underlying22 (by rw [cellsExpr8]; omega) h hs
  rw [cellsExpr8] at hrows
  have hex : ∀ i, i < rows.length → ∃ e : Nd × Bool, ∃ row, rows[i]? = some row ∧ exprE w e row := by
    intro i hi
    obtain ⟨g1, g2⟩ := h4 i hi
    obtain ⟨e, he⟩ := expr_of g1 g2
    exact ⟨e, _, List.getElem?_eq_getElem hi, he⟩
  have : Inhabited (Nd × Bool) := ⟨(.mk 0 [] [], false)⟩
  obtain ⟨f, hf⟩ := choose_lt hex
  refine ⟨v, (List.range rows.length).map f, rfl, ⟨rows, by simpa using hrows.2, by simp, fun r hr => ?_, fun i hi => ?_⟩, by simpa using hm⟩
  · obtain ⟨i, hi, rfl⟩ := List.getElem_of_mem hr
    obtain ⟨row, g1, a, b, c, rfl, hn⟩ := hf i hi
    rw [List.getElem?_eq_getElem hi] at g1
    rw [Option.some.inj g1]
    obtain ⟨op, p, l, c1, q, m, d, rfl, rfl, rfl⟩ := hn.form
    simp [Value.oneCell']
  · have hi' : i < rows.length := by simpa using hi
    obtain ⟨row, g1, g2⟩ := hf i hi'
    exact ⟨row, g1, by simpa using g2⟩

theorem exprs_open {r : Reach} {b0 : Nat} {v : Value} {d : DataW H} {p : List MemPlace} (hv : Value.okWide Try.prog w r b0 22 v) (h : DataW.Trod enc Try.prog w base spare held 22 v d p) (hs : Sized 22 d) : ∃ l, ReadL (exprE w) 4 w v l ∧ l.length ≤ maxLen := by
  obtain ⟨a0, len0, cap0, rfl⟩ := okWide_slice Try.underlying22 hv
  obtain ⟨fuel, hf⟩ := h
  obtain ⟨v, l, e, h1, h2⟩ := exprs_of hf hs
  simp only [Value.cells, List.cons.injEq, and_true] at e
  subst e
  exact ⟨l, h1, h2⟩
end

/-! ### few -/
/-- not too large -/
def notLarge (x : Nd × Bool) : Bool := decide (countT x.1 ≤ 40) && decide (starsI x.1 ≤ 3)
def fewL (l : List (Nd × Bool)) : List (Nd × Bool) := (l.take 8).filter notLarge
theorem fewL_length (l : List (Nd × Bool)) : (fewL l).length ≤ 8 := by
  unfold fewL
  exact Nat.le_trans (List.length_filter_le _ _) (by rw [List.length_take]; omega)
theorem few_snoc {l : List (Nd × Bool)} {k : Nat} (hk : k < l.length) (h8 : k < 8) : ((l.take 8).take (k + 1)).filter notLarge = ((l.take 8).take k).filter notLarge ++ (if notLarge l[k] then [l[k]] else []) := by
  rw [List.take_succ_eq_append_getElem (by rw [List.length_take]; omega), List.filter_append]
  congr 1
  rw [List.getElem_take]
  cases h : notLarge l[k] <;> simp [List.filter_cons, h]

theorem infoExpr : (Try.prog.info? 40).map (fun i => (i.zero, i.size, i.bytes)) = some (some (.agg #[.int .i64 0, .slice none 0 0, .slice none 0 0, .bool false]), 4, 64) := by kernel_rfl
theorem infoExpr8 : (Try.prog.info? 41).map (fun i => (i.zero, i.size, i.bytes)) = some (some (.agg #[.int .i64 0, .slice none 0 0, .slice none 0 0, .bool false]), 4, 64) := by kernel_rfl

section
variable {ops : Array Oper} {rest : List Oper} {o : Oper} {a : Act} {w : World} {Q : Exit → Act → World → Prop} {base : Nat} {E : Nd × Bool → List Value → Prop}
theorem wpList_append_exprs (hgd : o.guard = none) (s x : Operand) (ho : o.op = .call { callee := .builtin .append, args := #[s, x], argTypes := #[24, 24] })
    (v : Value) (xs : List (Nd × Bool)) (n : Nat) (hn : xs.length = n) (hs : a.eval s = v) (hown : OwnL E 40 4 base w v xs) (xv : Value) (ys : List (Nd × Bool)) (m : Nat) (hm : ys.length = m) (hx : a.eval x = xv) (hr : ReadL E 4 w xv ys) (hlen : n + m ≤ 1000000) (hbase : base ≤ w.heap.size)
    (h : ∀ p c w', OwnL E 40 4 base w' (.slice p (n + m) c) (xs ++ ys) → w.grownBy w' v.ownBlock → ((Value.slice p (n + m) c).ownBlock = v.ownBlock ∨ (Value.slice p (n + m) c).ownBlock = some w.heap.size) → wpList Try.prog ops Q rest (a.put o.dst (.slice p (n + m) c)) w') : wpList Try.prog ops Q (o :: rest) a w := by
  subst hn hm
  obtain ⟨i0, hi, hz0, hz1, hz2⟩ := info_parts infoExpr
  exact wpList_append_L hgd s x 24 ho i0 _ 64 Try.underlying24 hi hz0 hz1 hz2 rfl (by decide) v xs hs hown xv ys hx hr (by unfold maxLen; omega) (by omega) hbase h
theorem wpList_append_exprs8 (hgd : o.guard = none) (s x : Operand) (ho : o.op = .call { callee := .builtin .append, args := #[s, x], argTypes := #[22, 22] })
    (v : Value) (xs : List (Nd × Bool)) (n : Nat) (hn : xs.length = n) (hs : a.eval s = v) (hown : OwnL E 41 4 base w v xs) (xv : Value) (y : Nd × Bool) (hx : a.eval x = xv) (hr : ReadL E 4 w xv [y]) (hlen : n + 1 ≤ 1000000) (hbase : base ≤ w.heap.size)
    (h : ∀ p c w', OwnL E 41 4 base w' (.slice p (n + 1) c) (xs ++ [y]) → w.grownBy w' v.ownBlock → ((Value.slice p (n + 1) c).ownBlock = v.ownBlock ∨ (Value.slice p (n + 1) c).ownBlock = some w.heap.size) → wpList Try.prog ops Q rest (a.put o.dst (.slice p (n + 1) c)) w') : wpList Try.prog ops Q (o :: rest) a w := by
  subst hn
  obtain ⟨i0, hi, hz0, hz1, hz2⟩ := info_parts infoExpr8
  exact wpList_append_L hgd s x 22 ho i0 _ 64 Try.underlying22 hi hz0 hz1 hz2 rfl (by decide) v xs hs hown xv [y] hx hr (by unfold maxLen; simp; omega) (by simp; omega) hbase h
end

def FewPost (w : World) (L : List (Nd × Bool)) (e : Ending) (w' : World) : Prop :=
  ∃ va vb, e = .returned (.tuple #[va, vb]) ∧ OwnL (exprE w) 40 4 w.heap.size w' va L ∧ OwnL (exprE w) 41 4 w.heap.size w' vb L ∧ Below w.heap.size w w'

set_option maxHeartbeats 8000000 in
theorem few_law (w : World) (v : Value) (l : List (Nd × Bool)) (hv : ReadL (exprE w) 4 w v l) (hl : l.length ≤ maxLen) :
    Calls Try.prog 13 #[v] w (FewPost w (fewL l)) := by
  obtain ⟨p, cp, rfl, hcp, hx⟩ := hv.at (by decide) rfl
  have HX := Lib.hid hx
  have hl2 : l.length ≤ 9223372036854775807 := by unfold maxLen at hl; omega
  clear hv hx hl
  go_enter Try.func13, Try.ntmps13
  go_wp2_with fail
  go_loopw [4, 5, 6] (fun va vb i wr => ∃ k : Nat, i = .int .i64 k ∧ k ≤ l.length ∧ k ≤ 8 ∧ OwnL (exprE w) 40 4 w.heap.size wr va (((l.take 8).take k).filter notLarge) ∧ OwnL (exprE w) 41 4 w.heap.size wr vb (((l.take 8).take k).filter notLarge) ∧ Below w.heap.size w wr) (fun _ _ i _ => 9 - (intOf i).toNat)
  case atStart => exact ⟨0, rfl, by omega, by omega, OwnL.nil _, OwnL.nil _, Below.refl _ _⟩
  case round =>
    obtain ⟨k, rfl, hk1, hk8, hoa, hob, hb⟩ := hrel
    have HOA := Lib.hid hoa
    have HOB := Lib.hid hob
    have HB := Lib.hid hb
    have hbs := hb.size
    obtain ⟨pa, ca, hfa⟩ := hoa.form
    obtain ⟨pb, cb, hfb⟩ := hob.form
    obtain ⟨L, hL⟩ : ∃ L, L = ((l.take 8).take k).filter notLarge := ⟨_, rfl⟩
    rw [← hL] at HOA HOB hfa hfb
    have hLl : L.length ≤ 8 := by rw [hL]; exact Nat.le_trans (List.length_filter_le _ _) (by rw [List.length_take, List.length_take]; omega)
    obtain ⟨q, hq⟩ : ∃ q, q = L.length := ⟨_, rfl⟩
    rw [← hq] at hfa hfb hLl
    subst hfa hfb
    have HL := Lib.hid hL
    have HQ := Lib.hid hq
    clear hoa hob hL hq
    by_cases hk : k < l.length
    · by_cases h8 : k < 8
      · obtain ⟨x, hxe⟩ : ∃ x, x = l[k] := ⟨_, rfl⟩
        have HSN := Lib.hid (show ((l.take 8).take (k + 1)).filter notLarge = L ++ (if notLarge x then [x] else []) by rw [few_snoc hk h8, ← HL.out, hxe])
        obtain ⟨bl, ol, row, rfl, hbl, hcell, a, b, c, rfl, hnd⟩ := HX.out k x (by rw [hxe]; exact List.getElem?_eq_getElem hk)
        have d0 := cell_below hb hbl (hcell 0 _ rfl)
        have d1 := cell_below hb hbl (hcell 1 _ rfl)
        have d2 := cell_below hb hbl (hcell 2 _ rfl)
        have d3 := cell_below hb hbl (hcell 3 _ rfl)
        simp only [Nat.add_zero] at d0
        obtain ⟨op, q0, m0, c0, q1, m1, c1, rfl, rfl, rfl⟩ := hnd.form
        have HND := Lib.hid hnd
        obtain ⟨x2, hx2⟩ : ∃ x2, x2 = x.2 := ⟨_, rfl⟩
        rw [← hx2] at d3
        have HX2 := Lib.hid hx2
        have hki : (k : Int) < l.length := by omega
        have hk0 : (0 : Int) ≤ k := by omega
        have hk8i : (k : Int) < 8 := by omega
        have HCN := Lib.hid (count_any x.1 wr _ _ _ (hnd.to hb (Nat.le_refl _)))
        clear hcell hnd hxe hx2
        obtain ⟨nc, hnc⟩ : ∃ nc, nc = countT x.1 := ⟨_, rfl⟩
        obtain ⟨ns, hns⟩ : ∃ ns, ns = starsI x.1 := ⟨_, rfl⟩
        rw [← hnc] at HCN
        have HNL := Lib.hid (show notLarge x = (decide (nc ≤ 40) && decide (ns ≤ 3)) by unfold notLarge; rw [hnc, hns])
        have HNS := Lib.hid hns
        clear hnc hns
        go_wp2_with fail
        refine HCN.out.mono ?_
        rintro e w1 ⟨rfl, hb1⟩
        have HB1 := Lib.hid (hb.trans (hb1.mono hbs))
        have HBW := Lib.hid hb1
        have x0 := cell_below hb1 (World.block_lt_of_cell? wr _ d0) d0
        have x1 := cell_below hb1 (World.block_lt_of_cell? wr _ d1) d1
        have x2' := cell_below hb1 (World.block_lt_of_cell? wr _ d2) d2
        have x3 := cell_below hb1 (World.block_lt_of_cell? wr _ d3) d3
        have HOA1 := Lib.hid (HOA.out.below hb1 (Nat.le_refl _))
        have HOB1 := Lib.hid (HOB.out.below hb1 (Nat.le_refl _))
        have hb1s := HB1.out.size
        clear hb1 d0 d1 d2 d3
        by_cases h40 : nc ≤ 40
        · have HST := Lib.hid (stars_any x.1 w1 _ _ _ (HND.out.to HB1.out (Nat.le_refl _)))
          rw [← HNS.out] at HST
          have h40' : ¬ 40 < nc := by omega
          go_wp2_with fail
          refine HST.out.mono ?_
          rintro e w2 ⟨rfl, hb2⟩
          have HB2 := Lib.hid (HB1.out.trans (hb2.mono hb1s))
          have y0 := cell_below hb2 (World.block_lt_of_cell? w1 _ x0) x0
          have y1 := cell_below hb2 (World.block_lt_of_cell? w1 _ x1) x1
          have y2 := cell_below hb2 (World.block_lt_of_cell? w1 _ x2') x2'
          have y3 := cell_below hb2 (World.block_lt_of_cell? w1 _ x3) x3
          have HOA2 := Lib.hid (HOA1.out.below hb2 (Nat.le_refl _))
          have HOB2 := Lib.hid (HOB1.out.below hb2 (Nat.le_refl _))
          have hb2s := HB2.out.size
          clear hb2 x0 x1 x2' x3
          by_cases h3 : ns ≤ 3
          · have h3' : ¬ 3 < ns := by omega
            have HSN2 := Lib.hid (show ((l.take 8).take (k + 1)).filter notLarge = L ++ [x] by rw [HSN.out, HNL.out]; simp [h40, h3])
            have HD := Lib.hid (And.intro y0 (And.intro y1 (And.intro y2 y3)))
            clear y0 y1 y2 y3
            go_upto_region 7 with fail
            refine wp_region_plan (fun W => W.cell? ⟨bl, ol + k * 4, none⟩ = some (.int .i64 op) ∧ W.cell? ⟨bl, ol + k * 4 + 1, none⟩ = some (.slice q0 m0 c0) ∧ W.cell? ⟨bl, ol + k * 4 + 2, none⟩ = some (.slice q1 m1 c1) ∧ W.cell? ⟨bl, ol + k * 4 + 3, none⟩ = some (.bool x2)) (.reads [0, 1, 2, 3, 4, 5, 6, 7, 8, 9, 10, 11] (.one 12 (.one 13 (.reads [14] .done)))) 56 (by kernel_rfl) (by kernel_rfl) rfl (fun _ _ _ _ _ h => h) HD.out ?_
            apply plan_reads
            · intro W hW
              obtain ⟨k0, k1, k2, k3⟩ := hW
              repeat (refine wpRead_step (fun K hK => ?_); go_simp; refine hK _ ?_; clear hK K)
              exact wpRead_nil rfl
            refine abs_plan fun W3 hW3 => ?_
            have hd3 : Fr (fun _ => False) w2 W3 := by rw [hW3]; exact (Fr.refl (fun _ => False) _).drew
            have HB3 := Lib.hid (HB2.out.trans (hd3.below hb2s (fun _ h => h.elim)))
            have HOA3 := Lib.hid (HOA2.out.fr hd3 (fun _ _ h => h))
            have HOB3 := Lib.hid (HOB2.out.fr hd3 (fun _ _ h => h))
            have HD3 := Lib.hid (show W3.cell? ⟨bl, ol + k * 4, none⟩ = some (.int .i64 op) ∧ W3.cell? ⟨bl, ol + k * 4 + 1, none⟩ = some (.slice q0 m0 c0) ∧ W3.cell? ⟨bl, ol + k * 4 + 2, none⟩ = some (.slice q1 m1 c1) ∧ W3.cell? ⟨bl, ol + k * 4 + 3, none⟩ = some (.bool x2) by rw [hW3]; exact HD.out)
            have hb3s := HB3.out.size
            clear hW3 hd3
            refine plan_one rfl ?_
            have hal := below_alloc1 W3 (.cells #[.int .i64 op, .slice q0 m0 c0, .slice q1 m1 c1, .bool x2] 40)
            have HAL := Lib.hid hal
            have HE := Lib.hid (show exprE w x [.int .i64 op, .slice q0 m0 c0, .slice q1 m1 c1, .bool x2] from ⟨_, _, _, by rw [HX2.out], HND.out⟩)
            have keep : ∀ W, Below W3.heap.size W3 W → W.cell? ⟨bl, ol + k * 4, none⟩ = some (.int .i64 op) ∧ W.cell? ⟨bl, ol + k * 4 + 1, none⟩ = some (.slice q0 m0 c0) ∧ W.cell? ⟨bl, ol + k * 4 + 2, none⟩ = some (.slice q1 m1 c1) ∧ W.cell? ⟨bl, ol + k * 4 + 3, none⟩ = some (.bool x2) := fun W h => by
              obtain ⟨a1, a2, a3, a4⟩ := HD3.out
              exact ⟨cell_below h (World.block_lt_of_cell? W3 _ a1) a1, cell_below h (World.block_lt_of_cell? W3 _ a2) a2, cell_below h (World.block_lt_of_cell? W3 _ a3) a3, cell_below h (World.block_lt_of_cell? W3 _ a4) a4⟩
            have HK1 := Lib.hid (keep _ hal)
            clear keep hal
            go_wp2_with fail
            refine Then.mk HK1.out ?_
            refine plan_one rfl ?_
            refine wpList_append_exprs rfl (.tmp 33) (.tmp 45) rfl (.slice pa q ca) L q HQ.out.symm rfl (HOA3.out.below HAL.out (Nat.le_refl _)) _ [x] 1 rfl rfl (ReadL.one W3 _ x [.int .i64 op, .slice q0 m0 c0, .slice q1 m1 c1, .bool x2] ⟨rfl, by simp [Value.oneCell']⟩ HE.out) (by omega) (Nat.le_trans hb3s HAL.out.size) ?_
            intro p7 c7 w7 hown7 hg7 hlie7
            have hf7 : Fr (fun j => (Value.slice pa q ca).ownBlock = some j) W3 w7 := (Fr.of_below HAL.out _).trans (Fr.grown (F := fun j => (Value.slice pa q ca).ownBlock = some j) hg7 (fun k h => h)) (fun _ _ h => h)
            have HF7 := Lib.hid hf7
            have HB7 := Lib.hid (HB3.out.trans (hf7.below hb3s (fun j hj => (HOA3.out.lt j hj).1)))
            have HOB7 := Lib.hid (HOB3.out.fr hf7 (fun j hj h => by
              obtain ⟨cs, hcs⟩ := HOB3.out.blkT j hj
              exact HOA3.out.notAt hcs (by decide) h))
            have HOA7 := Lib.hid hown7
            have HD7 := Lib.hid (show w7.cell? ⟨bl, ol + k * 4, none⟩ = some (.int .i64 op) ∧ w7.cell? ⟨bl, ol + k * 4 + 1, none⟩ = some (.slice q0 m0 c0) ∧ w7.cell? ⟨bl, ol + k * 4 + 2, none⟩ = some (.slice q1 m1 c1) ∧ w7.cell? ⟨bl, ol + k * 4 + 3, none⟩ = some (.bool x2) by
              have hno : ¬ (Value.slice pa q ca).ownBlock = some bl := fun h => by have := (HOA3.out.lt bl h).1; omega
              obtain ⟨a1, a2, a3, a4⟩ := HD3.out
              exact ⟨hf7.cell (p := ⟨bl, ol + k * 4, none⟩) hno a1, hf7.cell (p := ⟨bl, ol + k * 4 + 1, none⟩) hno a2, hf7.cell (p := ⟨bl, ol + k * 4 + 2, none⟩) hno a3, hf7.cell (p := ⟨bl, ol + k * 4 + 3, none⟩) hno a4⟩)
            clear hown7 hg7 hlie7 hf7
            go_wp2_with fail
            refine Then.mk HD7.out ?_
            apply plan_reads
            · intro W hW
              clear hW
              repeat (refine wpRead_step (fun K hK => ?_); go_simp; refine hK _ ?_; clear hK K)
              exact wpRead_nil rfl
            refine plan_done ?_
            obtain ⟨k0, k1, k2, k3⟩ := HD7.out
            have hal7 := below_alloc1 w7 (.cells #[.int .i64 op, .slice q0 m0 c0, .slice q1 m1 c1, .bool x2] 41)
            have HAL7 := Lib.hid hal7
            have hb7s := HB7.out.size
            clear hal7
            go_wp2_with (refine stop_at (.call { callee := .builtin .append, args := #[.tmp 47, .tmp 52], argTypes := #[22, 22] }) rfl ?_)
            refine ⟨?_⟩
            refine wpList_append_exprs8 rfl (.tmp 47) (.tmp 52) rfl (.slice pb q cb) L q HQ.out.symm rfl (HOB7.out.below HAL7.out (Nat.le_refl _)) _ x rfl (ReadL.one w7 _ x [.int .i64 op, .slice q0 m0 c0, .slice q1 m1 c1, .bool x2] ⟨rfl, by simp [Value.oneCell']⟩ HE.out) (by omega) (Nat.le_trans hb7s HAL7.out.size) ?_
            intro p8 c8 w8 hown8 hg8 hlie8
            have hf8 : Fr (fun j => (Value.slice pb q cb).ownBlock = some j) w7 w8 := (Fr.of_below HAL7.out _).trans (Fr.grown (F := fun j => (Value.slice pb q cb).ownBlock = some j) hg8 (fun k h => h)) (fun _ _ h => h)
            have HB8 := Lib.hid (HB7.out.trans (hf8.below hb7s (fun j hj => (HOB7.out.lt j hj).1)))
            have HOA8 := Lib.hid (HOA7.out.fr hf8 (fun j hj h => by
              obtain ⟨cs, hcs⟩ := HOA7.out.blkT j hj
              exact HOB7.out.notAt hcs (by decide) h))
            have HOB8 := Lib.hid hown8
            clear hown8 hg8 hlie8 hf8 k0 k1 k2 k3 hb
            go_wp2_with fail
            go_roundw
            case rel => exact ⟨k + 1, by go_num, by omega, by omega, by rw [HSN2.out]; exact HOA8.out, by rw [HSN2.out]; exact HOB8.out, HB8.out⟩
            case measure => simp [intOf]; omega
          · have h3' : 3 < ns := by omega
            have HSN2 := Lib.hid (show ((l.take 8).take (k + 1)).filter notLarge = L by rw [HSN.out, HNL.out]; simp [h3])
            clear y0 y1 y2 y3 hb
            go_wp2_with fail
            go_roundw
            case rel => exact ⟨k + 1, by go_num, by omega, by omega, by rw [HSN2.out]; exact HOA2.out, by rw [HSN2.out]; exact HOB2.out, HB2.out⟩
            case measure => simp [intOf]; omega
        · have h40' : 40 < nc := by omega
          have HSN2 := Lib.hid (show ((l.take 8).take (k + 1)).filter notLarge = L by rw [HSN.out, HNL.out]; simp [h40])
          clear x0 x1 x2' x3 hb
          go_wp2_with fail
          go_roundw
          case rel => exact ⟨k + 1, by go_num, by omega, by omega, by rw [HSN2.out]; exact HOA1.out, by rw [HSN2.out]; exact HOB1.out, HB1.out⟩
          case measure => simp [intOf]; omega
      · have h8i : ¬ (k : Int) < 8 := by omega
        have hki : (k : Int) < l.length := by omega
        have HEND := Lib.hid (show fewL l = L by unfold fewL; rw [HL.out, List.take_of_length_le (l := l.take 8) (by rw [List.length_take]; omega)])
        go_wp2_with fail
        go_ret2
        exact ⟨_, _, rfl, by rw [HEND.out]; exact HOA.out, by rw [HEND.out]; exact HOB.out, HB.out⟩
    · have hki : ¬ (k : Int) < l.length := by omega
      have HEND := Lib.hid (show fewL l = L by unfold fewL; rw [HL.out, List.take_of_length_le (l := l.take 8) (by rw [List.length_take]; omega)])
      go_wp2_with fail
      go_ret2
      exact ⟨_, _, rfl, by rw [HEND.out]; exact HOA.out, by rw [HEND.out]; exact HOB.out, HB.out⟩
end Go.Proofs.Yteamokljlcnicaa

/-
  Two facts of the program that every row asks for. No condition.
-/
set_option linter.unusedVariables false
namespace Go.Proofs.Yteamokljlcnicaa
theorem own : ownKnob Try.prog.godebug = none := by kernel_rfl
theorem laidOut : laidOutB Try.prog = true := by kernel_rfl
end Go.Proofs.Yteamokljlcnicaa

