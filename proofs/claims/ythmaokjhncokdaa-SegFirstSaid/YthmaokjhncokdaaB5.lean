import Derived.Test.YthmaokjhncokdaaB4
import Derived.Test.YthmaokjhncokdaaB1
import Derived.IntWalk
/-
  The states behind a row are those to which its paths come; a machine matches just what its expression fits. Plain theorems; no program.
-/
set_option linter.unusedVariables false
set_option linter.unusedSimpArgs false
namespace Go.Proofs.Ythmaokjhncokdaa

section
variable {S : List Sta} {t : List Int}

theorem Path.le {l i p j q : Nat} (h : Path S t l i p j q) : p ≤ q := by
  induction h with
  | nil => exact Nat.le_refl _
  | cons h1 _ ih =>
    rcases h1 with ⟨-, rfl⟩ | ⟨-, rfl, -⟩
    · exact ih
    · omega

theorem Path.same {l i p j q : Nat} (h : Path S t l i p j q) (e : p = q) : FreeStar S i j := by
  induction h with
  | nil => exact .refl _
  | cons h1 h2 ih =>
    rcases h1 with ⟨h3, rfl⟩ | ⟨-, rfl, -⟩
    · exact Star.head h3 (ih e)
    · have := h2.le; omega

theorem Re.of_free {i j p : Nat} (h : FreeStar S i j) : Re S t i p j p := by
  induction h with
  | refl => exact Re.refl _ _
  | step _ h2 ih => exact ih.trans (Re.free h2)

theorem Path.last {l i p j q : Nat} (h : Path S t l i p j q) : ∀ {k : Nat}, q = k + 1 → p ≤ k → ∃ n, Re S t i p n k ∧ Take S t n k ∧ FreeStar S (n + 1) j := by
  induction h with
  | nil => intro k h1 h2; omega
  | @cons l i p j q k' r h1 h2 ih =>
    intro k hk hp
    rcases h1 with ⟨h3, rfl⟩ | ⟨rfl, rfl, h3⟩
    · obtain ⟨n, g1, g2, g3⟩ := ih hk hp
      exact ⟨n, (Re.free h3).trans g1, g2, g3⟩
    · by_cases hpk : p + 1 ≤ k
      · obtain ⟨n, g1, g2, g3⟩ := ih hk hpk
        exact ⟨n, (Re.one (.inr ⟨rfl, rfl, h3⟩)).trans g1, g2, g3⟩
      · obtain rfl : p = k := by omega
        exact ⟨i, Re.refl _ _, h3, h2.same hk.symm⟩

theorem Re.last {i p j k : Nat} (hp : p ≤ k) : Re S t i p j (k + 1) ↔ ∃ n, Re S t i p n k ∧ Take S t n k ∧ FreeStar S (n + 1) j := by
  constructor
  · rintro ⟨l, h⟩; exact h.last rfl hp
  · rintro ⟨n, h1, h2, h3⟩
    exact h1.trans ((Re.one (.inr ⟨rfl, rfl, h2⟩)).trans (Re.of_free h3))

theorem Re.flat {i j p : Nat} : Re S t i p j p ↔ FreeStar S i j := ⟨fun ⟨l, h⟩ => h.same rfl, Re.of_free⟩

/-- where one comes to, of those that count -/
theorem mem_runL (hS : Laws S) : ∀ (k : Nat), k ≤ t.length → ∀ (v : Int), v ∈ runL S (t.take k) ↔ ∃ n : Nat, v = n ∧ n < S.length ∧ Re S t 0 0 n k ∧ core S n
  | 0, _, v => by
    have e : runL S (t.take 0) = closedL S [0] := by simp [runL]
    rw [e, mem_closedL]
    constructor
    · rintro ⟨n, rfl, h1, ⟨r, h2, h3⟩, h4⟩
      obtain rfl : r = 0 := by simpa using h2
      exact ⟨n, rfl, h1, Re.of_free h3, h4⟩
    · rintro ⟨n, rfl, h1, h3, h4⟩
      exact ⟨n, rfl, h1, ⟨0, by simp, Re.flat.1 h3⟩, h4⟩
  | k + 1, hk, v => by
    rw [List.take_succ_eq_append_getElem (by omega), runL_snoc, mem_closedL]
    have ih := mem_runL hS k (by omega)
    constructor
    · rintro ⟨n, rfl, h1, ⟨r, h2, h3⟩, h4⟩
      refine ⟨n, rfl, h1, (Re.last (Nat.zero_le _)).2 ?_, h4⟩
      unfold stepTo at h2
      simp only [List.mem_map, List.mem_filter] at h2
      obtain ⟨u, ⟨g1, g2⟩, g3⟩ := h2
      obtain ⟨m, rfl, g4, g5, g6⟩ := (ih u).1 g1
      obtain rfl : r = m + 1 := by omega
      refine ⟨m, g5, ⟨t[k], by simp [show k < t.length by omega], ?_⟩, h3⟩
      rw [Int.toNat_natCast] at g2
      simpa using g2
    · rintro ⟨n, rfl, h1, h3, h4⟩
      obtain ⟨m, g1, ⟨c, g2, g3⟩, g4⟩ := (Re.last (Nat.zero_le _)).1 h3
      have hc : t[k] = c := by
        rw [List.getElem?_eq_getElem (by omega)] at g2
        exact Option.some.inj g2
      have htk := hS.fine.takes m (fun e => by rw [e] at g3; simp at g3)
      refine ⟨n, rfl, h1, ⟨m + 1, ?_, g4⟩, h4⟩
      unfold stepTo
      simp only [List.mem_map, List.mem_filter]
      refine ⟨(m : Int), ⟨(ih m).2 ⟨m, rfl, by omega, g1, .inl htk.1⟩, ?_⟩, by omega⟩
      rw [Int.toNat_natCast, hc]
      simpa using g3
end

open Classical in
/-- does an expression fit all of a row? -/
noncomputable def fitB (x : Nd) (row : List Int) : Bool := decide (M row x 0 row.length)
open Classical in
theorem fitB_iff {x : Nd} {row : List Int} : fitB x row = true ↔ M row x 0 row.length := by unfold fitB; exact decide_eq_true_iff

theorem run_accepts {x : Nd} (hx : RightX x) (t : List Int) (k : Nat) (hk : k ≤ t.length) : ((runL (mach x) (t.take k)).any fun u => 1 == u) = true ↔ M t x 0 k := by
  have hg := Wf_good x 1 hx.1
  have hS := mach_laws hx
  have e : ((runL (mach x) (t.take k)).any fun u => 1 == u) = true ↔ (1 : Int) ∈ runL (mach x) (t.take k) := by simp
  rw [e, mem_runL hS k hk, ← mach_iff hg]
  constructor
  · rintro ⟨n, h1, -, h2, -⟩
    obtain rfl : n = 1 := by omega
    exact h2
  · intro h
    exact ⟨1, rfl, by have := hS.pos; omega, h, .inr rfl⟩

/-- Matches tells what the expression fits -/
theorem matches_fit {x : Nd} (hx : RightX x) (row : List Int) : ((runL (mach x) row).any fun u => 1 == u) = fitB x row := by
  rw [Bool.eq_iff_iff, fitB_iff]
  have := run_accepts hx row row.length (Nat.le_refl _)
  rwa [List.take_length] at this
end Go.Proofs.Ythmaokjhncokdaa

/-
  Expressions that are built; the small case that must work. No condition beyond what each theorem names.
-/
set_option linter.unusedVariables false
set_option linter.unusedSimpArgs false
namespace Go.Proofs.Ythmaokjhncokdaa
open Go.RowKit

theorem nodes_built {w : World} {g : Nat} {cs : List Value} {T : TypeId} (h : w.heap[g]? = some (.cells cs.toArray T)) (ns : List Nd) (rows : List (List Value)) (hr : rows.flatten = cs) (h2 : rows.length = ns.length) (h4 : ∀ i (h : i < ns.length), ∃ x y z, rows[i]? = some [x, y, z] ∧ NodeIs w ns[i] x y z) :
    Nodes w (.slice (some ⟨g, 0, none⟩) ns.length ns.length) ns := by
  subst hr
  refine Nodes.mk (Raw.of_block h) h2 (fun r hr => ?_) h4
  obtain ⟨i, hi, rfl⟩ := List.getElem_of_mem hr
  obtain ⟨x, y, z, h5, h6⟩ := h4 i (by omega)
  rw [List.getElem?_eq_getElem hi] at h5
  rw [Option.some.inj h5]
  obtain ⟨op, p, l, c1, q, m, d, rfl, rfl, rfl⟩ := h6.form
  exact ⟨_, _, _, _, _, _, _, rfl⟩

theorem node_one {w : World} {x : Nd} {a b c : Value} (hx : NodeIs w x a b c) (op : Int) (T : TypeId) : NodeIs (w.alloc (.cells #[a, b, c] T)) (.mk op [] [x]) (.int .i64 op) (.slice none 0 0) (.slice (some ⟨w.heap.size, 0, none⟩) 1 1) := by
  rw [nodeIs_iff]
  refine ⟨rfl, Ints.nil _, by unfold R; simp, by unfold R; simp, nodes_built (cs := [a, b, c]) (heap_alloc_new _ _) [x] [[a, b, c]] rfl rfl fun i hi => ?_⟩
  obtain rfl : i = 0 := by simpa using hi
  exact ⟨a, b, c, rfl, hx.to (below_alloc1 _ _) (Nat.le_refl _)⟩

theorem node_two {w : World} {x y : Nd} {a b c d e f : Value} (hx : NodeIs w x a b c) (hy : NodeIs w y d e f) (op : Int) (T : TypeId) : NodeIs (w.alloc (.cells #[a, b, c, d, e, f] T)) (.mk op [] [x, y]) (.int .i64 op) (.slice none 0 0) (.slice (some ⟨w.heap.size, 0, none⟩) 2 2) := by
  rw [nodeIs_iff]
  refine ⟨rfl, Ints.nil _, by unfold R; simp, by unfold R; simp, nodes_built (cs := [a, b, c, d, e, f]) (heap_alloc_new _ _) [x, y] [[a, b, c], [d, e, f]] rfl rfl fun i hi => ?_⟩
  have hi' : i = 0 ∨ i = 1 := by simp at hi; omega
  rcases hi' with rfl | rfl
  · exact ⟨a, b, c, rfl, hx.to (below_alloc1 _ _) (Nat.le_refl _)⟩
  · exact ⟨d, e, f, rfl, hy.to (below_alloc1 _ _) (Nat.le_refl _)⟩

theorem node_three {w : World} {x y z : Nd} {a b c d e f g h i' : Value} (hx : NodeIs w x a b c) (hy : NodeIs w y d e f) (hz : NodeIs w z g h i') (op : Int) (T : TypeId) : NodeIs (w.alloc (.cells #[a, b, c, d, e, f, g, h, i'] T)) (.mk op [] [x, y, z]) (.int .i64 op) (.slice none 0 0) (.slice (some ⟨w.heap.size, 0, none⟩) 3 3) := by
  rw [nodeIs_iff]
  refine ⟨rfl, Ints.nil _, by unfold R; simp, by unfold R; simp, nodes_built (cs := [a, b, c, d, e, f, g, h, i']) (heap_alloc_new _ _) [x, y, z] [[a, b, c], [d, e, f], [g, h, i']] rfl rfl fun i hi => ?_⟩
  have hi' : i = 0 ∨ i = 1 ∨ i = 2 := by simp at hi; omega
  rcases hi' with rfl | rfl | rfl
  · exact ⟨a, b, c, rfl, hx.to (below_alloc1 _ _) (Nat.le_refl _)⟩
  · exact ⟨d, e, f, rfl, hy.to (below_alloc1 _ _) (Nat.le_refl _)⟩
  · exact ⟨g, h, i', rfl, hz.to (below_alloc1 _ _) (Nat.le_refl _)⟩

theorem new_ok (x : Nd) (w : World) (a b c : Value) (hx : NodeIs w x a b c) (hr : RightX x) : Calls Try.prog 56 #[.agg #[a, b, c]] w fun e w' => ∃ m, e = .returned (.tuple #[.pointer (some ⟨m, 0, none⟩), .int .i64 0]) ∧ MachR w' m (mach x) ∧ Below w.heap.size w w' := by
  refine (new_any x w a b c hx).mono fun e w' ⟨hb, h⟩ => ?_
  rcases h with ⟨-, m, -, he, hm⟩ | ⟨h, -⟩
  · exact ⟨m, he, hm, hb⟩
  · rw [rightB_iff.2 hr] at h; cases h

theorem new_no (x : Nd) (w : World) (a b c : Value) (hx : NodeIs w x a b c) (hr : rightB x = false) : Calls Try.prog 56 #[.agg #[a, b, c]] w fun e w' => e = .returned (.tuple #[.pointer none, .int .i64 1]) ∧ Below w.heap.size w w' := by
  refine (new_any x w a b c hx).mono fun e w' ⟨hb, h⟩ => ?_
  rcases h with ⟨h, -⟩ | ⟨-, he⟩
  · rw [hr] at h; cases h
  · exact ⟨he, hb⟩

def xS : Nd := .mk 2 [] [.mk 1 [1] [], .mk 4 [] [.mk 1 [2] []]]

theorem rising_one (c : Int) (h0 : 0 ≤ c) (h1 : c < 24) : rising [c] := by
  intro i hi
  obtain rfl : i = 0 := by simpa using hi
  exact ⟨h0, h1, fun h => by omega⟩

theorem xS_right : RightX xS := by
  unfold RightX xS
  refine ⟨?_, by simp [cnt, cntL]⟩
  simp only [Wf, WfL, and_true, true_and]
  refine ⟨by omega, by omega, by simp, by simp, by simp, rising_nil, ⟨by omega, by omega, by simp, by simp, by simp, rising_one 1 (by omega) (by omega)⟩, by omega, by omega, by simp, by simp, by simp, rising_nil, by omega, by omega, by simp, by simp, by simp, rising_one 2 (by omega) (by omega)⟩

theorem bad_right : rightB (.mk 4 [] []) = false := by
  cases h : rightB (.mk 4 [] [])
  · rfl
  · have := (rightB_iff.1 h).1
    unfold Wf at this
    have := this.2.2.2.2.1 (.inl rfl)
    simp at this

theorem xS_iff (row : List Int) (q : Nat) : M row xS 0 q ↔ row[0]? = some 1 ∧ Star (fun a b => b = a + 1 ∧ row[a]? = some 2) 1 q := by
  unfold xS
  rw [M_2]
  simp only [Mseq]
  constructor
  · rintro ⟨c, h1, d, h2, rfl⟩
    obtain ⟨rfl, u, h3, h4⟩ := (M_1 _ _).1 h1
    obtain rfl : u = 1 := by simpa using h4
    refine ⟨h3, ((M_4 _ _).1 h2).2.mono fun a b h => ?_⟩
    obtain ⟨rfl, u, h5, h6⟩ := (M_1 _ _).1 (Malt_one.1 h)
    obtain rfl : u = 2 := by simpa using h6
    exact ⟨rfl, h5⟩
  · rintro ⟨h1, h2⟩
    refine ⟨1, (M_1 _ _).2 ⟨rfl, 1, h1, by simp⟩, q, (M_4 _ _).2 ⟨rfl, h2.mono fun a b h => Malt_one.2 ((M_1 _ _).2 ⟨h.1, 2, h.2, by simp⟩)⟩, rfl⟩

theorem xS_fit : fitB xS [1] = true ∧ fitB xS [1, 2, 2] = true ∧ fitB xS [2] = false ∧ fitB xS [] = false := by
  refine ⟨fitB_iff.2 ((xS_iff _ _).2 ⟨rfl, .refl _⟩), fitB_iff.2 ((xS_iff _ _).2 ⟨rfl, .step (.step (.refl _) ⟨rfl, rfl⟩) ⟨rfl, rfl⟩⟩), ?_, ?_⟩
  · cases h : fitB xS [2]
    · rfl
    · have := ((xS_iff _ _).1 (fitB_iff.1 h)).1
      simp at this
  · cases h : fitB xS []
    · rfl
    · have := ((xS_iff _ _).1 (fitB_iff.1 h)).1
      simp at this

end Go.Proofs.Ythmaokjhncokdaa

/-
  Reverse: an expression that fits the turned rows. No condition beyond what each theorem names.
-/
set_option linter.unusedVariables false
set_option linter.unusedSimpArgs false
namespace Go.Proofs.Ythmaokjhncokdaa
open Go.RowKit

mutual
/-- an expression that fits the turned rows -/
def revX : Nd → Nd
  | .mk op cls ps => .mk op cls (if op = 2 then (revL ps).reverse else revL ps)
def revL : List Nd → List Nd
  | [] => []
  | x :: r => revX x :: revL r
end

theorem revL_map : ∀ (l : List Nd), revL l = l.map revX
  | [] => by simp [revL]
  | x :: r => by simp [revL, revL_map r]

theorem revL_length (l : List Nd) : (revL l).length = l.length := by rw [revL_map]; simp

theorem revL_snoc {ps : List Nd} {k : Nat} (hk : k < ps.length) : revL (ps.take (k + 1)) = revL (ps.take k) ++ [revX ps[k]] := by
  rw [List.take_succ_eq_append_getElem hk, revL_map, revL_map, List.map_append]; rfl

theorem Lies.and {F G : Nat → Prop} {v : Value} {n : Nat} (h : Lies F v n) (g : Lies G v n) : Lies (fun k => F k ∧ G k) v n := fun h0 k hk => ⟨h h0 k hk, g h0 k hk⟩

theorem NodeF.lt {F : Nat → Prop} {w : World} : ∀ (x : Nd) {a b c : Value}, NodeF F w x a b c → NodeF (fun k => F k ∧ k < w.heap.size) w x a b c
  | .mk op cls parts, a, b, c, h => by
    rw [nodeF_iff] at *
    obtain ⟨h1, h2, h2', h3, h4, rows, ⟨h5, h5'⟩, h6, h7, h8⟩ := h
    refine ⟨h1, h2, h2'.and (Raw.lies h2 (by simp)), h3, h4, rows, ⟨h5, h5'⟩, h6.and (Raw.lies h5' (fun h => by rw [flatten_length h5, h7]; omega)), h7, fun i hi => ?_⟩
    obtain ⟨x, y, z, h9, h10⟩ := h8 i hi
    exact ⟨x, y, z, h9, NodeF.lt parts[i] h10⟩
  termination_by x => SizeOf.sizeOf x
  decreasing_by exact Nd.part_lt hi

/-- where the parts lie: from a block on, but not in these -/
def FE (b0 O R : Nat) (w : World) (pv : Value) (k : Nat) : Prop := b0 ≤ k ∧ k < w.heap.size ∧ pv.ownBlock ≠ some k ∧ k ≠ O ∧ k ≠ R

/-- slices.Reverse of a list of one's own: only its own row is turned -/
theorem rev_own2 (w : World) (base n : Nat) (v : Value) (rows : List (List Value)) (hn : n ≤ 9000000000000000000) (hl : rows.length = n) (hr : ∀ r ∈ rows, ndRow r) (h : w.ownsRow base 52 3 v n rows.flatten) :
    Calls Try.prog 55 #[v] w fun e w' => Raw w' v n rows.reverse.flatten ∧ Fr (fun k => v.ownBlock = some k) w w' ∧ ∃ u, e = .returned u := by
  have h' := h
  obtain ⟨h1, h2⟩ := h'
  rcases h2 with ⟨rfl, rfl⟩ | ⟨g, cap, cur, rfl, hb, hg, hnc, -⟩
  · have : rows = [] := by simpa using hl
    subst this
    clear h h1 hl hr
    go_enter Try.func55, Try.ntmps55
    go_wp2_with fail
    go_loopw [2, 3] (fun u v wr => u = .int .i64 0 ∧ v = .int .i64 (-1) ∧ wr = w) (fun _ v _ => 0)
    case atStart => exact ⟨rfl, rfl, rfl⟩
    case round =>
      obtain ⟨rfl, rfl, rfl⟩ := hrel
      go_wp2
      go_end0
      exact ⟨⟨none, 0, rfl, Nat.le_refl _, fun h => by simp at h⟩, Fr.refl _ _, _, rfl⟩
  · refine (rev_any w g n cap rows hl hn (Array.getElem?_eq_some_iff.1 hg).1 (NRow.of_own h hr)).mono fun e w' ⟨k1, k2, k3⟩ => ⟨k1.raw (by simpa using hl) hnc, k2.mono (fun k _ hk => by rw [hk]; rfl), k3⟩

theorem OwnL.rev {F : Nat → Prop} {w : World} {base : Nat} {v : Value} {ns : List Nd} (h : OwnL (nodeE F w) 52 3 base w v ns) : ∃ rows : List (List Value), w.ownsRow base 52 3 v ns.length rows.flatten ∧ rows.length = ns.length ∧ (∀ r ∈ rows, ndRow r) ∧ ∀ i (h : i < ns.length), ∃ x y z, rows[i]? = some [x, y, z] ∧ NodeF F w ns[i] x y z := by
  obtain ⟨rows, h1, h2, h3, h4⟩ := h
  refine ⟨rows, h1, h2, fun r hr => ?_, fun i hi => ?_⟩
  · obtain ⟨i, hi, rfl⟩ := List.getElem_of_mem hr
    obtain ⟨row, g1, a, b, c, rfl, g2⟩ := h4 i (by omega)
    obtain ⟨op, p, l, c1, q, m, d, rfl, rfl, rfl⟩ := (g2.is).form
    rw [List.getElem?_eq_getElem hi] at g1
    exact ⟨_, _, _, _, _, _, _, Option.some.inj g1⟩
  · obtain ⟨row, g1, a, b, c, rfl, g2⟩ := h4 i hi
    exact ⟨a, b, c, g1, g2⟩

def RevAt (x : Nd) : Prop := ∀ (w : World) (a b c : Value), NodeIs w x a b c →
    Calls Try.prog 40 #[.agg #[a, b, c]] w fun e w' => ∃ a' b' c', e = .returned (.agg #[a', b', c']) ∧ NodeF (fun k => w.heap.size ≤ k) w' (revX x) a' b' c' ∧ Below w.heap.size w w'

/-- what stands behind the first part: the expression, the place of the answer, and the answer so far -/
def OutAt (w : World) (B R : Nat) (xr : Array Value) (op : Int) (cls : List Int) (o : Value) (W : World) : Prop :=
  ∃ (O : Nat) (cv : Value), o = .pointer (some ⟨O, 0, none⟩) ∧ R < O ∧ W.heap[B]? = some (.cells xr 52) ∧ W.heap[R]? = some (.cells #[.int .i64 0, .slice none 0 0, .slice none 0 0] 52) ∧ W.heap[O]? = some (.cells #[.int .i64 op, cv, .slice none 0 0] 52) ∧
    OwnL intE 3 1 w.heap.size W cv cls ∧ Below w.heap.size w W
set_option maxRecDepth 100000 in
set_option maxHeartbeats 8000000 in
theorem rev_step (op : Int) (cls : List Int) (ps : List Nd) (ih : ∀ x ∈ ps, RevAt x) : RevAt (.mk op cls ps) := by
  intro w a b c hx
  have IH := Lib.hid ih
  rw [nodeIs_iff] at hx
  obtain ⟨rfl, hcl, hcb, hpb, hps⟩ := hx
  obtain ⟨pc, capc, rfl, hcc, -⟩ := hcl.get
  obtain ⟨pp, capp, rfl, hcp, hxp⟩ := hps.get
  have HCL := Lib.hid hcl
  have HPB := Lib.hid hpb
  have HCB := Lib.hid hcb
  unfold R at hcb hpb
  have HXP := Lib.hid hxp
  clear hcl hps hxp ih
  go_enter Try.func40, Try.ntmps40
  go_upto_region 1 with fail
  refine abs_wp fun W hW => ?_
  obtain ⟨B, hB⟩ : ∃ B, B = w.heap.size := ⟨_, rfl⟩
  have hbx : W.heap[B]? = some (.cells #[.int .i64 op, .slice pc cls.length capc, .slice pp ps.length capp] 52) := by rw [hW, hB, heap_alloc_old _ _ (by simp)]; exact heap_alloc_new _ _
  have hbr : W.heap[B + 1]? = some (.cells #[.int .i64 0, .slice none 0 0, .slice none 0 0] 52) := by rw [hW, hB]; exact heap_alloc2_new _ _ _
  have hbW : Below w.heap.size w W := by rw [hW]; exact (below_alloc1 w _).alloc (by simp) _
  rw [← hB]
  have HB := Lib.hid hB
  have HBX := Lib.hid hbx
  have HBR := Lib.hid hbr
  have HBW := Lib.hid hbW
  clear hW hbx hbr hbW hB
  go_cut [3] (fun o W1 => OutAt w B (B + 1) #[.int .i64 op, .slice pc cls.length capc, .slice pp ps.length capp] op cls o W1)
  case first =>
    have HSS := Lib.hid (show ∀ W', Below W.heap.size W W' → W'.heap[B]? = some (.cells #[.int .i64 op, .slice pc cls.length capc, .slice pp ps.length capp] 52) from fun W' h => (h.block B (at_lt HBX.out)).trans HBX.out)
    refine wp_region_fin 7 (fun W' => W'.heap[B]? = some (.cells #[.int .i64 op, .slice pc cls.length capc, .slice pp ps.length capp] 52)) (.reads [0, 1, 2, 3] (.two 4 (.reads [5] (.one 6 (.last 7))) 6 (.one 4 (.reads [5] (.last 7))))) 34 (by kernel_rfl) (by kernel_rfl) rfl (fun _ _ _ _ _ h => h) (HSS.out _ (Below.refl _ _).drew) ?_
    apply plan_reads
    · intro W' hW'
      obtain ⟨s0, s1, s2⟩ := cells3 hW'
      repeat (refine wpRead_step (fun K hK => ?_); go_simp; refine hK _ ?_; clear hK K)
      exact wpRead_nil rfl
    refine abs_plan fun W0 hW0 => ?_
    have HB0 := Lib.hid (show Below W.heap.size W W0 by rw [hW0]; exact (Below.refl _ _).drew)
    clear hW0
    have hcle := HCB.out
    unfold R at hcle
    refine plan_two rfl rfl ?_ ?_
    · have HC := Lib.hid (clone_ints W0 (.slice pc cls.length capc) cls.length (cls.map (Value.int .i64)) (by omega) (by simp) (fun u hu => by obtain ⟨x, -, rfl⟩ := List.mem_map.1 hu; rfl) ((HCL.out.to HBW.out (Nat.le_refl _)).to HB0.out (Nat.le_refl _)))
      go_wp2_with fail
      refine HC.out.mono ?_
      rintro e W1 ⟨v1, rfl, hown, hb1⟩
      have hown' := ownL_ints hown
      obtain ⟨p1, c1, rfl⟩ := hown'.form
      have HOW := Lib.hid hown'
      have HB1 := Lib.hid (HB0.out.trans (hb1.mono HB0.out.size))
      have HSZ := Lib.hid hb1.size
      clear hown hown' hb1 HC
      go_wp2_with fail
      refine Then.mk (HSS.out _ HB1.out) ?_
      apply plan_reads
      · intro W' hW'
        repeat (refine wpRead_step (fun K hK => ?_); go_simp; refine hK _ ?_; clear hK K)
        exact wpRead_nil rfl
      refine plan_one rfl ?_
      go_wp2_with fail
      have ha := below_alloc1 W1 (.cells #[.int .i64 0, .slice none 0 0, .slice none 0 0] 52)
      refine Then.mk (HSS.out _ (HB1.out.trans (ha.mono HB1.out.size))) ?_
      refine plan_last rfl ?_
      refine wpList_store_obj rfl (.tmp 3) (.tmp 11) 52 rfl W1.heap.size rfl [.int .i64 op, .slice p1 cls.length c1, .slice none 0 0] rfl _ _ (heap_alloc_new _ _) (by kernel_rfl) rfl (by simp [Value.oneCell']) ?_
      intro w2 hb2 hf2
      have HREL := Lib.hid (show OutAt w B (B + 1) #[.int .i64 op, .slice pc cls.length capc, .slice pp ps.length capp] op cls (.pointer (some ⟨W1.heap.size, 0, none⟩)) w2 from by
        have h1 : Below W.heap.size W w2 := (HB1.out.trans (ha.mono HB1.out.size)).trans (hf2.below (by simp; have := HB1.out.size; omega) (fun k hk => by have hk : k = W1.heap.size := hk; have := HB1.out.size; omega))
        refine ⟨_, .slice p1 cls.length c1, rfl, by have := at_lt HBR.out; have := HB1.out.size; omega, (h1.block _ (at_lt HBX.out)).trans HBX.out, (h1.block _ (at_lt HBR.out)).trans HBR.out, hb2, ?_, HBW.out.trans (h1.mono HBW.out.size)⟩
        have h2 := HOW.out.based (show w.heap.size ≤ W0.heap.size from Nat.le_trans HBW.out.size HB0.out.size)
        exact (h2.below ha (Nat.le_refl _)).fr hf2 (fun k hk he => by have he : k = W1.heap.size := he; have := (h2.lt k hk).2; omega))
      clear hb2 hf2 ha
      go_wp2_with fail
      go_meet
      case rel => exact HREL.out
    · have ha := below_alloc1 W0 (.cells #[.int .i64 0, .slice none 0 0, .slice none 0 0] 52)
      go_wp2_with fail
      refine Then.mk (HSS.out _ (HB0.out.trans (ha.mono HB0.out.size))) ?_
      refine abs_plan fun W1 hW1 => ?_
      have HO := Lib.hid (show W1.heap[W0.heap.size]? = some (.cells #[.int .i64 0, .slice none 0 0, .slice none 0 0] 52) by rw [hW1]; exact heap_alloc_new _ _)
      have HB1 := Lib.hid (show Below W.heap.size W W1 by rw [hW1]; exact HB0.out.trans (ha.mono HB0.out.size))
      have HSZ1 := Lib.hid (show W0.heap.size < W1.heap.size by rw [hW1]; simp)
      clear hW1 ha
      refine plan_one rfl ?_
      have HC := Lib.hid (clone_ints W1 (.slice pc cls.length capc) cls.length (cls.map (Value.int .i64)) (by omega) (by simp) (fun u hu => by obtain ⟨x, -, rfl⟩ := List.mem_map.1 hu; rfl) ((HCL.out.to HBW.out (Nat.le_refl _)).to HB1.out (Nat.le_refl _)))
      go_wp2_with fail
      refine HC.out.mono ?_
      rintro e W2 ⟨v1, rfl, hown, hb1⟩
      have hown' := ownL_ints hown
      obtain ⟨p1, c1, rfl⟩ := hown'.form
      have HOW := Lib.hid hown'
      have HB2 := Lib.hid (HB1.out.trans (hb1.mono HB1.out.size))
      have HO2 := Lib.hid ((hb1.block _ (at_lt HO.out)).trans HO.out)
      clear hown hown' hb1 HC
      go_wp2_with fail
      refine Then.mk (HSS.out _ HB2.out) ?_
      apply plan_reads
      · intro W' hW'
        repeat (refine wpRead_step (fun K hK => ?_); go_simp; refine hK _ ?_; clear hK K)
        exact wpRead_nil rfl
      refine plan_last rfl ?_
      refine wpList_store_obj rfl (.tmp 3) (.tmp 11) 52 rfl W0.heap.size rfl [.int .i64 op, .slice p1 cls.length c1, .slice none 0 0] rfl _ _ HO2.out (by kernel_rfl) rfl (by simp [Value.oneCell']) ?_
      intro w2 hb2 hf2
      have HREL := Lib.hid (show OutAt w B (B + 1) #[.int .i64 op, .slice pc cls.length capc, .slice pp ps.length capp] op cls (.pointer (some ⟨W0.heap.size, 0, none⟩)) w2 from by
        have h1 : Below W.heap.size W w2 := HB2.out.trans (hf2.below HB2.out.size (fun k hk => by have hk : k = W0.heap.size := hk; have := HB0.out.size; omega))
        refine ⟨_, .slice p1 cls.length c1, rfl, by have := at_lt HBR.out; have := HB0.out.size; omega, (h1.block _ (at_lt HBX.out)).trans HBX.out, (h1.block _ (at_lt HBR.out)).trans HBR.out, hb2, ?_, HBW.out.trans (h1.mono HBW.out.size)⟩
        have h2 := HOW.out.based (show w.heap.size ≤ W1.heap.size from Nat.le_trans HBW.out.size HB1.out.size)
        exact h2.fr hf2 (fun k hk he => by have he : k = W0.heap.size := he; have := (HOW.out.lt k hk).1; have := HSZ1.out; omega))
      clear hb2 hf2
      go_wp2_with fail
      go_meet
      case rel => exact HREL.out
  case rest =>
    obtain ⟨O, cv, rfl, hRO, hbx, hbr, hbo, hcv, hb⟩ := hcut
    have HBXW := Lib.hid hbx
    have HBRW := Lib.hid hbr
    have HBOW := Lib.hid hbo
    have HCVW := Lib.hid hcv
    have HBWW := Lib.hid hb
    obtain ⟨pq0, cq0, hcv0⟩ := hcv.form
    subst hcv0
    obtain ⟨x0, x1, x2⟩ := cells3 hbx
    clear hbx hbr hbo hcv hb
    go_wp2_with fail
    go_loopw [15] (fun i wr => ∃ (k : Nat) (pv : Value), i = .int .i64 k ∧ k ≤ ps.length ∧ wr.heap[B]? = some (.cells #[.int .i64 op, .slice pc cls.length capc, .slice pp ps.length capp] 52) ∧ wr.heap[B + 1]? = some (.cells #[.int .i64 0, .slice none 0 0, .slice none 0 0] 52) ∧ wr.heap[O]? = some (.cells #[.int .i64 op, .slice pq0 cls.length cq0, pv] 52) ∧
      OwnL (nodeE (FE w.heap.size O (B + 1) wr pv) wr) 52 3 w.heap.size wr pv (revL (ps.take k)) ∧ (∀ q, pv.ownBlock = some q → q ≠ O ∧ q ≠ B + 1 ∧ q ≠ B) ∧ OwnL intE 3 1 w.heap.size wr (.slice pq0 cls.length cq0) cls ∧ Below w.heap.size w wr) (fun i _ => ps.length - (intOf i).toNat)
    case atStart => exact ⟨0, .slice none 0 0, rfl, by omega, HBXW.out, HBRW.out, HBOW.out, OwnL.nil _, (fun q hq => by cases hq), HCVW.out, HBWW.out⟩
    case round =>
      obtain ⟨k, pv, rfl, h1, hbx, hbr, hbo, hown, hpne, hcv, hb⟩ := hrel
      have HBXR := Lib.hid hbx
      have HBRR := Lib.hid hbr
      have HBOR := Lib.hid hbo
      have HOWN := Lib.hid hown
      have HPNE := Lib.hid hpne
      have HCVR := Lib.hid hcv
      have HBR' := Lib.hid hb
      obtain ⟨pq, cq, rfl⟩ := hown.form
      have hll : (revL (ps.take k)).length = k := by rw [revL_length, List.length_take]; omega
      rw [hll] at HBOR HOWN HPNE
      have HLL := Lib.hid hll
      have hbsz := hb.size
      clear hbx hbr hbo hown hpne hcv hll
      by_cases hk : k < ps.length
      · obtain ⟨bb, off, rfl, hbl, hxx⟩ := HXP.out (by omega)
        obtain ⟨x, y, z, c0, c1, c2, hnode⟩ := hxx k hk
        have r0 := cell_below hb hbl c0
        have r1 := cell_below hb hbl c1
        have r2 := cell_below hb hbl c2
        obtain ⟨o1, p1, l1, d1, q1, m1, e1, rfl, rfl, rfl⟩ := hnode.form
        have HNODE := Lib.hid (hnode.to hb (Nat.le_refl _))
        have HIH := Lib.hid (IH.out ps[k] (List.getElem_mem hk))
        have HSTEP := Lib.hid (revL_snoc hk)
        have hkk : (k : Int) < ps.length := by omega
        have hk0 : (0 : Int) ≤ k := by omega
        clear hxx c0 c1 c2 hnode hb
        go_upto_region 5 with fail
        refine abs_wp fun Wp hWp => ?_
        obtain ⟨P, hP⟩ : ∃ P, P = wr.heap.size := ⟨_, rfl⟩
        have HPP := Lib.hid (show Wp.heap[P]? = some (.cells #[.int .i64 o1, .slice p1 l1 d1, .slice q1 m1 e1] 52) by rw [hWp, hP]; exact heap_alloc_new _ _)
        have HBP := Lib.hid (show Below wr.heap.size wr Wp by rw [hWp]; exact below_alloc1 _ _)
        have HPZ := Lib.hid hP
        rw [← hP]
        clear hWp hP r0 r1 r2
        have HSS := Lib.hid (show ∀ W', Below Wp.heap.size Wp W' → (W'.heap[O]? = some (.cells #[.int .i64 op, .slice pq0 cls.length cq0, .slice pq k cq] 52) ∧ W'.heap[P]? = some (.cells #[.int .i64 o1, .slice p1 l1 d1, .slice q1 m1 e1] 52)) from fun W' h =>
          ⟨(h.block O (Nat.lt_of_lt_of_le (at_lt HBOR.out) HBP.out.size)).trans ((HBP.out.block O (at_lt HBOR.out)).trans HBOR.out), (h.block P (at_lt HPP.out)).trans HPP.out⟩)
        refine wp_region_fin 7 (fun W' => W'.heap[O]? = some (.cells #[.int .i64 op, .slice pq0 cls.length cq0, .slice pq k cq] 52) ∧ W'.heap[P]? = some (.cells #[.int .i64 o1, .slice p1 l1 d1, .slice q1 m1 e1] 52)) (.reads [0, 1, 2] (.one 3 (.one 4 (.one 5 (.one 6 (.last 7)))))) 34 (by kernel_rfl) (by kernel_rfl) rfl (fun _ _ _ _ _ h => h) (HSS.out _ (Below.refl _ _).drew) ?_
        apply plan_reads
        · intro W' hW'
          obtain ⟨s0, s1, s2⟩ := cells3 hW'.1
          obtain ⟨t0, t1, t2⟩ := cells3 hW'.2
          repeat (refine wpRead_step (fun K hK => ?_); go_simp; refine hK _ ?_; clear hK K)
          exact wpRead_nil rfl
        refine abs_plan fun W0 hW0 => ?_
        have HB0 := Lib.hid (show Below Wp.heap.size Wp W0 by rw [hW0]; exact (Below.refl _ _).drew)
        clear hW0
        refine plan_one rfl ?_
        have HC := Lib.hid (HIH.out W0 _ _ _ ((HNODE.out.to HBP.out (Nat.le_refl _)).to HB0.out (Nat.le_refl _)))
        go_wp2_with fail
        refine HC.out.mono ?_
        rintro e W1 ⟨a', b', c', rfl, hnt, hb1⟩
        have HSW := Lib.hid (show wr.heap.size < W0.heap.size by have := at_lt HPP.out; have := HPZ.out; have := HB0.out.size; omega)
        have HB1 := Lib.hid (HB0.out.trans (hb1.mono HB0.out.size))
        have HNT := Lib.hid hnt.lt
        have HND := Lib.hid (nodeE.cells (F := fun k => W0.heap.size ≤ k) ⟨a', b', c', rfl, hnt⟩)
        have HB01 := Lib.hid hb1.size
        clear hnt hb1 HC
        go_wp2_with fail
        refine Then.mk (HSS.out _ HB1.out) ?_
        refine plan_one rfl ?_
        have ha := below_alloc1 W1 (.cells #[a', b', c'] 52)
        go_wp2_with fail
        refine Then.mk (HSS.out _ (HB1.out.trans (ha.mono HB1.out.size))) ?_
        refine abs_plan fun W2 hW2 => ?_
        have HBN := Lib.hid (show Below W1.heap.size W1 W2 by rw [hW2]; exact ha)
        have HSZ2 := Lib.hid (show W1.heap.size < W2.heap.size by rw [hW2]; simp)
        have HB2 := Lib.hid (HB1.out.trans (HBN.out.mono HB1.out.size))
        have HBR2 := Lib.hid (show Below wr.heap.size wr W2 from HBP.out.trans (HB2.out.mono HBP.out.size))
        have HG := Lib.hid (show ∀ q, (W0.heap.size ≤ q ∧ q < W1.heap.size) → (w.heap.size ≤ q ∧ q < W1.heap.size ∧ (Value.slice pq k cq).ownBlock ≠ some q ∧ q ≠ O ∧ q ≠ B + 1) from fun q hq => by
          have h2 := HSW.out
          have h3 := at_lt HBOR.out
          have h4 := at_lt HBRR.out
          exact ⟨by omega, hq.2, (fun he => by have h3 := (HOWN.out.lt q he).2; omega), by omega, by omega⟩)
        have HE2 := Lib.hid (show nodeE (fun q => w.heap.size ≤ q ∧ q < W1.heap.size ∧ (Value.slice pq k cq).ownBlock ≠ some q ∧ q ≠ O ∧ q ≠ B + 1) W2 (revX ps[k]) [a', b', c'] from ⟨a', b', c', rfl, (NodeF.mono HG.out _ HNT.out).below HBN.out (Nat.le_refl _)⟩)
        have HNEW := Lib.hid (show ReadL (nodeE (fun q => w.heap.size ≤ q ∧ q < W1.heap.size ∧ (Value.slice pq k cq).ownBlock ≠ some q ∧ q ≠ O ∧ q ≠ B + 1) W2) 3 W2 (.slice (some ⟨W1.heap.size, 0, none⟩) 1 1) [revX ps[k]] by
          have h := HE2.out
          rw [hW2] at h ⊢
          exact ReadL.one W1 _ _ _ HND.out h)
        have HOLD := Lib.hid (show OwnL (nodeE (fun q => w.heap.size ≤ q ∧ q < W1.heap.size ∧ (Value.slice pq k cq).ownBlock ≠ some q ∧ q ≠ O ∧ q ≠ B + 1) W2) 52 3 w.heap.size W2 (.slice pq k cq) (revL (ps.take k)) from (HOWN.out.below HBR2.out (Nat.le_refl _)).mono (fun x r hx => by
          obtain ⟨u0, u1, u2, rfl, hu⟩ := hx
          exact ⟨u0, u1, u2, rfl, NodeF.mono (fun q hq => by
            have h0 := HB01.out
            have h2 := HSW.out
            obtain ⟨g1, g2, g3, g4, g5⟩ := hq
            exact ⟨g1, by omega, g3, g4, g5⟩) _ (hu.below HBR2.out (Nat.le_refl _))⟩))
        have HS2 := Lib.hid (HSS.out _ HB2.out)
        clear hW2 ha
        refine plan_one rfl ?_
        refine wpList_append_nodes rfl (.tmp 20) (.tmp 23) rfl (.slice pq k cq) (revL (ps.take k)) rfl HOLD.out (.slice (some ⟨W1.heap.size, 0, none⟩) 1 1) [revX ps[k]] rfl HNEW.out (by have h2 := HPB.out; have h3 := HLL.out; rw [h3]; simp; omega) (Nat.le_trans hbsz HBR2.out.size) ?_
        intro p4 c4 w4 hown4 hg4 hlie4
        have hl4 : (revL (ps.take k)).length + [revX ps[k]].length = k + 1 := by rw [HLL.out]; rfl
        rw [hl4] at hown4 hlie4 ⊢
        have HF4 := Lib.hid (Fr.grown (F := fun q => (Value.slice pq k cq).ownBlock = some q) hg4 (fun q h => h))
        have HS4 := Lib.hid (show W2.heap.size ≤ w4.heap.size from hg4.size)
        have HPN4 := Lib.hid (show ∀ q, (Value.slice p4 (k + 1) c4).ownBlock = some q → q ≠ O ∧ q ≠ B + 1 ∧ q ≠ B from fun q hq => by
          rcases hlie4 with h7 | h7
          · exact HPNE.out q (h7 ▸ hq)
          · rw [hq] at h7
            injection h7 with h7
            have h2 := at_lt HS2.out.1
            have h3 := at_lt HBXR.out
            have h4 := at_lt HBRR.out
            have h5 := HBR2.out.size
            omega)
        have HOW4 := Lib.hid (show OwnL (nodeE (FE w.heap.size O (B + 1) w4 (.slice p4 (k + 1) c4)) w4) 52 3 w.heap.size w4 (.slice p4 (k + 1) c4) (revL (ps.take (k + 1))) by
          rw [HSTEP.out]
          refine hown4.mono fun x r hx => ?_
          obtain ⟨u0, u1, u2, rfl, hu⟩ := hx
          refine ⟨u0, u1, u2, rfl, NodeF.mono (fun q hq => ?_) _ (hu.fr HF4.out (fun q hq he => hq.2.2.1 he))⟩
          obtain ⟨g1, g2, g3, g4, g5⟩ := hq
          have h5 := HSZ2.out
          have h6 := HS4.out
          refine ⟨g1, by omega, fun he => ?_, g4, g5⟩
          rcases hlie4 with h7 | h7
          · exact g3 (h7 ▸ he)
          · rw [he] at h7; injection h7 with h7; omega)
        have keep4 : ∀ {q : Nat} {o : Obj}, q ≠ O → wr.heap[q]? = some o → (Value.slice pq k cq).ownBlock ≠ some q → w4.heap[q]? = some o := fun {q o} _ hq hn =>
          (HF4.out.block q (Nat.lt_of_lt_of_le (at_lt hq) HBR2.out.size) hn).trans ((HBR2.out.block q (at_lt hq)).trans hq)
        have HBO4 := Lib.hid ((HF4.out.block O (at_lt HS2.out.1) (fun he => (HPNE.out O he).1 rfl)).trans HS2.out.1)
        have HP4 := Lib.hid ((HF4.out.block P (at_lt HS2.out.2) (fun he => by have h1 := (HOWN.out.lt P he).2; have := HPZ.out; omega)).trans HS2.out.2)
        have HBX4 := Lib.hid ((HF4.out.block B (Nat.lt_of_lt_of_le (at_lt HBXR.out) HBR2.out.size) (fun he => (HPNE.out B he).2.2 rfl)).trans ((HBR2.out.block B (at_lt HBXR.out)).trans HBXR.out))
        have HBR4 := Lib.hid ((HF4.out.block (B + 1) (Nat.lt_of_lt_of_le (at_lt HBRR.out) HBR2.out.size) (fun he => (HPNE.out _ he).2.1 rfl)).trans ((HBR2.out.block (B + 1) (at_lt HBRR.out)).trans HBRR.out))
        have HCV4 := Lib.hid ((HCVR.out.below HBR2.out (Nat.le_refl _)).fr HF4.out (fun q hq he => (HCVR.out.apart HOWN.out (by decide)) q hq he))
        have HBB4 := Lib.hid (show Below w.heap.size wr w4 from (HBR2.out.mono hbsz).trans (HF4.out.below (Nat.le_trans hbsz HBR2.out.size) (fun q hq => (HOWN.out.lt q hq).1)))
        have f2 := fz_at HBO4.out 2
        have y2 := (cells3 HBO4.out).2.2
        clear hown4 hg4 hlie4 hl4 keep4
        go_wp2_with fail
        refine Then.mk ⟨HBO4.out, HP4.out⟩ ?_
        refine plan_one rfl ?_
        go_wp2_with fail
        refine Then.mk ⟨HBO4.out, HP4.out⟩ ?_
        refine plan_last rfl ?_
        go_wp2_with fail
        have HFR := Lib.hid (Fr.setCell (F := fun q => q = O) w4 (p := ⟨O, 2, none⟩) rfl (.slice p4 (k + 1) c4))
        have HBO5 := Lib.hid (blk_set HBO4.out 2 (.slice p4 (k + 1) c4))
        have HNB := Lib.hid (show B ≠ O ∧ B + 1 ≠ O by omega)
        clear y2 f2
        go_roundw
        case rel =>
          refine ⟨k + 1, .slice p4 (k + 1) c4, by go_num, by omega, (HFR.out.block B (at_lt HBX4.out) HNB.out.1).trans HBX4.out, (HFR.out.block (B + 1) (at_lt HBR4.out) HNB.out.2).trans HBR4.out, HBO5.out, ?_, HPN4.out, HCV4.out.fr HFR.out (fun q hq he => HCV4.out.notAt HBO4.out (by decide) (by rw [hq]; exact congrArg some he)), ?_⟩
          · refine (HOW4.out.fr HFR.out (fun q hq he => (HPN4.out q hq).1 he)).mono fun x r hx => ?_
            obtain ⟨u0, u1, u2, rfl, hu⟩ := hx
            refine ⟨u0, u1, u2, rfl, NodeF.mono (fun q hq => ?_) _ (hu.fr HFR.out (fun q hq he => hq.2.2.2.1 he))⟩
            obtain ⟨g1, g2, g3, g4, g5⟩ := hq
            exact ⟨g1, Nat.lt_of_lt_of_le g2 HFR.out.size, g3, g4, g5⟩
          · exact (HBR'.out.trans HBB4.out).trans (HFR.out.below (Nat.le_trans HBR'.out.size HBB4.out.size) (fun q hq => by have hq : q = O := hq; have := HB.out; omega))
        case measure => simp [intOf]; omega
      · have hkk : ¬ (k : Int) < ps.length := by omega
        obtain rfl : k = ps.length := by omega
        have HTK := Lib.hid (show ps.take ps.length = ps from List.take_length)
        rw [HTK.out] at HOWN
        have HSTAY := Lib.hid (show ∀ W', Fr (fun q => (Value.slice pq ps.length cq).ownBlock = some q) wr W' → (W'.heap[O]? = some (.cells #[.int .i64 op, .slice pq0 cls.length cq0, .slice pq ps.length cq] 52) ∧ W'.heap[B + 1]? = some (.cells #[.int .i64 0, .slice none 0 0, .slice none 0 0] 52) ∧ OwnL intE 3 1 w.heap.size W' (.slice pq0 cls.length cq0) cls ∧ Below w.heap.size w W') from fun W' hf =>
          ⟨(hf.block O (at_lt HBOR.out) (fun he => (HPNE.out O he).1 rfl)).trans HBOR.out, (hf.block _ (at_lt HBRR.out) (fun he => (HPNE.out _ he).2.1 rfl)).trans HBRR.out, HCVR.out.fr hf (fun q hq he => (HCVR.out.apart HOWN.out (by decide)) q hq he),
            HBR'.out.trans (hf.below hbsz (fun q hq => (HOWN.out.lt q hq).1))⟩)
        obtain ⟨x0, x1, x2⟩ := cells3 HBXR.out
        obtain ⟨z0, z1, z2⟩ := cells3 HBOR.out
        have HFIN := Lib.hid (show ∀ (W5 : World) (ns : List Nd), ns.length = ps.length → NodesF (fun q => w.heap.size ≤ q) W5 (.slice pq ps.length cq) ns → Ints W5 (.slice pq0 cls.length cq0) cls → NodeF (fun q => w.heap.size ≤ q) W5 (.mk op cls ns) (.int .i64 op) (.slice pq0 cls.length cq0) (.slice pq ps.length cq) from fun W5 ns hl h1 h2 => by
          rw [nodeF_iff]
          exact ⟨rfl, h2, fun _ q hq => (HCVR.out.lt q hq).1, HCB.out, by have := HPB.out; omega, h1⟩)
        obtain ⟨rows, g1, g2, g3, g4⟩ := OwnL.rev HOWN.out
        have hrl : (revL ps).length = ps.length := revL_length ps
        have HLI := Lib.hid (show ∀ n, Lies (fun q => w.heap.size ≤ q) (.slice pq ps.length cq) n from fun n _ q hq => (HOWN.out.lt q hq).1)
        by_cases h2 : op = 2
        · subst h2
          have HG4 := Lib.hid g4
          have HG2 := Lib.hid g2
          have HG3 := Lib.hid g3
          have HRV := Lib.hid (rev_own2 wr w.heap.size ps.length _ rows (by omega) (by omega) g3 (by rw [hrl] at g1; exact g1))
          have HRL := Lib.hid hrl
          clear g1 g2 g3 g4 hrl hb
          go_wp2_with fail
          refine HRV.out.mono ?_
          rintro e w4 ⟨hraw, hf4, u, rfl⟩
          have HRAW := Lib.hid hraw
          have HF4 := Lib.hid hf4
          have HST := Lib.hid (HSTAY.out w4 hf4)
          clear hraw hf4 z0 z1 z2 x0 x1 x2
          obtain ⟨z0, z1, z2⟩ := cells3 HST.out.1
          go_wp2_with (refine wpList_store_obj rfl (.tmp 2) (.tmp 33) 52 rfl (B + 1) rfl [.int .i64 2, .slice pq0 cls.length cq0, .slice pq ps.length cq] rfl _ _ HST.out.2.1 (by kernel_rfl) rfl (by simp [Value.oneCell']) ?_; intro w5 hb5 hf5)
          obtain ⟨s0, s1, s2⟩ := cells3 hb5
          have hbe : Below w.heap.size w w5 := HST.out.2.2.2.trans (hf5.below HST.out.2.2.2.size (fun q hq => by have hq : q = B + 1 := hq; have := HB.out; omega))
          refine bodyPost_ret (v := .agg #[.int .i64 2, .slice pq0 cls.length cq0, .slice pq ps.length cq]) (by simp [results, Try.results40, go_sem, s0, s1, s2]) rfl ⟨_, _, _, rfl, ?_, hbe⟩
          have hne : ∀ q, FE w.heap.size O (B + 1) wr (Value.slice pq ps.length cq) q → w.heap.size ≤ q := fun q hq => hq.1
          have e : revX (.mk 2 cls ps) = .mk 2 cls (revL ps).reverse := by rw [revX, if_pos rfl]
          rw [e]
          refine HFIN.out w5 _ (by rw [List.length_reverse, HRL.out]) ?_ ((HST.out.2.2.1.fr hf5 (fun q hq he => HST.out.2.2.1.notAt HST.out.2.1 (by decide) (by rw [hq]; exact congrArg some he))).read.ints)
          have hlen : (revL ps).reverse.length = ps.length := by rw [List.length_reverse, HRL.out]
          refine ⟨rows.reverse, ⟨fun r hr => ?_, ?_⟩, HLI.out _, by rw [List.length_reverse, List.length_reverse, HG2.out], fun i hi => ?_⟩
          · obtain ⟨a0, a1, a2, a3, a4, a5, a6, rfl⟩ := HG3.out r (List.mem_reverse.1 hr)
            rfl
          · have h := HRAW.out
            rw [List.length_reverse, HG2.out, HRL.out]
            exact Raw.fr hf5 h (fun _ q hq he => (HPNE.out q hq).2.1 he)
          · rw [List.length_reverse] at hi
            have hi2 : (revL ps).length - 1 - i < (revL ps).length := by omega
            obtain ⟨a, b, c, k1, k2⟩ := HG4.out _ hi2
            refine ⟨a, b, c, ?_, ?_⟩
            · rw [List.getElem?_reverse (by rw [HG2.out]; exact hi), HG2.out]; exact k1
            · rw [List.getElem_reverse]
              exact NodeF.mono hne _ ((k2.fr HF4.out (fun q hq he => hq.2.2.1 he)).fr hf5 (fun q hq he => hq.2.2.2.2 he))
        · have h2' : (op == 2) = false := by simp [h2]
          have HRL := Lib.hid hrl
          have H2 := Lib.hid h2
          clear g1 g2 g3 g4 hrl h2 hb
          go_wp2_with (refine wpList_store_obj rfl (.tmp 2) (.tmp 33) 52 rfl (B + 1) rfl [.int .i64 op, .slice pq0 cls.length cq0, .slice pq ps.length cq] rfl _ _ HBRR.out (by kernel_rfl) rfl (by simp [Value.oneCell']) ?_; intro w5 hb5 hf5)
          obtain ⟨s0, s1, s2⟩ := cells3 hb5
          have hbe : Below w.heap.size w w5 := HBR'.out.trans (hf5.below hbsz (fun q hq => by have hq : q = B + 1 := hq; have := HB.out; omega))
          refine bodyPost_ret (v := .agg #[.int .i64 op, .slice pq0 cls.length cq0, .slice pq ps.length cq]) (by simp [results, Try.results40, go_sem, s0, s1, s2]) rfl ⟨_, _, _, rfl, ?_, hbe⟩
          have e : revX (.mk op cls ps) = .mk op cls (revL ps) := by rw [revX, if_neg H2.out]
          rw [e]
          refine HFIN.out w5 _ HRL.out ?_ ((HCVR.out.fr hf5 (fun q hq he => HCVR.out.notAt HBRR.out (by decide) (by rw [hq]; exact congrArg some he))).read.ints)
          have hown := HOWN.out
          have h3 : OwnL (nodeE (fun q => w.heap.size ≤ q) w5) 52 3 w.heap.size w5 (.slice pq ps.length cq) (revL ps) := (hown.fr hf5 (fun q hq he => (HPNE.out q hq).2.1 he)).mono fun x r hx => by
            obtain ⟨u0, u1, u2, rfl, hu⟩ := hx
            exact ⟨u0, u1, u2, rfl, NodeF.mono (fun q hq => hq.1) _ (hu.fr hf5 (fun q hq he => hq.2.2.2.2 he))⟩
          exact h3.read.nodesF (HLI.out _)

theorem rev_x : ∀ (x : Nd), RevAt x
  | .mk op cls ps => rev_step op cls ps (fun x hx => rev_x x)
  termination_by x => SizeOf.sizeOf x
  decreasing_by
    have := List.sizeOf_lt_of_mem hx
    simp; omega
end Go.Proofs.Ythmaokjhncokdaa

/-
  Turned expressions and turned rows. Plain theorems; no program.
-/
set_option linter.unusedVariables false
set_option linter.unusedSimpArgs false
namespace Go.Proofs.Ythmaokjhncokdaa

theorem revX_mk (op : Int) (cls : List Int) (ps : List Nd) : revX (.mk op cls ps) = .mk op cls (if op = 2 then (ps.map revX).reverse else ps.map revX) := by
  rw [revX, revL_map]

theorem mem_revX {op : Int} {ps : List Nd} {x : Nd} (hx : x ∈ ps) : revX x ∈ (if op = 2 then (ps.map revX).reverse else ps.map revX) := by
  split
  · simp; exact ⟨x, hx, rfl⟩
  · simp; exact ⟨x, hx, rfl⟩

theorem len_revX {op : Int} {ps : List Nd} : (if op = 2 then (ps.map revX).reverse else ps.map revX).length = ps.length := by
  split <;> simp

/-- what is matched is matched from the end -/
theorem M_rev {t : List Int} {n : Nat} (hn : n = t.length) : ∀ (x : Nd) {a b : Nat}, b ≤ n → M t x a b → M t.reverse (revX x) (n - b) (n - a)
  | .mk op cls parts, a, b, hb, h => by
    have hpart : ∀ x ∈ parts, ∀ a b, b ≤ n → M t x a b → M t.reverse (revX x) (n - b) (n - a) := by
      intro x hx a b hb h
      have := List.sizeOf_lt_of_mem hx
      exact M_rev hn x hb h
    have hseq : ∀ (l : List Nd), (∀ x ∈ l, x ∈ parts) → ∀ a b, b ≤ n → Mseq t l a b → Mseq t.reverse (l.map revX).reverse (n - b) (n - a) := by
      intro l
      induction l with
      | nil => intro _ a b _ h; simp only [Mseq] at h; subst h; simp [Mseq]
      | cons x r ih =>
        intro hm a b hb h
        simp only [Mseq] at h
        obtain ⟨c, h2, h3⟩ := h
        rw [List.map_cons, List.reverse_cons, Mseq_append]
        have hcb := Mseq_le h3
        exact ⟨n - c, ih (fun y hy => hm y (by simp [hy])) _ _ hb h3, Mseq_one.2 (hpart x (hm x (by simp)) _ _ (by omega) h2)⟩
    have halt : ∀ a b, b ≤ n → Malt t parts a b → Malt t.reverse (if op = 2 then (parts.map revX).reverse else parts.map revX) (n - b) (n - a) := by
      intro a b hb h
      obtain ⟨x, hx, h2⟩ := Malt_mem.1 h
      exact Malt_mem.2 ⟨revX x, mem_revX hx, hpart x hx _ _ hb h2⟩
    rw [revX_mk]
    unfold M at h ⊢
    split at h
    · rename_i h0; rw [if_pos h0]; omega
    · rename_i h0; rw [if_neg h0]
      split at h
      · rename_i h2; rw [if_pos h2]
        obtain ⟨rfl, c, h2, h3⟩ := h
        refine ⟨by omega, c, ?_, h3⟩
        rw [List.getElem?_reverse (by omega)]
        rw [← h2]
        congr 1; omega
      · rename_i h2; rw [if_neg h2]
        split at h
        · rename_i h2; rw [if_pos h2, if_pos h2]; exact hseq parts (fun _ h => h) a b hb h
        · rename_i h2; rw [if_neg h2]
          split at h
          · rename_i h2; rw [if_pos h2]; exact halt a b hb h
          · rename_i h2; rw [if_neg h2]
            split at h
            · rename_i h2; rw [if_pos h2]
              refine ⟨by rw [len_revX]; exact h.1, ?_⟩
              obtain ⟨-, h⟩ := h
              induction h with
              | refl => exact .refl _
              | step _ h3 ih => exact Star.head (halt _ _ hb h3) (ih (Nat.le_trans (Malt_le h3) hb))
            · rename_i h2; rw [if_neg h2]
              split at h
              · rename_i h2; rw [if_pos h2]
                refine ⟨by rw [len_revX]; exact h.1, ?_⟩
                rcases h.2 with rfl | h
                · exact .inl rfl
                · exact .inr (halt a b hb h)
              · exact h.elim
  termination_by x => SizeOf.sizeOf x
  decreasing_by all_goals (simp; omega)

theorem rev_rev : ∀ (x : Nd), revX (revX x) = x
  | .mk op cls ps => by
    rw [revX_mk, revX_mk]
    have h : (ps.map revX).map revX = ps := by
      rw [List.map_map]
      conv => rhs; rw [← List.map_id ps]
      refine List.map_congr_left fun x hx => ?_
      have := List.sizeOf_lt_of_mem hx
      exact rev_rev x
    congr 1
    split
    · rw [List.map_reverse, List.reverse_reverse, h]
    · exact h
  termination_by x => SizeOf.sizeOf x
  decreasing_by (simp; omega)

theorem cntL_sum : ∀ (l : List Nd), cntL l = (l.map cnt).sum
  | [] => by simp [cntL]
  | x :: r => by simp [cntL, cntL_sum r]

theorem cnt_rev : ∀ (x : Nd), cnt (revX x) = cnt x
  | .mk op cls ps => by
    have h : (ps.map revX).map cnt = ps.map cnt := by
      rw [List.map_map]
      refine List.map_congr_left fun x hx => ?_
      have := List.sizeOf_lt_of_mem hx
      exact cnt_rev x
    rw [revX_mk]
    simp only [cnt, cntL_sum]
    split
    · rw [List.map_reverse, List.sum_reverse, h]
    · rw [h]
  termination_by x => SizeOf.sizeOf x
  decreasing_by (simp; omega)

theorem Wf_rev : ∀ (x : Nd) (d : Nat), Wf d x → Wf d (revX x)
  | .mk op cls ps, d, h => by
    unfold Wf at h
    obtain ⟨h1, h2, h3, h4, h5, h6, h7⟩ := h
    rw [revX_mk]
    unfold Wf
    refine ⟨h1, h2, h3, fun h => ?_, fun h => by rw [len_revX]; exact h5 h, h6, ?_⟩
    · rw [h4 h]; simp
    · rw [WfL_iff] at h7 ⊢
      intro y hy
      have : ∃ x ∈ ps, revX x = y := by
        split at hy
        · simpa using hy
        · simpa using hy
      obtain ⟨x, hx, rfl⟩ := this
      have := List.sizeOf_lt_of_mem hx
      exact Wf_rev x (d + 1) (h7 x hx)
  termination_by x => SizeOf.sizeOf x
  decreasing_by (simp; omega)

theorem right_rev {x : Nd} (h : RightX x) : RightX (revX x) := ⟨Wf_rev x 1 h.1, by rw [cnt_rev]; exact h.2⟩

theorem rightB_rev (x : Nd) : rightB (revX x) = rightB x := by
  rw [Bool.eq_iff_iff, rightB_iff, rightB_iff]
  exact ⟨fun h => by have := right_rev h; rwa [rev_rev] at this, right_rev⟩

theorem fit_rev (x : Nd) (row : List Int) : fitB (revX x) row.reverse = fitB x row := by
  rw [Bool.eq_iff_iff, fitB_iff, fitB_iff, List.length_reverse]
  constructor
  · intro h
    have := M_rev (t := row.reverse) (n := row.length) (by simp) (revX x) (Nat.le_refl _) h
    rw [List.reverse_reverse, rev_rev] at this
    simpa using this
  · intro h
    have := M_rev (t := row) (n := row.length) rfl x (Nat.le_refl _) h
    simpa using this
end Go.Proofs.Ythmaokjhncokdaa

/-
  Count, depth, Stars of an expression. No condition beyond what each theorem names.
-/
set_option linter.unusedVariables false
set_option linter.unusedSimpArgs false
namespace Go.Proofs.Ythmaokjhncokdaa
open Go.RowKit

mutual
/-- how many nodes Count tells of: it stops behind four hundred -/
def countT : Nd → Int
  | .mk _ _ ps => countTL 1 ps
def countTL : Int → List Nd → Int
  | a, [] => a
  | a, x :: r => if a ≤ 400 then countTL (wrap64 (a + countT x)) r else a
end

mutual
def depthI : Nd → Int
  | .mk _ _ ps => wrap64 (depthIL 0 ps + 1)
def depthIL : Int → List Nd → Int
  | a, [] => a
  | a, x :: r => depthIL (max a (depthI x)) r
end

mutual
def starsI : Nd → Int
  | .mk op _ ps => if op = 4 then wrap64 (starsIL 0 ps + 1) else starsIL 0 ps
def starsIL : Int → List Nd → Int
  | a, [] => a
  | a, x :: r => starsIL (max a (starsI x)) r
end

theorem depthIL_snoc (a : Int) : ∀ (l : List Nd) (x : Nd), depthIL a (l ++ [x]) = max (depthIL a l) (depthI x)
  | [], x => by simp [depthIL]
  | y :: r, x => by
    simp only [List.cons_append, depthIL]
    exact depthIL_snoc _ r x

theorem starsIL_snoc (a : Int) : ∀ (l : List Nd) (x : Nd), starsIL a (l ++ [x]) = max (starsIL a l) (starsI x)
  | [], x => by simp [starsIL]
  | y :: r, x => by
    simp only [List.cons_append, starsIL]
    exact starsIL_snoc _ r x

/-- Count so far, as long as it goes on -/
def countTo (ps : List Nd) (k : Nat) (a : Int) : Prop := countTL a (ps.drop k) = countTL 1 ps

theorem countTo_step {ps : List Nd} {k : Nat} {a : Int} (hk : k < ps.length) (h : countTo ps k a) (ha : a ≤ 400) : countTo ps (k + 1) (wrap64 (a + countT ps[k])) := by
  unfold countTo at *
  rw [← h, List.drop_eq_getElem_cons hk, countTL, if_pos ha]

theorem countTo_stop {ps : List Nd} {k : Nat} {a : Int} (hk : k < ps.length) (h : countTo ps k a) (ha : ¬ a ≤ 400) : a = countTL 1 ps := by
  unfold countTo at *
  rw [← h, List.drop_eq_getElem_cons hk, countTL, if_neg ha]

theorem countTo_end {ps : List Nd} {k : Nat} {a : Int} (hk : ¬ k < ps.length) (h : countTo ps k a) : a = countTL 1 ps := by
  unfold countTo at *
  rw [← h, List.drop_of_length_le (by omega), countTL]

theorem countTL_eq : ∀ (l : List Nd) (a : Int), 1 ≤ a → (a : Int) + (cntL l : Int) ≤ 400 → (∀ x ∈ l, cnt x ≤ 400 → countT x = cnt x) → countTL a l = a + cntL l
  | [], a, _, _, _ => by simp [countTL, cntL]
  | x :: r, a, h2, h3, h4 => by
    simp only [cntL] at h3 ⊢
    have hx := cnt_pos x
    rw [countTL, if_pos (by omega), h4 x (by simp) (by omega)]
    have e : wrap64 (a + cnt x) = a + cnt x := by
      exact IntWalk.wrap64_in _ (by omega)
    rw [e, countTL_eq r _ (by omega) (by omega) (fun y hy => h4 y (by simp [hy]))]
    omega

theorem countT_eq : ∀ (x : Nd), cnt x ≤ 400 → countT x = cnt x
  | .mk op cls ps, h => by
    simp only [cnt] at h ⊢
    rw [countT, countTL_eq ps 1 (by omega) (by omega) (fun y hy => by
      have := List.sizeOf_lt_of_mem hy
      exact countT_eq y)]
    omega
  termination_by x => SizeOf.sizeOf x
  decreasing_by (simp; omega)

mutual
/-- how deep an expression is -/
def depthN : Nd → Nat
  | .mk _ _ ps => 1 + depthNL ps
def depthNL : List Nd → Nat
  | [] => 0
  | x :: r => max (depthN x) (depthNL r)
end

theorem depthNL_le : ∀ {l : List Nd} {x : Nd}, x ∈ l → depthN x ≤ depthNL l
  | [], x, h => by simp at h
  | y :: r, x, h => by
    simp only [depthNL]
    rcases List.mem_cons.1 h with rfl | h
    · omega
    · have := depthNL_le h; omega

theorem depthNL_bound : ∀ {l : List Nd} {n : Nat}, (∀ x ∈ l, depthN x ≤ n) → depthNL l ≤ n
  | [], n, _ => by simp [depthNL]
  | y :: r, n, h => by
    simp only [depthNL]
    have h1 := h y (by simp)
    have h2 := depthNL_bound (l := r) (n := n) (fun x hx => h x (by simp [hx]))
    omega

theorem depthIL_eq : ∀ (l : List Nd) (a : Nat), (∀ x ∈ l, depthI x = depthN x) → depthIL a l = max a (depthNL l)
  | [], a, _ => by simp [depthIL, depthNL]
  | x :: r, a, h => by
    rw [depthIL, h x (by simp), show max (a : Int) (depthN x : Int) = ((max a (depthN x) : Nat) : Int) by omega, depthIL_eq r _ (fun y hy => h y (by simp [hy]))]
    simp only [depthNL]
    omega

theorem depthI_eq : ∀ (x : Nd), depthN x ≤ 1000 → depthI x = depthN x
  | .mk op cls ps, h => by
    simp only [depthN] at h ⊢
    have e : depthIL 0 ps = depthNL ps := by
      have := depthIL_eq ps 0 (fun y hy => by
        have := List.sizeOf_lt_of_mem hy
        have := depthNL_le hy
        exact depthI_eq y (by omega))
      simpa using this
    rw [depthI, e]
    rw [IntWalk.wrap64_in _ (by omega)]
    omega
  termination_by x => SizeOf.sizeOf x
  decreasing_by (simp; omega)

theorem Wf_depth : ∀ (x : Nd) (d : Nat), Wf d x → d + depthN x ≤ 33
  | .mk op cls ps, d, h => by
    unfold Wf at h
    obtain ⟨h1, -, -, -, -, -, h7⟩ := h
    rw [WfL_iff] at h7
    simp only [depthN]
    have := depthNL_bound (l := ps) (n := 32 - d) (fun y hy => by
      have := List.sizeOf_lt_of_mem hy
      have := Wf_depth y (d + 1) (h7 y hy)
      omega)
    omega
  termination_by x => SizeOf.sizeOf x
  decreasing_by (simp; omega)

theorem Wf_move : ∀ (x : Nd) (d e : Nat), Wf d x → e + depthN x ≤ 33 → Wf e x
  | .mk op cls ps, d, e, h, he => by
    unfold Wf at h ⊢
    obtain ⟨h1, h2, h3, h4, h5, h6, h7⟩ := h
    rw [WfL_iff] at h7 ⊢
    simp only [depthN] at he
    refine ⟨by omega, h2, h3, h4, h5, h6, fun y hy => ?_⟩
    have := List.sizeOf_lt_of_mem hy
    have := depthNL_le hy
    exact Wf_move y (d + 1) (e + 1) (h7 y hy) (by omega)
  termination_by x => SizeOf.sizeOf x
  decreasing_by (simp; omega)

/-- right, of at most a hundred nodes, and not deeper than twenty -/
structure Small (x : Nd) : Prop where
  right : RightX x
  cnt : cnt x ≤ 100
  depth : depthN x ≤ 20

theorem small_of {x : Nd} (h : RightX x) (h1 : countT x ≤ 100) (h2 : depthI x ≤ 20) : Small x := by
  have h3 := Wf_depth x 1 h.1
  rw [countT_eq x h.2] at h1
  rw [depthI_eq x (by omega)] at h2
  exact ⟨h, by omega, by omega⟩

def CountAt (x : Nd) : Prop := ∀ (w : World) (a b c : Value), NodeIs w x a b c →
    Calls Try.prog 52 #[.agg #[a, b, c]] w fun e w' => e = .returned (.int .i64 (countT x)) ∧ Below w.heap.size w w'

set_option maxRecDepth 100000 in
set_option maxHeartbeats 4000000 in
theorem count_step (op : Int) (cls : List Int) (ps : List Nd) (ih : ∀ x ∈ ps, CountAt x) : CountAt (.mk op cls ps) := by
  intro w a b c hx
  have IH := Lib.hid ih
  rw [nodeIs_iff] at hx
  obtain ⟨rfl, hcl, hcb, hpb, hps⟩ := hx
  obtain ⟨pc, capc, rfl, hcc, hxc⟩ := hcl.get
  obtain ⟨pp, capp, rfl, hcp, hxp⟩ := hps.get
  unfold R at hcb hpb
  have HXP := Lib.hid hxp
  clear hcl hps hxc hxp ih
  go_enter Try.func52, Try.ntmps52
  go_upto_region 1 with fail
  refine abs_wp fun W hW => ?_
  obtain ⟨B, hB⟩ : ∃ B, B = w.heap.size := ⟨_, rfl⟩
  have hbox : W.heap[B]? = some (.cells #[.int .i64 op, .slice pc cls.length capc, .slice pp ps.length capp] 52) := by rw [hW, hB]; exact heap_alloc_new _ _
  have hBW : Below w.heap.size w W := by rw [hW]; exact below_alloc1 _ _
  rw [← hB]
  have HBW := Lib.hid hBW
  have HBOX := Lib.hid hbox
  clear hW hbox hB hBW
  go_wp2_with fail
  go_loopw [3, 4] (fun d i wr => ∃ (k : Nat) (a : Int), i = .int .i64 k ∧ k ≤ ps.length ∧ d = .int .i64 a ∧ countTo ps k a ∧ Below W.heap.size W wr) (fun _ i _ => ps.length - (intOf i).toNat)
  case atStart => exact ⟨0, _, rfl, by omega, rfl, by unfold countTo; rw [List.drop_zero], Below.refl _ _⟩
  case round =>
    obtain ⟨k, a, rfl, h1, rfl, hrl, hb⟩ := hrel
    have HRL := Lib.hid hrl
    have HBR := Lib.hid hb
    have hbox := (hb.block _ (at_lt HBOX.out)).trans HBOX.out
    obtain ⟨y0, y1, y2⟩ := cells3 hbox
    have HBWR := Lib.hid (HBW.out.trans (hb.mono HBW.out.size))
    have hbw := HBWR.out
    clear hb hrl hbox
    by_cases hk : k < ps.length
    · obtain ⟨bb, off, rfl, hbl, hxx⟩ := HXP.out (by omega)
      obtain ⟨x, y, z, c0, c1, c2, hnode⟩ := hxx k hk
      have r0 := cell_below hbw hbl c0
      have r1 := cell_below hbw hbl c1
      have r2 := cell_below hbw hbl c2
      have HD := Lib.hid (IH.out ps[k] (List.getElem_mem hk) wr x y z (hnode.to hbw (Nat.le_refl _)))
      have hkk : (k : Int) < ps.length := by omega
      have hk0 : (0 : Int) ≤ k := by omega
      clear hxx c0 c1 c2 hnode hbw
      by_cases ha : a ≤ 400
      · have HST := Lib.hid (countTo_step hk HRL.out ha)
        generalize countT ps[k] = dk at *
        go_wp2_with fail
        refine HD.out.mono ?_
        rintro e w1 ⟨rfl, hb1⟩
        have HB1 := Lib.hid (HBR.out.trans (hb1.mono HBR.out.size))
        clear y0 y1 y2 r0 r1 r2 hb1
        go_wp2_with fail
        go_roundw
        case rel => exact ⟨k + 1, _, by go_num, by omega, rfl, HST.out, HB1.out⟩
        case measure => simp [intOf]; omega
      · have HST := Lib.hid (countTo_stop hk HRL.out ha)
        go_wp2_with fail
        go_ret
        exact ⟨ret_int (by rw [countT]; exact HST.out), HBWR.out⟩
    · have hkk : ¬ (k : Int) < ps.length := by omega
      have HST := Lib.hid (countTo_end hk HRL.out)
      go_wp2_with fail
      go_ret
      exact ⟨ret_int (by rw [countT]; exact HST.out), HBWR.out⟩

theorem count_any : ∀ (x : Nd), CountAt x
  | .mk op cls ps => count_step op cls ps (fun x hx => count_any x)
  termination_by x => SizeOf.sizeOf x
  decreasing_by
    have := List.sizeOf_lt_of_mem hx
    simp; omega

def StarsAt (x : Nd) : Prop := ∀ (w : World) (a b c : Value), NodeIs w x a b c →
    Calls Try.prog 53 #[.agg #[a, b, c]] w fun e w' => e = .returned (.int .i64 (starsI x)) ∧ Below w.heap.size w w'

set_option maxRecDepth 100000 in
set_option maxHeartbeats 4000000 in
theorem stars_step (op : Int) (cls : List Int) (ps : List Nd) (ih : ∀ x ∈ ps, StarsAt x) : StarsAt (.mk op cls ps) := by
  intro w a b c hx
  have IH := Lib.hid ih
  rw [nodeIs_iff] at hx
  obtain ⟨rfl, hcl, hcb, hpb, hps⟩ := hx
  obtain ⟨pc, capc, rfl, hcc, hxc⟩ := hcl.get
  obtain ⟨pp, capp, rfl, hcp, hxp⟩ := hps.get
  unfold R at hcb hpb
  have HXP := Lib.hid hxp
  clear hcl hps hxc hxp ih
  go_enter Try.func53, Try.ntmps53
  go_upto_region 1 with fail
  refine abs_wp fun W hW => ?_
  obtain ⟨B, hB⟩ : ∃ B, B = w.heap.size := ⟨_, rfl⟩
  have hbox : W.heap[B]? = some (.cells #[.int .i64 op, .slice pc cls.length capc, .slice pp ps.length capp] 52) := by rw [hW, hB]; exact heap_alloc_new _ _
  have hBW : Below w.heap.size w W := by rw [hW]; exact below_alloc1 _ _
  rw [← hB]
  have HBW := Lib.hid hBW
  have HBOX := Lib.hid hbox
  clear hW hbox hB hBW
  go_wp2_with fail
  go_loopw [3, 4] (fun d i wr => ∃ (k : Nat) (a : Int), i = .int .i64 k ∧ k ≤ ps.length ∧ d = .int .i64 a ∧ a = starsIL 0 (ps.take k) ∧ Below W.heap.size W wr) (fun _ i _ => ps.length - (intOf i).toNat)
  case atStart => exact ⟨0, _, rfl, by omega, rfl, rfl, Below.refl _ _⟩
  case round =>
    obtain ⟨k, a, rfl, h1, rfl, hrl, hb⟩ := hrel
    have HRL := Lib.hid hrl
    have HBR := Lib.hid hb
    have hbox := (hb.block _ (at_lt HBOX.out)).trans HBOX.out
    obtain ⟨y0, y1, y2⟩ := cells3 hbox
    have HBWR := Lib.hid (HBW.out.trans (hb.mono HBW.out.size))
    have hbw := HBWR.out
    clear hb hrl hbox
    by_cases hk : k < ps.length
    · obtain ⟨bb, off, rfl, hbl, hxx⟩ := HXP.out (by omega)
      obtain ⟨x, y, z, c0, c1, c2, hnode⟩ := hxx k hk
      have r0 := cell_below hbw hbl c0
      have r1 := cell_below hbw hbl c1
      have r2 := cell_below hbw hbl c2
      have HD := Lib.hid (IH.out ps[k] (List.getElem_mem hk) wr x y z (hnode.to hbw (Nat.le_refl _)))
      have hkk : (k : Int) < ps.length := by omega
      have hk0 : (0 : Int) ≤ k := by omega
      clear hxx c0 c1 c2 hnode hbw
      have HST := Lib.hid (show max a (starsI ps[k]) = starsIL 0 (ps.take (k + 1)) by rw [List.take_succ_eq_append_getElem hk, starsIL_snoc, HRL.out])
      generalize starsI ps[k] = dk at *
      go_wp2_with fail
      refine HD.out.mono ?_
      rintro e w1 ⟨rfl, hb1⟩
      have HB1 := Lib.hid (HBR.out.trans (hb1.mono HBR.out.size))
      clear y0 y1 y2 r0 r1 r2 hb1
      go_wp2_with fail
      all_goals
        go_roundw
        case rel => exact ⟨k + 1, _, by go_num, by omega, rfl, by first | exact HST.out | (rw [← HST.out]; omega), HB1.out⟩
        case measure => simp [intOf]; omega
    · have hkk : ¬ (k : Int) < ps.length := by omega
      have hke : ps.take k = ps := List.take_of_length_le (by omega)
      have HF := Lib.hid (show a = starsIL 0 ps by have h := HRL.out; rwa [hke] at h)
      clear hke
      by_cases h4 : op = 4
      · subst h4
        go_wp2_with fail
        go_ret
        exact ⟨ret_int (by rw [starsI, if_pos rfl, ← HF.out]), HBWR.out⟩
      · have h4' : (op == 4) = false := by simp [h4]
        have H4 := Lib.hid h4
        clear h4
        go_wp2_with fail
        go_ret
        exact ⟨ret_int (by rw [starsI, if_neg H4.out, ← HF.out]), HBWR.out⟩

theorem stars_any : ∀ (x : Nd), StarsAt x
  | .mk op cls ps => stars_step op cls ps (fun x hx => stars_any x)
  termination_by x => SizeOf.sizeOf x
  decreasing_by
    have := List.sizeOf_lt_of_mem hx
    simp; omega
end Go.Proofs.Ythmaokjhncokdaa

/-
  small, fits; what expressions that are put together fit. No condition beyond what each theorem names.
-/
set_option linter.unusedVariables false
set_option linter.unusedSimpArgs false
namespace Go.Proofs.Ythmaokjhncokdaa
open Go.RowKit

/-- what is matched is matched in another text that reads the same elsewhere -/
theorem M_move {t u : List Int} (g : Nat → Nat) : ∀ (x : Nd) (a b : Nat), (∀ k, a ≤ k → k < b → t[g k]? = u[k]? ∧ g (k + 1) = g k + 1) → M u x a b → M t x (g a) (g b)
  | .mk op cls parts, a, b, hg, h => by
    have hpart : ∀ x ∈ parts, ∀ a b, (∀ k, a ≤ k → k < b → t[g k]? = u[k]? ∧ g (k + 1) = g k + 1) → M u x a b → M t x (g a) (g b) := by
      intro x hx a b hg h
      have := List.sizeOf_lt_of_mem hx
      exact M_move g x a b hg h
    have hseq : ∀ (l : List Nd), (∀ x ∈ l, x ∈ parts) → ∀ a b, (∀ k, a ≤ k → k < b → t[g k]? = u[k]? ∧ g (k + 1) = g k + 1) → Mseq u l a b → Mseq t l (g a) (g b) := by
      intro l
      induction l with
      | nil => intro _ a b _ h; simp only [Mseq] at h ⊢; rw [h]
      | cons x r ih =>
        intro hm a b hg h
        simp only [Mseq] at h ⊢
        obtain ⟨c, h2, h3⟩ := h
        have l1 := M_le h2
        have l2 := Mseq_le h3
        exact ⟨g c, hpart x (hm x (by simp)) _ _ (fun k h1 h2 => hg k h1 (by omega)) h2, ih (fun y hy => hm y (by simp [hy])) _ _ (fun k h1 h2 => hg k (by omega) h2) h3⟩
    have halt : ∀ a b, (∀ k, a ≤ k → k < b → t[g k]? = u[k]? ∧ g (k + 1) = g k + 1) → Malt u parts a b → Malt t parts (g a) (g b) := by
      intro a b hg h
      obtain ⟨x, hx, h2⟩ := Malt_mem.1 h
      exact Malt_mem.2 ⟨x, hx, hpart x hx _ _ hg h2⟩
    unfold M at h ⊢
    split at h
    · rename_i h0; rw [if_pos h0, h]
    · rename_i h0; rw [if_neg h0]
      split at h
      · rename_i h2; rw [if_pos h2]
        obtain ⟨rfl, c, h2, h3⟩ := h
        obtain ⟨g1, g2⟩ := hg a (Nat.le_refl _) (by omega)
        exact ⟨g2, c, by rw [g1]; exact h2, h3⟩
      · rename_i h2; rw [if_neg h2]
        split at h
        · rename_i h2; rw [if_pos h2]; exact hseq parts (fun _ h => h) a b hg h
        · rename_i h2; rw [if_neg h2]
          split at h
          · rename_i h2; rw [if_pos h2]; exact halt a b hg h
          · rename_i h2; rw [if_neg h2]
            split at h
            · rename_i h2; rw [if_pos h2]
              refine ⟨h.1, ?_⟩
              obtain ⟨-, h⟩ := h
              have key : ∀ {a b}, Star (Malt u parts) a b → (∀ k, a ≤ k → k < b → t[g k]? = u[k]? ∧ g (k + 1) = g k + 1) → a ≤ b ∧ Star (Malt t parts) (g a) (g b) := by
                intro a b h
                induction h with
                | refl => intro _; exact ⟨Nat.le_refl _, .refl _⟩
                | step h4 h3 ih =>
                  intro hg
                  have l1 := Malt_le h3
                  obtain ⟨i1, i2⟩ := ih (fun k h1 h2 => hg k h1 (by omega))
                  exact ⟨by omega, .step i2 (halt _ _ (fun k h1 h2 => hg k (by omega) h2) h3)⟩
              exact (key h hg).2
            · rename_i h2; rw [if_neg h2]
              split at h
              · rename_i h2; rw [if_pos h2]
                refine ⟨h.1, ?_⟩
                rcases h.2 with rfl | h
                · exact .inl rfl
                · exact .inr (halt a b hg h)
              · exact h.elim
  termination_by x => SizeOf.sizeOf x
  decreasing_by all_goals (simp; omega)

/-- of a row's beginning -/
theorem fit_take {x : Nd} {row : List Int} {k : Nat} (hk : k ≤ row.length) : fitB x (row.take k) = true ↔ M row x 0 k := by
  rw [fitB_iff, List.length_take, Nat.min_eq_left hk]
  constructor
  · exact M_move id x 0 k (fun j h1 h2 => ⟨by simp only [id]; rw [List.getElem?_take_of_lt h2], rfl⟩)
  · exact M_move id x 0 k (fun j h1 h2 => ⟨by simp only [id]; rw [List.getElem?_take_of_lt h2], rfl⟩)

/-- of a row's end -/
theorem fit_drop {x : Nd} {row : List Int} {k : Nat} (hk : k ≤ row.length) : fitB x (row.drop k) = true ↔ M row x k row.length := by
  rw [fitB_iff, List.length_drop]
  constructor
  · intro h
    have := M_move (t := row) (· + k) x 0 (row.length - k) (fun j h1 h2 => ⟨by rw [List.getElem?_drop, Nat.add_comm], by omega⟩) h
    simpa [Nat.sub_add_cancel hk] using this
  · intro h
    have := M_move (t := row.drop k) (· - k) x k row.length (fun j h1 h2 => ⟨by rw [List.getElem?_drop, show k + (j - k) = j by omega], by omega⟩) h
    simpa using this

theorem fit_seq2 {x y : Nd} {row : List Int} : fitB (.mk 2 [] [x, y]) row = true ↔ ∃ k, k ≤ row.length ∧ fitB x (row.take k) = true ∧ fitB y (row.drop k) = true := by
  rw [fitB_iff, M_2]
  simp only [Mseq]
  constructor
  · rintro ⟨c, h1, d, h2, rfl⟩
    have l2 := M_le h2
    exact ⟨c, l2, (fit_take l2).2 h1, (fit_drop l2).2 h2⟩
  · rintro ⟨c, h0, h1, h2⟩
    exact ⟨c, (fit_take h0).1 h1, _, (fit_drop h0).1 h2, rfl⟩

theorem fit_alt2 {x y : Nd} {row : List Int} : fitB (.mk 3 [] [x, y]) row = (fitB x row || fitB y row) := by
  rw [Bool.eq_iff_iff, Bool.or_eq_true, fitB_iff, fitB_iff, fitB_iff, M_3]
  simp [Malt]

theorem fit_opt {x : Nd} {row : List Int} : fitB (.mk 5 [] [x]) row = (fitB x row || decide (row.length = 0)) := by
  rw [Bool.eq_iff_iff, Bool.or_eq_true, fitB_iff, fitB_iff, decide_eq_true_iff, M_5, Malt_one]
  constructor
  · rintro ⟨-, h | h⟩
    · exact .inr h.symm
    · exact .inl h
  · rintro (h | h)
    · exact ⟨rfl, .inr h⟩
    · exact ⟨rfl, .inl h.symm⟩

theorem star_head {r : Nat → Nat → Prop} {a b : Nat} (h : Star r a b) : a = b ∨ ∃ c, r a c ∧ Star r c b := by
  induction h with
  | refl => exact .inl rfl
  | step h1 h2 ih =>
    rcases ih with rfl | ⟨c, h3, h4⟩
    · exact .inr ⟨_, h2, .refl _⟩
    · exact .inr ⟨c, h3, .step h4 h2⟩

theorem fit_star {x : Nd} {row : List Int} : fitB (.mk 4 [] [x]) row = (fitB (.mk 2 [] [x, .mk 4 [] [x]]) row || decide (row.length = 0)) := by
  rw [Bool.eq_iff_iff, Bool.or_eq_true, fitB_iff, fitB_iff, decide_eq_true_iff, M_4, M_2]
  simp only [Mseq]
  constructor
  · rintro ⟨-, h⟩
    rcases star_head h with h | ⟨c, h1, h2⟩
    · exact .inr h.symm
    · exact .inl ⟨c, Malt_one.1 h1, _, (M_4 _ _).2 ⟨rfl, h2⟩, rfl⟩
  · rintro (⟨c, h1, d, h2, rfl⟩ | h)
    · exact ⟨rfl, Star.head (Malt_one.2 h1) ((M_4 _ _).1 h2).2⟩
    · exact ⟨rfl, h ▸ .refl _⟩

theorem Small.at {x : Nd} (h : Small x) {d : Nat} (hd : d ≤ 13) : Wf d x := Wf_move x 1 d h.right.1 (by have := h.depth; omega)

theorem right_one {x : Nd} (h : Small x) (op : Int) (ho : 2 ≤ op ∧ op ≤ 5) : RightX (.mk op [] [x]) := by
  refine ⟨?_, by have := h.cnt; simp only [cnt, cntL]; omega⟩
  unfold Wf
  exact ⟨by omega, by omega, fun _ => rfl, by omega, fun _ => rfl, rising_nil, by simp only [WfL, and_true]; exact h.at (by omega)⟩

/-- two right expressions put together -/
theorem right_two {x y : Nd} {d : Nat} (hx : Wf (d + 1) x) (hy : Wf (d + 1) y) (hd : d ≤ 30) (op : Int) (ho : op = 2 ∨ op = 3) : Wf d (.mk op [] [x, y]) := by
  unfold Wf
  exact ⟨by omega, by omega, fun _ => rfl, by omega, by omega, rising_nil, by simp only [WfL, and_true]; exact ⟨hx, hy⟩⟩

theorem right_three {x y z : Nd} {d : Nat} (hx : Wf (d + 1) x) (hy : Wf (d + 1) y) (hz : Wf (d + 1) z) (hd : d ≤ 30) (op : Int) (ho : op = 2 ∨ op = 3) : Wf d (.mk op [] [x, y, z]) := by
  unfold Wf
  exact ⟨by omega, by omega, fun _ => rfl, by omega, by omega, rising_nil, by simp only [WfL, and_true]; exact ⟨hx, hy, hz⟩⟩

theorem right_star {x : Nd} {d : Nat} (hx : Wf (d + 1) x) (hd : d ≤ 30) : Wf d (.mk 4 [] [x]) := by
  unfold Wf
  exact ⟨by omega, by omega, fun _ => rfl, by omega, fun _ => rfl, rising_nil, by simp only [WfL, and_true]; exact hx⟩

def SmallPost (w : World) (x : Nd) (e : Ending) (w' : World) : Prop := ∃ b : Bool, e = .returned (.bool b) ∧ (b = true → Small x) ∧ Below w.heap.size w w'

end Go.Proofs.Ythmaokjhncokdaa

