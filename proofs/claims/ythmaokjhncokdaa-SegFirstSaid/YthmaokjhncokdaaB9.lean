import Derived.Test.YthmaokjhncokdaaB8
import Derived.Test.YthmaokjhncokdaaB5
import Derived.Test.YthmaokjhncokdaaB6
import Derived.Test.YthmaokjhncokdaaBP
/-
  A pointer that is stored: what is read of lists of numbers, and of a machine, stays. No condition beyond what each theorem names.
-/
set_option linter.unusedVariables false
set_option linter.unusedSimpArgs false
namespace Go.Proofs.Ythmaokjhncokdaa

theorem Raw.ptr {w : World} {v : Value} {n : Nat} {cs : List Value} {T i : Nat} {q : Option Addr} {u : Value} (h : Raw w v n cs) (hp : w.cell? ⟨T, i, none⟩ = some (.pointer q)) (hn : ∀ x ∈ cs, ∀ q, x ≠ .pointer q) : Raw (w.setCell ⟨T, i, none⟩ u) v n cs := by
  obtain ⟨p, cap, rfl, hc, hx⟩ := h
  refine ⟨p, cap, rfl, hc, fun h0 => ?_⟩
  obtain ⟨b, off, rfl, hy⟩ := hx h0
  refine ⟨b, off, rfl, fun j x hj => ?_⟩
  have h1 := hy j x hj
  have hne : (⟨T, i, none⟩ : Addr) ≠ ⟨b, off + j, none⟩ := fun e => by
    rw [← e, hp] at h1
    exact hn x (List.mem_of_getElem? hj) q (Option.some.inj h1).symm
  exact (World.cell?_setCell_other _ _ _ _ hne).trans h1

theorem Ints.ptr {w : World} {v : Value} {xs : List Int} {T i : Nat} {q : Option Addr} {u : Value} (h : Ints w v xs) (hp : w.cell? ⟨T, i, none⟩ = some (.pointer q)) : Ints (w.setCell ⟨T, i, none⟩ u) v xs :=
  Raw.ptr h hp (fun x hx q e => by
    obtain ⟨n, -, rfl⟩ := List.mem_map.1 hx
    cases e)

theorem ReadL.ptr {α : Type} {E F : α → List Value → Prop} {sz : Nat} {w : World} {v : Value} {xs : List α} {T i : Nat} {q : Option Addr} {u : Value} (h : ReadL E sz w v xs) (hp : w.cell? ⟨T, i, none⟩ = some (.pointer q)) (hE : ∀ x row, E x row → (∀ c ∈ row, ∀ q, c ≠ .pointer q) ∧ F x row) : ReadL F sz (w.setCell ⟨T, i, none⟩ u) v xs := by
  obtain ⟨rows, h1, h2, h3, h4⟩ := h
  refine ⟨rows, h1.ptr hp (fun x hx q => ?_), h2, h3, fun j hj => ?_⟩
  · obtain ⟨row, hr, hxr⟩ := List.mem_flatten.1 hx
    obtain ⟨j, hj, rfl⟩ := List.getElem_of_mem hr
    obtain ⟨row', g1, g2⟩ := h4 j (by omega)
    rw [List.getElem?_eq_getElem hj] at g1
    cases g1
    exact (hE _ _ g2).1 x hxr q
  · obtain ⟨row, g1, g2⟩ := h4 j hj
    exact ⟨row, g1, (hE _ _ g2).2⟩

theorem MachD.ptr {w : World} {ob n : Nat} {N : List (List Nat)} {O : List Nat} {T i : Nat} {q : Option Addr} {u : Value} (h : MachD w ob n N O) (hp : w.cell? ⟨T, i, none⟩ = some (.pointer q)) : MachD (w.setCell ⟨T, i, none⟩ u) ob n N O := by
  obtain ⟨nv, ov, h1, h2, h3⟩ := h
  obtain ⟨pn, cn, rfl, -, -⟩ := h2.at (by decide) rfl
  obtain ⟨po, co, rfl, -, -⟩ := h3.at (by decide) rfl
  have hne : ob ≠ T := fun e => by
    subst e
    match i, hp with
    | 0, hp => simp [World.cell?, h1] at hp
    | 1, hp => simp [World.cell?, h1] at hp
    | 2, hp => simp [World.cell?, h1] at hp
    | i + 3, hp => simp [World.cell?, h1] at hp
  have hf := Fr.setCell (F := fun j => j = T) w (p := ⟨T, i, none⟩) rfl u
  refine ⟨_, _, (hf.block ob (at_lt h1) hne).trans h1, h2.ptr hp (fun x row hr => ?_), h3.ptr hp (fun x row hr => ?_)⟩
  · obtain ⟨v, rfl, g1, g2, g3⟩ := hr
    obtain ⟨p, c, rfl, -, -⟩ := g2.get
    exact ⟨(fun c hc q e => by rw [List.mem_singleton.1 hc] at e; cases e), _, rfl, g1, g2.ptr hp, g3⟩
  · have hr : row = [.int .u64 (x : Nat)] := hr
    subst hr
    exact ⟨(fun c hc q e => by rw [List.mem_singleton.1 hc] at e; cases e), rfl⟩
end Go.Proofs.Ythmaokjhncokdaa

/-
  tables, plain: what Compile comes to. No program, no condition beyond what each theorem names.
-/
set_option linter.unusedVariables false
set_option linter.unusedSimpArgs false
namespace Go.Proofs.Ythmaokjhncokdaa
open Classical

theorem insideL_all (n : Int) : ∀ ps : List Nd, insideL n ps = ps.all (insideB n)
  | [] => rfl
  | p :: r => by rw [insideL, insideL_all n r, List.all_cons]
theorem inside_rev (n : Int) : ∀ x : Nd, insideB n (revX x) = insideB n x
  | .mk op cls ps => by
    have ih : ∀ p ∈ ps, insideB n (revX p) = insideB n p := fun p hp => by
      have := List.sizeOf_lt_of_mem hp
      exact inside_rev n p
    have h : (revL ps).all (insideB n) = ps.all (insideB n) := by
      rw [revL_map, List.all_map]
      induction ps with
      | nil => rfl
      | cons p r ihr =>
        rw [List.all_cons, List.all_cons, ihr (fun q hq => ih q (by simp [hq]))]
        rw [show (insideB n ∘ revX) p = insideB n p from ih p (by simp)]
    rw [revX, insideB, insideB, insideL_all, insideL_all, ← h]
    split
    · rw [List.all_reverse]
    · rfl
  termination_by x => SizeOf.sizeOf x
  decreasing_by
    simp
    omega

def leftsL (rs : List Rl) : List (Nd × Bool) := rs.map fun r => (r.left, r.start)
def rightsL (rs : List Rl) : List (Nd × Bool) := rs.map fun r => (revX r.right, false)
def breaksL (rs : List Rl) : Nat := bitsL (rs.map fun r => r.brk)
/-- may it be compiled at all? -/
def CompOk (n : Int) (rs : List Rl) : Prop := rs.length ≤ 40 ∧ (∀ r ∈ rs, RightX r.left ∧ RightX r.right) ∧ ArgOk n (leftsL rs) ∧ ArgOk n (rightsL rs)
end Go.Proofs.Ythmaokjhncokdaa

/-
  dfa, plain: what is built of one set, what a machine tells by its bits, how many situations one expression has. No program, no condition beyond what each theorem names.
-/
set_option linter.unusedVariables false
set_option linter.unusedSimpArgs false
namespace Go.Proofs.Ythmaokjhncokdaa
open Classical

/-! ### bits -/
theorem lang_map {σ β γ : Type} (A : Auto σ) (out : σ → β) (f : β → γ) (classes : Nat) (s : σ) : langA A (fun s => f (out s)) classes s = fun t => (langA A out classes s t).map f := by
  funext t
  unfold langA
  split <;> rfl
theorem lang_N {l : List (Nd × Bool)} (hl : ∀ e ∈ l, RightX e.1) (classes : Nat) : langA (autoE l) outN classes (autoE l).start = fun t => (tellsE l classes t).map bitsL := by
  have h := lang_map (autoE l) outE bitsL classes (autoE l).start
  rw [lang_E hl] at h
  exact h

/-- a machine that was built: its ways are of its states; behind each row it tells which expressions fit -/
theorem built_bits {l : List (Nd × Bool)} (hl : ∀ e ∈ l, RightX e.1) {classes : Nat} {N : List (List Nat)} {O : List Nat} (h : Built (autoE l) outN classes (some (N, O.map some))) :
    OkN N O classes ∧ 0 < N.length ∧ N.length ≤ 400 ∧ ∀ t : List Nat, (∀ c ∈ t, c < classes) → O[runN N 0 t]? = some (bitsL (l.map fun e => fitsE e.1 e.2 (t.map fun (c : Nat) => (c : Int)))) := by
  rcases h with ⟨h, -⟩ | ⟨hf, hle, he⟩
  · cases h
  obtain ⟨e1, e2⟩ := Prod.mk.inj (Option.some.inj he)
  have ho := canon_over outN hf
  have hpos0 := cl_pos (langAuto (langA (autoE l) outN classes (autoE l).start)) classes 2000
  have hst := cl_start (langAuto (langA (autoE l) outN classes (autoE l).start)) classes 2000
  unfold canonL at hle
  unfold canonNext canonL at e1
  unfold canonOut canonL at e2
  have hct := fun t ht i l' => canon_tells (l0 := langA (autoE l) outN classes (autoE l).start) (n := 2000) ho t ht (i := i) (l := l')
  unfold canonNext canonOut canonL at hct
  generalize 2000 = K at *
  have hlen : N.length = (cl (langAuto (langA (autoE l) outN classes (autoE l).start)) classes K).length := by rw [e1, nextsOf, List.length_map]
  have hok : OkN N (O.map some) classes := by
    rw [e1, e2]
    exact okN_of (fun l => l []) (over_closed ho)
  refine ⟨⟨by rw [hok.len, List.length_map], hok.row⟩, by omega, by omega, fun t ht => ?_⟩
  have h1 : (O.map some)[runN N 0 t]? = some (langA (autoE l) outN classes (autoE l).start t) := by
    rw [e2, e1]
    exact hct t ht 0 _ hst
  rw [lang_N hl] at h1
  have h2 : tellsE l classes t = some (l.map fun e => fitsE e.1 e.2 (t.map fun (c : Nat) => (c : Int))) := by unfold tellsE; rw [if_pos ht]
  simp only [h2] at h1
  rw [List.getElem?_map] at h1
  cases ho2 : O[runN N 0 t]? with
  | none => rw [ho2] at h1; cases h1
  | some o =>
    rw [ho2] at h1
    have h3 := Option.some.inj h1
    rw [Option.map_some] at h3
    exact h3

/-- what Build comes to is one thing -/
theorem built_det {σ β : Type} {A : Auto σ} {out : σ → β} {classes : Nat} {r r' : Option (List (List Nat) × List (Option β))} (h : Built A out classes r) (h' : Built A out classes r') : r = r' := by
  rcases h with ⟨h1, h2⟩ | ⟨h1, h2, h3⟩ <;> rcases h' with ⟨k1, k2⟩ | ⟨k1, k2, k3⟩
  · rw [h1, k1]
  · rcases h2 with h2 | h2
    · exact absurd h2 k1
    · omega
  · rcases k2 with k2 | k2
    · exact absurd k2 h1
    · omega
  · rw [h3, k3]

/-! ### how many situations one expression has -/
def powL : List Int → List (List Int)
  | [] => [[]]
  | a :: r => powL r ++ (powL r).map (a :: ·)
theorem powL_length : ∀ l : List Int, (powL l).length = 2 ^ l.length
  | [] => rfl
  | a :: r => by rw [powL, List.length_append, List.length_map, powL_length r, List.length_cons, Nat.pow_succ]; omega
theorem powL_filter (p : Int → Bool) : ∀ l : List Int, l.filter p ∈ powL l
  | [] => by simp [powL]
  | a :: r => by
    have ih := powL_filter p r
    rw [powL, List.mem_append]
    cases h : p a
    · rw [List.filter_cons_of_neg (by simp [h])]; exact .inl ih
    · rw [List.filter_cons_of_pos h]; exact .inr (List.mem_map.2 ⟨_, ih, rfl⟩)

/-- the states that a situation may have -/
noncomputable def coreL (S : List Sta) : List Int := ((List.range S.length).filter fun k => decide (core S k)).map fun (k : Nat) => (k : Int)
theorem coreL_rises (S : List Sta) : Rises (coreL S) := by
  unfold Rises coreL
  rw [List.pairwise_map]
  exact (List.pairwise_lt_range.filter _).imp (fun h => Int.ofNat_lt.2 h)
theorem mem_coreL {S : List Sta} {v : Int} : v ∈ coreL S ↔ ∃ k : Nat, v = k ∧ k < S.length ∧ core S k := by
  unfold coreL
  rw [List.mem_map]
  constructor
  · rintro ⟨k, hk, rfl⟩
    obtain ⟨h1, h2⟩ := List.mem_filter.1 hk
    exact ⟨k, rfl, List.mem_range.1 h1, of_decide_eq_true h2⟩
  · rintro ⟨k, rfl, h1, h2⟩
    exact ⟨k, List.mem_filter.2 ⟨List.mem_range.2 h1, decide_eq_true h2⟩, rfl⟩
theorem closed_core {S : List Sta} {l : List Int} {v : Int} (h : v ∈ closedL S l) : v ∈ coreL S := by
  obtain ⟨k, rfl, h1, -, h2⟩ := mem_closedL.1 h
  exact mem_coreL.2 ⟨k, rfl, h1, h2⟩
theorem step_core {S : List Sta} {whole : Bool} {s : List Int} {c v : Int} (h : v ∈ stepE S whole s c) : v ∈ coreL S := by
  unfold stepE at h
  split at h
  · exact closed_core h
  · rcases (mem_uniR (fun v hv => closedL_range hv) (fun v hv => closedL_range hv)).1 h with h | h
    · exact closed_core h
    · exact closed_core h
theorem step_rises {S : List Sta} {whole : Bool} {s : List Int} {c : Int} : Rises (stepE S whole s c) := by
  unfold stepE
  split
  · exact closedL_rises _ _
  · exact uniR_rises _ _ _
theorem rises_pow {c s : List Int} (hc : Rises c) (hs : Rises s) (h : ∀ v ∈ s, v ∈ c) : s ∈ powL c := by
  have e : s = c.filter fun v => decide (v ∈ s) := rises_ext hs (hc.filter _) fun v => by
    rw [List.mem_filter]
    exact ⟨fun hv => ⟨h v hv, decide_eq_true hv⟩, fun hv => of_decide_eq_true hv.2⟩
  rw [e]
  exact powL_filter _ c
theorem few_sits (x : Nd) (whole : Bool) (classes : Nat) (h : 2 ^ (coreL (mach x)).length ≤ 2000) : ¬ TooMany (autoE [(x, whole)]) classes := by
  rintro ⟨n, hn⟩
  have hall : ∀ s ∈ cl (autoE [(x, whole)]) classes n, s ∈ (powL (coreL (mach x))).map fun s => [s] := fun s hs => by
    obtain ⟨t, -, rfl⟩ := cl_met _ _ _ s hs
    rw [runA_E [(x, whole)] _ t rfl]
    refine List.mem_map.2 ⟨runE (mach x) whole (t.map fun (c : Nat) => (c : Int)), ?_, rfl⟩
    generalize t.map (fun (c : Nat) => (c : Int)) = row
    rcases List.eq_nil_or_concat row with rfl | ⟨r, c, rfl⟩
    · exact rises_pow (coreL_rises _) (closedL_rises _ _) (fun v hv => closed_core hv)
    · rw [List.concat_eq_append, runE_snoc]
      exact rises_pow (coreL_rises _) step_rises (fun v hv => step_core hv)
  have := sub_len _ _ (cl_nodup _ _ _) hall
  rw [List.length_map, powL_length] at this
  omega

/-! ### of one set -/
def x0 : Nd := .mk 1 [0] []
theorem x0_right : RightX x0 := by
  refine ⟨?_, by simp [x0, cnt, cntL]⟩
  unfold x0 Wf
  refine ⟨by omega, by omega, by simp, by simp, by omega, fun i h => ?_, by simp [WfL]⟩
  have : i = 0 := by simpa using h
  subst this
  simp
theorem fit_x0 (row : List Int) : fitB x0 row = true ↔ row = [0] := by
  rw [fitB_iff, x0, M_1]
  unfold one
  constructor
  · rintro ⟨h1, c, h2, h3⟩
    match row, h1 with
    | [a], _ =>
      simp at h2 h3
      rw [h2, h3]
  · rintro rfl
    exact ⟨rfl, 0, rfl, by simp⟩
theorem tells_x0 (t : List Nat) : fitsE x0 false (t.map fun (c : Nat) => (c : Int)) = decide (t.getLast? = some 0) := by
  unfold fitsE
  rw [if_neg (by simp)]
  rw [Bool.eq_iff_iff, decide_eq_true_iff, decide_eq_true_iff]
  constructor
  · rintro ⟨k, hk, h⟩
    rw [fit_x0] at h
    have h1 := congrArg List.getLast? h
    rw [List.getLast?_drop] at h1
    split at h1
    · cases h1
    · rw [List.getLast?_map] at h1
      cases hg : t.getLast? with
      | none => rw [hg] at h1; cases h1
      | some c =>
        rw [hg] at h1
        have h2 : (c : Int) = 0 := Option.some.inj h1
        have : c = 0 := by omega
        rw [this]
  · intro h
    obtain ⟨r, rfl⟩ : ∃ r, t = r ++ [0] := by
      rcases List.eq_nil_or_concat t with rfl | ⟨r, c, rfl⟩
      · cases h
      · rw [List.concat_eq_append] at h ⊢
        rw [List.getLast?_append] at h
        have : c = 0 := by simpa using h
        exact ⟨r, by rw [this]⟩
    refine ⟨r.length, by simp, ?_⟩
    rw [fit_x0, List.map_append, List.drop_left' (by simp)]
    rfl
end Go.Proofs.Ythmaokjhncokdaa

/-
  foolscaplaw08: expressions as arguments; few. No condition beyond what each theorem names.
-/
set_option linter.unusedVariables false
set_option linter.unusedSimpArgs false
set_option maxRecDepth 100000
namespace Go.Proofs.Ythmaokjhncokdaa
open Go.ChangeShapes Go.WideShapes Go.ChangeAt Go.RowKit Go.Deep

section
variable {H : Type} {enc : TypeId × Value → H} {w : World} {base : Nat} {spare : Nat → Bool} {held : Bool}
theorem cellsBool8 : Try.prog.cellsOf 4 = 1 := by kernel_rfl
theorem cellsNode8 : Try.prog.cellsOf 52 = 3 := by kernel_rfl
theorem cellsExpr8 : Try.prog.cellsOf 88 = 4 := by kernel_rfl

theorem expr_of {fuel : Nat} {cs : List Value} {x : DataW H × List MemPlace} (h : DataW.trod enc Try.prog w base spare held fuel 88 cs = some x) (hs : Sized 88 x.1) : ∃ e, exprE w e cs := by
  obtain ⟨xs, n, rfl, rfl, hl, hlen, hf⟩ := DataW.trod_struct Try.underlying88 h
  rw [cellsExpr8] at hl
  match cs, hl with
  | [c0, c1, c2, c3], _ =>
    have hxl : xs.length = 2 := by simpa using hlen
    have h0 := hf 0 _ rfl
    have h1 := hf 1 _ rfl
    simp only [List.getElem_toArray, List.getElem_cons_zero, List.getElem_cons_succ, cellsNode8, cellsBool8] at h0 h1
    rw [List.getElem?_eq_getElem (show 0 < xs.length by omega)] at h0
    rw [List.getElem?_eq_getElem (show 1 < xs.length by omega)] at h1
    have hsz : ∀ (j : Nat) (t : TypeId) (hj : j < xs.length), [52, 4][j]? = some t → Sized t xs[j].1 := by
      intro j t hj ht n hn
      refine hs n ?_
      simp only [DataW.weights, Try.underlying88]
      exact DataW.weights_mem_each (j := j) (t := t) (d := xs[j].1) (by simpa using ht) (by simp [hj]) n hn
    obtain ⟨x1, a, b, c, e0, hx1⟩ := node_of _ h0 (hsz 0 _ (by omega) rfl)
    obtain ⟨brk, e1, -⟩ := DataW.trod_bool Try.underlying4 h1
    simp at e0 e1
    obtain ⟨rfl, rfl, rfl⟩ := e0
    subst e1
    exact ⟨(x1, brk), _, _, _, rfl, hx1⟩

theorem exprs_of {fuel : Nat} {cs : List Value} {x : DataW H × List MemPlace} (h : DataW.trod enc Try.prog w base spare held fuel 87 cs = some x) (hs : Sized 87 x.1) : ∃ v l, cs = [v] ∧ ReadL (exprE w) 4 w v l ∧ l.length ≤ maxLen := by
  obtain ⟨v, n, rows, D, -, rfl, hrows, -, hm, h4⟩ := slice_of Try.underlying87 (by rw [cellsExpr8]; omega) h hs
  rw [cellsExpr8] at hrows
  have hex : ∀ i, i < rows.length → ∃ e : Nd × Bool, ∃ row, rows[i]? = some row ∧ exprE w e row := by
    intro i hi
    obtain ⟨g1, g2⟩ := h4 i hi
    obtain ⟨e, he⟩ := expr_of g1 g2
    exact ⟨e, _, List.getElem?_eq_getElem hi, he⟩
  have : Inhabited (Nd × Bool) := ⟨(.mk 0 [] [], false)⟩
  obtain ⟨f, hf⟩ := choose_lt hex
  refine ⟨v, (List.range rows.length).map f, rfl, ⟨rows, by simpa using hrows.2, by simp, fun r hr => ?_, fun i hi => ?_⟩, by simpa using hm⟩
  · obtain ⟨i, hi, rfl⟩ := List.getElem_of_mem hr
    obtain ⟨row, g1, a, b, c, rfl, hn⟩ := hf i hi
    rw [List.getElem?_eq_getElem hi] at g1
    rw [Option.some.inj g1]
    obtain ⟨op, p, l, c1, q, m, d, rfl, rfl, rfl⟩ := hn.form
    simp [Value.oneCell']
  · have hi' : i < rows.length := by simpa using hi
    obtain ⟨row, g1, g2⟩ := hf i hi'
    exact ⟨row, g1, by simpa using g2⟩

theorem exprs_open {r : Reach} {b0 : Nat} {v : Value} {d : DataW H} {p : List MemPlace} (hv : Value.okWide Try.prog w r b0 87 v) (h : DataW.Trod enc Try.prog w base spare held 87 v d p) (hs : Sized 87 d) : ∃ l, ReadL (exprE w) 4 w v l ∧ l.length ≤ maxLen := by
  obtain ⟨a0, len0, cap0, rfl⟩ := okWide_slice Try.underlying87 hv
  obtain ⟨fuel, hf⟩ := h
  obtain ⟨v, l, e, h1, h2⟩ := exprs_of hf hs
  simp only [Value.cells, List.cons.injEq, and_true] at e
  subst e
  exact ⟨l, h1, h2⟩
end

/-! ### few -/
/-- not too large -/
def notLarge (x : Nd × Bool) : Bool := decide (countT x.1 ≤ 40) && decide (starsI x.1 ≤ 3)
def fewL (l : List (Nd × Bool)) : List (Nd × Bool) := (l.take 8).filter notLarge
theorem fewL_length (l : List (Nd × Bool)) : (fewL l).length ≤ 8 := by
  unfold fewL
  exact Nat.le_trans (List.length_filter_le _ _) (by rw [List.length_take]; omega)
theorem few_snoc {l : List (Nd × Bool)} {k : Nat} (hk : k < l.length) (h8 : k < 8) : ((l.take 8).take (k + 1)).filter notLarge = ((l.take 8).take k).filter notLarge ++ (if notLarge l[k] then [l[k]] else []) := by
  rw [List.take_succ_eq_append_getElem (by rw [List.length_take]; omega), List.filter_append]
  congr 1
  rw [List.getElem_take]
  cases h : notLarge l[k] <;> simp [List.filter_cons, h]

theorem infoExpr : (Try.prog.info? 81).map (fun i => (i.zero, i.size, i.bytes)) = some (some (.agg #[.int .i64 0, .slice none 0 0, .slice none 0 0, .bool false]), 4, 64) := by kernel_rfl
theorem infoExpr8 : (Try.prog.info? 88).map (fun i => (i.zero, i.size, i.bytes)) = some (some (.agg #[.int .i64 0, .slice none 0 0, .slice none 0 0, .bool false]), 4, 64) := by kernel_rfl

section
variable {ops : Array Oper} {rest : List Oper} {o : Oper} {a : Act} {w : World} {Q : Exit → Act → World → Prop} {base : Nat} {E : Nd × Bool → List Value → Prop}
theorem wpList_append_exprs (hgd : o.guard = none) (s x : Operand) (ho : o.op = .call { callee := .builtin .append, args := #[s, x], argTypes := #[79, 79] })
    (v : Value) (xs : List (Nd × Bool)) (n : Nat) (hn : xs.length = n) (hs : a.eval s = v) (hown : OwnL E 81 4 base w v xs) (xv : Value) (ys : List (Nd × Bool)) (m : Nat) (hm : ys.length = m) (hx : a.eval x = xv) (hr : ReadL E 4 w xv ys) (hlen : n + m ≤ 1000000) (hbase : base ≤ w.heap.size)
    (h : ∀ p c w', OwnL E 81 4 base w' (.slice p (n + m) c) (xs ++ ys) → w.grownBy w' v.ownBlock → ((Value.slice p (n + m) c).ownBlock = v.ownBlock ∨ (Value.slice p (n + m) c).ownBlock = some w.heap.size) → wpList Try.prog ops Q rest (a.put o.dst (.slice p (n + m) c)) w') : wpList Try.prog ops Q (o :: rest) a w := by
  subst hn hm
  obtain ⟨i0, hi, hz0, hz1, hz2⟩ := info_parts infoExpr
  exact wpList_append_L hgd s x 79 ho i0 _ 64 Try.underlying79 hi hz0 hz1 hz2 rfl (by decide) v xs hs hown xv ys hx hr (by unfold maxLen; omega) (by omega) hbase h
theorem wpList_append_exprs8 (hgd : o.guard = none) (s x : Operand) (ho : o.op = .call { callee := .builtin .append, args := #[s, x], argTypes := #[87, 87] })
    (v : Value) (xs : List (Nd × Bool)) (n : Nat) (hn : xs.length = n) (hs : a.eval s = v) (hown : OwnL E 88 4 base w v xs) (xv : Value) (y : Nd × Bool) (hx : a.eval x = xv) (hr : ReadL E 4 w xv [y]) (hlen : n + 1 ≤ 1000000) (hbase : base ≤ w.heap.size)
    (h : ∀ p c w', OwnL E 88 4 base w' (.slice p (n + 1) c) (xs ++ [y]) → w.grownBy w' v.ownBlock → ((Value.slice p (n + 1) c).ownBlock = v.ownBlock ∨ (Value.slice p (n + 1) c).ownBlock = some w.heap.size) → wpList Try.prog ops Q rest (a.put o.dst (.slice p (n + 1) c)) w') : wpList Try.prog ops Q (o :: rest) a w := by
  subst hn
  obtain ⟨i0, hi, hz0, hz1, hz2⟩ := info_parts infoExpr8
  exact wpList_append_L hgd s x 87 ho i0 _ 64 Try.underlying87 hi hz0 hz1 hz2 rfl (by decide) v xs hs hown xv [y] hx hr (by unfold maxLen; simp; omega) (by simp; omega) hbase h
end

def FewPost (w : World) (L : List (Nd × Bool)) (e : Ending) (w' : World) : Prop :=
  ∃ va vb, e = .returned (.tuple #[va, vb]) ∧ OwnL (exprE w) 81 4 w.heap.size w' va L ∧ OwnL (exprE w) 88 4 w.heap.size w' vb L ∧ Below w.heap.size w w'

end Go.Proofs.Ythmaokjhncokdaa

/-
  dfa, plain: expressions written otherwise (DfaEqual, DfaEither): they are right, and fit the same. No condition beyond what each theorem names.
-/
set_option linter.unusedVariables false
set_option linter.unusedSimpArgs false
namespace Go.Proofs.Ythmaokjhncokdaa
open Classical Go.RowKit

mutual
theorem depth_cnt : ∀ x : Nd, depthN x ≤ cnt x
  | .mk op cls ps => by
    have := depth_cntL ps
    simp only [depthN, cnt]
    omega
theorem depth_cntL : ∀ ps : List Nd, depthNL ps ≤ cntL ps
  | [] => by simp [depthNL, cntL]
  | x :: r => by
    have := depth_cnt x
    have := depth_cntL r
    simp only [depthNL, cntL]
    omega
end
theorem small_cnt {x : Nd} (h : RightX x) (hc : countT x ≤ 20) : Small x ∧ cnt x ≤ 20 := by
  have h1 := countT_eq x h.2
  have h2 := depth_cnt x
  exact ⟨⟨h, by omega, by omega⟩, by omega⟩

theorem wf_empty {d : Nat} (hd : d ≤ 30) : Wf d (.mk 0 [] []) := by
  unfold Wf
  exact ⟨by omega, by omega, fun _ => rfl, fun _ => rfl, by omega, rising_nil, by simp only [WfL]⟩
theorem right_alt2 {x y : Nd} (hx : Small x) (hy : Small y) : RightX (.mk 3 [] [x, y]) :=
  ⟨right_two (hx.at (by omega)) (hy.at (by omega)) (by omega) 3 (.inr rfl), by have := hx.cnt; have := hy.cnt; simp only [cnt, cntL]; omega⟩
theorem right_behind {x : Nd} (hx : Small x) : RightX (.mk 2 [] [x, .mk 0 [] []]) :=
  ⟨right_two (hx.at (by omega)) (wf_empty (by omega)) (by omega) 2 (.inl rfl), by have := hx.cnt; simp only [cnt, cntL]; omega⟩
theorem right_more {x : Nd} (hx : Small x) : RightX (.mk 5 [] [.mk 2 [] [x, .mk 4 [] [x]]]) := by
  refine ⟨?_, by have := hx.cnt; simp only [cnt, cntL]; omega⟩
  unfold Wf
  exact ⟨by omega, by omega, fun _ => rfl, by omega, fun _ => rfl, rising_nil, by
    simp only [WfL, and_true]
    exact right_two (hx.at (by omega)) (right_star (hx.at (by omega)) (by omega)) (by omega) 2 (.inl rfl)⟩

theorem argOk_one {n : Int} {l : List (Nd × Bool)} {y : Nd} {b : Bool} (h : ArgOk n l) (hr : RightX y) (hi : insideB n y = true) : ArgOk n [(y, b)] :=
  ⟨h.1, h.2.1, by simp, fun e he => by rw [List.mem_singleton.1 he]; exact ⟨hr, hi⟩⟩

/-- one that fits the same is built to the same -/
theorem built_eq {x y : Nd} {b : Bool} {n : Nat} {m m' : List (List Nat) × List (Option Nat)} (hx : RightX x) (hy : RightX y) (h : ∀ row, fitB x row = fitB y row) (h1 : Built (autoE [(x, b)]) outN n (some m)) (h2 : Built (autoE [(y, b)]) outN n (some m')) : m = m' := by
  refine built_same ?_ h1 h2
  rw [lang_N (fun e he => by rw [List.mem_singleton.1 he]; exact hx), lang_N (fun e he => by rw [List.mem_singleton.1 he]; exact hy), tells_same h]

/-- an argument of one expression -/
theorem one_expr {w : World} {x : Nd} {a b c : Value} (hn : NodeIs w x a b c) (wh : Bool) (T : TypeId) : ReadL (exprE (w.alloc (.cells #[a, b, c, .bool wh] T))) 4 (w.alloc (.cells #[a, b, c, .bool wh] T)) (.slice (some ⟨w.heap.size, 0, none⟩) 1 1) [(x, wh)] := by
  have hn' := hn.to (below_alloc1 w (.cells #[a, b, c, .bool wh] T)) (Nat.le_refl _)
  obtain ⟨op, pp, l, c1, q, m, d, rfl, rfl, rfl⟩ := hn.form
  exact ReadL.one w T (x, wh) [.int .i64 op, .slice pp l c1, .slice q m d, .bool wh] ⟨rfl, by simp [Value.oneCell']⟩ ⟨_, _, _, rfl, hn'⟩

theorem some_pairs {N N2 : List (List Nat)} {O O2 : List Nat} (h : (N, O.map some) = (N2, O2.map some)) : N = N2 ∧ O = O2 := by
  obtain ⟨h1, h2⟩ := Prod.mk.inj h
  exact ⟨h1, (List.map_inj_right (fun x y h => Option.some.inj h)).1 h2⟩
theorem two_allocs (w : World) (o1 o2 : Obj) (W : World) (hW : W = (w.alloc o1).alloc o2) : Below w.heap.size w W ∧ W.heap[w.heap.size]? = some o1 ∧ W.heap[w.heap.size + 1]? = some o2 := by
  have s1 : (w.alloc o1).heap.size = w.heap.size + 1 := by simp
  have b1 := below_alloc1 w o1
  have b2 := below_alloc1 (w.alloc o1) o2
  subst hW
  refine ⟨b1.trans (b2.mono (by omega)), ?_, ?_⟩
  · rw [b2.block _ (by omega)]; exact heap_alloc_new _ _
  · rw [← s1]; exact heap_alloc_new _ _

/-- no expression at all: it fits nothing but the empty row -/
theorem node_none (w : World) : NodeIs w (.mk 0 [] []) (.int .i64 0) (.slice none 0 0) (.slice none 0 0) := by
  rw [nodeIs_iff]
  exact ⟨rfl, Ints.nil _, by unfold R; simp, by unfold R; simp, [], ⟨by simp, none, 0, rfl, by simp, fun h => by simp at h⟩, rfl, fun i h => by simp at h⟩
end Go.Proofs.Ythmaokjhncokdaa

/-
  dfa, plain: languages whose answers are told otherwise; what is built of expressions turned round, of one more that never fits, of the last one twice (DfaTurns, DfaMore). No program, no condition beyond what each theorem names.
-/
set_option linter.unusedVariables false
set_option linter.unusedSimpArgs false
namespace Go.Proofs.Ythmaokjhncokdaa
open Classical

section
variable {σ β γ : Type}
theorem hom_glang (l0 : List Nat → Option β) (g : β → γ) (classes : Nat) (hinj : ∀ t u x y, l0 t = some x → l0 u = some y → g x = g y → x = y) : Hom (langAuto l0) (langAuto fun t => (l0 t).map g) classes (fun l t => (l t).map g) where
  start := rfl
  step := fun t _ c _ => rfl
  inj := fun t u _ _ h => by
    funext v
    have h2 := congrFun h v
    have e1 : runA (langAuto l0) (langAuto l0).start t v = l0 (t ++ v) := runLang l0 t l0 v
    have e2 : runA (langAuto l0) (langAuto l0).start u v = l0 (u ++ v) := runLang l0 u l0 v
    simp only [e1, e2] at h2
    rw [e1, e2]
    cases ht : l0 (t ++ v) with
    | none => cases hu : l0 (u ++ v) with
      | none => rfl
      | some y => rw [ht, hu] at h2; cases h2
    | some x => cases hu : l0 (u ++ v) with
      | none => rw [ht, hu] at h2; cases h2
      | some y =>
        rw [ht, hu] at h2
        rw [hinj _ _ _ _ ht hu (Option.some.inj h2)]

theorem place_hom {σ τ : Type} {A : Auto σ} {B : Auto τ} {classes : Nat} {f : σ → τ} (H : Hom A B classes f) {L : List σ} (hL : ∀ x ∈ L, MetA A classes x) {y : σ} (hy : MetA A classes y) : place (L.map f) (f y) = place L y := by
  have h := place_map (f := f) (g := id) (x := y) (l := L) (fun z hz => by
    obtain ⟨t, ht, e1⟩ := hL z hz
    obtain ⟨u, hu, e2⟩ := hy
    constructor
    · intro h
      rw [e1, e2] at h ⊢
      exact H.inj t u ht hu h
    · intro h
      have h : z = y := h
      rw [h])
  rw [h]
  simp

/-- what is built, where the answers are told otherwise, but apart as they were -/
theorem built_g {A : Auto σ} {out : σ → β} (g : β → γ) {classes : Nat} (hinj : ∀ t u x y, langA A out classes A.start t = some x → langA A out classes A.start u = some y → g x = g y → x = y) {r : Option (List (List Nat) × List (Option β))} (h : Built A out classes r) :
    Built A (fun s => g (out s)) classes (r.map fun p => (p.1, p.2.map (Option.map g))) := by
  have hl : langA A (fun s => g (out s)) classes A.start = fun t => (langA A out classes A.start t).map g := lang_map A out g classes A.start
  obtain ⟨l0, hl0⟩ : ∃ l0, l0 = langA A out classes A.start := ⟨_, rfl⟩
  unfold Built at h ⊢
  rw [hl]
  rw [← hl0] at h hinj ⊢
  have H := hom_glang l0 g classes hinj
  obtain ⟨hc, hm⟩ := cl_map H 2000
  have hL : canonL (fun t => (l0 t).map g) classes 2000 = (canonL l0 classes 2000).map (fun l t => (l t).map g) := hc.symm
  have hm' : ∀ x ∈ canonL l0 classes 2000, MetA (langAuto l0) classes x := hm
  have hlen : (canonL (fun t => (l0 t).map g) classes 2000).length = (canonL l0 classes 2000).length := by rw [hL, List.length_map]
  clear hc hm
  generalize 2000 = K at *
  rcases h with ⟨rfl, h⟩ | ⟨h1, h2, rfl⟩
  · exact .inl ⟨rfl, by rw [hlen]; exact h⟩
  · refine .inr ⟨h1, by rw [hlen]; exact h2, ?_⟩
    rw [Option.map_some]
    congr 1
    refine Prod.ext ?_ ?_
    · show canonNext l0 classes K = canonNext _ classes K
      unfold canonNext
      rw [hL]
      unfold nextsOf
      rw [List.map_map]
      refine List.map_congr_left fun s hs => List.map_congr_left fun c hcr => ?_
      have hcc : c < classes := List.mem_range.1 hcr
      exact (place_hom H hm' ((hm' s hs).step hcc)).symm
    · show (canonOut l0 classes K).map (Option.map g) = canonOut _ classes K
      unfold canonOut
      rw [hL, List.map_map, List.map_map]
      rfl
end

/-! ### turned round -/
/-- the first n bits, turned round -/
def turnN (n v : Nat) : Nat := bitsL ((List.range n).map fun k => v.testBit (n - 1 - k))
theorem turn_bits {bs : List Bool} {n : Nat} (h : bs.length = n) : turnN n (bitsL bs) = bitsL bs.reverse := by
  unfold turnN
  congr 1
  refine List.ext_getElem (by simp [h]) fun i h1 h2 => ?_
  have hi : i < n := by simpa using h1
  rw [List.getElem_map, List.getElem_range, bitsL_get bs (n - 1 - i) (by omega), List.getElem_reverse]
  congr 1
  omega
theorem lang_shape {l : List (Nd × Bool)} (hl : ∀ e ∈ l, RightX e.1) {classes : Nat} {t : List Nat} {x : Nat} (h : langA (autoE l) outN classes (autoE l).start t = some x) : ∃ bs : List Bool, bs.length = l.length ∧ x = bitsL bs := by
  have h : (tellsE l classes t).map bitsL = some x := by rw [lang_N hl] at h; exact h
  unfold tellsE at h
  split at h
  · exact ⟨_, by simp, (Option.some.inj h).symm⟩
  · cases h
theorem built_turn {l : List (Nd × Bool)} (hl : ∀ e ∈ l, RightX e.1) {classes : Nat} {r : Option (List (List Nat) × List (Option Nat))} (h : Built (autoE l) outN classes r) :
    Built (autoE l.reverse) outN classes (r.map fun p => (p.1, p.2.map (Option.map (turnN l.length)))) := by
  have h1 := built_g (turnN l.length) (fun t u x y hx hy e => by
    obtain ⟨bs, hb, rfl⟩ := lang_shape hl hx
    obtain ⟨cs, hc, rfl⟩ := lang_shape hl hy
    rw [turn_bits hb, turn_bits hc] at e
    have := bitsL_inj (by simp [hb, hc]) e
    rw [List.reverse_inj.1 this]) h
  refine (built_hom (hom_turn l classes) ?_).1 h1
  rw [lang_map (autoE l) outN (turnN l.length) classes (autoE l).start, lang_N hl, lang_N (fun e he => hl e (List.mem_reverse.1 he))]
  funext t
  show ((tellsE l classes t).map bitsL).map (turnN l.length) = (tellsE l.reverse classes t).map bitsL
  unfold tellsE
  by_cases ht : ∀ c ∈ t, c < classes
  · rw [if_pos ht, if_pos ht]
    simp only [Option.map_some]
    rw [turn_bits (by simp), List.map_reverse]
  · rw [if_neg ht, if_neg ht]
    rfl

/-! ### one bit -/
theorem bit_at (o c : Nat) (ho : o < 2 ^ 64) : bits .and .u64 ((o : Int) / 2 ^ c) 1 = ((if o.testBit c then 1 else 0 : Nat) : Int) := by
  have e : ((o : Int) / 2 ^ c) = ((o / 2 ^ c : Nat) : Int) := by simp
  have hlt : o / 2 ^ c < 2 ^ 64 := Nat.lt_of_le_of_lt (Nat.div_le_self _ _) ho
  have h := u64_and_nat (o / 2 ^ c) 1 (by omega) (by omega)
  rw [e]
  refine h.trans ?_
  rw [Nat.and_one_is_mod, Nat.testBit_eq_decide_div_mod_eq]
  congr 1
  by_cases h2 : o / 2 ^ c % 2 = 1
  · simp [h2]
  · simp [h2]; omega
theorem turn_testBit {n v k : Nat} (hk : k < n) : (turnN n v).testBit k = v.testBit (n - 1 - k) := by
  unfold turnN
  rw [bitsL_get _ k (by simpa using hk), List.getElem_map, List.getElem_range]
theorem turn_lt (n v : Nat) : turnN n v < 2 ^ n := by
  have := bitsL_lt ((List.range n).map fun k => v.testBit (n - 1 - k))
  rw [List.length_map, List.length_range] at this
  exact this
theorem wrap_small (c : Nat) (h : c < 64) : min (IntKind.u64.wrap (c : Int)).toNat 64 = c := by
  have e : (c : Int) % 18446744073709551616 = c := by omega
  have : IntKind.u64.wrap (c : Int) = c := by
    show (if (false && decide ((c : Int) % 18446744073709551616 ≥ 9223372036854775808)) = true then (c : Int) % 18446744073709551616 - 18446744073709551616 else (c : Int) % 18446744073709551616) = c
    rw [e]
    simp
  rw [this]
  omega
/-- a bit, and its own in what is turned round -/
theorem bit_turn (o n c : Nat) (ho : o < 2 ^ n) (hn : n ≤ 64) (hc : c < n) :
    (bits .and .u64 ((o : Int) / 2 ^ c) 1 != bits .and .u64 ((turnN n o : Nat) / 2 ^ min (IntKind.u64.wrap ((n - 1 - c : Nat) : Int)).toNat 64) 1) = false := by
  have h64 : (2 : Nat) ^ n ≤ 2 ^ 64 := Nat.pow_le_pow_right (by omega) hn
  have ht := turn_lt n o
  rw [wrap_small _ (by omega), bit_at o c (by omega), bit_at _ _ (by omega), turn_testBit (by omega), show n - 1 - (n - 1 - c) = c by omega]
  simp
end Go.Proofs.Ythmaokjhncokdaa

/-
  dfa: Step, Equal of a machine. No condition beyond what each theorem names.
-/
set_option linter.unusedVariables false
set_option linter.unusedSimpArgs false
namespace Go.Proofs.Ythmaokjhncokdaa
open Go.RowKit Classical

/-- where Step leads -/
def stepI (N : List (List Nat)) (classes : Nat) (s c : Int) : Nat := if 0 ≤ s ∧ s < N.length ∧ 0 ≤ c ∧ c < classes then goN N s.toNat c.toNat else 0

theorem below_drewN {B : Nat} {w w' : World} (h : Below B w w') (hB : B ≤ w.heap.size) (n : Nat) : Below B w (w'.drewN n) := ((Fr.of_belowB h).drewN n).below hB (fun _ h => h)

theorem list_upto {α : Type} {xs ys : List α} (hl : xs.length = ys.length) (h : ∀ j (h1 : j < xs.length), xs[j] = ys[j]'(by omega)) : xs = ys := List.ext_getElem hl fun i h1 h2 => h i h1

set_option maxRecDepth 100000 in
set_option maxHeartbeats 4000000 in
theorem equal_ints (w : World) (u v : Value) (xs ys : List Int) (hx : ReadL intE 1 w u xs) (hy : ReadL intE 1 w v ys) (hl : xs.length ≤ 1000000) (hl2 : ys.length ≤ 1000000) :
    Calls Try.prog 67 #[u, v] w fun e w' => e = .returned (.bool (decide (xs = ys))) ∧ Below w.heap.size w w' := by
  obtain ⟨px, cx, rfl, hcx, hgx⟩ := hx.at (by decide) rfl
  obtain ⟨py, cy, rfl, hcy, hgy⟩ := hy.at (by decide) rfl
  have HGX := Lib.hid hgx
  have HGY := Lib.hid hgy
  clear hgx hgy hx hy
  by_cases hlen : xs.length = ys.length
  · have hli : (xs.length : Int) = ys.length := by omega
    obtain ⟨nn, hnn⟩ : ∃ nn, nn = ys.length := ⟨_, rfl⟩
    rw [← hnn] at hlen hl2 hcy ⊢
    rw [hlen] at hl hcx ⊢
    have HX := Lib.hid hlen
    have HY := Lib.hid hnn
    clear hlen hli hnn
    go_enter Try.func67, Try.ntmps67
    go_wp2_with fail
    go_loopw [13] (fun i wr => ∃ k : Nat, i = .int .i64 k ∧ k ≤ nn ∧ (∀ j (h1 : j < xs.length) (h2 : j < ys.length), j < k → xs[j] = ys[j]) ∧ Below w.heap.size w wr) (fun i _ => nn - (intOf i).toNat)
    case atStart => exact ⟨0, rfl, by omega, fun j _ _ h => by omega, Below.refl _ _⟩
    case round =>
      obtain ⟨k, rfl, hk1, hs, hb⟩ := hrel
      have HS := Lib.hid hs
      have HB := Lib.hid hb
      clear hs
      by_cases hk : k < nn
      · have hkx : k < xs.length := by rw [HX.out]; exact hk
        have hky : k < ys.length := by rw [← HY.out]; exact hk
        obtain ⟨bx, ox, rx, rfl, hbx, ex, fx⟩ := HGX.out k _ (List.getElem?_eq_getElem hkx)
        obtain ⟨by_, oy, ry, rfl, hby, ey, fy⟩ := HGY.out k _ (List.getElem?_eq_getElem hky)
        obtain ⟨a, ha⟩ : ∃ a, a = xs[k] := ⟨_, rfl⟩
        obtain ⟨b, hb2⟩ : ∃ b, b = ys[k] := ⟨_, rfl⟩
        rw [← ha] at fx
        rw [← hb2] at fy
        have fx : rx = [.int .i64 (a)] := fx
        have fy : ry = [.int .i64 (b)] := fy
        subst fx fy
        have d0 : wr.cell? ⟨bx, ox + k, none⟩ = some (.int .i64 (a)) := by have := cell_below hb hbx (ex 0 _ rfl); simpa using this
        have d1 : wr.cell? ⟨by_, oy + k, none⟩ = some (.int .i64 (b)) := by have := cell_below hb hby (ey 0 _ rfl); simpa using this
        have HA := Lib.hid ha
        have HB2 := Lib.hid hb2
        have hki : (k : Int) < nn := by omega
        have hk0 : (0 : Int) ≤ k := by omega
        clear ex ey ha hb2 hb
        by_cases hab : a = b
        · subst hab
          go_upto_region 6 with fail
          go_quiet (fail)
          go_wp2_with fail
          go_roundw
          case rel => exact ⟨k + 1, by go_num, by omega, fun j h1 h2 hj => by
            by_cases e : j = k
            · subst e; rw [← HA.out, ← HB2.out]
            · exact HS.out j h1 h2 (by omega), below_drewN HB.out (Nat.le_refl _) _⟩
          case measure => simp [intOf]; omega
        · have hne : ((a : Int) == (b : Int)) = false := beq_eq_false_iff_ne.2 (by omega)
          have hne2 : (a == b) = false := beq_eq_false_iff_ne.2 hab
          have HNE := Lib.hid (show decide (xs = ys) = false from decide_eq_false fun h => hab (by rw [HA.out, HB2.out]; simp only [h]))
          go_upto_region 6 with fail
          go_quiet (fail)
          (try simp only [hne, hne2])
          (try simp only [Bool.not_false])
          go_wp2_with fail
          go_ret
          exact ⟨ret_val (by rw [HNE.out]; rfl), below_drewN HB.out (Nat.le_refl _) _⟩
      · have hki : ¬ (k : Int) < nn := by omega
        have HEQ := Lib.hid (show decide (xs = ys) = true from decide_eq_true (list_upto (by rw [HX.out, HY.out]) (fun j h1 => HS.out j h1 (by rw [← HY.out, ← HX.out]; exact h1) (by rw [HX.out] at h1; omega))))
        go_wp2_with fail
        go_ret
        exact ⟨ret_val (by rw [HEQ.out]; rfl), HB.out⟩
  · have hli : ¬ (xs.length : Int) = ys.length := by omega
    have HNE := Lib.hid (show decide (xs = ys) = false from decide_eq_false fun h => hlen (by rw [h]))
    go_enter Try.func67, Try.ntmps67
    go_wp2_with fail
    go_ret
    exact ⟨ret_val (by rw [HNE.out]; rfl), Below.refl _ _⟩

set_option maxRecDepth 100000 in
set_option maxHeartbeats 4000000 in
theorem equal_u64 (w : World) (u v : Value) (xs ys : List Nat) (hx : ReadL u64E 1 w u xs) (hy : ReadL u64E 1 w v ys) (hl : xs.length ≤ 1000000) (hl2 : ys.length ≤ 1000000) :
    Calls Try.prog 65 #[u, v] w fun e w' => e = .returned (.bool (decide (xs = ys))) ∧ Below w.heap.size w w' := by
  obtain ⟨px, cx, rfl, hcx, hgx⟩ := hx.at (by decide) rfl
  obtain ⟨py, cy, rfl, hcy, hgy⟩ := hy.at (by decide) rfl
  have HGX := Lib.hid hgx
  have HGY := Lib.hid hgy
  clear hgx hgy hx hy
  by_cases hlen : xs.length = ys.length
  · have hli : (xs.length : Int) = ys.length := by omega
    obtain ⟨nn, hnn⟩ : ∃ nn, nn = ys.length := ⟨_, rfl⟩
    rw [← hnn] at hlen hl2 hcy ⊢
    rw [hlen] at hl hcx ⊢
    have HX := Lib.hid hlen
    have HY := Lib.hid hnn
    clear hlen hli hnn
    go_enter Try.func65, Try.ntmps65
    go_wp2_with fail
    go_loopw [13] (fun i wr => ∃ k : Nat, i = .int .i64 k ∧ k ≤ nn ∧ (∀ j (h1 : j < xs.length) (h2 : j < ys.length), j < k → xs[j] = ys[j]) ∧ Below w.heap.size w wr) (fun i _ => nn - (intOf i).toNat)
    case atStart => exact ⟨0, rfl, by omega, fun j _ _ h => by omega, Below.refl _ _⟩
    case round =>
      obtain ⟨k, rfl, hk1, hs, hb⟩ := hrel
      have HS := Lib.hid hs
      have HB := Lib.hid hb
      clear hs
      by_cases hk : k < nn
      · have hkx : k < xs.length := by rw [HX.out]; exact hk
        have hky : k < ys.length := by rw [← HY.out]; exact hk
        obtain ⟨bx, ox, rx, rfl, hbx, ex, fx⟩ := HGX.out k _ (List.getElem?_eq_getElem hkx)
        obtain ⟨by_, oy, ry, rfl, hby, ey, fy⟩ := HGY.out k _ (List.getElem?_eq_getElem hky)
        obtain ⟨a, ha⟩ : ∃ a, a = xs[k] := ⟨_, rfl⟩
        obtain ⟨b, hb2⟩ : ∃ b, b = ys[k] := ⟨_, rfl⟩
        rw [← ha] at fx
        rw [← hb2] at fy
        have fx : rx = [.int .u64 (a : Nat)] := fx
        have fy : ry = [.int .u64 (b : Nat)] := fy
        subst fx fy
        have d0 : wr.cell? ⟨bx, ox + k, none⟩ = some (.int .u64 (a : Nat)) := by have := cell_below hb hbx (ex 0 _ rfl); simpa using this
        have d1 : wr.cell? ⟨by_, oy + k, none⟩ = some (.int .u64 (b : Nat)) := by have := cell_below hb hby (ey 0 _ rfl); simpa using this
        have HA := Lib.hid ha
        have HB2 := Lib.hid hb2
        have hki : (k : Int) < nn := by omega
        have hk0 : (0 : Int) ≤ k := by omega
        clear ex ey ha hb2 hb
        by_cases hab : a = b
        · subst hab
          go_upto_region 6 with fail
          go_quiet (fail)
          go_wp2_with fail
          go_roundw
          case rel => exact ⟨k + 1, by go_num, by omega, fun j h1 h2 hj => by
            by_cases e : j = k
            · subst e; rw [← HA.out, ← HB2.out]
            · exact HS.out j h1 h2 (by omega), below_drewN HB.out (Nat.le_refl _) _⟩
          case measure => simp [intOf]; omega
        · have hne : ((a : Int) == (b : Int)) = false := beq_eq_false_iff_ne.2 (by omega)
          have hne2 : (a == b) = false := beq_eq_false_iff_ne.2 hab
          have HNE := Lib.hid (show decide (xs = ys) = false from decide_eq_false fun h => hab (by rw [HA.out, HB2.out]; simp only [h]))
          go_upto_region 6 with fail
          go_quiet (fail)
          (try simp only [hne, hne2])
          (try simp only [Bool.not_false])
          go_wp2_with fail
          go_ret
          exact ⟨ret_val (by rw [HNE.out]; rfl), below_drewN HB.out (Nat.le_refl _) _⟩
      · have hki : ¬ (k : Int) < nn := by omega
        have HEQ := Lib.hid (show decide (xs = ys) = true from decide_eq_true (list_upto (by rw [HX.out, HY.out]) (fun j h1 => HS.out j h1 (by rw [← HY.out, ← HX.out]; exact h1) (by rw [HX.out] at h1; omega))))
        go_wp2_with fail
        go_ret
        exact ⟨ret_val (by rw [HEQ.out]; rfl), HB.out⟩
  · have hli : ¬ (xs.length : Int) = ys.length := by omega
    have HNE := Lib.hid (show decide (xs = ys) = false from decide_eq_false fun h => hlen (by rw [h]))
    go_enter Try.func65, Try.ntmps65
    go_wp2_with fail
    go_ret
    exact ⟨ret_val (by rw [HNE.out]; rfl), Below.refl _ _⟩
end Go.Proofs.Ythmaokjhncokdaa

/-
  dfa: Run of a machine. No condition beyond what each theorem names.
-/
set_option linter.unusedVariables false
set_option linter.unusedSimpArgs false
namespace Go.Proofs.Ythmaokjhncokdaa
open Go.RowKit Classical

/-- classes that there are -/
def RowOk (classes : Nat) (row : List Int) : Prop := ∀ c ∈ row, 0 ≤ c ∧ c < classes
/-- a row's classes -/
def natsR (row : List Int) : List Nat := row.map Int.toNat
/-- the state behind the first k -/
def stA (N : List (List Nat)) (row : List Int) (k : Nat) : Nat := runN N 0 (natsR (row.take k))
/-- what Run tells -/
def runsN (N : List (List Nat)) (O : List Nat) (row : List Int) : List Nat := (List.range (row.length + 1)).map fun k => at0 O (stA N row k)

theorem runN_snoc (N : List (List Nat)) : ∀ (t : List Nat) (i c : Nat), runN N i (t ++ [c]) = goN N (runN N i t) c
  | [], _, _ => rfl
  | d :: t, i, c => runN_snoc N t (goN N i d) c
theorem stA_succ {N : List (List Nat)} {row : List Int} {k : Nat} (hk : k < row.length) : stA N row (k + 1) = goN N (stA N row k) (row[k]).toNat := by
  unfold stA natsR
  rw [List.take_succ_eq_append_getElem hk, List.map_append, List.map_cons, List.map_nil, runN_snoc]
theorem stA_lt {β : Type} {N : List (List Nat)} {O : List β} {classes : Nat} (h : OkN N O classes) (h0 : 0 < N.length) {row : List Int} (hr : RowOk classes row) : ∀ k, k ≤ row.length → stA N row k < N.length
  | 0, _ => h0
  | k + 1, hk => by
    rw [stA_succ (by omega)]
    have hc := hr row[k] (List.getElem_mem _)
    exact h.go (stA_lt h h0 hr k (by omega)) (by omega)

theorem made_u64 (n : Nat) : madeCells #[Value.int .u64 0] n = (List.replicate n (Value.int .u64 0)).toArray := by
  apply Array.ext
  · simp [madeCells]
  · intro i h1 h2
    have e : i % 1 = 0 := Nat.mod_one i
    simp [madeCells, e]
theorem make_u64 (t : TypeId) (ht : Try.prog.underlying t = some (.slice 37)) (w : World) (c : Int) (n : Nat) (hc : c = n) (hn : n ≤ 1000001) :
    (Instr.makeSlice t (.int .i64 c) (.int .i64 c)).run Try.prog w = .ok (.slice (some ⟨w.heap.size, 0, none⟩) n n) (w.alloc (.cells (List.replicate n (Value.int .u64 0)).toArray 37)) := by
  subst hc
  obtain ⟨i0, hi, hz0, hz1, hz2⟩ := info_parts infoU64
  have := run_make (P := Try.prog) w t 37 i0 (.int .u64 0) ht hi hz0 .i64 .i64 n n (by omega) (by omega) (by rw [hz2]; omega) (by omega)
  rw [hz1] at this
  simp only [Int.toNat_natCast, Nat.mul_one] at this
  rw [this, show (Value.int .u64 0).cells = #[Value.int .u64 0] from rfl, made_u64]

theorem readU {w : World} {g : Nat} {os : List Nat} {n : Nat} (h : VRow w g 37 (os.map fun (o : Nat) => Value.int .u64 o)) (hn : os.length = n) : ReadL u64E 1 w (.slice (some ⟨g, 0, none⟩) n n) os := by
  subst hn
  refine ReadL.block (cs := os.map fun (o : Nat) => Value.int .u64 o) h os (os.map fun (o : Nat) => [Value.int .u64 o]) ?_ rfl (by simp) (fun r hr => ?_) (fun i hi => ⟨_, by simp [hi], rfl⟩)
  · clear h
    induction os with
    | nil => rfl
    | cons x r ih => simp [ih]
  · obtain ⟨o, -, rfl⟩ := List.mem_map.1 hr
    simp [Value.oneCell']

def RunPost (w : World) (classes : Nat) (N : List (List Nat)) (O : List Nat) (row : List Int) (e : Ending) (w' : World) : Prop := Below w.heap.size w w' ∧
  ((RowOk classes row ∧ ∃ v, e = .returned (.tuple #[v, .int .i64 0]) ∧ ReadL u64E 1 w' v (runsN N O row)) ∨ (¬ RowOk classes row ∧ e = .returned (.tuple #[.slice none 0 0, .int .i64 1])))

set_option maxRecDepth 100000 in
set_option maxHeartbeats 8000000 in
theorem run_m (w : World) (ob classes : Nat) (N : List (List Nat)) (O : List Nat) (hM : MachD w ob classes N O) (hok : OkN N O classes) (h0 : 0 < N.length) (v : Value) (row : List Int) (hv : Ints w v row) (hl : row.length ≤ 1000000) :
    Calls Try.prog 21 #[.pointer (some ⟨ob, 0, none⟩), v] w (RunPost w classes N O row) := by
  obtain ⟨nn, hnn⟩ : ∃ nn, nn = N.length := ⟨_, rfl⟩
  obtain ⟨hol, pn, cn, po, co, m0, m1, m2, hcn, hco, hgn, hgo⟩ := hM.get hnn.symm (by rw [← hok.len, hnn])
  obtain ⟨p, cp, rfl, hcp, hx⟩ := hv.get
  have HN := Lib.hid hnn
  have HGN := Lib.hid hgn
  have HGO := Lib.hid hgo
  have HOK := Lib.hid hok
  have HX := Lib.hid hx
  have HM1 := Lib.hid (And.intro m1 m2)
  rw [← hnn] at h0
  have hmt : ∀ (w : World), (Instr.makeSlice 47 (.int .i64 ((row.length : Int) + 1)) (.int .i64 ((row.length : Int) + 1))).run Try.prog w = .ok (.slice (some ⟨w.heap.size, 0, none⟩) (row.length + 1) (row.length + 1)) (w.alloc (.cells (List.replicate (row.length + 1) (Value.int .u64 0)).toArray 37)) := fun w => make_u64 _ Try.underlying47 w _ _ (by omega) (by omega)
  clear hM hok hgn hgo hnn m1 m2 hv hx
  go_enter Try.func21, Try.ntmps21
  go_wp2_with fail
  go_loop [14] (fun i => ∃ k : Nat, i = .int .i64 k ∧ k ≤ row.length ∧ ∀ c ∈ row.take k, 0 ≤ c ∧ c < classes) (fun i => row.length - (intOf i).toNat)
  case atStart => exact ⟨0, rfl, by omega, by simp⟩
  case round =>
    obtain ⟨k, rfl, hk1, hs⟩ := hrel
    have HS := Lib.hid hs
    clear hs
    by_cases hk : k < row.length
    · obtain ⟨b, off, rfl, hb, hx⟩ := HX.out (by omega)
      obtain ⟨c, hc⟩ : ∃ c, c = row[k] := ⟨_, rfl⟩
      have d0 := hx k hk
      rw [← hc] at d0
      have HC := Lib.hid hc
      have hki : (k : Int) < row.length := by omega
      have hk0 : (0 : Int) ≤ k := by omega
      clear hx hc
      by_cases h1 : c < 0
      · have HNO := Lib.hid (show ¬ RowOk classes row from fun h => by have := (h c (by rw [HC.out]; exact List.getElem_mem hk)).1; omega)
        go_wp2_with fail
        go_ret2
        exact ⟨Below.refl _ _, .inr ⟨HNO.out, rfl⟩⟩
      · by_cases h2 : c < classes
        · have HS2 := Lib.hid (show ∀ c ∈ row.take (k + 1), 0 ≤ c ∧ c < classes from fun x hx => by
            rw [List.take_succ_eq_append_getElem hk] at hx
            rcases List.mem_append.1 hx with hx | hx
            · exact HS.out x hx
            · rw [List.mem_singleton.1 hx, ← HC.out]; omega)
          go_wp2_with fail
          go_round
          case rel => exact ⟨k + 1, by go_num, by omega, HS2.out⟩
          case measure => simp [intOf]; omega
        · have HNO := Lib.hid (show ¬ RowOk classes row from fun h => by have := (h c (by rw [HC.out]; exact List.getElem_mem hk)).2; omega)
          go_wp2_with fail
          go_ret2
          exact ⟨Below.refl _ _, .inr ⟨HNO.out, rfl⟩⟩
    · have hki : ¬ (k : Int) < row.length := by omega
      have HRO := Lib.hid (show RowOk classes row by have := HS.out; rwa [List.take_of_length_le (by omega)] at this)
      go_upto_region 8 with fail
      refine abs_wp fun W hW => ?_
      obtain ⟨g, hg⟩ : ∃ g, g = w.heap.size := ⟨_, rfl⟩
      have hal := below_alloc1 w (.cells (List.replicate (row.length + 1) (Value.int .u64 0)).toArray 37)
      have hW2 : W = w.alloc (.cells (List.replicate (row.length + 1) (Value.int .u64 0)).toArray 37) := by rw [hW]; simp
      have HV1 := Lib.hid (show VRow W g 37 (List.replicate (row.length + 1) (Value.int .u64 0)) by rw [hW2, hg]; exact heap_alloc_new _ _)
      have HB1 := Lib.hid (show Below w.heap.size w W by rw [hW2]; exact hal)
      have hg0 : w.heap.size ≤ g := by omega
      rw [← hg]
      clear hW hW2 hal hg
      have og : ∀ s, s < nn → ∃ b off, po = some ⟨b, off, none⟩ ∧ b < w.heap.size ∧ w.cell? ⟨b, off + s, none⟩ = some (.int .u64 (at0 O s : Nat)) := fun s hs => by
        have hsO : s < O.length := by rw [← HOK.out.len, ← HN.out]; exact hs
        refine HGO.out s (at0 O s) ?_
        unfold at0
        rw [List.getElem?_eq_getElem hsO]
        rfl
      have HOG := Lib.hid og
      obtain ⟨bo, oo, rfl, hbo, e0⟩ := og 0 h0
      obtain ⟨a0, ha0⟩ : ∃ a0, a0 = at0 O 0 := ⟨_, rfl⟩
      rw [← ha0] at e0
      have HA0 := Lib.hid ha0
      have e1 := cell_below HB1.out hbo e0
      have e2 := cell_below HB1.out hol HM1.out.2
      simp only [Nat.add_zero] at e1
      have z0 := HV1.out.cell (i := 0) (u := .int .u64 0) (by simp)
      have z1 := HV1.out.fz 0
      clear og ha0 e0
      go_upto_region 10 with fail
      refine abs_wp fun W2 hW2 => ?_
      have HV2 := Lib.hid (show VRow W2 g 37 ((((List.range (0 + 1)).map fun j => at0 O (stA N row j)).map fun (o : Nat) => Value.int .u64 o) ++ List.replicate (row.length - 0) (.int .u64 0)) by
        have h := HV1.out.set 0 (.int .u64 (a0 : Nat))
        rw [hW2]
        have e : (List.replicate (row.length + 1) (Value.int .u64 0)).set 0 (.int .u64 (a0 : Nat)) = ((((List.range (0 + 1)).map fun j => at0 O (stA N row j)).map fun (o : Nat) => Value.int .u64 o) ++ List.replicate (row.length - 0) (.int .u64 0)) := by
          rw [List.replicate_succ, List.set_cons_zero, HA0.out]
          rfl
        rw [e] at h
        exact h)
      have HB2 := Lib.hid (show Below w.heap.size w W2 by rw [hW2]; exact HB1.out.trans ((Fr.setCell (F := fun k => k = g) W rfl _).below HB1.out.size (fun k (hk : k = g) => by omega)))
      clear hW2 e1 e2 z0 z1
      go_wp2_with fail
      go_loopw [9, 44] (fun st i w1 => ∃ k : Nat, i = .int .i64 k ∧ k ≤ row.length ∧ st = .int .i64 (stA N row k : Nat) ∧ VRow w1 g 37 ((((List.range (k + 1)).map fun j => at0 O (stA N row j)).map fun (o : Nat) => Value.int .u64 o) ++ List.replicate (row.length - k) (.int .u64 0)) ∧ Below w.heap.size w w1) (fun _ i _ => row.length - (intOf i).toNat)
      case atStart => exact ⟨0, rfl, by omega, rfl, HV2.out, HB2.out⟩
      case round =>
        obtain ⟨k2, rfl, hk2, rfl, hv, hb⟩ := hrel
        have HV := Lib.hid hv
        have HB := Lib.hid hb
        clear hv
        by_cases hkk : k2 < row.length
        · obtain ⟨b, off, rfl, hbx, hx⟩ := HX.out (by omega)
          have hcr := HRO.out row[k2] (List.getElem_mem hkk)
          obtain ⟨c, hc⟩ : ∃ c : Nat, row[k2] = c := ⟨(row[k2]).toNat, by omega⟩
          have d0 := cell_below hb hbx (hx k2 hkk)
          rw [hc] at d0 hcr
          have hss := stA_lt HOK.out (by rw [← HN.out]; exact h0) HRO.out k2 hk2
          have hsn := stA_succ (N := N) hkk
          rw [hc, Int.toNat_natCast] at hsn
          obtain ⟨s, hs⟩ : ∃ s, s = stA N row k2 := ⟨_, rfl⟩
          obtain ⟨s2, hs2⟩ : ∃ s2, s2 = stA N row (k2 + 1) := ⟨_, rfl⟩
          have HS := Lib.hid hs
          have HS2 := Lib.hid hs2
          rw [← hs] at hss hsn ⊢
          rw [← hs2] at hsn
          have hc2 : c < classes := by omega
          have hs2l : s2 < nn := by rw [hsn, HN.out]; exact HOK.out.go hss hc2
          obtain ⟨r, hr⟩ : ∃ r, r = N[s] := ⟨_, rfl⟩
          have hrow := HOK.out.row r (by rw [hr]; exact List.getElem_mem hss)
          obtain ⟨bn, on, rv, rfl, hbn, d1, hrv⟩ := HGN.out s r (by rw [hr]; exact List.getElem?_eq_getElem hss)
          obtain ⟨pr, cr, rfl, hcr2, hrc⟩ := hrv.get
          have hrl : (natsI r).length = classes := by unfold natsI; rw [List.length_map]; exact hrow.1
          rw [hrl] at d1 hcr2
          obtain ⟨b2, o2, rfl, hb2l, hrc⟩ := hrc (by rw [hrl]; omega)
          have hcl : c < r.length := by rw [hrow.1]; exact hc2
          have hs2e : s2 = r[c] := by
            have h1 : N[s]? = some r := by rw [hr]; exact List.getElem?_eq_getElem hss
            rw [hsn]
            unfold goN
            rw [h1]
            show at0 r c = _
            unfold at0
            rw [List.getElem?_eq_getElem hcl]
            rfl
          have d3 : w.cell? ⟨b2, o2 + c, none⟩ = some (.int .i64 (s2 : Nat)) := by
            rw [hrc c (by rw [hrl]; exact hc2), hs2e]
            simp [natsI]
          obtain ⟨bo', oo', ho', hbo', d4⟩ := HOG.out s2 hs2l
          injection ho' with ho'
          injection ho' with ho1 ho2
          subst ho1 ho2
          obtain ⟨az, haz⟩ : ∃ az, az = at0 O s2 := ⟨_, rfl⟩
          rw [← haz] at d4
          have HAZ := Lib.hid haz
          have x1 := cell_below hb hbn d1
          have x3 := cell_below hb hb2l d3
          have x4 := cell_below hb hbo' d4
          have x5 := cell_below hb hol HM1.out.1
          have x6 := cell_below hb hol HM1.out.2
          have hsl : s < nn := by rw [HN.out]; exact hss
          have hsi : (s : Int) < nn := by omega
          have hs0 : (0 : Int) ≤ s := by omega
          have hs2i : (s2 : Int) < nn := by omega
          have hs20 : (0 : Int) ≤ s2 := by omega
          have hci : (c : Int) < classes := by omega
          have hc0 : (0 : Int) ≤ c := by omega
          have hki2 : (k2 : Int) < row.length := by omega
          have hki3 : (k2 : Int) + 1 < ((row.length + 1 : Nat) : Int) := by omega
          have hk20 : (0 : Int) ≤ k2 := by omega
          have hk21 : (0 : Int) ≤ (k2 : Int) + 1 := by omega
          have hnt : ((k2 : Int) + 1).toNat = k2 + 1 := by omega
          have hfl : (((List.range (k2 + 1)).map fun j => at0 O (stA N row j)).map fun (o : Nat) => Value.int .u64 o).length = k2 + 1 := by simp
          have z0 := HV.out.cell (i := k2 + 1) (u := .int .u64 0) (by rw [List.getElem?_append_right (by omega), hfl, Nat.sub_self, List.getElem?_replicate, if_pos (by omega)])
          have z1 := HV.out.fz (k2 + 1)
          have HFS := Lib.hid (fill_set (((List.range (k2 + 1)).map fun j => at0 O (stA N row j)).map fun (o : Nat) => Value.int .u64 o) (row.length - k2) (.int .u64 (az : Nat)) (.int .u64 0) hfl (by omega))
          clear hx hc hcr hs hs2 hsn hr hrow hrv hrl hrc hs2e d1 d3 d4 haz hfl hb hcl
          go_upto_region 15 with fail
          refine abs_wp fun W3 hW3 => ?_
          have HV3 := Lib.hid (show VRow W3 g 37 ((((List.range (k2 + 1 + 1)).map fun j => at0 O (stA N row j)).map fun (o : Nat) => Value.int .u64 o) ++ List.replicate (row.length - (k2 + 1)) (.int .u64 0)) by
            have h := HV.out.set (k2 + 1) (.int .u64 (az : Nat))
            rw [HFS.out] at h
            rw [hW3, List.range_succ, List.map_append, List.map_append, show row.length - (k2 + 1) = row.length - k2 - 1 by omega]
            have e : ([k2 + 1].map fun j => at0 O (stA N row j)).map (fun (o : Nat) => Value.int .u64 o) = [Value.int .u64 (az : Nat)] := by rw [HAZ.out, HS2.out]; rfl
            rw [e]
            exact h)
          have HB3 := Lib.hid (show Below w.heap.size w W3 by rw [hW3]; exact HB.out.trans ((Fr.setCell (F := fun k => k = g) wr rfl _).below HB.out.size (fun k (hk : k = g) => by omega)))
          clear hW3 z0 z1 d0 x1 x3 x4 x5 x6
          go_wp2_with fail
          go_roundw
          case rel => exact ⟨k2 + 1, by go_num, by omega, by rw [HS2.out], HV3.out, HB3.out⟩
          case measure => simp [intOf]; omega
        · have hkk2 : ¬ (k2 : Int) < row.length := by omega
          obtain rfl : row.length = k2 := by omega
          have HV9 := Lib.hid (show VRow wr g 37 ((runsN N O row).map fun (o : Nat) => Value.int .u64 o) by
            have := HV.out
            rw [Nat.sub_self, List.replicate_zero, List.append_nil] at this
            exact this)
          have HL9 := Lib.hid (show (runsN N O row).length = row.length + 1 by unfold runsN; simp)
          go_wp2_with fail
          go_ret2
          exact ⟨HB.out, .inl ⟨HRO.out, _, rfl, readU HV9.out HL9.out⟩⟩
end Go.Proofs.Ythmaokjhncokdaa

/-
  dfa, plain: the expression of DfaLimits has just 2^(n+1) languages behind its rows. No program, no condition beyond what each theorem names.
-/
set_option linter.unusedVariables false
set_option linter.unusedSimpArgs false
namespace Go.Proofs.Ythmaokjhncokdaa
open Classical

def s0 : Nd := .mk 1 [0] []
def s01 : Nd := .mk 1 [0, 1] []
def xN (n : Nat) : Nd := .mk 2 [] (s0 :: List.replicate n s01)

theorem xN_right {n : Nat} (hn : n ≤ 11) : RightX (xN n) := by
  have hc : cntL (List.replicate n s01) = n := by
    clear hn
    induction n with
    | zero => rfl
    | succ k ih => rw [List.replicate_succ, cntL, ih]; simp [s01, cnt, cntL]; omega
  refine ⟨?_, by unfold xN; rw [cnt, cntL, hc]; simp [s0, cnt, cntL]; omega⟩
  unfold xN Wf
  refine ⟨by omega, by omega, fun _ => rfl, by omega, by omega, rising_nil, ?_⟩
  rw [WfL_iff]
  intro y hy
  have r01 : rising [0, 1] := by
    intro i hi
    have h' : i = 0 ∨ i = 1 := by simp at hi; omega
    rcases h' with rfl | rfl <;> simp
  rcases List.mem_cons.1 hy with rfl | hy
  · unfold s0 Wf
    exact ⟨by omega, by omega, by omega, fun _ => rfl, by omega, rising_one 0 (by omega) (by omega), by simp only [WfL]⟩
  · rw [List.eq_of_mem_replicate hy]
    unfold s01 Wf
    exact ⟨by omega, by omega, by omega, fun _ => rfl, by omega, r01, by simp only [WfL]⟩
theorem xN_inside (n : Nat) : insideB 2 (xN n) = true := by
  unfold xN
  rw [insideB, insideL]
  have h : insideL 2 (List.replicate n s01) = true := by
    induction n with
    | zero => rfl
    | succ k ih => rw [List.replicate_succ, insideL, ih]; simp [s01, insideB, insideL]
  rw [h]
  simp [s0, insideB, insideL]

/-- a row of two classes -/
def Two (t : List Nat) : Prop := ∀ c ∈ t, c < 2
theorem seq_s01 {t : List Nat} (ht : Two t) : ∀ (n a b : Nat), a ≤ t.length → (Mseq (t.map fun (c : Nat) => (c : Int)) (List.replicate n s01) a b ↔ b = a + n ∧ b ≤ t.length)
  | 0, a, b, ha => by
    simp only [List.replicate_zero, Mseq]
    constructor
    · rintro rfl; exact ⟨rfl, ha⟩
    · rintro ⟨h, -⟩; omega
  | n + 1, a, b, ha => by
    rw [List.replicate_succ, Mseq]
    constructor
    · rintro ⟨c, h1, h2⟩
      obtain ⟨rfl, u, h3, -⟩ := (M_1 _ _).1 h1
      have h4 := (List.getElem?_eq_some_iff.1 h3).1
      rw [List.length_map] at h4
      obtain ⟨h5, h6⟩ := (seq_s01 ht n _ b (by omega)).1 h2
      exact ⟨by omega, h6⟩
    · rintro ⟨h1, h2⟩
      have hal : a < t.length := by omega
      refine ⟨a + 1, (M_1 _ _).2 ⟨rfl, (t[a] : Int), by rw [List.getElem?_map, List.getElem?_eq_getElem hal]; rfl, ?_⟩, (seq_s01 ht n _ b (by omega)).2 ⟨by omega, h2⟩⟩
      have := ht t[a] (List.getElem_mem _)
      have h7 : t[a] = 0 ∨ t[a] = 1 := by omega
      rcases h7 with h7 | h7 <;> simp [h7]

/-- does it fit some end of a row? -/
theorem fits_xN {n : Nat} {t : List Nat} (ht : Two t) : fitsE (xN n) false (t.map fun (c : Nat) => (c : Int)) = decide ((List.replicate (n + 1) 1 ++ t)[t.length]? = some 0) := by
  unfold fitsE
  rw [if_neg (by simp), Bool.eq_iff_iff, decide_eq_true_iff, decide_eq_true_iff, List.length_map]
  have hM : ∀ k, k ≤ t.length → (fitB (xN n) ((t.map fun (c : Nat) => (c : Int)).drop k) = true ↔ t[k]? = some 0 ∧ t.length = k + 1 + n) := fun k hk => by
    rw [fit_drop (by rw [List.length_map]; exact hk), List.length_map, xN, M_2, Mseq]
    constructor
    · rintro ⟨c, h1, h2⟩
      obtain ⟨rfl, u, h3, h4⟩ := (M_1 _ _).1 h1
      have h5 := (List.getElem?_eq_some_iff.1 h3).1
      rw [List.length_map] at h5
      obtain rfl : u = 0 := by simpa using h4
      obtain ⟨h6, -⟩ := (seq_s01 ht n _ _ (by omega)).1 h2
      rw [List.getElem?_map, List.getElem?_eq_getElem h5] at h3
      have h7 : ((t[k] : Nat) : Int) = 0 := Option.some.inj h3
      exact ⟨by rw [List.getElem?_eq_getElem h5]; congr 1; omega, h6⟩
    · rintro ⟨h1, h2⟩
      refine ⟨k + 1, (M_1 _ _).2 ⟨rfl, 0, by rw [List.getElem?_map, h1]; rfl, by simp⟩, (seq_s01 ht n _ _ (by omega)).2 ⟨h2, Nat.le_refl _⟩⟩
  constructor
  · rintro ⟨k, hk, h⟩
    obtain ⟨h1, h2⟩ := (hM k hk).1 h
    rw [List.getElem?_append_right (by simp; omega), List.length_replicate, show t.length - (n + 1) = k by omega]
    exact h1
  · intro h
    by_cases hl : t.length < n + 1
    · rw [List.getElem?_append_left (by simpa using hl), List.getElem?_replicate, if_pos hl] at h
      cases h
    · rw [List.getElem?_append_right (by simp; omega), List.length_replicate] at h
      exact ⟨t.length - (n + 1), by omega, (hM _ (by omega)).2 ⟨h, by omega⟩⟩

/-- what is left to be told when the last n + 1 were these -/
noncomputable def resW (W : List Nat) : List Nat → Option Nat := fun u => if ∀ c ∈ u, c < 2 then some (if (W ++ u)[u.length]? = some 0 then 1 else 0) else none

theorem lang_xN {n : Nat} (hn : n ≤ 11) : langA (autoE [(xN n, false)]) outN 2 (autoE [(xN n, false)]).start = resW (List.replicate (n + 1) 1) := by
  rw [lang_N (fun e he => by rw [List.mem_singleton.1 he]; exact xN_right hn)]
  funext t
  unfold tellsE resW
  by_cases ht : ∀ c ∈ t, c < 2
  · rw [if_pos ht, if_pos ht]
    simp only [List.map_cons, List.map_nil, fits_xN ht, Option.map_some]
    by_cases h : (List.replicate (n + 1) 1 ++ t)[t.length]? = some 0
    · rw [if_pos h, decide_eq_true h]; rfl
    · rw [if_neg h, decide_eq_false h]; rfl
  · rw [if_neg ht, if_neg ht]; rfl

/-- the last n + 1 of a row -/
def lastW (n : Nat) (t : List Nat) : List Nat := (List.replicate (n + 1) 1 ++ t).drop t.length
theorem run_res {n : Nat} {t : List Nat} (ht : Two t) : runA (langAuto (resW (List.replicate (n + 1) 1))) (resW (List.replicate (n + 1) 1)) t = resW (lastW n t) := by
  funext u
  rw [runLang]
  unfold resW lastW
  by_cases hu : ∀ c ∈ u, c < 2
  · rw [if_pos hu, if_pos (fun c hc => by
      rcases List.mem_append.1 hc with hc | hc
      · exact ht c hc
      · exact hu c hc)]
    have e : (List.replicate (n + 1) 1 ++ (t ++ u))[(t ++ u).length]? = ((List.replicate (n + 1) 1 ++ t).drop t.length ++ u)[u.length]? := by
      have e1 : (List.replicate (n + 1) 1 ++ t).drop t.length ++ u = (List.replicate (n + 1) 1 ++ (t ++ u)).drop t.length := by
        rw [← List.append_assoc, List.drop_append_of_le_length (l₁ := List.replicate (n + 1) 1 ++ t) (by simp)]
      rw [e1, List.getElem?_drop, List.length_append]
    rw [e]
  · rw [if_neg hu, if_neg (fun h => hu (fun c hc => h c (List.mem_append.2 (.inr hc))))]

def wordsN : Nat → List (List Nat)
  | 0 => [[]]
  | k + 1 => (wordsN k).map (0 :: ·) ++ (wordsN k).map (1 :: ·)
theorem words_length : ∀ k, (wordsN k).length = 2 ^ k
  | 0 => rfl
  | k + 1 => by rw [wordsN, List.length_append, List.length_map, List.length_map, words_length k, Nat.pow_succ]; omega
theorem mem_words : ∀ (k : Nat) (t : List Nat), t ∈ wordsN k ↔ t.length = k ∧ Two t
  | 0, t => by
    simp only [wordsN, List.mem_singleton]
    constructor
    · rintro rfl; exact ⟨rfl, fun c hc => by simp at hc⟩
    · rintro ⟨h, -⟩; exact List.eq_nil_of_length_eq_zero h
  | k + 1, t => by
    rw [wordsN, List.mem_append, List.mem_map, List.mem_map]
    constructor
    · rintro (⟨r, hr, rfl⟩ | ⟨r, hr, rfl⟩)
      · obtain ⟨h1, h2⟩ := (mem_words k r).1 hr
        exact ⟨by simp [h1], fun c hc => by
          rcases List.mem_cons.1 hc with rfl | hc
          · omega
          · exact h2 c hc⟩
      · obtain ⟨h1, h2⟩ := (mem_words k r).1 hr
        exact ⟨by simp [h1], fun c hc => by
          rcases List.mem_cons.1 hc with rfl | hc
          · omega
          · exact h2 c hc⟩
    · rintro ⟨h1, h2⟩
      match t, h1 with
      | c :: r, h1 =>
        have hr : r ∈ wordsN k := (mem_words k r).2 ⟨by simpa using h1, fun d hd => h2 d (by simp [hd])⟩
        have hc : c = 0 ∨ c = 1 := by have := h2 c (by simp); omega
        rcases hc with rfl | rfl
        · exact .inl ⟨r, hr, rfl⟩
        · exact .inr ⟨r, hr, rfl⟩
theorem words_nodup : ∀ k, (wordsN k).Nodup
  | 0 => by simp [wordsN]
  | k + 1 => by
    rw [wordsN, List.nodup_append]
    have h : ∀ a : Nat, ((wordsN k).map (a :: ·)).Nodup := fun a => List.Pairwise.map (a :: ·) (fun x y (h : x ≠ y) e => h (by injection e)) (words_nodup k)
    refine ⟨h 0, h 1, fun x hx y hy e => ?_⟩
    obtain ⟨r, -, rfl⟩ := List.mem_map.1 hx
    obtain ⟨r', -, rfl⟩ := List.mem_map.1 hy
    injection e with e1
    omega

theorem res_inj {k : Nat} {W V : List Nat} (hW : W ∈ wordsN k) (hV : V ∈ wordsN k) (h : resW W = resW V) : W = V := by
  obtain ⟨w1, w2⟩ := (mem_words k W).1 hW
  obtain ⟨v1, v2⟩ := (mem_words k V).1 hV
  refine List.ext_getElem (by omega) fun i h1 h2 => ?_
  have h3 := congrFun h (List.replicate i 0)
  unfold resW at h3
  have hz : ∀ c ∈ List.replicate i 0, c < 2 := fun c hc => by rw [List.eq_of_mem_replicate hc]; omega
  rw [if_pos hz, if_pos hz, List.length_replicate, List.getElem?_append_left h1, List.getElem?_append_left h2, List.getElem?_eq_getElem h1, List.getElem?_eq_getElem h2] at h3
  have a1 := w2 W[i] (List.getElem_mem _)
  have a2 := v2 V[i] (List.getElem_mem _)
  have h4 := Option.some.inj h3
  simp only [Option.some.injEq] at h4
  by_cases b1 : W[i] = 0
  · by_cases b2 : V[i] = 0
    · omega
    · rw [if_pos b1, if_neg b2] at h4; omega
  · by_cases b2 : V[i] = 0
    · rw [if_neg b1, if_pos b2] at h4; omega
    · omega

theorem last_word {n : Nat} {t : List Nat} (ht : Two t) : lastW n t ∈ wordsN (n + 1) := by
  refine (mem_words _ _).2 ⟨by unfold lastW; simp, fun c hc => ?_⟩
  unfold lastW at hc
  rcases List.mem_append.1 (List.mem_of_mem_drop hc) with hc | hc
  · rw [List.eq_of_mem_replicate hc]; omega
  · exact ht c hc
theorem last_self {n : Nat} {t : List Nat} (h : t.length = n + 1) : lastW n t = t := by
  unfold lastW
  rw [List.drop_left' (by simp [h])]

theorem res_count {n K : Nat} (ho : Over (langAuto (resW (List.replicate (n + 1) 1))) 2 K) : (cl (langAuto (resW (List.replicate (n + 1) 1))) 2 K).length = 2 ^ (n + 1) := by
  have h1 := sub_len (cl (langAuto (resW (List.replicate (n + 1) 1))) 2 K) ((wordsN (n + 1)).map resW) (cl_nodup _ _ _) (fun l hl => by
    obtain ⟨t, ht, rfl⟩ := cl_met _ _ _ l hl
    refine List.mem_map.2 ⟨lastW n t, last_word ht, ?_⟩
    exact (run_res ht).symm)
  have hinj : ((wordsN (n + 1)).map resW).Nodup := by
    have : ∀ l : List (List Nat), l.Nodup → (∀ x ∈ l, x ∈ wordsN (n + 1)) → (l.map resW).Nodup := by
      intro l
      induction l with
      | nil => intro _ _; simp
      | cons x r ih =>
        intro hn hs
        rw [List.nodup_cons] at hn
        rw [List.map_cons, List.nodup_cons]
        refine ⟨fun h => ?_, ih hn.2 (fun y hy => hs y (by simp [hy]))⟩
        obtain ⟨y, hy, e⟩ := List.mem_map.1 h
        rw [← res_inj (hs y (by simp [hy])) (hs x (by simp)) e] at hn
        exact hn.1 hy
    exact this _ (words_nodup _) (fun x hx => hx)
  have h2 := sub_len ((wordsN (n + 1)).map resW) (cl (langAuto (resW (List.replicate (n + 1) 1))) 2 K) hinj (fun l hl => by
    obtain ⟨t, ht, rfl⟩ := List.mem_map.1 hl
    obtain ⟨t1, t2⟩ := (mem_words _ _).1 ht
    have h3 := over_run ho t t2 (s := (langAuto (resW (List.replicate (n + 1) 1))).start) (List.mem_of_getElem? (cl_start _ _ _))
    have h4 : runA (langAuto (resW (List.replicate (n + 1) 1))) (resW (List.replicate (n + 1) 1)) t ∈ cl (langAuto (resW (List.replicate (n + 1) 1))) 2 K := h3
    rw [run_res t2, last_self t1] at h4
    exact h4)
  rw [List.length_map, words_length] at h1 h2
  omega

/-! ### how many states count -/
def setsC (S : List Sta) : Nat := (S.map (·.set)).count true
theorem setsC_join (L : List Sta) (i : Nat) (ts : List Int) : setsC (joinF L i ts) = setsC L := by
  unfold setsC joinF
  congr 1
  refine List.ext_getElem (by simp) fun j h1 h2 => ?_
  rw [List.getElem_map, List.getElem_map, List.getElem_modify]
  split <;> rfl
theorem setsC_app (L M : List Sta) : setsC (L ++ M) = setsC L + setsC M := by unfold setsC; rw [List.map_append, List.count_append]
theorem setsC_seq : ∀ (ps : List Nd) (L : List Sta) (a : Nat), (∀ p ∈ ps, ∃ c, p = .mk 1 c []) → setsC (seqF ps L a).1 = setsC L + ps.length
  | [], L, a, _ => by rw [seqF]; rfl
  | p :: r, L, a, h => by
    obtain ⟨c, rfl⟩ := h p (by simp)
    rw [seqF, setsC_seq r _ _ (fun q hq => h q (by simp [hq])), setsC_join]
    have : setsC (layF (.mk 1 c []) L) = setsC L + 1 := by
      rw [layF, if_pos rfl, setsC_app, setsC_app]
      rfl
    rw [this, List.length_cons]
    omega
theorem setsC_xN (n : Nat) : setsC (mach (xN n)) = n + 1 := by
  unfold mach xN
  rw [layF, if_neg (by omega), if_neg (by omega), if_pos rfl, setsC_join, setsC_seq _ _ _ (fun p hp => by
    rcases List.mem_cons.1 hp with rfl | hp
    · exact ⟨_, rfl⟩
    · rw [List.eq_of_mem_replicate hp]; exact ⟨_, rfl⟩)]
  have : setsC (([] ++ [z0]) ++ [z0]) = 0 := rfl
  rw [this, List.length_cons, List.length_replicate]
  omega
theorem countP_range (S : List Sta) : ((List.range S.length).filter fun k => (at_ S k).set).length = setsC S := by
  have h : (List.range S.length).map (fun k => (at_ S k).set) = S.map (·.set) := by
    refine List.ext_getElem (by simp) fun j h1 h2 => ?_
    rw [List.getElem_map, List.getElem_map, List.getElem_range]
    have : at_ S j = S[j]'(by simpa using h2) := by unfold at_; rw [List.getD_eq_getElem?_getD, List.getElem?_eq_getElem (by simpa using h2)]; rfl
    rw [this]
  unfold setsC
  rw [← h, List.count, List.countP_map, List.countP_eq_length_filter]
  congr 1
  refine List.filter_congr fun k _ => ?_
  simp
theorem core_few (S : List Sta) : (coreL S).length ≤ setsC S + 1 := by
  unfold coreL
  rw [List.length_map, ← countP_range S]
  have key : ∀ l : List Nat, l.Nodup → (l.filter fun k => decide (core S k)).length ≤ (l.filter fun k => (at_ S k).set).length + (if 1 ∈ l then 1 else 0) := by
    intro l
    induction l with
    | nil => intro _; simp
    | cons x r ih =>
      intro hn
      rw [List.nodup_cons] at hn
      have h := ih hn.2
      by_cases hc : core S x
      · rw [List.filter_cons_of_pos (by simpa using hc), List.length_cons]
        by_cases hs : (at_ S x).set = true
        · rw [List.filter_cons_of_pos (by simpa using hs), List.length_cons]
          by_cases h1 : 1 ∈ r
          · rw [if_pos h1] at h; rw [if_pos (by simp [h1])]; omega
          · rw [if_neg h1] at h; split <;> omega
        · rw [List.filter_cons_of_neg (by simpa using hs)]
          rcases hc with hc | rfl
          · exact (hs hc).elim
          · rw [if_neg hn.1] at h; rw [if_pos (by simp)]; omega
      · rw [List.filter_cons_of_neg (by simpa using hc)]
        have hs : ¬ (at_ S x).set = true := fun h => hc (.inl h)
        rw [List.filter_cons_of_neg (by simpa using hs)]
        by_cases h1 : 1 ∈ r
        · rw [if_pos h1] at h; rw [if_pos (by simp [h1])]; omega
        · rw [if_neg h1] at h; split <;> omega
  refine Nat.le_trans (key _ List.nodup_range) (Nat.add_le_add_left ?_ _)
  split <;> omega

/-! ### what is built -/
theorem limits_some {n : Nat} (hn : n ≤ 11) {N : List (List Nat)} {O : List Nat} (h : Built (autoE [(xN n, false)]) outN 2 (some (N, O.map some))) : O.length = 2 ^ (n + 1) ∧ 2 ^ (n + 1) ≤ 400 := by
  rcases h with ⟨h, -⟩ | ⟨hf, hle, he⟩
  · cases h
  obtain ⟨-, e2⟩ := Prod.mk.inj (Option.some.inj he)
  have ho := canon_over outN hf
  rw [lang_xN hn] at ho hle e2
  unfold canonL at hle
  unfold canonOut canonL at e2
  generalize 2000 = K at *
  have h1 := res_count ho
  have h2 := congrArg List.length e2
  rw [List.length_map, List.length_map] at h2
  omega
theorem limits_none {n : Nat} (hn : n ≤ 11) (h : Built (autoE [(xN n, false)]) outN 2 none) : 400 < 2 ^ (n + 1) := by
  rcases Nat.lt_or_ge 400 (2 ^ (n + 1)) with h4 | h4
  · exact h4
  have h7 : n ≤ 7 := by
    rcases Nat.lt_or_ge 7 n with h8 | h8
    · have : (2 : Nat) ^ 9 ≤ 2 ^ (n + 1) := Nat.pow_le_pow_right (by omega) (by omega)
      omega
    · exact h8
  have hf : ¬ TooMany (autoE [(xN n, false)]) 2 := few_sits _ _ _ (by
    have h1 := core_few (mach (xN n))
    rw [setsC_xN] at h1
    have : (2 : Nat) ^ (coreL (mach (xN n))).length ≤ 2 ^ 9 := Nat.pow_le_pow_right (by omega) (by omega)
    omega)
  rcases h with ⟨-, h⟩ | ⟨-, -, h⟩
  · have ho := canon_over outN hf
    rw [lang_xN hn] at ho h
    unfold canonL at h
    generalize 2000 = K at *
    have h1 := res_count ho
    rcases h with h | h
    · exact (hf h).elim
    · omega
  · cases h
end Go.Proofs.Ythmaokjhncokdaa

/-
  tables, plain: rules that are all alike cost no states; what is built of a list, when it is. No program, no condition beyond what each theorem names.
-/
set_option linter.unusedVariables false
set_option linter.unusedSimpArgs false
namespace Go.Proofs.Ythmaokjhncokdaa
open Classical

theorem rep_few (x : Nd) (whole : Bool) (classes m n : Nat) : (cl (autoE (List.replicate m (x, whole))) classes n).length ≤ 2 ^ (coreL (mach x)).length := by
  have hall : ∀ s ∈ cl (autoE (List.replicate m (x, whole))) classes n, s ∈ (powL (coreL (mach x))).map fun s => List.replicate m s := fun s hs => by
    obtain ⟨t, -, rfl⟩ := cl_met _ _ _ s hs
    rw [runA_E (List.replicate m (x, whole)) _ t rfl]
    refine List.mem_map.2 ⟨runE (mach x) whole (t.map fun (c : Nat) => (c : Int)), ?_, by rw [List.map_replicate]⟩
    generalize t.map (fun (c : Nat) => (c : Int)) = row
    rcases List.eq_nil_or_concat row with rfl | ⟨r, c, rfl⟩
    · exact rises_pow (coreL_rises _) (closedL_rises _ _) (fun v hv => closed_core hv)
    · rw [List.concat_eq_append, runE_snoc]
      exact rises_pow (coreL_rises _) step_rises (fun v hv => step_core hv)
  have := sub_len _ _ (cl_nodup _ _ _) hall
  rwa [List.length_map, powL_length] at this

/-- few situations: it is built -/
theorem not_none {l : List (Nd × Bool)} {classes : Nat} (h : ∀ n, (cl (autoE l) classes n).length ≤ 400) : ¬ Built (autoE l) outN classes none := by
  have hf : ¬ TooMany (autoE l) classes := fun ⟨n, hn⟩ => by have := h n; omega
  rintro (⟨-, h1⟩ | ⟨-, -, h1⟩)
  · have h2 := canon_le outN hf
    have h3 := h 2000
    generalize 2000 = K at *
    rcases h1 with h1 | h1
    · exact hf h1
    · omega
  · cases h1

theorem rep_set (c : List Int) (whole : Bool) (classes m : Nat) : ¬ Built (autoE (List.replicate m (.mk 1 c [], whole))) outN classes none := by
  refine not_none fun n => ?_
  have h1 := rep_few (.mk 1 c []) whole classes m n
  have h2 := core_few (mach (.mk 1 c []))
  have h3 : setsC (mach (.mk 1 c [])) = 1 := by
    unfold mach
    rw [layF, if_pos rfl, setsC_app, setsC_app]
    rfl
  rw [h3] at h2
  have h4 : (2 : Nat) ^ (coreL (mach (.mk 1 c []))).length ≤ 2 ^ 2 := Nat.pow_le_pow_right (by omega) h2
  omega
end Go.Proofs.Ythmaokjhncokdaa

/-
  dfa, plain: the machine of one set. No program, no condition beyond what each theorem names.
-/
set_option linter.unusedVariables false
set_option linter.unusedSimpArgs false
namespace Go.Proofs.Ythmaokjhncokdaa
open Classical

noncomputable def G0 : List Nat → Option Nat := fun t => if ∀ c ∈ t, c < 2 then some (if t.getLast? = some 0 then 1 else 0) else none
noncomputable def G1 : List Nat → Option Nat := fun t => if ∀ c ∈ t, c < 2 then some (if t = [] ∨ t.getLast? = some 0 then 1 else 0) else none

theorem cons_low (c : Nat) (hc : c < 2) (t : List Nat) : (∀ d ∈ c :: t, d < 2) ↔ ∀ d ∈ t, d < 2 := by simp [hc]
theorem last_cons (c : Nat) (t : List Nat) : (c :: t).getLast? = some 0 ↔ (t = [] ∧ c = 0) ∨ t.getLast? = some 0 := by
  cases t with
  | nil => simp
  | cons d r => simp [List.getLast?_cons_cons]
theorem G00 : (fun t => G0 (0 :: t)) = G1 := by
  funext t
  unfold G0 G1
  simp only [cons_low 0 (by omega), last_cons, and_true]
theorem G01 : (fun t => G0 (1 :: t)) = G0 := by
  funext t
  unfold G0
  simp only [cons_low 1 (by omega), last_cons]
  simp
theorem G10 : (fun t => G1 (0 :: t)) = G1 := by
  funext t
  unfold G1
  simp only [cons_low 0 (by omega), last_cons, and_true]
  simp
theorem G11 : (fun t => G1 (1 :: t)) = G0 := by
  funext t
  unfold G0 G1
  simp only [cons_low 1 (by omega), last_cons]
  simp
theorem G_ne : G0 ≠ G1 := fun h => by
  have := congrFun h []
  simp [G0, G1] at this

theorem lang_x0 : langA (autoE [(x0, false)]) outN 2 (autoE [(x0, false)]).start = G0 := by
  rw [lang_N (fun e he => by rw [List.mem_singleton.1 he]; exact x0_right)]
  funext t
  unfold tellsE G0
  split
  · simp only [List.map_cons, List.map_nil, Option.map_some]
    rw [tells_x0]
    by_cases h : t.getLast? = some 0
    · rw [if_pos h, decide_eq_true h]; rfl
    · rw [if_neg h, decide_eq_false h]; rfl
  · rfl

theorem clG1 : cl (langAuto G0) 2 1 = [G0, G1] := by
  have h0 : cl (langAuto G0) 2 0 = [G0] := rfl
  rw [cl, h0]
  show putS (putS [G0] (fun t => G0 (0 :: t))) (fun t => G0 (1 :: t)) = _
  rw [G00, G01]
  have h1 : putS [G0] G1 = [G0, G1] := by rw [putS, if_neg (by simp only [List.mem_singleton]; exact fun h => G_ne h.symm)]; rfl
  rw [h1, putS, if_pos (by simp)]
theorem clG2 : cl (langAuto G0) 2 2 = [G0, G1] := by
  rw [cl, clG1]
  show putS (putS [G0, G1] (fun t => G1 (0 :: t))) (fun t => G1 (1 :: t)) = _
  rw [G10, G11, putS, if_pos (by rw [putS, if_pos (by simp)]; simp), putS, if_pos (by simp)]
theorem canonG : canonL G0 2 2000 = [G0, G1] := by
  unfold canonL
  have ho : Over (langAuto G0) 2 2 := by unfold Over; rw [clG2]; simp
  rw [over_mono ho (by omega), clG2]

theorem placeG0 : place [G0, G1] G0 = 0 := by
  have h := place_own (l := [G0, G1]) (by simp [G_ne]) (i := 0) (by simp)
  exact h
theorem placeG1 : place [G0, G1] G1 = 1 := by
  have h := place_own (l := [G0, G1]) (by simp [G_ne]) (i := 1) (by simp)
  exact h

theorem built_x0 : Built (autoE [(x0, false)]) outN 2 (some ([[1, 0], [1, 0]], [some 0, some 1])) := by
  have hm : (mach x0).length = 2 := by rw [mach_len (Wf_good x0 1 x0_right.1)]; simp [x0, cnt, cntL]
  have hc : (coreL (mach x0)).length ≤ 2 := by
    unfold coreL
    rw [List.length_map, ← hm]
    exact Nat.le_trans (List.length_filter_le _ _) (by simp)
  have hf : ¬ TooMany (autoE [(x0, false)]) 2 := few_sits x0 false 2 (Nat.le_trans (Nat.pow_le_pow_right (by omega) hc) (by omega))
  have hn : canonNext G0 2 2000 = [[1, 0], [1, 0]] := by
    unfold canonNext
    rw [canonG]
    show [[place [G0, G1] (fun t => G0 (0 :: t)), place [G0, G1] (fun t => G0 (1 :: t))], [place [G0, G1] (fun t => G1 (0 :: t)), place [G0, G1] (fun t => G1 (1 :: t))]] = _
    rw [G00, G01, G10, G11, placeG0, placeG1]
  have ho : canonOut G0 2 2000 = [some 0, some 1] := by
    unfold canonOut
    rw [canonG]
    show [G0 [], G1 []] = _
    simp [G0, G1]
  refine .inr ⟨hf, ?_, ?_⟩
  · rw [lang_x0, canonG]; simp
  · rw [lang_x0, hn, ho]
end Go.Proofs.Ythmaokjhncokdaa

/-
  tables, plain: the machine of the set of class 1. No program, no condition beyond what each theorem names.
-/
set_option linter.unusedVariables false
set_option linter.unusedSimpArgs false
namespace Go.Proofs.Ythmaokjhncokdaa
open Classical

def x1 : Nd := .mk 1 [1] []
theorem x1_right : RightX x1 := by
  refine ⟨?_, by simp [x1, cnt, cntL]⟩
  unfold x1 Wf
  exact ⟨by omega, by omega, by omega, fun _ => rfl, by omega, rising_one 1 (by omega) (by omega), by simp only [WfL]⟩
theorem fit_x1 (row : List Int) : fitB x1 row = true ↔ row = [1] := by
  rw [fitB_iff, x1, M_1]
  unfold one
  constructor
  · rintro ⟨h1, c, h2, h3⟩
    match row, h1 with
    | [a], _ =>
      simp at h2 h3
      rw [h2, h3]
  · rintro rfl
    exact ⟨rfl, 1, rfl, by simp⟩
theorem tells_x1 (t : List Nat) : fitsE x1 false (t.map fun (c : Nat) => (c : Int)) = decide (t.getLast? = some 1) := by
  unfold fitsE
  rw [if_neg (by simp)]
  rw [Bool.eq_iff_iff, decide_eq_true_iff, decide_eq_true_iff]
  constructor
  · rintro ⟨k, hk, h⟩
    rw [fit_x1] at h
    have h1 := congrArg List.getLast? h
    rw [List.getLast?_drop] at h1
    split at h1
    · cases h1
    · rw [List.getLast?_map] at h1
      cases hg : t.getLast? with
      | none => rw [hg] at h1; cases h1
      | some c =>
        rw [hg] at h1
        have h2 : (c : Int) = 1 := Option.some.inj h1
        have : c = 1 := by omega
        rw [this]
  · intro h
    obtain ⟨r, rfl⟩ : ∃ r, t = r ++ [1] := by
      rcases List.eq_nil_or_concat t with rfl | ⟨r, c, rfl⟩
      · cases h
      · rw [List.concat_eq_append] at h ⊢
        rw [List.getLast?_append] at h
        have : c = 1 := by simpa using h
        exact ⟨r, by rw [this]⟩
    refine ⟨r.length, by simp, ?_⟩
    rw [fit_x1, List.map_append, List.drop_left' (by simp)]
    rfl

noncomputable def H0 : List Nat → Option Nat := fun t => if ∀ c ∈ t, c < 2 then some (if t.getLast? = some 1 then 1 else 0) else none
noncomputable def H1 : List Nat → Option Nat := fun t => if ∀ c ∈ t, c < 2 then some (if t = [] ∨ t.getLast? = some 1 then 1 else 0) else none

theorem cons_low1 (c : Nat) (hc : c < 2) (t : List Nat) : (∀ d ∈ c :: t, d < 2) ↔ ∀ d ∈ t, d < 2 := by simp [hc]
theorem last_cons1 (c : Nat) (t : List Nat) : (c :: t).getLast? = some 1 ↔ (t = [] ∧ c = 1) ∨ t.getLast? = some 1 := by
  cases t with
  | nil => simp
  | cons d r => simp [List.getLast?_cons_cons]
theorem H00 : (fun t => H0 (0 :: t)) = H0 := by
  funext t
  unfold H0
  simp only [cons_low1 0 (by omega), last_cons1]
  simp
theorem H01 : (fun t => H0 (1 :: t)) = H1 := by
  funext t
  unfold H0 H1
  simp only [cons_low1 1 (by omega), last_cons1, and_true]
theorem H10 : (fun t => H1 (0 :: t)) = H0 := by
  funext t
  unfold H0 H1
  simp only [cons_low1 0 (by omega), last_cons1]
  simp
theorem H11 : (fun t => H1 (1 :: t)) = H1 := by
  funext t
  unfold H1
  simp only [cons_low1 1 (by omega), last_cons1, and_true]
  simp
theorem H_ne : H0 ≠ H1 := fun h => by
  have := congrFun h []
  simp [H0, H1] at this

theorem lang_x1 : langA (autoE [(x1, false)]) outN 2 (autoE [(x1, false)]).start = H0 := by
  rw [lang_N (fun e he => by rw [List.mem_singleton.1 he]; exact x1_right)]
  funext t
  unfold tellsE H0
  split
  · simp only [List.map_cons, List.map_nil, Option.map_some]
    rw [tells_x1]
    by_cases h : t.getLast? = some 1
    · rw [if_pos h, decide_eq_true h]; rfl
    · rw [if_neg h, decide_eq_false h]; rfl
  · rfl

theorem clH1 : cl (langAuto H0) 2 1 = [H0, H1] := by
  have h0 : cl (langAuto H0) 2 0 = [H0] := rfl
  rw [cl, h0]
  show putS (putS [H0] (fun t => H0 (0 :: t))) (fun t => H0 (1 :: t)) = _
  rw [H00, H01]
  have h1 : putS [H0] H0 = [H0] := by rw [putS, if_pos (by simp)]
  rw [h1, putS, if_neg (by simp only [List.mem_singleton]; exact fun h => H_ne h.symm)]
  rfl
theorem clH2 : cl (langAuto H0) 2 2 = [H0, H1] := by
  rw [cl, clH1]
  show putS (putS [H0, H1] (fun t => H1 (0 :: t))) (fun t => H1 (1 :: t)) = _
  rw [H10, H11, putS, if_pos (by rw [putS, if_pos (by simp)]; simp), putS, if_pos (by simp)]
theorem canonH : canonL H0 2 2000 = [H0, H1] := by
  unfold canonL
  have ho : Over (langAuto H0) 2 2 := by unfold Over; rw [clH2]; simp
  rw [over_mono ho (by omega), clH2]

theorem placeH0 : place [H0, H1] H0 = 0 := by
  have h := place_own (l := [H0, H1]) (by simp [H_ne]) (i := 0) (by simp)
  exact h
theorem placeH1 : place [H0, H1] H1 = 1 := by
  have h := place_own (l := [H0, H1]) (by simp [H_ne]) (i := 1) (by simp)
  exact h

theorem built_x1 : Built (autoE [(x1, false)]) outN 2 (some ([[0, 1], [0, 1]], [some 0, some 1])) := by
  have hm : (mach x1).length = 2 := by rw [mach_len (Wf_good x1 1 x1_right.1)]; simp [x1, cnt, cntL]
  have hc : (coreL (mach x1)).length ≤ 2 := by
    unfold coreL
    rw [List.length_map, ← hm]
    exact Nat.le_trans (List.length_filter_le _ _) (by simp)
  have hf : ¬ TooMany (autoE [(x1, false)]) 2 := few_sits x1 false 2 (Nat.le_trans (Nat.pow_le_pow_right (by omega) hc) (by omega))
  have hn : canonNext H0 2 2000 = [[0, 1], [0, 1]] := by
    unfold canonNext
    rw [canonH]
    show [[place [H0, H1] (fun t => H0 (0 :: t)), place [H0, H1] (fun t => H0 (1 :: t))], [place [H0, H1] (fun t => H1 (0 :: t)), place [H0, H1] (fun t => H1 (1 :: t))]] = _
    rw [H00, H01, H10, H11, placeH0, placeH1]
  have ho : canonOut H0 2 2000 = [some 0, some 1] := by
    unfold canonOut
    rw [canonH]
    show [H0 [], H1 []] = _
    simp [H0, H1]
  refine .inr ⟨hf, ?_, ?_⟩
  · rw [lang_x1, canonH]; simp
  · rw [lang_x1, hn, ho]
end Go.Proofs.Ythmaokjhncokdaa

