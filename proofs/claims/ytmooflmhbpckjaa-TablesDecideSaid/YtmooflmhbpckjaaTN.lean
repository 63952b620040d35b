import Derived.Test.YtmooflmhbpckjaaEMm
import Derived.Test.YtmooflmhbpckjaaGA
import Derived.Test.YtmooflmhbpckjaaKU
import Derived.WalkMore
import Derived.ScopeJumps
import Derived.Test.YtmooflmhbpckjaaEOm
import Derived.Test.YtmooflmhbpckjaaRows
/-
  A pointer that is stored: what is read of lists of numbers, and of a machine, stays. No condition beyond what each theorem names.
-/
set_option linter.unusedVariables false
set_option linter.unusedSimpArgs false
namespace Go.Proofs.Ytmooflmhbpckjaa

theorem Raw.ptr {w : World} {v : Value} {n : Nat} {cs : List Value} {T i : Nat} {q : Option Addr} {u : Value} (h : Raw w v n cs) (hp : w.cell? ⟨T, i, none⟩ = some (.pointer q)) (hn : ∀ x ∈ cs, ∀ q, x ≠ .pointer q) : Raw (w.setCell ⟨T, i, none⟩ u) v n cs := by
  obtain ⟨p, cap, rfl, hc, hx⟩ := h
  refine ⟨p, cap, rfl, hc, fun h0 => ?_⟩
  obtain ⟨b, off, rfl, hy⟩ := hx h0
  refine ⟨b, off, rfl, fun j x hj => ?_⟩
  have h1 := hy j x hj
  have hne : (⟨T, i, none⟩ : Addr) ≠ ⟨b, off + j, none⟩ := fun e => by
    rw [← e, hp] at h1
    exact hn x (List.mem_of_getElem? hj) q (Option.some.inj h1).symm
  exact (World.cell?_setCell_other _ _ _ _ hne).trans h1

theorem Ints.ptr {w : World} {v : Value} {xs : List Int} {T i : Nat} {q : Option Addr} {u : Value} (h : Ints w v xs) (hp : w.cell? ⟨T, i, none⟩ = some (.pointer q)) : Ints (w.setCell ⟨T, i, none⟩ u) v xs :=
  Raw.ptr h hp (fun x hx q e => by
    obtain ⟨n, -, rfl⟩ := List.mem_map.1 hx
    cases e)

theorem ReadL.ptr {α : Type} {E F : α → List Value → Prop} {sz : Nat} {w : World} {v : Value} {xs : List α} {T i : Nat} {q : Option Addr} {u : Value} (h : ReadL E sz w v xs) (hp : w.cell? ⟨T, i, none⟩ = some (.pointer q)) (hE : ∀ x row, E x row → (∀ c ∈ row, ∀ q, c ≠ .pointer q) ∧ F x row) : ReadL F sz (w.setCell ⟨T, i, none⟩ u) v xs := by
  obtain ⟨rows, h1, h2, h3, h4⟩ := h
  refine ⟨rows, h1.ptr hp (fun x hx q => ?_), h2, h3, fun j hj => ?_⟩
  · obtain ⟨row, hr, hxr⟩ := List.mem_flatten.1 hx
    obtain ⟨j, hj, rfl⟩ := List.getElem_of_mem hr
    obtain ⟨row', g1, g2⟩ := h4 j (by omega)
    rw [List.getElem?_eq_getElem hj] at g1
    cases g1
    exact (hE _ _ g2).1 x hxr q
  · obtain ⟨row, g1, g2⟩ := h4 j hj
    exact ⟨row, g1, (hE _ _ g2).2⟩

theorem MachD.ptr {w : World} {ob n : Nat} {N : List (List Nat)} {O : List Nat} {T i : Nat} {q : Option Addr} {u : Value} (h : MachD w ob n N O) (hp : w.cell? ⟨T, i, none⟩ = some (.pointer q)) : MachD (w.setCell ⟨T, i, none⟩ u) ob n N O := by
  obtain ⟨nv, ov, h1, h2, h3⟩ := h
  obtain ⟨pn, cn, rfl, -, -⟩ := h2.at (by decide) rfl
  obtain ⟨po, co, rfl, -, -⟩ := h3.at (by decide) rfl
  have hne : ob ≠ T := fun e => by
    subst e
    match i, hp with
    | 0, hp => simp [World.cell?, h1] at hp
    | 1, hp => simp [World.cell?, h1] at hp
    | 2, hp => simp [World.cell?, h1] at hp
    | i + 3, hp => simp [World.cell?, h1] at hp
  have hf := Fr.setCell (F := fun j => j = T) w (p := ⟨T, i, none⟩) rfl u
  refine ⟨_, _, (hf.block ob (at_lt h1) hne).trans h1, h2.ptr hp (fun x row hr => ?_), h3.ptr hp (fun x row hr => ?_)⟩
  · obtain ⟨v, rfl, g1, g2, g3⟩ := hr
    obtain ⟨p, c, rfl, -, -⟩ := g2.get
    exact ⟨(fun c hc q e => by rw [List.mem_singleton.1 hc] at e; cases e), _, rfl, g1, g2.ptr hp, g3⟩
  · have hr : row = [.int .u64 (x : Nat)] := hr
    subst hr
    exact ⟨(fun c hc q e => by rw [List.mem_singleton.1 hc] at e; cases e), rfl⟩
end Go.Proofs.Ytmooflmhbpckjaa

/-
  tables: Compile. No condition beyond what each theorem names.
-/
set_option linter.unusedVariables false
set_option linter.unusedSimpArgs false
namespace Go.Proofs.Ytmooflmhbpckjaa
open Go.RowKit Classical

/-- an expression, by its cells, with where its parts lie -/
def exprF (F : Nat → Prop) (w : World) (x : Nd × Bool) (row : List Value) : Prop := ∃ a b c, row = [a, b, c, .bool x.2] ∧ NodeF F w x.1 a b c
theorem exprF.fr {F G : Nat → Prop} {w w' : World} {x : Nd × Bool} {row : List Value} (h : exprF F w x row) (hf : Fr G w w') (hg : ∀ k, F k → ¬ G k) : exprF F w' x row := by
  obtain ⟨a, b, c, rfl, h⟩ := h
  exact ⟨a, b, c, rfl, h.fr hf hg⟩
theorem exprF.below {F : Nat → Prop} {B : Nat} {w w' : World} {x : Nd × Bool} {row : List Value} (h : exprF F w x row) (hb : Below B w w') (hB : w.heap.size ≤ B) : exprF F w' x row := by
  obtain ⟨a, b, c, rfl, h⟩ := h
  exact ⟨a, b, c, rfl, NodeF.below hb hB _ h⟩
theorem exprF.mono {F G : Nat → Prop} {w : World} {x : Nd × Bool} {row : List Value} (h : exprF F w x row) (hg : ∀ k, F k → G k) : exprF G w x row := by
  obtain ⟨a, b, c, rfl, h⟩ := h
  exact ⟨a, b, c, rfl, NodeF.mono hg _ h⟩
theorem exprF.is {F : Nat → Prop} {w : World} {x : Nd × Bool} {row : List Value} (h : exprF F w x row) : exprE w x row := by
  obtain ⟨a, b, c, rfl, h⟩ := h
  exact ⟨a, b, c, rfl, h.is⟩

/-- where the turned expressions lie: not in the tables, not in the lists themselves -/
def FC (B T : Nat) (w : World) (lv rv : Value) (j : Nat) : Prop := B ≤ j ∧ j < w.heap.size ∧ j ≠ T ∧ lv.ownBlock ≠ some j ∧ rv.ownBlock ≠ some j

theorem cells4 {w : World} {B : Nat} {a b c d : Value} {T : TypeId} (hb : w.heap[B]? = some (.cells #[a, b, c, d] T)) : w.cell? ⟨B, 0, none⟩ = some a ∧ w.cell? ⟨B, 1, none⟩ = some b ∧ w.cell? ⟨B, 2, none⟩ = some c ∧ w.cell? ⟨B, 3, none⟩ = some d := by
  refine ⟨?_, ?_, ?_, ?_⟩ <;> simp [World.cell?, hb]
theorem cells2 {w : World} {B : Nat} {a b : Value} {T : TypeId} (hb : w.heap[B]? = some (.cells #[a, b] T)) : w.cell? ⟨B, 0, none⟩ = some a ∧ w.cell? ⟨B, 1, none⟩ = some b := by
  constructor <;> simp [World.cell?, hb]

/-- behind k rules -/
structure CompAt (w : World) (B T m : Nat) (box : Array Value) (rs : List Rl) (k : Nat) (W : World) (lv rv : Value) (br : Nat) (p0 p1 : Value) : Prop where
  bx : W.heap[B]? = some (.cells box 25)
  tab : W.heap[T]? = some (.cells #[p0, p1, .int .u64 (br : Nat), .int .i64 (m : Nat)] 39)
  lo : OwnL (exprE w) 71 4 B W lv (leftsL (rs.take k))
  ro : OwnL (exprF (FC B T W lv rv) W) 71 4 B W rv (rightsL (rs.take k))
  sep : ∀ j, lv.ownBlock = some j → rv.ownBlock ≠ some j
  lT : lv.ownBlock ≠ some T ∧ lv.ownBlock ≠ some B
  rT : rv.ownBlock ≠ some T ∧ rv.ownBlock ≠ some B
  right : ∀ r ∈ rs.take k, RightX r.left ∧ RightX r.right
  below : Below B w W

theorem CompAt.store {w : World} {B T m : Nat} {box : Array Value} {rs : List Rl} {k : Nat} {W : World} {lv rv : Value} {br : Nat} {p0 p1 : Value} (h : CompAt w B T m box rs k W lv rv br p0 p1) (hBT : B < T) (v : Nat) : CompAt w B T m box rs k (W.setCell ⟨T, 2, none⟩ (.int .u64 (v : Nat))) lv rv v p0 p1 := by
  have hf := Fr.setCell (F := fun j => j = T) W (p := ⟨T, 2, none⟩) rfl (.int .u64 (v : Nat))
  refine ⟨(hf.block B (at_lt h.bx) (by omega)).trans h.bx, blk_set h.tab 2 (.int .u64 (v : Nat)), h.lo.fr hf (fun j hj he => h.lT.1 (he ▸ hj)), ?_, h.sep, h.lT, h.rT, h.right, h.below.trans (hf.below (by have := at_lt h.bx; omega) (fun j hj => by have hj : j = T := hj; omega))⟩
  exact (h.ro.fr hf (fun j hj he => h.rT.1 (he ▸ hj))).mono fun x r hx => (hx.fr hf (fun j hj he => hj.2.2.1 he)).mono fun j ⟨f1, f2, f3, f4, f5⟩ => ⟨f1, Nat.lt_of_lt_of_le f2 hf.size, f3, f4, f5⟩

theorem CompAt.keep {w : World} {B T m : Nat} {box : Array Value} {rs : List Rl} {k : Nat} {W W' : World} {lv rv : Value} {br : Nat} {p0 p1 : Value} (h : CompAt w B T m box rs k W lv rv br p0 p1) (hb : Below W.heap.size W W') : CompAt w B T m box rs k W' lv rv br p0 p1 :=
  ⟨(hb.block _ (at_lt h.bx)).trans h.bx, (hb.block _ (at_lt h.tab)).trans h.tab, h.lo.below hb (Nat.le_refl _), (h.ro.below hb (Nat.le_refl _)).mono fun x r hx => (hx.below hb (Nat.le_refl _)).mono fun j ⟨f1, f2, f3, f4, f5⟩ => ⟨f1, Nat.lt_of_lt_of_le f2 hb.size, f3, f4, f5⟩, h.sep, h.lT, h.rT, h.right, h.below.trans (hb.mono (Nat.le_of_lt (at_lt h.bx)))⟩

theorem CompAt.put0 {w : World} {B T m : Nat} {box : Array Value} {rs : List Rl} {k : Nat} {W : World} {lv rv : Value} {br : Nat} {p0 p1 : Value} (h : CompAt w B T m box rs k W lv rv br p0 p1) (hBT : B < T) (v : Value) : CompAt w B T m box rs k (W.setCell ⟨T, 0, none⟩ v) lv rv br v p1 := by
  have hf := Fr.setCell (F := fun j => j = T) W (p := ⟨T, 0, none⟩) rfl v
  refine ⟨(hf.block B (at_lt h.bx) (by omega)).trans h.bx, blk_set h.tab 0 v, h.lo.fr hf (fun j hj he => h.lT.1 (he ▸ hj)), ?_, h.sep, h.lT, h.rT, h.right, h.below.trans (hf.below (by have := at_lt h.bx; omega) (fun j hj => by have hj : j = T := hj; omega))⟩
  exact (h.ro.fr hf (fun j hj he => h.rT.1 (he ▸ hj))).mono fun x r hx => (hx.fr hf (fun j hj he => hj.2.2.1 he)).mono fun j ⟨f1, f2, f3, f4, f5⟩ => ⟨f1, Nat.lt_of_lt_of_le f2 hf.size, f3, f4, f5⟩
theorem CompAt.put1 {w : World} {B T m : Nat} {box : Array Value} {rs : List Rl} {k : Nat} {W : World} {lv rv : Value} {br : Nat} {p0 p1 : Value} (h : CompAt w B T m box rs k W lv rv br p0 p1) (hBT : B < T) (v : Value) : CompAt w B T m box rs k (W.setCell ⟨T, 1, none⟩ v) lv rv br p0 v := by
  have hf := Fr.setCell (F := fun j => j = T) W (p := ⟨T, 1, none⟩) rfl v
  refine ⟨(hf.block B (at_lt h.bx) (by omega)).trans h.bx, blk_set h.tab 1 v, h.lo.fr hf (fun j hj he => h.lT.1 (he ▸ hj)), ?_, h.sep, h.lT, h.rT, h.right, h.below.trans (hf.below (by have := at_lt h.bx; omega) (fun j hj => by have hj : j = T := hj; omega))⟩
  exact (h.ro.fr hf (fun j hj he => h.rT.1 (he ▸ hj))).mono fun x r hx => (hx.fr hf (fun j hj he => hj.2.2.1 he)).mono fun j ⟨f1, f2, f3, f4, f5⟩ => ⟨f1, Nat.lt_of_lt_of_le f2 hf.size, f3, f4, f5⟩
theorem CompAt.lefts {w : World} {B T m : Nat} {box : Array Value} {rs : List Rl} {k : Nat} {W : World} {lv rv : Value} {br : Nat} {p0 p1 : Value} (h : CompAt w B T m box rs k W lv rv br p0 p1) (hB : B = w.heap.size) : ReadL (exprE W) 4 W lv (leftsL (rs.take k)) :=
  h.lo.read.monoE (fun x r hr => by
    obtain ⟨a, b, c, rfl, hn⟩ := hr
    exact ⟨a, b, c, rfl, hn.to h.below (by omega)⟩)
theorem CompAt.rights {w : World} {B T m : Nat} {box : Array Value} {rs : List Rl} {k : Nat} {W : World} {lv rv : Value} {br : Nat} {p0 p1 : Value} (h : CompAt w B T m box rs k W lv rv br p0 p1) : ReadL (exprE W) 4 W rv (rightsL (rs.take k)) :=
  h.ro.read.monoE (fun x r hr => hr.is)

/-- what one machine comes to: it is there, or there are too many states -/
def ResB (n : Nat) (l : List (Nd × Bool)) (W : World) (q : Option Addr) (lim : Int) : Prop :=
  (lim = 0 ∧ ∃ ob N O, q = some ⟨ob, 0, none⟩ ∧ Built (autoE l) outN n (some (N, O.map some)) ∧ MachD W ob n N O) ∨ (lim = 7 ∧ q = none ∧ Built (autoE l) outN n none)
theorem ResB.to {n : Nat} {l : List (Nd × Bool)} {W W' : World} {q : Option Addr} {lim : Int} (h : ResB n l W q lim) (hb : Below W.heap.size W W') : ResB n l W' q lim := by
  rcases h with ⟨h1, ob, N, O, h2, h3, h4⟩ | h
  · exact .inl ⟨h1, ob, N, O, h2, h3, h4.to hb⟩
  · exact .inr h
theorem ResB.ptr {n : Nat} {l : List (Nd × Bool)} {W : World} {q : Option Addr} {lim : Int} {T i : Nat} {q' : Option Addr} {u : Value} (h : ResB n l W q lim) (hp : W.cell? ⟨T, i, none⟩ = some (.pointer q')) : ResB n l (W.setCell ⟨T, i, none⟩ u) q lim := by
  rcases h with ⟨h1, ob, N, O, h2, h3, h4⟩ | h
  · exact .inl ⟨h1, ob, N, O, h2, h3, h4.ptr hp⟩
  · exact .inr h

theorem take_snoc {rs : List Rl} {k : Nat} {r : Rl} (hr : rs[k]? = some r) : rs.take (k + 1) = rs.take k ++ [r] := by
  rw [List.take_add_one, hr]; rfl
theorem leftsL_snoc {rs : List Rl} {k : Nat} {r : Rl} (hr : rs[k]? = some r) : leftsL (rs.take (k + 1)) = leftsL (rs.take k) ++ [(r.left, r.start)] := by
  unfold leftsL
  rw [take_snoc hr, List.map_append]; rfl
theorem rightsL_snoc {rs : List Rl} {k : Nat} {r : Rl} (hr : rs[k]? = some r) : rightsL (rs.take (k + 1)) = rightsL (rs.take k) ++ [(revX r.right, false)] := by
  unfold rightsL
  rw [take_snoc hr, List.map_append]; rfl
theorem breaksL_snoc {rs : List Rl} {k : Nat} {r : Rl} (hr : rs[k]? = some r) : breaksL (rs.take (k + 1)) = breaksL (rs.take k) + (if r.brk then 2 ^ k else 0) := by
  have hk := (List.getElem?_eq_some_iff.1 hr).1
  unfold breaksL
  rw [take_snoc hr, List.map_append, List.map_cons, List.map_nil, bitsL_snoc]
  simp [Nat.min_eq_left (Nat.le_of_lt hk)]
theorem lefts_length {rs : List Rl} {k : Nat} (hk : k ≤ rs.length) : (leftsL (rs.take k)).length = k := by unfold leftsL; simp; omega
theorem rights_length {rs : List Rl} {k : Nat} (hk : k ≤ rs.length) : (rightsL (rs.take k)).length = k := by unfold rightsL; simp; omega

/-- a scope that is left by a jump to a label ahead -/
theorem wp_scope_ahead {P : Program} {c rest : Code} {Q : Exit → Act → World → Prop} {a : Act} {w : World} (l : Nat) (hf : findLabel c l = some rest) (first : c.wp P (Exit.jump l (fun a w => rest.wp P (Exit.noGoto Q) a w) Q) a w) : (Code.scope c).wp P Q a w :=
  wp_scope_jumps l _ (fun _ _ => 0) hf first (fun a w h => wp_mono h (fun e a w h => by
    cases e with
    | goto l' => exact h.elim
    | normal => exact h
    | exit id => exact h
    | ret => exact h
    | panic ch => exact h
    | outgrown => exact h))
theorem jump_go {l : Nat} {J : Act → World → Prop} {Q : Exit → Act → World → Prop} {a : Act} {w : World} (h : J a w) : Exit.jump l J Q (.goto l) a w := ⟨rfl, h⟩
theorem Exit.jump_ret {l : Nat} {J : Act → World → Prop} {Q : Exit → Act → World → Prop} {a : Act} {w : World} : Exit.jump l J Q .ret a w = Q .ret a w := rfl

def CompPost (w : World) (n : Nat) (rs : List Rl) (e : Ending) (w' : World) : Prop := Below w.heap.size w w' ∧
  ((¬ CompOk n rs ∧ e = .returned (.tuple #[.pointer none, .int .i64 1])) ∨
   (CompOk n rs ∧ (Built (autoE (leftsL rs)) outN n none ∨ Built (autoE (rightsL rs)) outN n none) ∧ e = .returned (.tuple #[.pointer none, .int .i64 7])) ∨
   (CompOk n rs ∧ ∃ T oa ob N O M U, w.heap.size ≤ T ∧ Built (autoE (leftsL rs)) outN n (some (N, O.map some)) ∧ Built (autoE (rightsL rs)) outN n (some (M, U.map some)) ∧ e = .returned (.tuple #[.pointer (some ⟨T, 0, none⟩), .int .i64 0]) ∧
     w'.heap[T]? = some (.cells #[.pointer (some ⟨oa, 0, none⟩), .pointer (some ⟨ob, 0, none⟩), .int .u64 (breaksL rs : Nat), .int .i64 (rs.length : Nat)] 39) ∧ MachD w' oa n N O ∧ MachD w' ob n M U))

set_option maxRecDepth 100000 in
set_option maxHeartbeats 16000000 in
theorem compile_any (w : World) (pc : Option Addr) (nc cc : Nat) (rv : Value) (rs : List Rl) (hr : Rules w rv rs) (hl : rs.length ≤ 1000000) :
    Calls Try.prog 11 #[.agg #[.slice pc nc cc, rv]] w (CompPost w nc rs) := by
  obtain ⟨pr, cr, rfl, hcr, hget⟩ := hr.get
  obtain ⟨m, hm⟩ : ∃ m, m = rs.length := ⟨_, rfl⟩
  have HGET := Lib.hid (show ∀ i r, rs[i]? = some r → ∃ b off, pr = some ⟨b, off, none⟩ ∧ b < w.heap.size ∧ ∃ row, cellsAt w b (off + i * 8) row ∧ RuleIs w r row from fun i r h => by
    obtain ⟨hi, rfl⟩ := List.getElem?_eq_some_iff.1 h
    obtain ⟨b, off, e, h1, h2⟩ := hget (by omega)
    exact ⟨b, off, e, h1, h2 i hi⟩)
  have HM := Lib.hid hm
  rw [← hm] at hl hcr ⊢
  clear hr hget hm
  go_enter Try.func11, Try.ntmps11
  go_wp2_with fail
  refine wp_scope_ahead 0 (by rfl) ?_
  go_upto_region 3 with fail
  refine abs_wp fun W hW => ?_
  obtain ⟨hbw, hbx, htb⟩ := two_allocs w _ _ W hW
  obtain ⟨B, hB⟩ : ∃ B, B = w.heap.size := ⟨_, rfl⟩
  obtain ⟨T, hT⟩ : ∃ T, T = w.heap.size + 1 := ⟨_, rfl⟩
  rw [← hT] at htb
  rw [← hB] at hbx
  have HBW := Lib.hid hbw
  have HBX := Lib.hid hbx
  have HTB := Lib.hid htb
  have HB := Lib.hid hB
  have HT := Lib.hid hT
  have HSZ := Lib.hid (show W.heap.size = w.heap.size + 2 by rw [hW]; simp)
  rw [← hT, ← hB]
  obtain ⟨x0, x1⟩ := cells2 hbx
  clear hW hbw hbx htb hB hT
  by_cases h40 : 40 < m
  · have h40i : (40 : Int) < m := by omega
    have HNO := Lib.hid (show ¬ CompOk nc rs from fun h => by have := h.1; have := HM.out; omega)
    go_wp2_with fail
    go_step3
    refine jump_go (Q := fun _ _ _ => True) ?_
    go_wp2_with fail
    rw [Exit.noGoto_ret]
    go_ret2
    exact ⟨HBW.out, .inl ⟨HNO.out, rfl⟩⟩
  · have h40i : ¬ (40 : Int) < m := by omega
    have HC0 := Lib.hid (show CompAt w B T m #[.slice pc nc cc, .slice pr m cr] rs 0 W (.slice none 0 0) (.slice none 0 0) 0 (.pointer none) (.pointer none) from ⟨HBX.out, HTB.out, OwnL.nil _, OwnL.nil _, fun j h => by simp [Value.ownBlock] at h, by simp [Value.ownBlock], by simp [Value.ownBlock], fun r h => by simp at h, by rw [HB.out]; exact HBW.out⟩)
    go_wp2_with fail
    go_loopw [4, 5, 27] (fun lv rv i wz => ∃ k : Nat, i = .int .i64 k ∧ k ≤ m ∧ CompAt w B T m #[.slice pc nc cc, .slice pr m cr] rs k wz lv rv (breaksL (rs.take k)) (.pointer none) (.pointer none)) (fun _ _ i _ => m - (intOf i).toNat)
    case atStart => exact ⟨0, rfl, by omega, HC0.out⟩
    case round =>
      obtain ⟨k, rfl, hk, hc⟩ := hrel
      have HC := Lib.hid hc
      obtain ⟨pl, cl1, hlv⟩ := hc.lo.form
      rw [lefts_length (by rw [← HM.out]; exact hk)] at hlv
      obtain ⟨pq, cq1, hrv⟩ := hc.ro.form
      rw [rights_length (by rw [← HM.out]; exact hk)] at hrv
      subst hlv hrv
      have HBS := Lib.hid (show Below w.heap.size w wr by rw [← HB.out]; exact hc.below)
      clear x0 x1
      obtain ⟨x0, x1⟩ := cells2 hc.bx
      clear hc
      by_cases hkm : k < m
      · have hki : (k : Int) < m := by omega
        have hk0 : (0 : Int) ≤ k := by omega
        have hkr : k < rs.length := by rw [← HM.out]; exact hkm
        obtain ⟨r, hrk⟩ : ∃ r, rs[k]? = some r := ⟨_, List.getElem?_eq_getElem hkr⟩
        obtain ⟨bp, op, rfl, hbp, row, hcell, hri⟩ := HGET.out k r hrk
        have HKR := Lib.hid hkr
        obtain ⟨a1, b1, c1, d1, e1, f1, rfl, hnl, hnr⟩ := hri
        have HRK := Lib.hid hrk
        obtain ⟨opx, ppx, lx, c1x, qx, mx, dx, rfl, rfl, rfl⟩ := hnl.form
        obtain ⟨opy, ppy, ly, c1y, qy, my, dy, rfl, rfl, rfl⟩ := hnr.form
        have HNL := Lib.hid hnl
        have HNR := Lib.hid hnr
        obtain ⟨bk, hbk⟩ : ∃ bk, bk = r.brk := ⟨_, rfl⟩
        obtain ⟨st, hst⟩ : ∃ st, st = r.start := ⟨_, rfl⟩
        rw [← hbk, ← hst] at hcell
        have HBK := Lib.hid (And.intro hbk hst)
        have y0 := cell_below HBS.out hbp (hcell 0 _ rfl)
        have y1 := cell_below HBS.out hbp (hcell 1 _ rfl)
        have y2 := cell_below HBS.out hbp (hcell 2 _ rfl)
        have y3 := cell_below HBS.out hbp (hcell 3 _ rfl)
        have y4 := cell_below HBS.out hbp (hcell 4 _ rfl)
        have y5 := cell_below HBS.out hbp (hcell 5 _ rfl)
        have y6 := cell_below HBS.out hbp (hcell 6 _ rfl)
        have y7 := cell_below HBS.out hbp (hcell 7 _ rfl)
        simp only [Nat.add_zero] at y0
        clear hcell hrk hbk hst hnl hnr hbp hkr
        go_upto_region 9 with fail
        refine abs_wp fun W1 hW1 => ?_
        have HX1 := Lib.hid (show W1.heap[wr.heap.size]? = some (.cells #[.int .i64 opx, .slice ppx lx c1x, .slice qx mx dx, .int .i64 opy, .slice ppy ly c1y, .slice qy my dy, .bool bk, .bool st] 51) by rw [hW1]; exact heap_alloc_new _ _)
        have HD1 := Lib.hid (show Below wr.heap.size wr W1 by rw [hW1]; exact below_alloc1 _ _)
        have HS1 := Lib.hid (show wr.heap.size < W1.heap.size by rw [hW1]; simp)
        have HB1 := Lib.hid (HBS.out.trans (HD1.out.mono HBS.out.size))
        obtain ⟨X, hX⟩ : ∃ X, X = wr.heap.size := ⟨_, rfl⟩
        rw [← hX] at HX1 ⊢
        have HXE := Lib.hid hX
        clear hW1 hX y0 y1 y2 y3 y4 y5 y6 y7 x0 x1
        obtain ⟨z0, z1, z2, z3, z4, z5, z6, z7⟩ := cells8 HX1.out
        have HRL := Lib.hid (right_any r.left W1 _ _ _ (HNL.out.to HB1.out (Nat.le_refl _)))
        cases hrl : rightB r.left
        · have HNO := Lib.hid (show ¬ CompOk nc rs from fun h => by
            have h1 := (h.2.1 r (List.mem_of_getElem? HRK.out)).1
            rw [rightB_iff.2 h1] at hrl
            cases hrl)
          rw [hrl] at HRL
          clear hrl
          go_wp2_with fail
          refine HRL.out.mono ?_
          rintro e w2 ⟨rfl, hb2⟩
          have HB2 := Lib.hid (HB1.out.trans (hb2.mono HB1.out.size))
          clear hb2 z0 z1 z2 z3 z4 z5 z6 z7
          go_wp2_with fail
          go_step3
          refine jump_go (Q := fun _ _ _ => True) ?_
          go_wp2_with fail
          rw [Exit.noGoto_ret]
          go_ret2
          exact ⟨HB2.out, .inl ⟨HNO.out, rfl⟩⟩
        · have HL1 := Lib.hid (rightB_iff.1 hrl)
          rw [hrl] at HRL
          clear hrl
          go_wp2_with fail
          refine HRL.out.mono ?_
          rintro e w2 ⟨rfl, hb2⟩
          have HD2 := Lib.hid (HD1.out.trans (hb2.mono HD1.out.size))
          have HB2 := Lib.hid (HB1.out.trans (hb2.mono HB1.out.size))
          have HX2 := Lib.hid ((hb2.block _ (at_lt HX1.out)).trans HX1.out)
          clear hb2 z0 z1 z2 z3 z4 z5 z6 z7
          obtain ⟨z0, z1, z2, z3, z4, z5, z6, z7⟩ := cells8 HX2.out
          have HRR := Lib.hid (right_any r.right w2 _ _ _ (HNR.out.to HB2.out (Nat.le_refl _)))
          cases hrl : rightB r.right
          · have HNO := Lib.hid (show ¬ CompOk nc rs from fun h => by
              have h1 := (h.2.1 r (List.mem_of_getElem? HRK.out)).2
              rw [rightB_iff.2 h1] at hrl
              cases hrl)
            rw [hrl] at HRR
            clear hrl
            go_wp2_with fail
            refine HRR.out.mono ?_
            rintro e w3 ⟨rfl, hb3⟩
            have HB3 := Lib.hid (HB2.out.trans (hb3.mono HB2.out.size))
            clear hb3 z0 z1 z2 z3 z4 z5 z6 z7
            go_wp2_with fail
            go_step3
            refine jump_go (Q := fun _ _ _ => True) ?_
            go_wp2_with fail
            rw [Exit.noGoto_ret]
            go_ret2
            exact ⟨HB3.out, .inl ⟨HNO.out, rfl⟩⟩
          · have HR1 := Lib.hid (rightB_iff.1 hrl)
            rw [hrl] at HRR
            clear hrl
            go_wp2_with fail
            refine HRR.out.mono ?_
            rintro e w3 ⟨rfl, hb3⟩
            have HD3 := Lib.hid (HD2.out.trans (hb3.mono HD2.out.size))
            have HB3 := Lib.hid (HB2.out.trans (hb3.mono HB2.out.size))
            have HX3 := Lib.hid ((hb3.block _ (at_lt HX2.out)).trans HX2.out)
            clear hb3 z0 z1 z2 z3 z4 z5 z6 z7
            obtain ⟨z0, z1, z2, z3, z4, z5, z6, z7⟩ := cells8 HX3.out
            obtain ⟨lv, hlv⟩ : ∃ lv, lv = Value.slice pl k cl1 := ⟨_, rfl⟩
            obtain ⟨rv, hrv⟩ : ∃ rv, rv = Value.slice pq k cq1 := ⟨_, rfl⟩
            have HLV := Lib.hid hlv
            have HRV := Lib.hid hrv
            have HCV := Lib.hid (show CompAt w B T m #[.slice pc nc cc, .slice (some ⟨bp, op, none⟩) m cr] rs k wr lv rv (breaksL (rs.take k)) (.pointer none) (.pointer none) by rw [hlv, hrv]; exact HC.out)
            clear hlv hrv
            have HAL := Lib.hid (below_alloc1 w3 (.cells #[.int .i64 opx, .slice ppx lx c1x, .slice qx mx dx, .bool st] 71))
            have HE := Lib.hid (show exprE w (r.left, r.start) [.int .i64 opx, .slice ppx lx c1x, .slice qx mx dx, .bool st] from ⟨_, _, _, by rw [HBK.out.2], HNL.out⟩)
            go_wp2_with (refine stop_at (.call { callee := .builtin .append, args := #[.tmp 42, .tmp 48], argTypes := #[69, 69] }) rfl ?_)
            refine ⟨?_⟩
            refine wpList_append_exprs rfl (.tmp 42) (.tmp 48) rfl lv (leftsL (rs.take k)) k (lefts_length (by rw [← HM.out]; exact hk)) HLV.out.symm ((HCV.out.lo.below HD3.out (Nat.le_refl _)).below HAL.out (Nat.le_refl _)) _ [(r.left, r.start)] 1 rfl rfl (ReadL.one w3 _ _ [.int .i64 opx, .slice ppx lx c1x, .slice qx mx dx, .bool st] ⟨rfl, by simp [Value.oneCell']⟩ HE.out) (by omega) (by have h1 := HD3.out.size; have h2 := at_lt HCV.out.bx; have h3 := HAL.out.size; omega) ?_
            intro p4 c4 w4 hown4 hg4 hlie4
            have hf4 : Fr (fun j => lv.ownBlock = some j) w3 w4 := (Fr.of_below HAL.out _).trans (Fr.grown (F := fun j => lv.ownBlock = some j) hg4 (fun k h => h)) (fun _ _ h => h)
            have hz4 : (w3.alloc (.cells #[.int .i64 opx, .slice ppx lx c1x, .slice qx mx dx, .bool st] 71)).heap.size = w3.heap.size + 1 := by simp
            rw [hz4] at hlie4
            have HF4 := Lib.hid hf4
            have HLI4 := Lib.hid hlie4
            have HO4 := Lib.hid hown4
            have HS4 := Lib.hid (show w3.heap.size + 1 ≤ w4.heap.size by have := hg4.size; omega)
            have HBS4 := Lib.hid (show Below B w w4 from (HCV.out.below.trans (HD3.out.mono (Nat.le_of_lt (at_lt HCV.out.bx)))).trans (hf4.below (by have h1 := HD3.out.size; have h2 := at_lt HCV.out.bx; omega) (fun j hj => (HCV.out.lo.lt j hj).1)))
            have HBW4 := Lib.hid (show Below w.heap.size w w4 by rw [← HB.out]; exact HBS4.out)
            have HX4 := Lib.hid ((hf4.block X (at_lt HX3.out) (fun he => by have h1 := (HCV.out.lo.lt _ he).2; have h2 := HXE.out; omega)).trans HX3.out)
            clear hown4 hg4 hlie4 hf4 hz4 z0 z1 z2 z3 z4 z5 z6 z7 HAL HE
            obtain ⟨z0, z1, z2, z3, z4, z5, z6, z7⟩ := cells8 HX4.out
            have HREV := Lib.hid (rev_x r.right w4 _ _ _ (HNR.out.to HBW4.out (Nat.le_refl _)))
            go_wp2_with fail
            refine HREV.out.mono ?_
            rintro e w5 ⟨ra, rb, rc, rfl, hn5, hb5⟩
            have HN5 := Lib.hid hn5.lt
            obtain ⟨op5, pp5, l5, c5, q5, m5, d5, rfl, rfl, rfl⟩ := hn5.is.form
            have HD5 := Lib.hid hb5
            have HX5 := Lib.hid ((hb5.block _ (at_lt HX4.out)).trans HX4.out)
            clear hn5 hb5 z0 z1 z2 z3 z4 z5 z6 z7 HREV
            have HAL := Lib.hid (below_alloc1 w5 (.cells #[.int .i64 op5, .slice pp5 l5 c5, .slice q5 m5 d5, .bool false] 71))
            obtain ⟨lv4, hlv4⟩ : ∃ lv4, lv4 = Value.slice p4 (k + 1) c4 := ⟨_, rfl⟩
            rw [← hlv4] at HLI4 HO4
            have HLV4 := Lib.hid hlv4
            clear hlv4
            have HLT := Lib.hid (show ∀ j, lv4.ownBlock = some j → j < w4.heap.size from fun j hj => (HO4.out.lt j hj).2)
            have HNEW := Lib.hid (show ReadL (exprF (FC B T w5 lv4 rv) (w5.alloc (.cells #[.int .i64 op5, .slice pp5 l5 c5, .slice q5 m5 d5, .bool false] 71))) 4 (w5.alloc (.cells #[.int .i64 op5, .slice pp5 l5 c5, .slice q5 m5 d5, .bool false] 71)) (.slice (some ⟨w5.heap.size, 0, none⟩) 1 1) [(revX r.right, false)] from
              ReadL.one w5 _ _ [.int .i64 op5, .slice pp5 l5 c5, .slice q5 m5 d5, .bool false] ⟨rfl, by simp [Value.oneCell']⟩ (exprF.below (F := FC B T w5 lv4 rv) ⟨_, _, _, rfl, NodeF.mono (fun j hj => by
                have h1 := HS4.out
                have h2 := HD3.out.size
                have h3 := at_lt HCV.out.tab
                have h4 := at_lt HCV.out.bx
                refine ⟨by omega, hj.2, by omega, fun he => by have := HLT.out j he; omega, fun he => by have := (HCV.out.ro.lt j he).2; omega⟩) _ HN5.out⟩ HAL.out (Nat.le_refl _)))
            have HRO5 := Lib.hid (show OwnL (exprF (FC B T w5 lv4 rv) (w5.alloc (.cells #[.int .i64 op5, .slice pp5 l5 c5, .slice q5 m5 d5, .bool false] 71))) 71 4 B (w5.alloc (.cells #[.int .i64 op5, .slice pp5 l5 c5, .slice q5 m5 d5, .bool false] 71)) rv (rightsL (rs.take k)) from
              ((((HCV.out.ro.below HD3.out (Nat.le_refl _)).fr HF4.out (fun j hj he => HCV.out.sep j he hj)).below HD5.out (Nat.le_refl _)).below HAL.out (Nat.le_refl _)).mono fun x row hx =>
                ((((hx.below HD3.out (Nat.le_refl _)).fr HF4.out (fun j hj he => hj.2.2.2.1 he)).below HD5.out (Nat.le_refl _)).below HAL.out (Nat.le_refl _)).mono fun j hj => by
                  obtain ⟨f1, f2, f3, f4, f5⟩ := hj
                  have h1 := HS4.out
                  have h2 := HD3.out.size
                  have h3 := HD5.out.size
                  refine ⟨f1, by omega, f3, fun he => ?_, f5⟩
                  rcases HLI4.out with h | h
                  · exact f4 (h ▸ he)
                  · rw [he] at h; injection h with h; omega)
            go_wp2_with (refine stop_at (.call { callee := .builtin .append, args := #[.tmp 50, .tmp 55], argTypes := #[69, 69] }) rfl ?_)
            refine ⟨?_⟩
            refine wpList_append_exprs rfl (.tmp 50) (.tmp 55) rfl rv (rightsL (rs.take k)) k (rights_length (by rw [← HM.out]; exact hk)) HRV.out.symm HRO5.out _ [(revX r.right, false)] 1 rfl rfl HNEW.out (by omega) (by have h1 := HD3.out.size; have h2 := at_lt HCV.out.bx; have h3 := HS4.out; have h4 := HD5.out.size; have h5 := HAL.out.size; omega) ?_
            intro p6 c6 w6 hown6 hg6 hlie6
            have hf6 : Fr (fun j => rv.ownBlock = some j) w5 w6 := (Fr.of_below HAL.out _).trans (Fr.grown (F := fun j => rv.ownBlock = some j) hg6 (fun k h => h)) (fun _ _ h => h)
            have hg6' : Fr (fun j => rv.ownBlock = some j) (w5.alloc (.cells #[.int .i64 op5, .slice pp5 l5 c5, .slice q5 m5 d5, .bool false] 71)) w6 := Fr.grown (F := fun j => rv.ownBlock = some j) hg6 (fun k h => h)
            have hz6 : (w5.alloc (.cells #[.int .i64 op5, .slice pp5 l5 c5, .slice q5 m5 d5, .bool false] 71)).heap.size = w5.heap.size + 1 := by simp
            rw [hz6] at hlie6
            have hs6 : w5.heap.size + 1 ≤ w6.heap.size := by have := hg6.size; omega
            obtain ⟨rv6, hrv6⟩ : ∃ rv6, rv6 = Value.slice p6 (k + 1) c6 := ⟨_, rfl⟩
            rw [← hrv6] at hown6 hlie6
            have HRV6 := Lib.hid hrv6
            have HMID := Lib.hid (show CompAt w B T m #[.slice pc nc cc, .slice (some ⟨bp, op, none⟩) m cr] rs (k + 1) w6 lv4 rv6 (breaksL (rs.take k)) (.pointer none) (.pointer none) from by
              have s3 := HD3.out.size
              have s4 := HS4.out
              have s5 := HD5.out.size
              have lbx := at_lt HCV.out.bx
              have ltb := at_lt HCV.out.tab
              have hlr : ∀ j, lv4.ownBlock = some j → rv.ownBlock ≠ some j := fun j hj he => by
                rcases HLI4.out with h | h
                · exact HCV.out.sep j (h ▸ hj) he
                · rw [hj] at h; injection h with h
                  have := (HCV.out.ro.lt j he).2
                  omega
              have blk : ∀ j o, wr.heap[j]? = some o → lv.ownBlock ≠ some j → rv.ownBlock ≠ some j → w6.heap[j]? = some o := fun j o hj h1 h2 => by
                have hl := at_lt hj
                exact (hf6.block j (by omega) h2).trans ((HD5.out.block j (by omega)).trans ((HF4.out.block j (by omega) h1).trans ((HD3.out.block j hl).trans hj)))
              refine ⟨blk B _ HCV.out.bx HCV.out.lT.2 HCV.out.rT.2, blk T _ HCV.out.tab HCV.out.lT.1 HCV.out.rT.1, ?_, ?_, ?_, ?_, ?_, ?_, ?_⟩
              · rw [leftsL_snoc HRK.out]
                exact (HO4.out.below HD5.out (Nat.le_refl _)).fr hf6 (fun j hj he => hlr j hj he)
              · rw [rightsL_snoc HRK.out]
                exact hown6.mono fun x row hx => (hx.fr hg6' (fun j hj he => hj.2.2.2.2 he)).mono fun j hj => by
                  obtain ⟨f1, f2, f3, f4, f5⟩ := hj
                  refine ⟨f1, by omega, f3, f4, fun he => ?_⟩
                  rcases hlie6 with h | h
                  · exact f5 (h ▸ he)
                  · rw [he] at h; injection h with h; omega
              · intro j hj he
                rcases hlie6 with h | h
                · exact hlr j hj (h ▸ he)
                · rw [he] at h; injection h with h
                  have := HLT.out j hj
                  omega
              · have key : ∀ j, lv.ownBlock ≠ some j → j < wr.heap.size → lv4.ownBlock ≠ some j := fun j h1 h2 he => by
                  rcases HLI4.out with h | h
                  · exact h1 (h ▸ he)
                  · rw [he] at h; injection h with h; omega
                exact ⟨key T HCV.out.lT.1 ltb, key B HCV.out.lT.2 lbx⟩
              · have key : ∀ j, rv.ownBlock ≠ some j → j < wr.heap.size → rv6.ownBlock ≠ some j := fun j h1 h2 he => by
                  rcases hlie6 with h | h
                  · exact h1 (h ▸ he)
                  · rw [he] at h; injection h with h; omega
                exact ⟨key T HCV.out.rT.1 ltb, key B HCV.out.rT.2 lbx⟩
              · intro r' hr'
                rw [take_snoc HRK.out] at hr'
                rcases List.mem_append.1 hr' with h | h
                · exact HCV.out.right r' h
                · rw [List.mem_singleton.1 h]; exact ⟨HL1.out, HR1.out⟩
              · exact (HBS4.out.trans (HD5.out.mono (by omega))).trans (hf6.below (by omega) (fun j hj => (HCV.out.ro.lt j hj).1)))
            have HX6 := Lib.hid ((hf6.block X (at_lt HX5.out) (fun he => by have h1 := (HCV.out.ro.lt _ he).2; have h2 := HXE.out; omega)).trans HX5.out)
            have HBSN := Lib.hid (show breaksL (rs.take (k + 1)) = breaksL (rs.take k) + (if r.brk then 2 ^ k else 0) by
              exact breaksL_snoc HRK.out)
            have HBT := Lib.hid (show B < T by have := HB.out; have := HT.out; omega)
            clear hown6 hg6 hlie6 hf6 hz6 hs6 hg6' hrv6
            obtain ⟨z0, z1, z2, z3, z4, z5, z6, z7⟩ := cells8 HX6.out
            cases bk
            · have HEND := Lib.hid (show CompAt w B T m #[.slice pc nc cc, .slice (some ⟨bp, op, none⟩) m cr] rs (k + 1) w6 (.slice p4 (k + 1) c4) (.slice p6 (k + 1) c6) (breaksL (rs.take (k + 1))) (.pointer none) (.pointer none) by
                rw [HBSN.out, ← HBK.out.1, ← HLV4.out, ← HRV6.out]
                exact HMID.out)
              go_wp2_with fail
              go_roundw
              case rel => exact ⟨k + 1, by go_num, by omega, HEND.out⟩
              case measure => simp [intOf]; omega
            · obtain ⟨br, hbr⟩ : ∃ br, br = breaksL (rs.take k) := ⟨_, rfl⟩
              rw [← hbr] at HMID HBSN
              have HBR := Lib.hid hbr
              clear hbr
              go_upto_region 13 with fail
              refine wp_region_plan (fun _ => True) (.reads [0, 1, 2, 4, 5] (.one 3 (.reads [6, 7, 8] (.one 9 .done)))) 112 (by kernel_rfl) (by kernel_rfl) rfl (fun _ _ _ _ _ h => h) trivial ?_
              apply plan_reads
              · intro W' hW'
                repeat (refine wpRead_step (fun K hK => ?_); go_simp; refine hK _ ?_; clear hK K)
                exact wpRead_nil rfl
              refine abs_plan fun W0 hW0 => ?_
              have HB0 := Lib.hid (show Below w6.heap.size w6 W0 by rw [hW0]; exact (Below.refl _ _).drew)
              clear hW0
              have HM0 := Lib.hid (HMID.out.keep HB0.out)
              have x2 : W0.cell? ⟨T, 2, none⟩ = some (.int .u64 (br : Nat)) := by simp [World.cell?, HM0.out.tab]
              have f2 := fz_at HM0.out.tab 2
              refine plan_one rfl ?_
              go_wp2_with fail
              refine Then.mk trivial ?_
              apply plan_reads
              · intro W' hW'
                repeat (refine wpRead_step (fun K hK => ?_); go_simp; refine hK _ ?_; clear hK K)
                exact wpRead_nil rfl
              refine plan_one rfl ?_
              go_wp2_with fail
              refine Then.mk trivial ?_
              refine plan_done ?_
              have hval : bits .or .u64 (br : Int) (IntKind.u64.wrap (2 ^ k)) = ((breaksL (rs.take (k + 1)) : Nat) : Int) := by
                have hlen : ((rs.take k).map fun r => r.brk).length = k := by have := HKR.out; simp; omega
                have h := bits_put ((rs.take k).map fun r => r.brk) (by rw [hlen]; omega)
                rw [hlen] at h
                have e1 : breaksL (rs.take (k + 1)) = bitsL (((rs.take k).map fun r => r.brk) ++ [true]) := by
                  unfold breaksL
                  rw [take_snoc HRK.out, List.map_append, List.map_cons, List.map_nil, ← HBK.out.1]
                rw [e1, ← h, HBR.out]
                rfl
              have HEND := Lib.hid (show CompAt w B T m #[.slice pc nc cc, .slice (some ⟨bp, op, none⟩) m cr] rs (k + 1) (W0.setCell ⟨T, 2, none⟩ (.int .u64 (bits .or .u64 (br : Int) (IntKind.u64.wrap (2 ^ k))))) (.slice p4 (k + 1) c4) (.slice p6 (k + 1) c6) (breaksL (rs.take (k + 1))) (.pointer none) (.pointer none) by
                rw [hval, ← HLV4.out, ← HRV6.out]
                exact HM0.out.store HBT.out _)
              clear hval
              go_wp2_with fail
              go_roundw
              case rel => exact ⟨k + 1, by go_num, by omega, HEND.out⟩
              case measure => simp [intOf]; omega
      · have hki : ¬ (k : Int) < m := by omega
        obtain rfl : k = m := by omega
        have htk : rs.take k = rs := List.take_of_length_le (by rw [← HM.out]; exact Nat.le_refl _)
        have HTK := Lib.hid htk
        have HK40 := Lib.hid (show k ≤ 40 by omega)
        have HBT := Lib.hid (show B < T by have := HB.out; have := HT.out; omega)
        clear htk hki hkm
        go_upto_region 15 with fail
        refine wp_region_plan (fun _ => True) (.reads [0, 1, 2, 3, 4, 5, 6, 7, 8, 9, 12] (.one 10 (.reads [11] .done))) 112 (by kernel_rfl) (by kernel_rfl) rfl (fun _ _ _ _ _ h => h) trivial ?_
        apply plan_reads
        · intro W' hW'
          repeat (refine wpRead_step (fun K hK => ?_); go_simp; refine hK _ ?_; clear hK K)
          exact wpRead_nil rfl
        refine abs_plan fun W0 hW0 => ?_
        have HB0 := Lib.hid (show Below wr.heap.size wr W0 by rw [hW0]; exact (Below.refl _ _).drew)
        clear hW0
        refine plan_one rfl ?_
        go_wp2_with fail
        refine Then.mk trivial ?_
        refine abs_plan fun W1 hW1 => ?_
        obtain ⟨A, hA⟩ : ∃ A, A = W0.heap.size := ⟨_, rfl⟩
        obtain ⟨tA, hTA⟩ : ∃ tA, W1.heap[A]? = some (.cells #[.pointer (some ⟨T, 0, none⟩), .slice pl k cl1, .pointer (some ⟨T, 1, none⟩), .slice pq k cq1] tA) := ⟨_, by rw [hW1, hA]; exact heap_alloc_new _ _⟩
        have HA0 := Lib.hid hTA
        have HCA := Lib.hid (HC.out.keep (HB0.out.trans (show Below wr.heap.size W0 W1 by rw [hW1]; exact (below_alloc1 W0 _).mono HB0.out.size)))
        have HTA := Lib.hid (show T < A by rw [hA]; exact Nat.lt_of_lt_of_le (at_lt HC.out.tab) HB0.out.size)
        rw [← hA]
        clear hW1 hA hTA
        apply plan_reads
        · intro W' hW'
          repeat (refine wpRead_step (fun K hK => ?_); go_simp; refine hK _ ?_; clear hK K)
          exact wpRead_nil rfl
        refine plan_done ?_
        have HN0 := Lib.hid (show ∀ h : ResB nc (leftsL rs) wr none 5, True from fun _ => trivial)
        clear x0 x1
        go_wp2_with fail
        go_loopw [7, 8, 81] (fun e lim i wz => e = .int .i64 1 ∧ wz.heap[A]? = some (.cells #[.pointer (some ⟨T, 0, none⟩), .slice pl k cl1, .pointer (some ⟨T, 1, none⟩), .slice pq k cq1] tA) ∧
          ((i = .int .i64 0 ∧ lim = .int .i64 0 ∧ CompAt w B T k #[.slice pc nc cc, .slice pr k cr] rs k wz (.slice pl k cl1) (.slice pq k cq1) (breaksL rs) (.pointer none) (.pointer none)) ∨
           (i = .int .i64 1 ∧ ∃ l0 q0, lim = .int .i64 l0 ∧ ArgOk nc (leftsL rs) ∧ ResB nc (leftsL rs) wz q0 l0 ∧ CompAt w B T k #[.slice pc nc cc, .slice pr k cr] rs k wz (.slice pl k cl1) (.slice pq k cq1) (breaksL rs) (.pointer q0) (.pointer none)) ∨
           (i = .int .i64 2 ∧ ∃ l0 l1 q0 q1, lim = .int .i64 (if l1 = 0 then l0 else l1) ∧ ArgOk nc (leftsL rs) ∧ ArgOk nc (rightsL rs) ∧ ResB nc (leftsL rs) wz q0 l0 ∧ ResB nc (rightsL rs) wz q1 l1 ∧ CompAt w B T k #[.slice pc nc cc, .slice pr k cr] rs k wz (.slice pl k cl1) (.slice pq k cq1) (breaksL rs) (.pointer q0) (.pointer q1)))) (fun _ _ i _ => 2 - (intOf i).toNat)
        case atStart => exact ⟨rfl, HA0.out, .inl ⟨rfl, rfl, by have h := HCA.out; rwa [HTK.out] at h⟩⟩
        case round =>
          obtain ⟨rfl, ha, hcase⟩ := hrel
          have HA1 := Lib.hid ha
          clear ha
          rcases hcase with ⟨rfl, rfl, hc⟩ | ⟨rfl, l0, q0, rfl, hao, hres, hc⟩ | ⟨rfl, l0, l1, q0, q1, rfl, hao, hao1, hres, hres1, hc⟩
          · have HC2 := Lib.hid hc
            obtain ⟨d0, d1, d2, d3⟩ := cells4 HA1.out
            go_upto_region 18 with fail
            refine abs_wp fun W1 hW1 => ?_
            obtain ⟨tX, hX⟩ : ∃ tX, W1.heap[wr.heap.size]? = some (.cells #[.pointer (some ⟨T, 0, none⟩), .slice pl k cl1] tX) := ⟨_, by rw [hW1]; exact heap_alloc_new _ _⟩
            have hb1 : Below wr.heap.size wr W1 := by rw [hW1]; exact below_alloc1 _ _
            obtain ⟨X, hXe⟩ : ∃ X, X = wr.heap.size := ⟨_, rfl⟩
            rw [← hXe] at hX ⊢
            have HX1 := Lib.hid hX
            have HCW := Lib.hid (HC2.out.keep hb1)
            have HA2 := Lib.hid ((hb1.block _ (at_lt HA1.out)).trans HA1.out)
            have HRS1 := Lib.hid trivial
            clear hW1 hX hb1 hXe hc d0 d1 d2 d3
            obtain ⟨e0, e1⟩ := cells2 HX1.out
            obtain ⟨x0, x1⟩ := cells2 HCW.out.bx
            have HBU := Lib.hid (build_any W1 (.slice pl k cl1) (leftsL rs) nc (by have h := HCW.out.lefts HB.out; rwa [HTK.out] at h) (by have h1 := HM.out; have h2 := HK40.out; unfold leftsL; rw [List.length_map]; omega))
            go_wp2_with fail
            refine HBU.out.mono ?_
            rintro e W2 ⟨hb2, hcase⟩
            simp only [Int.toNat_natCast] at hcase
            have HCX := Lib.hid (HCW.out.keep hb2)
            have HA3 := Lib.hid ((hb2.block _ (at_lt HA2.out)).trans HA2.out)
            have HX2 := Lib.hid ((hb2.block _ (at_lt HX1.out)).trans HX1.out)
            have HBW2 := Lib.hid (show Below w.heap.size w W2 by rw [← HB.out]; exact HCX.out.below)
            clear e0 e1 x0 x1 hb2 HBU
            obtain ⟨e0, e1⟩ := cells2 HX2.out
            obtain ⟨y0, y1, y2, y3⟩ := cells4 HCX.out.tab
            have f0 := fz_at HCX.out.tab 0
            have HY := Lib.hid y0
            rcases hcase with ⟨hno, rfl⟩ | ⟨hok, hbu, rfl⟩ | ⟨hok, ob, N, O, -, hbu, rfl, hmd⟩
            · have HNO := Lib.hid (show ¬ CompOk nc rs from fun h => hno h.2.2.1)
              clear hno
              go_wp2_with fail
              go_step3
              refine jump_go (Q := fun _ _ _ => True) ?_
              go_wp2_with fail
              rw [Exit.noGoto_ret]
              go_ret2
              exact ⟨HBW2.out, .inl ⟨HNO.out, rfl⟩⟩
            · have HOK := Lib.hid hok
              have HBU2 := Lib.hid hbu
              have HFIN := Lib.hid (HCX.out.put0 HBT.out (.pointer none))
              have HAF := Lib.hid (((Fr.setCell (F := fun j => j = T) W2 (p := ⟨T, 0, none⟩) rfl (.pointer none)).block A (at_lt HA3.out) (by have := HTA.out; omega)).trans HA3.out)
              clear hok hbu 
              go_wp2_with fail
              go_roundw
              case rel => exact ⟨rfl, HAF.out, .inr (.inl ⟨rfl, 7, none, rfl, HOK.out, .inr ⟨rfl, rfl, HBU2.out⟩, HFIN.out⟩)⟩
              case measure => simp [intOf]
            · have HOK := Lib.hid hok
              have HBU2 := Lib.hid hbu
              have HMD2 := Lib.hid hmd
              have HFIN := Lib.hid (HCX.out.put0 HBT.out (.pointer (some ⟨ob, 0, none⟩)))
              have HAF := Lib.hid (((Fr.setCell (F := fun j => j = T) W2 (p := ⟨T, 0, none⟩) rfl (.pointer (some ⟨ob, 0, none⟩))).block A (at_lt HA3.out) (by have := HTA.out; omega)).trans HA3.out)
              clear hok hbu hmd
              go_wp2_with fail
              go_roundw
              case rel => exact ⟨rfl, HAF.out, .inr (.inl ⟨rfl, 0, some ⟨ob, 0, none⟩, rfl, HOK.out, .inl ⟨rfl, ob, N, O, rfl, HBU2.out, HMD2.out.ptr HY.out⟩, HFIN.out⟩)⟩
              case measure => simp [intOf]
          · have HC2 := Lib.hid hc
            have HRS := Lib.hid hres
            have HAO := Lib.hid hao
            clear hres hao 
            obtain ⟨d0, d1, d2, d3⟩ := cells4 HA1.out
            go_upto_region 18 with fail
            refine abs_wp fun W1 hW1 => ?_
            obtain ⟨tX, hX⟩ : ∃ tX, W1.heap[wr.heap.size]? = some (.cells #[.pointer (some ⟨T, 1, none⟩), .slice pq k cq1] tX) := ⟨_, by rw [hW1]; exact heap_alloc_new _ _⟩
            have hb1 : Below wr.heap.size wr W1 := by rw [hW1]; exact below_alloc1 _ _
            obtain ⟨X, hXe⟩ : ∃ X, X = wr.heap.size := ⟨_, rfl⟩
            rw [← hXe] at hX ⊢
            have HX1 := Lib.hid hX
            have HCW := Lib.hid (HC2.out.keep hb1)
            have HA2 := Lib.hid ((hb1.block _ (at_lt HA1.out)).trans HA1.out)
            have HRS1 := Lib.hid (HRS.out.to hb1)
            clear hW1 hX hb1 hXe hc d0 d1 d2 d3
            obtain ⟨e0, e1⟩ := cells2 HX1.out
            obtain ⟨x0, x1⟩ := cells2 HCW.out.bx
            have HBU := Lib.hid (build_any W1 (.slice pq k cq1) (rightsL rs) nc (by have h := HCW.out.rights; rwa [HTK.out] at h) (by have h1 := HM.out; have h2 := HK40.out; unfold rightsL; rw [List.length_map]; omega))
            go_wp2_with fail
            refine HBU.out.mono ?_
            rintro e W2 ⟨hb2, hcase⟩
            simp only [Int.toNat_natCast] at hcase
            have HCX := Lib.hid (HCW.out.keep hb2)
            have HA3 := Lib.hid ((hb2.block _ (at_lt HA2.out)).trans HA2.out)
            have HX2 := Lib.hid ((hb2.block _ (at_lt HX1.out)).trans HX1.out)
            have HBW2 := Lib.hid (show Below w.heap.size w W2 by rw [← HB.out]; exact HCX.out.below)
            have HRS2 := Lib.hid (HRS1.out.to hb2)
            clear e0 e1 x0 x1 hb2 HBU
            obtain ⟨e0, e1⟩ := cells2 HX2.out
            obtain ⟨y0, y1, y2, y3⟩ := cells4 HCX.out.tab
            have f0 := fz_at HCX.out.tab 1
            have HY := Lib.hid y1
            rcases hcase with ⟨hno, rfl⟩ | ⟨hok, hbu, rfl⟩ | ⟨hok, ob, N, O, -, hbu, rfl, hmd⟩
            · have HNO := Lib.hid (show ¬ CompOk nc rs from fun h => hno h.2.2.2)
              clear hno
              go_wp2_with fail
              go_step3
              refine jump_go (Q := fun _ _ _ => True) ?_
              go_wp2_with fail
              rw [Exit.noGoto_ret]
              go_ret2
              exact ⟨HBW2.out, .inl ⟨HNO.out, rfl⟩⟩
            · have HOK := Lib.hid hok
              have HBU2 := Lib.hid hbu
              have HFIN := Lib.hid (HCX.out.put1 HBT.out (.pointer none))
              have HAF := Lib.hid (((Fr.setCell (F := fun j => j = T) W2 (p := ⟨T, 1, none⟩) rfl (.pointer none)).block A (at_lt HA3.out) (by have := HTA.out; omega)).trans HA3.out)
              clear hok hbu 
              go_wp2_with fail
              go_roundw
              case rel => exact ⟨rfl, HAF.out, .inr (.inr ⟨rfl, l0, 7, q0, none, by simp, HAO.out, HOK.out, HRS2.out.ptr HY.out, .inr ⟨rfl, rfl, HBU2.out⟩, HFIN.out⟩)⟩
              case measure => simp [intOf]
            · have HOK := Lib.hid hok
              have HBU2 := Lib.hid hbu
              have HMD2 := Lib.hid hmd
              have HFIN := Lib.hid (HCX.out.put1 HBT.out (.pointer (some ⟨ob, 0, none⟩)))
              have HAF := Lib.hid (((Fr.setCell (F := fun j => j = T) W2 (p := ⟨T, 1, none⟩) rfl (.pointer (some ⟨ob, 0, none⟩))).block A (at_lt HA3.out) (by have := HTA.out; omega)).trans HA3.out)
              clear hok hbu hmd
              go_wp2_with fail
              go_roundw
              case rel => exact ⟨rfl, HAF.out, .inr (.inr ⟨rfl, l0, 0, q0, some ⟨ob, 0, none⟩, by simp, HAO.out, HOK.out, HRS2.out.ptr HY.out, .inl ⟨rfl, ob, N, O, rfl, HBU2.out, HMD2.out.ptr HY.out⟩, HFIN.out⟩)⟩
              case measure => simp [intOf]
          · have HC2 := Lib.hid hc
            have HBW2 := Lib.hid (show Below w.heap.size w wr by rw [← HB.out]; exact hc.below)
            have HOK := Lib.hid (show CompOk nc rs from ⟨by rw [← HM.out]; exact HK40.out, by have h := hc.right; rwa [HTK.out] at h, hao, hao1⟩)
            clear hc hao hao1
            rcases hres with ⟨rfl, oa, N, O, rfl, hbu, hmd⟩ | ⟨rfl, rfl, hbu⟩
            · rcases hres1 with ⟨rfl, ob, M, U, rfl, hbu1, hmd1⟩ | ⟨rfl, rfl, hbu1⟩
              · have HR := Lib.hid (And.intro hbu (And.intro hbu1 (And.intro hmd hmd1)))
                clear hbu hbu1 hmd hmd1
                go_wp2_with fail
                rw [Exit.jump_ret]
                go_ret2
                exact ⟨HBW2.out, .inr (.inr ⟨HOK.out, T, oa, ob, N, O, M, U, by have := HT.out; omega, HR.out.1, HR.out.2.1, rfl, by rw [← HM.out]; exact HC2.out.tab, HR.out.2.2.1, HR.out.2.2.2⟩)⟩
              · have HBL := Lib.hid hbu1
                clear hbu hbu1 hmd
                go_wp2_with fail
                go_step3
                go_wp2_with fail
                rw [Exit.jump_ret]
                go_ret2
                exact ⟨HBW2.out, .inr (.inl ⟨HOK.out, .inr HBL.out, rfl⟩)⟩
            · rcases hres1 with ⟨rfl, ob, M, U, rfl, hbu1, hmd1⟩ | ⟨rfl, rfl, hbu1⟩
              · have HBL := Lib.hid hbu
                clear hbu hbu1 hmd1
                go_wp2_with fail
                go_step3
                go_wp2_with fail
                rw [Exit.jump_ret]
                go_ret2
                exact ⟨HBW2.out, .inr (.inl ⟨HOK.out, .inl HBL.out, rfl⟩)⟩
              · have HBL := Lib.hid hbu
                clear hbu hbu1
                go_wp2_with fail
                go_step3
                go_wp2_with fail
                rw [Exit.jump_ret]
                go_ret2
                exact ⟨HBW2.out, .inr (.inl ⟨HOK.out, .inl HBL.out, rfl⟩)⟩
end Go.Proofs.Ytmooflmhbpckjaa

/-
  dfa, plain: languages whose answers are told otherwise; what is built of expressions turned round, of one more that never fits, of the last one twice (DfaTurns, DfaMore). No program, no condition beyond what each theorem names.
-/
set_option linter.unusedVariables false
set_option linter.unusedSimpArgs false
namespace Go.Proofs.Ytmooflmhbpckjaa
open Classical

section
variable {σ β γ : Type}
theorem hom_glang (l0 : List Nat → Option β) (g : β → γ) (classes : Nat) (hinj : ∀ t u x y, l0 t = some x → l0 u = some y → g x = g y → x = y) : Hom (langAuto l0) (langAuto fun t => (l0 t).map g) classes (fun l t => (l t).map g) where
  start := rfl
  step := fun t _ c _ => rfl
  inj := fun t u _ _ h => by
    funext v
    have h2 := congrFun h v
    have e1 : runA (langAuto l0) (langAuto l0).start t v = l0 (t ++ v) := runLang l0 t l0 v
    have e2 : runA (langAuto l0) (langAuto l0).start u v = l0 (u ++ v) := runLang l0 u l0 v
    simp only [e1, e2] at h2
    rw [e1, e2]
    cases ht : l0 (t ++ v) with
    | none => cases hu : l0 (u ++ v) with
      | none => rfl
      | some y => rw [ht, hu] at h2; cases h2
    | some x => cases hu : l0 (u ++ v) with
      | none => rw [ht, hu] at h2; cases h2
      | some y =>
        rw [ht, hu] at h2
        rw [hinj _ _ _ _ ht hu (Option.some.inj h2)]

theorem place_hom {σ τ : Type} {A : Auto σ} {B : Auto τ} {classes : Nat} {f : σ → τ} (H : Hom A B classes f) {L : List σ} (hL : ∀ x ∈ L, MetA A classes x) {y : σ} (hy : MetA A classes y) : place (L.map f) (f y) = place L y := by
  have h := place_map (f := f) (g := id) (x := y) (l := L) (fun z hz => by
    obtain ⟨t, ht, e1⟩ := hL z hz
    obtain ⟨u, hu, e2⟩ := hy
    constructor
    · intro h
      rw [e1, e2] at h ⊢
      exact H.inj t u ht hu h
    · intro h
      have h : z = y := h
      rw [h])
  rw [h]
  simp

/-- what is built, where the answers are told otherwise, but apart as they were -/
theorem built_g {A : Auto σ} {out : σ → β} (g : β → γ) {classes : Nat} (hinj : ∀ t u x y, langA A out classes A.start t = some x → langA A out classes A.start u = some y → g x = g y → x = y) {r : Option (List (List Nat) × List (Option β))} (h : Built A out classes r) :
    Built A (fun s => g (out s)) classes (r.map fun p => (p.1, p.2.map (Option.map g))) := by
  have hl : langA A (fun s => g (out s)) classes A.start = fun t => (langA A out classes A.start t).map g := lang_map A out g classes A.start
  obtain ⟨l0, hl0⟩ : ∃ l0, l0 = langA A out classes A.start := ⟨_, rfl⟩
  unfold Built at h ⊢
  rw [hl]
  rw [← hl0] at h hinj ⊢
  have H := hom_glang l0 g classes hinj
  obtain ⟨hc, hm⟩ := cl_map H 2000
  have hL : canonL (fun t => (l0 t).map g) classes 2000 = (canonL l0 classes 2000).map (fun l t => (l t).map g) := hc.symm
  have hm' : ∀ x ∈ canonL l0 classes 2000, MetA (langAuto l0) classes x := hm
  have hlen : (canonL (fun t => (l0 t).map g) classes 2000).length = (canonL l0 classes 2000).length := by rw [hL, List.length_map]
  clear hc hm
  generalize 2000 = K at *
  rcases h with ⟨rfl, h⟩ | ⟨h1, h2, rfl⟩
  · exact .inl ⟨rfl, by rw [hlen]; exact h⟩
  · refine .inr ⟨h1, by rw [hlen]; exact h2, ?_⟩
    rw [Option.map_some]
    congr 1
    refine Prod.ext ?_ ?_
    · show canonNext l0 classes K = canonNext _ classes K
      unfold canonNext
      rw [hL]
      unfold nextsOf
      rw [List.map_map]
      refine List.map_congr_left fun s hs => List.map_congr_left fun c hcr => ?_
      have hcc : c < classes := List.mem_range.1 hcr
      exact (place_hom H hm' ((hm' s hs).step hcc)).symm
    · show (canonOut l0 classes K).map (Option.map g) = canonOut _ classes K
      unfold canonOut
      rw [hL, List.map_map, List.map_map]
      rfl
end

/-! ### turned round -/
/-- the first n bits, turned round -/
def turnN (n v : Nat) : Nat := bitsL ((List.range n).map fun k => v.testBit (n - 1 - k))
theorem turn_bits {bs : List Bool} {n : Nat} (h : bs.length = n) : turnN n (bitsL bs) = bitsL bs.reverse := by
  unfold turnN
  congr 1
  refine List.ext_getElem (by simp [h]) fun i h1 h2 => ?_
  have hi : i < n := by simpa using h1
  rw [List.getElem_map, List.getElem_range, bitsL_get bs (n - 1 - i) (by omega), List.getElem_reverse]
  congr 1
  omega
theorem lang_shape {l : List (Nd × Bool)} (hl : ∀ e ∈ l, RightX e.1) {classes : Nat} {t : List Nat} {x : Nat} (h : langA (autoE l) outN classes (autoE l).start t = some x) : ∃ bs : List Bool, bs.length = l.length ∧ x = bitsL bs := by
  have h : (tellsE l classes t).map bitsL = some x := by rw [lang_N hl] at h; exact h
  unfold tellsE at h
  split at h
  · exact ⟨_, by simp, (Option.some.inj h).symm⟩
  · cases h
theorem built_turn {l : List (Nd × Bool)} (hl : ∀ e ∈ l, RightX e.1) {classes : Nat} {r : Option (List (List Nat) × List (Option Nat))} (h : Built (autoE l) outN classes r) :
    Built (autoE l.reverse) outN classes (r.map fun p => (p.1, p.2.map (Option.map (turnN l.length)))) := by
  have h1 := built_g (turnN l.length) (fun t u x y hx hy e => by
    obtain ⟨bs, hb, rfl⟩ := lang_shape hl hx
    obtain ⟨cs, hc, rfl⟩ := lang_shape hl hy
    rw [turn_bits hb, turn_bits hc] at e
    have := bitsL_inj (by simp [hb, hc]) e
    rw [List.reverse_inj.1 this]) h
  refine (built_hom (hom_turn l classes) ?_).1 h1
  rw [lang_map (autoE l) outN (turnN l.length) classes (autoE l).start, lang_N hl, lang_N (fun e he => hl e (List.mem_reverse.1 he))]
  funext t
  show ((tellsE l classes t).map bitsL).map (turnN l.length) = (tellsE l.reverse classes t).map bitsL
  unfold tellsE
  by_cases ht : ∀ c ∈ t, c < classes
  · rw [if_pos ht, if_pos ht]
    simp only [Option.map_some]
    rw [turn_bits (by simp), List.map_reverse]
  · rw [if_neg ht, if_neg ht]
    rfl

/-! ### one bit -/
theorem bit_at (o c : Nat) (ho : o < 2 ^ 64) : bits .and .u64 ((o : Int) / 2 ^ c) 1 = ((if o.testBit c then 1 else 0 : Nat) : Int) := by
  have e : ((o : Int) / 2 ^ c) = ((o / 2 ^ c : Nat) : Int) := by simp
  have hlt : o / 2 ^ c < 2 ^ 64 := Nat.lt_of_le_of_lt (Nat.div_le_self _ _) ho
  have h := u64_and_nat (o / 2 ^ c) 1 (by omega) (by omega)
  rw [e]
  refine h.trans ?_
  rw [Nat.and_one_is_mod, Nat.testBit_eq_decide_div_mod_eq]
  congr 1
  by_cases h2 : o / 2 ^ c % 2 = 1
  · simp [h2]
  · simp [h2]; omega
theorem turn_testBit {n v k : Nat} (hk : k < n) : (turnN n v).testBit k = v.testBit (n - 1 - k) := by
  unfold turnN
  rw [bitsL_get _ k (by simpa using hk), List.getElem_map, List.getElem_range]
theorem turn_lt (n v : Nat) : turnN n v < 2 ^ n := by
  have := bitsL_lt ((List.range n).map fun k => v.testBit (n - 1 - k))
  rw [List.length_map, List.length_range] at this
  exact this
theorem wrap_small (c : Nat) (h : c < 64) : min (IntKind.u64.wrap (c : Int)).toNat 64 = c := by
  have e : (c : Int) % 18446744073709551616 = c := by omega
  have : IntKind.u64.wrap (c : Int) = c := by
    show (if (false && decide ((c : Int) % 18446744073709551616 ≥ 9223372036854775808)) = true then (c : Int) % 18446744073709551616 - 18446744073709551616 else (c : Int) % 18446744073709551616) = c
    rw [e]
    simp
  rw [this]
  omega
/-- a bit, and its own in what is turned round -/
theorem bit_turn (o n c : Nat) (ho : o < 2 ^ n) (hn : n ≤ 64) (hc : c < n) :
    (bits .and .u64 ((o : Int) / 2 ^ c) 1 != bits .and .u64 ((turnN n o : Nat) / 2 ^ min (IntKind.u64.wrap ((n - 1 - c : Nat) : Int)).toNat 64) 1) = false := by
  have h64 : (2 : Nat) ^ n ≤ 2 ^ 64 := Nat.pow_le_pow_right (by omega) hn
  have ht := turn_lt n o
  rw [wrap_small _ (by omega), bit_at o c (by omega), bit_at _ _ (by omega), turn_testBit (by omega), show n - 1 - (n - 1 - c) = c by omega]
  simp
end Go.Proofs.Ytmooflmhbpckjaa

/-
  dfa: a machine that was built, as one reads it cell by cell. No condition beyond what each theorem names.
-/
set_option linter.unusedVariables false
set_option linter.unusedSimpArgs false
namespace Go.Proofs.Ytmooflmhbpckjaa
open Go.RowKit Classical

def rowO (N : List (List Nat)) (i : Nat) : List Nat := N[i]?.getD []
theorem rowO_get {N : List (List Nat)} {i : Nat} (h : i < N.length) : N[i]? = some (rowO N i) := by
  unfold rowO
  rw [List.getElem?_eq_getElem h]
  rfl
theorem at0_get {l : List Nat} {i : Nat} (h : i < l.length) : l[i]? = some (at0 l i) := by
  unfold at0
  rw [List.getElem?_eq_getElem h]
  rfl

/-- the cells of a machine, in each later world -/
def MachV (w : World) (ob classes nn : Nat) (N : List (List Nat)) (O : List Nat) (bN oN cn bO oO co : Nat) : Prop := ∀ W, Below w.heap.size w W →
  W.cell? ⟨ob, 0, none⟩ = some (.int .i64 (classes : Nat)) ∧ W.cell? ⟨ob, 1, none⟩ = some (.slice (some ⟨bN, oN, none⟩) nn cn) ∧ W.cell? ⟨ob, 2, none⟩ = some (.slice (some ⟨bO, oO, none⟩) nn co) ∧
  (∀ i : Nat, i < nn → W.cell? ⟨bO, oO + i, none⟩ = some (.int .u64 (at0 O i : Nat))) ∧
  (∀ i : Nat, i < nn → ∃ b off cr, W.cell? ⟨bN, oN + i, none⟩ = some (.slice (some ⟨b, off, none⟩) classes cr) ∧ classes ≤ cr ∧ ∀ c : Nat, c < classes → W.cell? ⟨b, off + c, none⟩ = some (.int .i64 (at0 (rowO N i) c : Nat)))

theorem MachD.view {w : World} {ob classes nn : Nat} {N : List (List Nat)} {O : List Nat} (h : MachD w ob classes N O) (hok : OkN N O classes) (hn : N.length = nn) (h0 : 0 < nn) (hc : 0 < classes) :
    ∃ bN oN cn bO oO co, nn ≤ cn ∧ nn ≤ co ∧ MachV w ob classes nn N O bN oN cn bO oO co := by
  have hlo : O.length = nn := by rw [← hok.len, hn]
  obtain ⟨hob, pn, cn, po, co, e0, e1, e2, hcn, hco, gN, gO⟩ := h.get hn hlo
  obtain ⟨bN, oN, -, rfl, -, -, -⟩ := gN 0 _ (rowO_get (by omega))
  obtain ⟨bO, oO, rfl, -, -⟩ := gO 0 _ (at0_get (by omega))
  refine ⟨bN, oN, cn, bO, oO, co, hcn, hco, fun W hW => ⟨cell_below hW hob e0, cell_below hW hob e1, cell_below hW hob e2, fun i hi => ?_, fun i hi => ?_⟩⟩
  · obtain ⟨b, off, he, hb, hx⟩ := gO i _ (at0_get (by omega))
    cases he
    exact cell_below hW hb hx
  · obtain ⟨b, off, v, he, hb, hx, hv⟩ := gN i _ (rowO_get (by omega))
    cases he
    have hl : (natsI (rowO N i)).length = classes := by
      unfold natsI
      rw [List.length_map]
      exact (hok.row _ (List.mem_of_getElem? (rowO_get (by omega)))).1
    obtain ⟨p, cr, rfl, hcr, hg⟩ := hv.get
    obtain ⟨b', off', rfl, hb', hx'⟩ := hg (by omega)
    rw [hl] at hx hcr
    refine ⟨b', off', cr, cell_below hW hb hx, hcr, fun c hc2 => ?_⟩
    have := cell_below hW hb' (hx' c (by omega))
    rw [this]
    congr 2
    unfold natsI
    rw [List.getElem_map]
    have h2 := at0_get (l := rowO N i) (i := c) (by unfold natsI at hl; rw [List.length_map] at hl; omega)
    rw [List.getElem?_eq_getElem (by unfold natsI at hl; rw [List.length_map] at hl; omega)] at h2
    rw [Option.some.inj h2]
theorem exprs_to {w w' : World} {v : Value} {L : List (Nd × Bool)} (h : ReadL (exprE w) 4 w v L) (hb : Below w.heap.size w w') : ReadL (exprE w') 4 w' v L :=
  (h.below hb (Nat.le_refl _)).monoE (fun x r hr => by
    obtain ⟨a, b, c, rfl, hn⟩ := hr
    exact ⟨a, b, c, rfl, hn.to hb (Nat.le_refl _)⟩)
theorem bd_of {N : List (List Nat)} {O : List Nat} {classes : Nat} (h : OkN N O classes) (h4 : N.length ≤ 400) (hc : classes ≤ 24) : Bd N O :=
  ⟨by omega, by rw [← h.len]; omega, fun r hr => by rw [(h.row r hr).1]; omega⟩
end Go.Proofs.Ytmooflmhbpckjaa

/-
  tables: Decide, and Equal of two that are the same. No condition beyond what each theorem names.
-/
set_option linter.unusedVariables false
set_option linter.unusedSimpArgs false
namespace Go.Proofs.Ytmooflmhbpckjaa
open Go.RowKit Classical

/-- tables, by their cells -/
def TabAt (w : World) (T : Nat) (p0 p1 : Value) (br len : Nat) : Prop := w.heap[T]? = some (.cells #[p0, p1, .int .u64 (br : Nat), .int .i64 (len : Nat)] 39)

/-- the first rule that is in both counts -/
noncomputable def decB (len x br : Nat) : Bool := decide (∀ i, i < len → x.testBit i = true → (∀ j, j < i → x.testBit j = false) → br.testBit i = true)
theorem decB_hit {len x br k : Nat} (hk : k < len) (h : x.testBit k = true) (hb : ∀ j, j < k → x.testBit j = false) : decB len x br = br.testBit k := by
  unfold decB
  cases hbr : br.testBit k
  · refine decide_eq_false fun h2 => ?_
    rw [h2 k hk h hb] at hbr
    cases hbr
  · refine decide_eq_true fun i hi h1 h2 => ?_
    rcases Nat.lt_trichotomy i k with h3 | rfl | h3
    · rw [hb i h3] at h1; cases h1
    · exact hbr
    · rw [h2 k h3] at h; cases h
theorem decB_end {len x br : Nat} (hb : ∀ j, j < len → x.testBit j = false) : decB len x br = true := by
  unfold decB
  refine decide_eq_true fun i hi h1 h2 => ?_
  rw [hb i hi] at h1; cases h1

set_option maxRecDepth 100000 in
set_option maxHeartbeats 8000000 in
theorem decide_any (w : World) (T : Nat) (p0 p1 : Value) (br len a b : Nat) (ht : TabAt w T p0 p1 br len) (ha : a < 2 ^ 64) (hb : b < 2 ^ 64) (hbr : br < 2 ^ 64) (hlen : len ≤ 60) :
    Calls Try.prog 15 #[.pointer (some ⟨T, 0, none⟩), .int .u64 (a : Nat), .int .u64 (b : Nat)] w fun e w' => e = .returned (.bool (decB len (a &&& b) br)) ∧ w' = w := by
  obtain ⟨y0, y1, y2, y3⟩ := cells4 ht
  obtain ⟨x, hx⟩ : ∃ x, x = a &&& b := ⟨_, rfl⟩
  have hab : bits .and .u64 (a : Int) (b : Int) = ((x : Nat) : Int) := by rw [hx]; exact u64_and_nat a b (by omega) (by omega)
  have hx64 : x < 2 ^ 64 := by rw [hx]; exact Nat.lt_of_le_of_lt Nat.and_le_left ha
  have HX := Lib.hid hx
  have HX64 := Lib.hid hx64
  have HBR := Lib.hid hbr
  rw [← hx]
  clear ha hb hx hx64 hbr ht
  go_enter Try.func15, Try.ntmps15
  go_wp2_with fail
  go_loopw [12] (fun i wz => ∃ k : Nat, i = .int .i64 k ∧ k ≤ len ∧ (∀ j, j < k → x.testBit j = false) ∧ wz = w) (fun i _ => len - (intOf i).toNat)
  case atStart => exact ⟨0, rfl, by omega, fun j h => by omega, rfl⟩
  case round =>
    obtain ⟨k, rfl, hk, hbits, rfl⟩ := hrel
    have HB := Lib.hid hbits
    clear hbits
    by_cases hkl : k < len
    · have hki : (k : Int) < len := by omega
      have hk0 : (0 : Int) ≤ k := by omega
      have hk64 : k ≤ 64 := by omega
      have hk64i : (k : Int) ≤ 64 := by omega
      have h1 := bit_at x k HX64.out
      have h2 := bit_at br k HBR.out
      by_cases hbit : x.testBit k = true
      · rw [if_pos hbit] at h1
        have HR := Lib.hid (decB_hit (br := br) hkl hbit HB.out)
        clear hbit
        cases hb2 : br.testBit k
        · rw [hb2] at h2 HR
          simp only [Bool.false_eq_true, if_false] at h2
          clear hb2
          go_wp2_with fail
          go_ret
          exact ⟨ret_val (by rw [HR.out]; rfl), rfl⟩
        · rw [hb2] at h2 HR
          simp only [if_true] at h2
          clear hb2
          go_wp2_with fail
          go_ret
          exact ⟨ret_val (by rw [HR.out]; rfl), rfl⟩
      · rw [if_neg hbit] at h1
        have HNB := Lib.hid (show x.testBit k = false by simpa using hbit)
        clear hbit h2
        go_wp2_with fail
        go_roundw
        case rel => exact ⟨k + 1, by go_num, by omega, fun j hj => by
          by_cases e : j = k
          · rw [e]; exact HNB.out
          · exact HB.out j (by omega), by first | rfl | trivial⟩
        case measure => simp [intOf]; omega
    · have hki : ¬ (k : Int) < len := by omega
      have HR := Lib.hid (decB_end (br := br) (x := x) (len := len) (fun j hj => HB.out j (by omega)))
      go_wp2_with fail
      go_ret
      exact ⟨ret_val (by rw [HR.out]; rfl), rfl⟩

theorem equal_sameT (w : World) (ma mb c : Nat) (N : List (List Nat)) (O : List Nat) (hA : MachD w ma c N O) (hB : MachD w mb c N O) (b : Bd N O) :
    Calls Try.prog 28 #[.pointer (some ⟨ma, 0, none⟩), .pointer (some ⟨mb, 0, none⟩)] w fun e w' => e = .returned (.bool true) ∧ Below w.heap.size w w' := by
  have h := equal_m w ma mb c c N N O O hA hB b b
  have hd : decide (c = c ∧ O = O ∧ N = N) = true := by simp
  rwa [hd] at h

set_option maxRecDepth 100000 in
set_option maxHeartbeats 8000000 in
theorem tabs_same (w : World) (S T oa ob pa pb c br len : Nat) (N M : List (List Nat)) (O U : List Nat) (hS : TabAt w S (.pointer (some ⟨oa, 0, none⟩)) (.pointer (some ⟨ob, 0, none⟩)) br len) (hT : TabAt w T (.pointer (some ⟨pa, 0, none⟩)) (.pointer (some ⟨pb, 0, none⟩)) br len)
    (h1 : MachD w oa c N O) (h2 : MachD w ob c M U) (h3 : MachD w pa c N O) (h4 : MachD w pb c M U) (b1 : Bd N O) (b2 : Bd M U) :
    Calls Try.prog 13 #[.pointer (some ⟨S, 0, none⟩), .pointer (some ⟨T, 0, none⟩)] w fun e w' => e = .returned (.bool true) ∧ Below w.heap.size w w' := by
  have HS := Lib.hid (show ∀ W, Below w.heap.size w W → W.cell? ⟨S, 0, none⟩ = some (.pointer (some ⟨oa, 0, none⟩)) ∧ W.cell? ⟨S, 1, none⟩ = some (.pointer (some ⟨ob, 0, none⟩)) ∧ W.cell? ⟨S, 2, none⟩ = some (.int .u64 (br : Nat)) ∧ W.cell? ⟨S, 3, none⟩ = some (.int .i64 (len : Nat)) from fun W hW => cells4 ((hW.block S (at_lt hS)).trans hS))
  have HT := Lib.hid (show ∀ W, Below w.heap.size w W → W.cell? ⟨T, 0, none⟩ = some (.pointer (some ⟨pa, 0, none⟩)) ∧ W.cell? ⟨T, 1, none⟩ = some (.pointer (some ⟨pb, 0, none⟩)) ∧ W.cell? ⟨T, 2, none⟩ = some (.int .u64 (br : Nat)) ∧ W.cell? ⟨T, 3, none⟩ = some (.int .i64 (len : Nat)) from fun W hW => cells4 ((hW.block T (at_lt hT)).trans hT))
  have HM := Lib.hid (And.intro h1 (And.intro h2 (And.intro h3 h4)))
  have HBD := Lib.hid (And.intro b1 b2)
  clear h1 h2 h3 h4 b1 b2 hS hT
  go_enter Try.func13, Try.ntmps13
  go_upto_region 1 with fail
  refine wp_region_plan (fun W => Below w.heap.size w W) (.reads [0, 1, 2, 3, 4, 5, 6, 7, 8, 9, 10, 11, 12, 13, 14, 15, 16, 17, 18, 19, 20, 21, 22, 23, 24, 25, 26, 27, 28] (.one 29 (.reads [30, 31, 32, 33, 34, 35, 36, 37, 38, 39] (.one 40 (.reads [41, 42] .done))))) 47 (by kernel_rfl) (by kernel_rfl) rfl (fun _ _ _ _ _ h => h) (Below.refl _ _).drew ?_
  apply plan_reads
  · intro W hW
    obtain ⟨x0, x1, x2, x3⟩ := HS.out W hW
    obtain ⟨y0, y1, y2, y3⟩ := HT.out W hW
    clear hW
    repeat (refine wpRead_step (fun K hK => ?_); go_simp; refine hK _ ?_; clear hK K)
    exact wpRead_nil rfl
  refine abs_plan fun W0 hW0 => ?_
  have HB0 := Lib.hid (show Below w.heap.size w W0 by rw [hW0]; exact (Below.refl _ _).drew)
  clear hW0
  refine plan_one rfl ?_
  have HE1 := Lib.hid (equal_sameT W0 oa pa c N O (HM.out.1.to HB0.out) (HM.out.2.2.1.to HB0.out) HBD.out.1)
  go_wp2_with fail
  refine HE1.out.mono ?_
  rintro e W1 ⟨rfl, hb1⟩
  have HB1 := Lib.hid (HB0.out.trans (hb1.mono HB0.out.size))
  clear hb1
  go_wp2_with fail
  refine Then.mk HB1.out ?_
  apply plan_reads
  · intro W hW
    obtain ⟨x0, x1, x2, x3⟩ := HS.out W hW
    obtain ⟨y0, y1, y2, y3⟩ := HT.out W hW
    clear hW
    repeat (refine wpRead_step (fun K hK => ?_); go_simp; refine hK _ ?_; clear hK K)
    exact wpRead_nil rfl
  refine plan_one rfl ?_
  have HE2 := Lib.hid (equal_sameT W1 ob pb c M U (HM.out.2.1.to HB1.out) (HM.out.2.2.2.to HB1.out) HBD.out.2)
  go_wp2_with fail
  refine HE2.out.mono ?_
  rintro e W2 ⟨rfl, hb2⟩
  have HB2 := Lib.hid (HB1.out.trans (hb2.mono HB1.out.size))
  clear hb2
  go_wp2_with fail
  refine Then.mk HB2.out ?_
  apply plan_reads
  · intro W hW
    repeat (refine wpRead_step (fun K hK => ?_); go_simp; refine hK _ ?_; clear hK K)
    exact wpRead_nil rfl
  refine plan_done ?_
  go_wp2_with fail
  go_ret
  exact ⟨rfl, HB2.out⟩
end Go.Proofs.Ytmooflmhbpckjaa

/-
  tables: the small case that must work. No condition beyond what each theorem names.
-/
set_option linter.unusedVariables false
set_option linter.unusedSimpArgs false
namespace Go.Proofs.Ytmooflmhbpckjaa
open Go.RowKit Classical

theorem set9_any (w : World) (c : Int) : Calls Try.prog 17 #[.int .i64 c] w fun e w' =>
    ∃ g, w.heap.size ≤ g ∧ g < w'.heap.size ∧ e = .returned (.agg #[.int .i64 1, .slice (some ⟨g, 0, none⟩) 1 1, .slice none 0 0]) ∧ Ints w' (.slice (some ⟨g, 0, none⟩) 1 1) [c] ∧ Below w.heap.size w w' := by
  go_enter Try.func17, Try.ntmps17
  go_wp2
  refine bodyPost_ret (v := .agg #[.int .i64 1, .slice (some ⟨w.heap.size + 1, 0, none⟩) 1 1, .slice none 0 0]) (by simp [results, Try.results17, go_sem]) rfl ⟨w.heap.size + 1, by omega, by simp, rfl, ?_, ?_⟩
  · refine ⟨some ⟨w.heap.size + 1, 0, none⟩, 1, rfl, by simp, fun _ => ⟨_, _, rfl, fun j u hu => ?_⟩⟩
    match j, hu with
    | 0, hu =>
      simp at hu
      subst hu
      simp
    | j + 1, hu => simp at hu
  · exact (((Below.refl _ _).alloc (Nat.le_refl _) _).alloc (by simp) _)

theorem node_set {w : World} {c : Int} {g : Nat} (h : Ints w (.slice (some ⟨g, 0, none⟩) 1 1) [c]) : NodeIs w (.mk 1 [c] []) (.int .i64 1) (.slice (some ⟨g, 0, none⟩) 1 1) (.slice none 0 0) := by
  rw [nodeIs_iff]
  exact ⟨rfl, h, by unfold R; simp, by unfold R; simp, [], ⟨by simp, none, 0, rfl, by simp, fun h => by simp at h⟩, rfl, fun i h => by simp at h⟩

theorem rev_set (c : List Int) : revX (.mk 1 c []) = .mk 1 c [] := by simp [revX, revL]
def rShown : Rl := ⟨x0, x1, false, false⟩
theorem shown_lefts : leftsL [rShown] = [(x0, false)] := rfl
theorem shown_rights : rightsL [rShown] = [(x1, false)] := by
  show [(revX x1, false)] = _
  unfold x1
  rw [rev_set]
theorem shown_ok : CompOk (2 : Nat) [rShown] := by
  refine ⟨by simp, fun r hr => ?_, ?_, ?_⟩
  · rw [List.mem_singleton.1 hr]; exact ⟨x0_right, x1_right⟩
  · rw [shown_lefts]
    exact ⟨by omega, by omega, by simp, fun e he => by rw [List.mem_singleton.1 he]; exact ⟨x0_right, by simp [x0, insideB, insideL]⟩⟩
  · rw [shown_rights]
    exact ⟨by omega, by omega, by simp, fun e he => by rw [List.mem_singleton.1 he]; exact ⟨x1_right, by simp [x1, insideB, insideL]⟩⟩

set_option maxRecDepth 100000 in
set_option maxHeartbeats 8000000 in
theorem shown9 (w : World) : Calls Try.prog 9 #[] w (Says true w) := by
  go_enter Try.func9, Try.ntmps9
  go_wp2_with fail
  have HA0 := Lib.hid (below_alloc1 w (.cells #[.string { data := #[97] }, .string { data := #[98] }] 9))
  refine (set9_any _ 0).mono ?_
  rintro e w1 ⟨g0, -, -, rfl, hi0, hb1⟩
  have HI0 := Lib.hid hi0
  have HB1 := Lib.hid (HA0.out.trans (hb1.mono HA0.out.size))
  clear hi0 hb1 HA0
  go_wp2_with fail
  refine (set9_any _ 1).mono ?_
  rintro e w2 ⟨g1, -, -, rfl, hi1, hb2⟩
  have HI1 := Lib.hid hi1
  have HI0' := Lib.hid (HI0.out.to hb2 (Nat.le_refl _))
  have HB2 := Lib.hid (HB1.out.trans (hb2.mono HB1.out.size))
  clear hi1 hb2
  have HAL := Lib.hid (below_alloc1 w2 (.cells #[.int .i64 1, .slice (some ⟨g0, 0, none⟩) 1 1, .slice none 0 0, .int .i64 1, .slice (some ⟨g1, 0, none⟩) 1 1, .slice none 0 0, .bool false, .bool false] 51))
  have HRU := Lib.hid (show Rules (w2.alloc (.cells #[.int .i64 1, .slice (some ⟨g0, 0, none⟩) 1 1, .slice none 0 0, .int .i64 1, .slice (some ⟨g1, 0, none⟩) 1 1, .slice none 0 0, .bool false, .bool false] 51)) (.slice (some ⟨w2.heap.size, 0, none⟩) 1 1) [rShown] from by
    refine ⟨[[.int .i64 1, .slice (some ⟨g0, 0, none⟩) 1 1, .slice none 0 0, .int .i64 1, .slice (some ⟨g1, 0, none⟩) 1 1, .slice none 0 0, .bool false, .bool false]], ⟨?_, ?_⟩, rfl, fun i hi => ?_⟩
    · intro r hr
      rw [List.mem_singleton.1 hr]; rfl
    · exact Raw.of_block (cs := [.int .i64 1, .slice (some ⟨g0, 0, none⟩) 1 1, .slice none 0 0, .int .i64 1, .slice (some ⟨g1, 0, none⟩) 1 1, .slice none 0 0, .bool false, .bool false]) (heap_alloc_new w2 _)
    · obtain rfl : i = 0 := by simpa using hi
      exact ⟨_, rfl, _, _, _, _, _, _, rfl, node_set (HI0'.out.to HAL.out (Nat.le_refl _)), node_set (HI1.out.to HAL.out (Nat.le_refl _))⟩)
  have HCO := Lib.hid (compile_any _ (some ⟨w.heap.size, 0, none⟩) 2 2 _ [rShown] HRU.out (by simp))
  go_wp2_with fail
  refine HCO.out.mono ?_
  rintro e w4 ⟨hb4, hcase⟩
  have HB4 := Lib.hid (HB2.out.trans ((HAL.out.trans (hb4.mono HAL.out.size)).mono HB2.out.size))
  clear hb4
  rw [shown_lefts, shown_rights] at hcase
  rcases hcase with ⟨hno, -⟩ | ⟨-, hnone, -⟩ | ⟨-, T, oa, ob, N, O, M, U, -, hbu, hbu2, rfl, htab, hm1, hm2⟩
  · exact (hno shown_ok).elim
  · rcases hnone with h | h
    · have := built_det built_x0 h; cases this
    · have := built_det built_x1 h; cases this
  obtain ⟨hN, hO⟩ := some_pairs (O := [0, 1]) (N := [[1, 0], [1, 0]]) (Option.some.inj (built_det built_x0 hbu))
  obtain ⟨hM, hU⟩ := some_pairs (O := [0, 1]) (N := [[0, 1], [0, 1]]) (Option.some.inj (built_det built_x1 hbu2))
  subst hN hO hM hU
  have HTAB := Lib.hid (show TabAt w4 T (.pointer (some ⟨oa, 0, none⟩)) (.pointer (some ⟨ob, 0, none⟩)) 0 1 from htab)
  have HM1 := Lib.hid hm1
  have HM2 := Lib.hid hm2
  have HCO2 := Lib.hid (compile_any w4 none 0 0 (.slice none 0 0) [] ⟨[], ⟨by simp, none, 0, rfl, by simp, fun h => by simp at h⟩, rfl, fun i h => by simp at h⟩ (by simp))
  clear hbu hbu2 htab hm1 hm2 HCO HRU HAL
  go_wp2_with fail
  refine HCO2.out.mono ?_
  rintro e w5 ⟨hb5, hcase⟩
  have HB5 := Lib.hid (HB4.out.trans (hb5.mono HB4.out.size))
  have HTAB5 := Lib.hid (show TabAt w5 T _ _ _ _ from (hb5.block _ (at_lt HTAB.out)).trans HTAB.out)
  have HM15 := Lib.hid (HM1.out.to hb5)
  have HM25 := Lib.hid (HM2.out.to hb5)
  have hz : ¬ CompOk (0 : Nat) [] := fun h => by have := h.2.2.1.1; omega
  obtain rfl : e = .returned (.tuple #[.pointer none, .int .i64 1]) := by
    rcases hcase with ⟨-, h⟩ | ⟨h, -⟩ | ⟨h, -⟩
    · exact h
    · exact (hz h).elim
    · exact (hz h).elim
  clear hb5 hcase hz HCO2
  obtain ⟨y0, y1, y2, y3⟩ := cells4 HTAB5.out
  obtain ⟨-, pn, cn, po, co, -, -, a2, -⟩ := HM15.out.get (nn := 2) rfl rfl
  obtain ⟨-, pn2, cn2, po2, co2, -, -, b2, -⟩ := HM25.out.get (nn := 2) rfl rfl
  have HD1 := Lib.hid (decide_any w5 T _ _ 0 1 1 1 HTAB5.out (by decide) (by decide) (by decide) (by decide))
  have HD2 := Lib.hid (decide_any w5 T _ _ 0 1 1 0 HTAB5.out (by decide) (by decide) (by decide) (by decide))
  have e1 : decB 1 (1 &&& 1) 0 = false := by
    rw [decB_hit (k := 0) (by omega) (by decide) (fun j hj => by omega)]; decide
  have e2 : decB 1 (1 &&& 0) 0 = true := decB_end (fun j hj => by
    have : j = 0 := by omega
    subst this; decide)
  rw [e1] at HD1
  rw [e2] at HD2
  have HEQ := Lib.hid (tabs_same w5 T T oa ob oa ob 2 0 1 _ _ _ _ HTAB5.out HTAB5.out HM15.out HM25.out HM15.out HM25.out ⟨by simp, by simp, fun r hr => by simp at hr; rw [hr]; simp⟩ ⟨by simp, by simp, fun r hr => by simp at hr; rw [hr]; simp⟩)
  clear e1 e2
  go_wp2_with fail
  refine HD1.out.mono ?_
  rintro e w6 ⟨rfl, rfl⟩
  go_wp2_with fail
  refine HD2.out.mono ?_
  rintro e w6 ⟨rfl, rfl⟩
  clear y0 y1 y2 y3 a2 b2
  go_wp2_with fail
  refine HEQ.out.mono ?_
  rintro e w6 ⟨rfl, hb6⟩
  have HB6 := Lib.hid (HB5.out.trans (hb6.mono HB5.out.size))
  clear hb6
  go_wp2_with fail
  go_ret
  exact ⟨rfl, HB6.out⟩
end Go.Proofs.Ytmooflmhbpckjaa

/-
  TablesMany: there may be forty rules and not more, and twenty-four classes. No condition beyond what each theorem names.
-/
set_option linter.unusedVariables false
set_option linter.unusedSimpArgs false
namespace Go.Proofs.Ytmooflmhbpckjaa
open Go.RowKit Classical

theorem infoRule : (Try.prog.info? 51).map (fun i => (i.zero, i.size, i.bytes)) = some (some (.agg #[.int .i64 0, .slice none 0 0, .slice none 0 0, .int .i64 0, .slice none 0 0, .slice none 0 0, .bool false, .bool false]), 8, 120) := by kernel_rfl
theorem infoStr : (Try.prog.info? 9).map (fun i => (i.zero, i.size, i.bytes)) = some (some (.string ByteArray.empty), 1, 16) := by kernel_rfl

theorem make_strs (t : TypeId) (ht : Try.prog.underlying t = some (.slice 9)) (w : World) (c : Int) (n : Nat) (hc : c = n) (hn : n ≤ 1000001) :
    (Instr.makeSlice t (.int .i64 c) (.int .i64 c)).run Try.prog w = .ok (.slice (some ⟨w.heap.size, 0, none⟩) n n) (w.alloc (.cells (madeCells #[Value.string ByteArray.empty] n) 9)) := by
  subst hc
  obtain ⟨i0, hi, hz0, hz1, hz2⟩ := info_parts infoStr
  have := run_make (P := Try.prog) w t 9 i0 (.string ByteArray.empty) ht hi hz0 .i64 .i64 n n (by omega) (by omega) (by rw [hz2]; omega) (by omega)
  rw [hz1] at this
  simp only [Int.toNat_natCast, Nat.mul_one] at this
  rw [this, show (Value.string ByteArray.empty).cells = #[Value.string ByteArray.empty] from rfl]

section
variable {ops : Array Oper} {rest : List Oper} {o : Oper} {a : Act} {w : World} {Q : Exit → Act → World → Prop} {base : Nat} {E : Rl → List Value → Prop}
theorem wpList_append_rules (hgd : o.guard = none) (s x : Operand) (ho : o.op = .call { callee := .builtin .append, args := #[s, x], argTypes := #[23, 23] })
    (v : Value) (xs : List Rl) (n : Nat) (hn : xs.length = n) (hs : a.eval s = v) (hown : OwnL E 51 8 base w v xs) (xv : Value) (ys : List Rl) (m : Nat) (hm : ys.length = m) (hx : a.eval x = xv) (hr : ReadL E 8 w xv ys) (hlen : n + m ≤ 1000000) (hbase : base ≤ w.heap.size)
    (h : ∀ p c w', OwnL E 51 8 base w' (.slice p (n + m) c) (xs ++ ys) → w.grownBy w' v.ownBlock → ((Value.slice p (n + m) c).ownBlock = v.ownBlock ∨ (Value.slice p (n + m) c).ownBlock = some w.heap.size) → wpList Try.prog ops Q rest (a.put o.dst (.slice p (n + m) c)) w') : wpList Try.prog ops Q (o :: rest) a w := by
  subst hn hm
  obtain ⟨i0, hi, hz0, hz1, hz2⟩ := info_parts infoRule
  exact wpList_append_L hgd s x 23 ho i0 _ 120 Try.underlying23 hi hz0 hz1 hz2 rfl (by decide) v xs hs hown xv ys hx hr (by unfold maxLen; omega) (by omega) hbase h
end

/-- a rule, by its cells, with where its parts lie -/
def ruleF (F : Nat → Prop) (w : World) (r : Rl) (row : List Value) : Prop := ∃ a b c d e f, row = [a, b, c, d, e, f, .bool r.brk, .bool r.start] ∧ NodeF F w r.left a b c ∧ NodeF F w r.right d e f
theorem ruleF.fr {F G : Nat → Prop} {w w' : World} {x : Rl} {row : List Value} (h : ruleF F w x row) (hf : Fr G w w') (hg : ∀ k, F k → ¬ G k) : ruleF F w' x row := by
  obtain ⟨a, b, c, d, e, f, rfl, h1, h2⟩ := h
  exact ⟨a, b, c, d, e, f, rfl, h1.fr hf hg, h2.fr hf hg⟩
theorem ruleF.below {F : Nat → Prop} {B : Nat} {w w' : World} {x : Rl} {row : List Value} (h : ruleF F w x row) (hb : Below B w w') (hB : w.heap.size ≤ B) : ruleF F w' x row := by
  obtain ⟨a, b, c, d, e, f, rfl, h1, h2⟩ := h
  exact ⟨a, b, c, d, e, f, rfl, NodeF.below hb hB _ h1, NodeF.below hb hB _ h2⟩
theorem ruleF.mono {F G : Nat → Prop} {w : World} {x : Rl} {row : List Value} (h : ruleF F w x row) (hg : ∀ k, F k → G k) : ruleF G w x row := by
  obtain ⟨a, b, c, d, e, f, rfl, h1, h2⟩ := h
  exact ⟨a, b, c, d, e, f, rfl, NodeF.mono hg _ h1, NodeF.mono hg _ h2⟩
theorem ruleF.is {F : Nat → Prop} {w : World} {x : Rl} {row : List Value} (h : ruleF F w x row) : RuleIs w x row := by
  obtain ⟨a, b, c, d, e, f, rfl, h1, h2⟩ := h
  exact ⟨a, b, c, d, e, f, rfl, h1.is, h2.is⟩
theorem rules_read {F : Nat → Prop} {w : World} {v : Value} {rs : List Rl} (h : ReadL (ruleF F w) 8 w v rs) : Rules w v rs := by
  obtain ⟨rows, h1, h2, h3, h4⟩ := h
  refine ⟨rows, ⟨fun r hr => (h3 r hr).1, by rw [h2]; exact h1⟩, h2, fun i hi => ?_⟩
  obtain ⟨row, g1, g2⟩ := h4 i hi
  exact ⟨row, g1, g2.is⟩

/-- where the parts' classes lie: not in the box, and not in the list of the rules -/
def FM9 (base G : Nat) (w : World) (pv : Value) (k : Nat) : Prop := base ≤ k ∧ k < w.heap.size ∧ k ≠ G ∧ pv.ownBlock ≠ some k

theorem nodeF_set9 {F : Nat → Prop} {w : World} {cls : List Int} {C n : Nat} (h : Ints w (.slice (some ⟨C, 0, none⟩) n n) cls) (hF : F C) (hb : cls.length * 8 ≤ R) : NodeF F w (.mk 1 cls []) (.int .i64 1) (.slice (some ⟨C, 0, none⟩) n n) (.slice none 0 0) := by
  rw [nodeF_iff]
  refine ⟨rfl, h, fun _ k hk => ?_, hb, by unfold R; simp, [], ⟨by simp, none, 0, rfl, by simp, fun h => by simp at h⟩, fun h => by simp at h, rfl, fun i h => by simp at h⟩
  have : C = k := by simpa [Value.ownBlock] using hk
  subst this
  exact hF

/-- the i-th rule: all alike, but that every other one says break -/
def ruleM (i : Nat) : Rl := ⟨.mk 1 [0] [], .mk 1 [0] [], bits .and .i64 (i : Int) 1 == 1, false⟩
def manyL (k : Nat) : List Rl := (List.range k).map ruleM
theorem manyL_succ (k : Nat) : manyL (k + 1) = manyL k ++ [ruleM k] := by unfold manyL; rw [List.range_succ, List.map_append]; rfl
theorem manyL_length (k : Nat) : (manyL k).length = k := by unfold manyL; simp
theorem many_lefts (k : Nat) : leftsL (manyL k) = List.replicate k (.mk 1 [0] [], false) := by
  unfold leftsL manyL
  rw [List.map_map]
  refine List.ext_getElem (by simp) fun i h1 h2 => ?_
  simp [ruleM]
theorem many_rights (k : Nat) : rightsL (manyL k) = List.replicate k (.mk 1 [0] [], false) := by
  unfold rightsL manyL
  rw [List.map_map]
  refine List.ext_getElem (by simp) fun i h1 h2 => ?_
  simp [ruleM, rev_set]
theorem many_ok {n k : Nat} (hk : k ≤ 63) : CompOk n (manyL k) ↔ 1 ≤ n ∧ n ≤ 24 ∧ k ≤ 40 := by
  constructor
  · intro h
    have h1 := h.1
    rw [manyL_length] at h1
    have h2 := h.2.2.1.1
    have h3 := h.2.2.1.2.1
    exact ⟨by omega, by omega, h1⟩
  · rintro ⟨h1, h2, h3⟩
    have ha : ArgOk n (List.replicate k (.mk 1 [0] [], false)) := ⟨by omega, by omega, by simp; omega, fun e he => by
      rw [List.eq_of_mem_replicate he]
      exact ⟨x0_right, by simp [insideB, insideL]; omega⟩⟩
    refine ⟨by rw [manyL_length]; exact h3, fun r hr => ?_, by rw [many_lefts]; exact ha, by rw [many_rights]; exact ha⟩
    obtain ⟨i, -, rfl⟩ := List.mem_map.1 hr
    exact ⟨x0_right, x0_right⟩
theorem many_break {k : Nat} (hk : 0 < k) : (breaksL (manyL k)).testBit 0 = false := by
  unfold breaksL
  rw [bitsL_get _ 0 (by rw [List.length_map, manyL_length]; exact hk)]
  simp [manyL, ruleM]
  decide

structure ManyAt (base G : Nat) (tB : TypeId) (cs : Value) (w0 w : World) (k : Nat) (pv : Value) : Prop where
  box : w.heap[G]? = some (.cells #[cs, pv] tB)
  own : OwnL (ruleF (FM9 base G w pv) w) 51 8 base w pv (manyL k)
  apart : pv.ownBlock ≠ some G
  base_le : base ≤ G
  below : Below base w0 w

set_option maxRecDepth 100000 in
set_option maxHeartbeats 16000000 in
theorem many_law (w : World) (n m : Int) : Calls Try.prog 5 #[.int .i64 n, .int .i64 m] w (Says true w) := by
  have HBN := Lib.hid (bits_and_le n 31 (by omega))
  have HBM := Lib.hid (bits_and_le m 63 (by omega))
  obtain ⟨nc, hnc, hnc31⟩ : ∃ nc : Nat, bits .and .i64 n 31 = nc ∧ nc ≤ 31 := by
    have h1 : 0 ≤ bits .and .i64 n 31 := HBN.out.1
    have h2 : bits .and .i64 n 31 ≤ 31 := HBN.out.2
    exact ⟨(bits .and .i64 n 31).toNat, by omega, by omega⟩
  obtain ⟨nr, hnr, hnr63⟩ : ∃ nr : Nat, bits .and .i64 m 63 = nr ∧ nr ≤ 63 := by
    have h1 : 0 ≤ bits .and .i64 m 63 := HBM.out.1
    have h2 : bits .and .i64 m 63 ≤ 63 := HBM.out.2
    exact ⟨(bits .and .i64 m 63).toNat, by omega, by omega⟩
  have hmk : ∀ (w : World), (Instr.makeSlice 22 (.int .i64 (nc : Int)) (.int .i64 (nc : Int))).run Try.prog w = .ok (.slice (some ⟨w.heap.size, 0, none⟩) nc nc) (w.alloc (.cells (madeCells #[Value.string ByteArray.empty] nc) 9)) := fun w => make_strs _ Try.underlying22 w _ _ rfl (by omega)
  go_enter Try.func5, Try.ntmps5
  go_wp2_with fail
  refine (shown9 w).mono ?_
  rintro e w1 ⟨rfl, hb1⟩
  have HB1 := Lib.hid hb1
  clear hb1
  go_upto_region 5 with fail
  refine abs_wp fun W hW => ?_
  obtain ⟨bW, -, cW⟩ := two_allocs w1 _ _ W hW
  obtain ⟨C, hC⟩ : ∃ C, C = w1.heap.size := ⟨_, rfl⟩
  obtain ⟨G, hG⟩ : ∃ G, G = w1.heap.size + 1 := ⟨_, rfl⟩
  rw [← hG] at cW
  rw [← hC] at cW
  obtain ⟨tB, cW⟩ : ∃ tB, W.heap[G]? = some (.cells #[.slice (some ⟨C, 0, none⟩) nc nc, .slice none 0 0] tB) := ⟨_, cW⟩
  have HL := Lib.hid (show ManyAt C G tB (.slice (some ⟨C, 0, none⟩) nc nc) w1 W 0 (.slice none 0 0) from ⟨cW, OwnL.nil _, by simp [Value.ownBlock], by omega, by rw [hC]; exact bW⟩)
  have HCE := Lib.hid hC
  rw [← hG, ← hC]
  clear hW bW cW hC hG hmk hnc hnr
  go_wp2_with fail
  go_loopw [7] (fun i wz => ∃ k : Nat, i = .int .i64 k ∧ k ≤ nr ∧ ∃ pv, ManyAt C G tB (.slice (some ⟨C, 0, none⟩) nc nc) w1 wz k pv) (fun i _ => nr - (intOf i).toNat)
  case atStart => exact ⟨0, rfl, by omega, _, HL.out⟩
  case round =>
    obtain ⟨k, rfl, hk, pv, hl⟩ := hrel
    have HLA := Lib.hid hl
    obtain ⟨pq, cq, hpv⟩ := hl.own.form
    obtain ⟨nq, hnq⟩ : ∃ nq, nq = (manyL k).length := ⟨_, rfl⟩
    rw [← hnq] at hpv
    subst hpv
    have HNQ := Lib.hid hnq
    clear hl hnq
    by_cases hkm : k < nr
    · have hki : (k : Int) < nr := by omega
      have hk0 : (0 : Int) ≤ k := by omega
      obtain ⟨bk, hbk⟩ : ∃ bk, bk = (bits .and .i64 (k : Int) 1 == 1) := ⟨_, rfl⟩
      have HBK := Lib.hid hbk
      go_upto_region 8 with fail
      have HBX := Lib.hid HLA.out.box
      have HSS := Lib.hid (show ∀ W', Below wr.heap.size wr W' → W'.cell? ⟨G, 1, none⟩ = some (.slice pq nq cq) from fun W' h => (cells2 ((h.block G (at_lt HBX.out)).trans HBX.out)).2)
      refine wp_region_fin 11 (fun W' => W'.cell? ⟨G, 1, none⟩ = some (.slice pq nq cq)) (.reads [0, 1, 4, 5, 6] (.one 2 (.one 3 (.reads [7] (.one 8 (.one 9 (.reads [10] (.last 11)))))))) 85 (by kernel_rfl) (by kernel_rfl) rfl (fun _ _ _ _ _ h => h) (HSS.out _ (Below.refl _ _).drew) ?_
      apply plan_reads
      · intro W' hW'
        repeat (refine wpRead_step (fun K hK => ?_); go_simp; refine hK _ ?_; clear hK K)
        exact wpRead_nil rfl
      rw [← hbk]
      clear hbk
      refine abs_plan fun W0 hW0 => ?_
      have HB0 := Lib.hid (show Below wr.heap.size wr W0 by rw [hW0]; exact (Below.refl _ _).drew)
      clear hW0
      refine plan_one rfl ?_
      go_wp2_with fail
      refine (set9_any W0 0).mono ?_
      rintro e W1 ⟨g0, hg0, hg0', rfl, hi0, hb1⟩
      have HI0 := Lib.hid hi0
      have HG0 := Lib.hid (And.intro hg0 hg0')
      have HB1a := Lib.hid (HB0.out.trans (hb1.mono HB0.out.size))
      clear hg0 hg0' hi0 hb1
      go_wp2_with fail
      refine Then.mk (HSS.out _ HB1a.out) ?_
      refine plan_one rfl ?_
      go_wp2_with fail
      refine (set9_any W1 0).mono ?_
      rintro e W2 ⟨g1, hg1, hg1', rfl, hi1, hb2⟩
      have HI1 := Lib.hid hi1
      have HI0' := Lib.hid (HI0.out.to hb2 (Nat.le_refl _))
      have HG1 := Lib.hid (And.intro hg1 hg1')
      have HB2a := Lib.hid (HB1a.out.trans (hb2.mono HB1a.out.size))
      clear hg1 hg1' hi1 hb2
      go_wp2_with fail
      refine Then.mk (HSS.out _ HB2a.out) ?_
      apply plan_reads
      · intro W' hW'
        repeat (refine wpRead_step (fun K hK => ?_); go_simp; refine hK _ ?_; clear hK K)
        exact wpRead_nil rfl
      refine plan_one rfl ?_
      have HA3 := Lib.hid (below_alloc1 W2 (.cells #[.int .i64 1, .slice (some ⟨g0, 0, none⟩) 1 1, .slice none 0 0, .int .i64 1, .slice (some ⟨g1, 0, none⟩) 1 1, .slice none 0 0, .bool bk, .bool false] 51))
      have HB3a := Lib.hid (HB2a.out.trans (HA3.out.mono HB2a.out.size))
      go_wp2_with fail
      refine Then.mk (HSS.out _ HB3a.out) ?_
      refine abs_plan fun W3 hW3 => ?_
      have HBW3 := Lib.hid (show Below wr.heap.size wr W3 by rw [hW3]; exact HB3a.out)
      have HSZ3 := Lib.hid (show W2.heap.size < W3.heap.size by rw [hW3]; simp)
      have HGR := Lib.hid (at_lt HBX.out)
      have HNEW := Lib.hid (show ReadL (ruleF (FM9 C G W2 (.slice pq nq cq)) W3) 8 W3 (.slice (some ⟨W2.heap.size, 0, none⟩) 1 1) [ruleM k] by
        have hi0 : Ints W3 (.slice (some ⟨g0, 0, none⟩) 1 1) [0] := by rw [hW3]; exact HI0'.out.to HA3.out (Nat.le_refl _)
        have hi1 : Ints W3 (.slice (some ⟨g1, 0, none⟩) 1 1) [0] := by rw [hW3]; exact HI1.out.to HA3.out (Nat.le_refl _)
        have h1 := HB0.out.size
        have h2 := HGR.out
        have h3 := HLA.out.base_le
        have h4 := HG0.out.1
        have h5 := HG0.out.2
        have h6 := HG1.out.1
        have h7 := HG1.out.2
        have hF0 : FM9 C G W2 (.slice pq nq cq) g0 := ⟨by omega, by omega, by omega, fun he => by have := (HLA.out.own.lt _ he).2; omega⟩
        have hF1 : FM9 C G W2 (.slice pq nq cq) g1 := ⟨by omega, by omega, by omega, fun he => by have := (HLA.out.own.lt _ he).2; omega⟩
        have hN : ruleF (FM9 C G W2 (.slice pq nq cq)) W3 (ruleM k) [.int .i64 1, .slice (some ⟨g0, 0, none⟩) 1 1, .slice none 0 0, .int .i64 1, .slice (some ⟨g1, 0, none⟩) 1 1, .slice none 0 0, .bool bk, .bool false] := ⟨_, _, _, _, _, _, by rw [HBK.out]; rfl, nodeF_set9 hi0 hF0 (by unfold R; simp), nodeF_set9 hi1 hF1 (by unfold R; simp)⟩
        rw [hW3] at hN ⊢
        exact ReadL.one W2 _ _ _ ⟨rfl, by simp [Value.oneCell']⟩ hN)
      have HOLD := Lib.hid (show OwnL (ruleF (FM9 C G W2 (.slice pq nq cq)) W3) 51 8 C W3 (.slice pq nq cq) (manyL k) from (HLA.out.own.below HBW3.out (Nat.le_refl _)).mono (fun x r hx =>
        (hx.below HBW3.out (Nat.le_refl _)).mono (fun j ⟨f1, f2, f3, f4⟩ => ⟨f1, by have h1 := HB2a.out.size; omega, f3, f4⟩)))
      have HLW := Lib.hid (show C ≤ W3.heap.size by have h1 := HBW3.out.size; have h2 := HGR.out; have h3 := HLA.out.base_le; omega)
      have HKQ := Lib.hid (show nq = k by rw [HNQ.out, manyL_length])
      clear hW3
      refine plan_one rfl ?_
      refine wpList_append_rules rfl (.tmp 25) (.tmp 32) rfl (.slice pq nq cq) (manyL k) nq HNQ.out.symm rfl HOLD.out (.slice (some ⟨W2.heap.size, 0, none⟩) 1 1) [ruleM k] 1 rfl rfl HNEW.out (by rw [HKQ.out]; omega) HLW.out ?_
      intro p4 c4 w4 hown4 hg4 hlie4
      have HF4 := Lib.hid (show Fr (fun j => (Value.slice pq nq cq).ownBlock = some j) W3 w4 from Fr.grown (F := fun j => (Value.slice pq nq cq).ownBlock = some j) hg4 (fun k h => h))
      have HBO4 := Lib.hid (show w4.heap[G]? = some (.cells #[.slice (some ⟨C, 0, none⟩) nc nc, .slice pq nq cq] tB) from (HF4.out.block G (by have h1 := HBW3.out.size; have h2 := HGR.out; omega) HLA.out.apart).trans ((HBW3.out.block G HGR.out).trans HBX.out))
      have HFR := Lib.hid (Fr.setCell (F := fun j => j = G) w4 (p := ⟨G, 1, none⟩) rfl (.slice p4 (nq + 1) c4))
      have HBO5 := Lib.hid (blk_set HBO4.out 1 (.slice p4 (nq + 1) c4))
      have HLA5 := Lib.hid (show ManyAt C G tB (.slice (some ⟨C, 0, none⟩) nc nc) w1 (w4.setCell ⟨G, 1, none⟩ (.slice p4 (nq + 1) c4)) (k + 1) (.slice p4 (nq + 1) c4) from by
        have hap : (Value.slice p4 (nq + 1) c4).ownBlock ≠ some G := fun he => by
          rcases hlie4 with h | h
          · exact HLA.out.apart (h ▸ he)
          · rw [he] at h
            injection h with h
            have h1 := HBW3.out.size
            have h2 := HGR.out
            omega
        refine ⟨HBO5.out, ?_, hap, HLA.out.base_le, ?_⟩
        · rw [manyL_succ]
          refine (hown4.fr HFR.out (fun j hj he => hap (he ▸ hj))).mono fun x r hx => ?_
          refine (((hx.fr HF4.out (fun j hj he => hj.2.2.2 he)).fr HFR.out (fun j hj he => hj.2.2.1 he))).mono fun j hj => ?_
          obtain ⟨f1, f2, f3, f4⟩ := hj
          have h1 := HF4.out.size
          have h2 := HFR.out.size
          have h3 := HSZ3.out
          refine ⟨f1, by omega, f3, fun he => ?_⟩
          rcases hlie4 with h | h
          · exact f4 (h ▸ he)
          · rw [he] at h
            injection h with h
            omega
        · have b1 := HLA.out.below.trans (HBW3.out.mono (by have h2 := HGR.out; have h3 := HLA.out.base_le; omega))
          have b2 := b1.trans (HF4.out.below HLW.out (fun j hj => (HLA.out.own.lt j hj).1))
          exact b2.trans (HFR.out.below (by have := HF4.out.size; have := HLW.out; omega) (fun j hj => by have hj : j = G := hj; rw [hj]; exact HLA.out.base_le)))
      have x2 := (cells2 HBO4.out).2
      have f2 := fz_at HBO4.out 1
      clear hown4 hg4 hlie4
      go_wp2_with fail
      refine Then.mk x2 ?_
      apply plan_reads
      · intro W' hW'
        repeat (refine wpRead_step (fun K hK => ?_); go_simp; refine hK _ ?_; clear hK K)
        exact wpRead_nil rfl
      refine plan_last rfl ?_
      go_wp2_with fail
      go_roundw
      case rel => exact ⟨k + 1, by go_num, by omega, _, HLA5.out⟩
      case measure => simp [intOf]; omega
    · have hki : ¬ (k : Int) < nr := by omega
      obtain rfl : k = nr := by omega
      obtain ⟨x0, x1⟩ := cells2 HLA.out.box
      have HKQ := Lib.hid (show nq = k by rw [HNQ.out, manyL_length])
      have HCO := Lib.hid (compile_any wr (some ⟨C, 0, none⟩) nc nc (.slice pq nq cq) (manyL k) (rules_read HLA.out.own.read) (by rw [manyL_length]; omega))
      have HWB := Lib.hid (HB1.out.trans (HLA.out.below.mono (by rw [HCE.out]; exact HB1.out.size)))
      clear hki hkm
      go_wp2_with fail
      refine HCO.out.mono ?_
      rintro e w4 ⟨hb4, hcase⟩
      have HB4 := Lib.hid (HWB.out.trans (hb4.mono HWB.out.size))
      rw [many_lefts, many_rights] at hcase
      clear hb4 HCO x0 x1
      rcases hcase with ⟨hno, rfl⟩ | ⟨-, hnone, -⟩ | ⟨hok, T, oa, ob, N, O, M, U, -, -, -, rfl, htab, -, -⟩
      · have hno2 : ¬ (1 ≤ nc ∧ nc ≤ 24 ∧ k ≤ 40) := fun h => hno ((many_ok hnr63).2 h)
        clear hno
        by_cases c1 : 1 ≤ nc
        · have c1i : (1 : Int) ≤ nc := by omega
          by_cases c2 : nc ≤ 24
          · have c2i : (nc : Int) ≤ 24 := by omega
            have c3 : ¬ k ≤ 40 := fun h => hno2 ⟨c1, c2, h⟩
            have c3i : ¬ (k : Int) ≤ 40 := by omega
            have c3d : decide ((k : Int) ≤ 40) = false := decide_eq_false c3i
            clear hno2 c3
            go_wp2_with fail
            go_ret
            exact ⟨rfl, HB4.out⟩
          · have c2i : ¬ (nc : Int) ≤ 24 := by omega
            clear hno2
            go_wp2_with fail
            go_ret
            exact ⟨rfl, HB4.out⟩
        · have c1i : ¬ (1 : Int) ≤ nc := by omega
          clear hno2
          go_wp2_with fail
          go_ret
          exact ⟨rfl, HB4.out⟩
      · rcases hnone with h | h
        · exact (rep_set [0] false nc k h).elim
        · exact (rep_set [0] false nc k h).elim
      · obtain ⟨c1, c2, c3⟩ := (many_ok hnr63).1 hok
        have c1i : (1 : Int) ≤ nc := by omega
        have c2i : (nc : Int) ≤ 24 := by omega
        have c3i : (k : Int) ≤ 40 := by omega
        rw [manyL_length] at htab
        obtain ⟨br, hbr⟩ : ∃ br, br = breaksL (manyL k) := ⟨_, rfl⟩
        rw [← hbr] at htab
        have hbl : br < 2 ^ 64 := by
          have h1 := bitsL_lt ((manyL k).map fun r => r.brk)
          rw [List.length_map, manyL_length] at h1
          have h2 : (2 : Nat) ^ k ≤ 2 ^ 40 := Nat.pow_le_pow_right (by omega) c3
          rw [hbr]
          unfold breaksL
          omega
        have HTAB := Lib.hid (show TabAt w4 T (.pointer (some ⟨oa, 0, none⟩)) (.pointer (some ⟨ob, 0, none⟩)) br k from htab)
        have HD := Lib.hid (show Calls Try.prog 15 #[.pointer (some ⟨T, 0, none⟩), .int .u64 18446744073709551615, .int .u64 18446744073709551615] w4 fun e w' => e = .returned (.bool (decB k (18446744073709551615 &&& 18446744073709551615) br)) ∧ w' = w4 from
          decide_any w4 T _ _ br k 18446744073709551615 18446744073709551615 HTAB.out (by omega) (by omega) hbl (by omega))
        obtain ⟨y0, y1, y2, y3⟩ := cells4 HTAB.out
        have HBRE := Lib.hid hbr
        by_cases hk0 : k = 0
        · have hdb : decB k (18446744073709551615 &&& 18446744073709551615) br = true := decB_end (fun j hj => by omega)
          rw [hdb] at HD
          subst hk0
          clear hok htab hbr hbl hdb
          go_wp2_with fail
          refine HD.out.mono ?_
          rintro e w6 ⟨rfl, rfl⟩
          go_wp2_with fail
          go_ret
          exact ⟨rfl, HB4.out⟩
        · have hdb : decB k (18446744073709551615 &&& 18446744073709551615) br = false := by
            rw [decB_hit (k := 0) (by omega) (by decide) (fun j hj => by omega), HBRE.out]
            exact many_break (by omega)
          rw [hdb] at HD
          have hk0i : ¬ (k : Int) = 0 := by omega
          have hk0b : ((k : Int) == 0) = false := beq_eq_false_iff_ne.2 hk0i
          clear hok htab hbr hbl hdb hk0
          go_wp2_with fail
          refine HD.out.mono ?_
          rintro e w6 ⟨rfl, rfl⟩
          go_wp2_with fail
          go_ret
          exact ⟨rfl, HB4.out⟩
end Go.Proofs.Ytmooflmhbpckjaa

/-
  tables: few (a ruleset of at most eight rules that are not too large). No condition beyond what each theorem names.
-/
set_option linter.unusedVariables false
set_option linter.unusedSimpArgs false
namespace Go.Proofs.Ytmooflmhbpckjaa
open Go.RowKit Classical

def smallB (x : Nd) : Bool := decide (countT x ≤ 30) && decide (starsI x ≤ 3)
def smallR (r : Rl) : Bool := smallB r.left && smallB r.right
def few9L (rs : List Rl) : List Rl := (rs.filter smallR).take 8

theorem few9_length (rs : List Rl) : (few9L rs).length ≤ 8 := by unfold few9L; rw [List.length_take]; omega
theorem few9_snoc {rs : List Rl} {k : Nat} {r : Rl} (hr : rs[k]? = some r) (h8 : (few9L (rs.take k)).length < 8) : few9L (rs.take (k + 1)) = few9L (rs.take k) ++ (if smallR r then [r] else []) := by
  unfold few9L at *
  rw [take_snoc hr, List.filter_append]
  rw [List.length_take] at h8
  generalize (rs.take k).filter smallR = F at *
  cases h : smallR r
  · rw [List.filter_cons_of_neg (by simp [h])]
    simp
  · rw [List.filter_cons_of_pos h, List.filter_nil]
    rw [List.take_of_length_le (by simp; omega), List.take_of_length_le (by omega)]
    rfl
theorem few9_full {rs : List Rl} {k : Nat} (h8 : ¬ (few9L (rs.take k)).length < 8) : few9L (rs.take k) = few9L rs := by
  unfold few9L at *
  rw [List.length_take] at h8
  have e : rs.filter smallR = (rs.take k).filter smallR ++ (rs.drop k).filter smallR := by rw [← List.filter_append, List.take_append_drop]
  rw [e, List.take_append_of_le_length (by omega)]

set_option maxHeartbeats 2000000 in
theorem small9_any (x : Nd) (w : World) (a b c : Value) (hx : NodeIs w x a b c) : Calls Try.prog 21 #[.agg #[a, b, c]] w fun e w' => e = .returned (.bool (smallB x)) ∧ Below w.heap.size w w' := by
  have HX := Lib.hid hx
  obtain ⟨op, pp, l, c1, q, m, d, rfl, rfl, rfl⟩ := hx.form
  clear hx
  go_enter Try.func21, Try.ntmps21
  go_upto_region 1 with fail
  refine abs_wp fun W hW => ?_
  obtain ⟨B, hB⟩ : ∃ B, B = w.heap.size := ⟨_, rfl⟩
  have hbox : W.heap[B]? = some (.cells #[.int .i64 op, .slice pp l c1, .slice q m d] 49) := by rw [hW, hB]; exact heap_alloc_new _ _
  have hbe : Below w.heap.size w W := by rw [hW]; exact below_alloc1 _ _
  rw [← hB]
  have HBE := Lib.hid hbe
  have HBOX := Lib.hid hbox
  obtain ⟨x0, x1, x2⟩ := cells3 hbox
  have HC := Lib.hid (count_any x W _ _ _ (HX.out.to hbe (Nat.le_refl _)))
  clear hW hbox hbe hB
  go_wp2_with fail
  refine HC.out.mono ?_
  rintro e w1 ⟨rfl, hb1⟩
  have HB1 := Lib.hid (HBE.out.trans (hb1.mono HBE.out.size))
  have HBOX1 := Lib.hid ((hb1.block _ (at_lt HBOX.out)).trans HBOX.out)
  clear hb1 x0 x1 x2
  obtain ⟨x0, x1, x2⟩ := cells3 HBOX1.out
  obtain ⟨nC, hnC⟩ : ∃ nC, nC = countT x := ⟨_, rfl⟩
  rw [← hnC]
  by_cases h1 : nC ≤ 30
  · have HS := Lib.hid (stars_any x w1 _ _ _ (HX.out.to HB1.out (Nat.le_refl _)))
    have HN := Lib.hid hnC
    clear hnC
    go_wp2_with fail
    refine HS.out.mono ?_
    rintro e w2 ⟨rfl, hb2⟩
    have HB2 := Lib.hid (HB1.out.trans (hb2.mono HB1.out.size))
    clear hb2 x0 x1 x2
    obtain ⟨nS, hnS⟩ : ∃ nS, nS = starsI x := ⟨_, rfl⟩
    rw [← hnS]
    have HNS := Lib.hid hnS
    clear hnS
    go_wp2_with fail
    go_ret
    exact ⟨ret_val (by unfold smallB; rw [← HN.out, ← HNS.out, decide_eq_true h1]; simp), HB2.out⟩
  · have HN := Lib.hid hnC
    clear hnC
    go_wp2_with fail
    go_ret
    exact ⟨ret_val (by unfold smallB; rw [← HN.out, decide_eq_false (by omega)]; rfl), HB1.out⟩

def FewPost9 (w0 w : World) (nc : Nat) (rs : List Rl) (e : Ending) (w' : World) : Prop := ∃ pc cc pv, e = .returned (.agg #[.slice pc (min nc 30) cc, pv]) ∧ OwnL (RuleIs w0) 51 8 w.heap.size w' pv (few9L rs) ∧ Below w.heap.size w w'

structure FewAt9 (w0 w : World) (B G : Nat) (tB tG : TypeId) (bx : Array Value) (cs : Value) (z : Array Value) (rs : List Rl) (k : Nat) (W : World) (pv : Value) : Prop where
  box : W.heap[B]? = some (.cells bx tB)
  res : W.heap[B + 1]? = some (.cells z 25)
  out : W.heap[G]? = some (.cells #[cs, pv] tG)
  own : OwnL (RuleIs w0) 51 8 w.heap.size W pv (few9L (rs.take k))
  apart : pv.ownBlock ≠ some B ∧ pv.ownBlock ≠ some (B + 1) ∧ pv.ownBlock ≠ some G
  below : Below w.heap.size w W

theorem FewAt9.keep {w0 w : World} {B G : Nat} {tB tG : TypeId} {bx : Array Value} {cs : Value} {z : Array Value} {rs : List Rl} {k : Nat} {W W' : World} {pv : Value} (h : FewAt9 w0 w B G tB tG bx cs z rs k W pv) (hb : Below W.heap.size W W') : FewAt9 w0 w B G tB tG bx cs z rs k W' pv :=
  ⟨(hb.block _ (at_lt h.box)).trans h.box, (hb.block _ (at_lt h.res)).trans h.res, (hb.block _ (at_lt h.out)).trans h.out, h.own.below hb (Nat.le_refl _), h.apart, h.below.trans (hb.mono h.below.size)⟩
theorem FewAt9.next {w0 w : World} {B G : Nat} {tB tG : TypeId} {bx : Array Value} {cs : Value} {z : Array Value} {rs : List Rl} {k : Nat} {W : World} {pv : Value} (h : FewAt9 w0 w B G tB tG bx cs z rs k W pv) (hs : few9L (rs.take (k + 1)) = few9L (rs.take k)) : FewAt9 w0 w B G tB tG bx cs z rs (k + 1) W pv :=
  ⟨h.box, h.res, h.out, by rw [hs]; exact h.own, h.apart, h.below⟩

set_option maxRecDepth 100000 in
set_option maxHeartbeats 8000000 in
theorem few9_any (w0 w : World) (hw0 : Below w0.heap.size w0 w) (pc : Option Addr) (nc cc : Nat) (hcc : nc ≤ cc) (hpc : 0 < nc → ∃ a, pc = some a) (rv : Value) (rs : List Rl) (hr : Rules w0 rv rs) (hl : rs.length ≤ 9223372036854775807) :
    Calls Try.prog 10 #[.agg #[.slice pc nc cc, rv]] w (FewPost9 w0 w nc rs) := by
  obtain ⟨pr, cr, rfl, hcr, hget⟩ := hr.get
  obtain ⟨m, hm⟩ : ∃ m, m = rs.length := ⟨_, rfl⟩
  have HGET := Lib.hid (show ∀ i r, rs[i]? = some r → ∃ b off, pr = some ⟨b, off, none⟩ ∧ b < w0.heap.size ∧ ∃ row, cellsAt w0 b (off + i * 8) row ∧ RuleIs w0 r row from fun i r h => by
    obtain ⟨hi, rfl⟩ := List.getElem?_eq_some_iff.1 h
    obtain ⟨b, off, e, h1, h2⟩ := hget (by omega)
    exact ⟨b, off, e, h1, h2 i hi⟩)
  have HM := Lib.hid hm
  have HPC := Lib.hid hpc
  have HW0 := Lib.hid hw0
  clear hw0
  rw [← hm] at hcr hl ⊢
  clear hr hget hm hpc
  go_enter Try.func10, Try.ntmps10
  go_upto_region 1 with fail
  refine abs_wp fun W hW => ?_
  obtain ⟨bW, hb0, hr0⟩ := two_allocs w _ _ W hW
  obtain ⟨B, hB⟩ : ∃ B, B = w.heap.size := ⟨_, rfl⟩
  rw [← hB] at hb0
  obtain ⟨tB, hb0⟩ : ∃ tB, W.heap[B]? = some (.cells #[.slice pc nc cc, .slice pr m cr] tB) := ⟨_, hb0⟩
  have HBW := Lib.hid bW
  have HBX := Lib.hid hb0
  have HB := Lib.hid hB
  have HR0 := Lib.hid hr0
  rw [← hB]
  obtain ⟨x0, x1⟩ := cells2 hb0
  clear hW bW hb0 hr0 hB
  go_cut [3] (fun v wx => ∃ G pc' cc' tG, v = .pointer (some ⟨G, 0, none⟩) ∧ w.heap.size + 2 ≤ G ∧ wx.heap[G]? = some (.cells #[.slice pc' (min nc 30) cc', .slice none 0 0] tG) ∧ Below W.heap.size W wx)
  case first =>
    cases pc with
    | none =>
      have h0 : nc = 0 := by
        rcases Nat.eq_zero_or_pos nc with h | h
        · exact h
        · obtain ⟨a, ha⟩ := HPC.out h; cases ha
      subst h0
      have HSZ := Lib.hid (show w.heap.size + 2 ≤ W.heap.size by have h1 := at_lt HR0.out; omega)
      go_wp2_with fail
      go_meet
      case rel => exact ⟨_, _, _, _, rfl, HSZ.out, heap_alloc_new _ _, below_alloc1 _ _⟩
    | some ad =>
      have HSZ := Lib.hid (show w.heap.size + 2 ≤ W.heap.size by have h1 := at_lt HR0.out; omega)
      by_cases h30 : nc ≤ 30
      · have h31 : ¬ (30 : Int) < nc := by omega
        have hmin : (min (nc : Int) 30).toNat = min nc 30 := by omega
        go_wp2_with fail
        go_meet
        case rel => exact ⟨W.heap.size, some ad, cc, 25, rfl, HSZ.out, by rw [show min nc 30 = nc by omega]; exact heap_alloc_new _ _, below_alloc1 _ _⟩
      · have h31 : (30 : Int) < nc := by omega
        go_wp2_with fail
        go_meet
        case rel => exact ⟨W.heap.size, some ad, cc, 25, rfl, HSZ.out, by rw [show (min (nc : Int) 30).toNat = min nc 30 by omega]; exact heap_alloc_new _ _, below_alloc1 _ _⟩
  case rest =>
    obtain ⟨G, pc', cc', tG, rfl, hG, hbox, hb⟩ := hcut
    obtain ⟨mn, hmn⟩ : ∃ mn, mn = min nc 30 := ⟨_, rfl⟩
    rw [← hmn] at hbox
    have HMN := Lib.hid hmn
    have HGB := Lib.hid (show B + 1 < G by have := HB.out; omega)
    have HF0 := Lib.hid (show FewAt9 w0 w B G tB tG #[.slice pc nc cc, .slice pr m cr] (.slice pc' mn cc') #[.slice none 0 0, .slice none 0 0] rs 0 wc (.slice none 0 0) from ⟨(hb.block _ (at_lt HBX.out)).trans HBX.out, by rw [HB.out]; exact (hb.block _ (at_lt HR0.out)).trans HR0.out, hbox, OwnL.nil _, by simp [Value.ownBlock], HBW.out.trans (hb.mono HBW.out.size)⟩)
    clear hmn hG hbox hb x0 x1
    go_wp2_with fail
    go_loopw [4] (fun i wz => ∃ k : Nat, i = .int .i64 k ∧ k ≤ m ∧ ∃ pv, (FewAt9 w0 w B G tB tG #[.slice pc nc cc, .slice pr m cr] (.slice pc' mn cc') #[.slice none 0 0, .slice none 0 0] rs k wz pv)) (fun i _ => m - (intOf i).toNat)
    case atStart => exact ⟨0, rfl, by omega, _, HF0.out⟩
    case round =>
      obtain ⟨k, rfl, hk, pv, hf⟩ := hrel
      have HF := Lib.hid hf
      obtain ⟨pq, cq, hpv⟩ := hf.own.form
      obtain ⟨nq, hnq⟩ : ∃ nq, nq = (few9L (rs.take k)).length := ⟨_, rfl⟩
      rw [← hnq] at hpv
      subst hpv
      have HNQ := Lib.hid hnq
      have hq8 : nq ≤ 8 := by rw [hnq]; exact few9_length _
      obtain ⟨x0, x1⟩ := cells2 hf.box
      obtain ⟨y0, y1⟩ := cells2 hf.out
      clear hf hnq
      by_cases hgo : k < m ∧ nq < 8
      · have hki : (k : Int) < m := by omega
        have hk0 : (0 : Int) ≤ k := by omega
        have hqi : (nq : Int) < 8 := by omega
        have hkr : k < rs.length := by rw [← HM.out]; exact hgo.1
        obtain ⟨r, hrk⟩ : ∃ r, rs[k]? = some r := ⟨_, List.getElem?_eq_getElem hkr⟩
        obtain ⟨bp, op, rfl, hbp, row, hcell, hri⟩ := HGET.out k r hrk
        have HRI := Lib.hid hri
        have HSN := Lib.hid (few9_snoc hrk (by rw [← HNQ.out]; exact hgo.2))
        obtain ⟨a1, b1, c1, d1, e1, f1, rfl, hnl, hnr⟩ := hri
        obtain ⟨opx, ppx, lx, c1x, qx, mx, dx, rfl, rfl, rfl⟩ := hnl.form
        obtain ⟨opy, ppy, ly, c1y, qy, my, dy, rfl, rfl, rfl⟩ := hnr.form
        have HNL := Lib.hid hnl
        have HNR := Lib.hid hnr
        obtain ⟨bk, hbk⟩ : ∃ bk, bk = r.brk := ⟨_, rfl⟩
        obtain ⟨st, hst⟩ : ∃ st, st = r.start := ⟨_, rfl⟩
        rw [← hbk, ← hst] at hcell HRI
        have z0 := cell_below (HW0.out.trans (HF.out.below.mono HW0.out.size)) hbp (hcell 0 _ rfl)
        have z1 := cell_below (HW0.out.trans (HF.out.below.mono HW0.out.size)) hbp (hcell 1 _ rfl)
        have z2 := cell_below (HW0.out.trans (HF.out.below.mono HW0.out.size)) hbp (hcell 2 _ rfl)
        have z3 := cell_below (HW0.out.trans (HF.out.below.mono HW0.out.size)) hbp (hcell 3 _ rfl)
        have z4 := cell_below (HW0.out.trans (HF.out.below.mono HW0.out.size)) hbp (hcell 4 _ rfl)
        have z5 := cell_below (HW0.out.trans (HF.out.below.mono HW0.out.size)) hbp (hcell 5 _ rfl)
        have z6 := cell_below (HW0.out.trans (HF.out.below.mono HW0.out.size)) hbp (hcell 6 _ rfl)
        have z7 := cell_below (HW0.out.trans (HF.out.below.mono HW0.out.size)) hbp (hcell 7 _ rfl)
        simp only [Nat.add_zero] at z0
        clear hcell hrk hbk hst hnl hnr hbp hkr
        go_upto_region 6 with fail
        refine abs_wp fun W1 hW1 => ?_
        have HX1 := Lib.hid (show W1.heap[wr.heap.size]? = some (.cells #[.int .i64 opx, .slice ppx lx c1x, .slice qx mx dx, .int .i64 opy, .slice ppy ly c1y, .slice qy my dy, .bool bk, .bool st] 51) by rw [hW1]; exact heap_alloc_new _ _)
        have HD1 := Lib.hid (show Below wr.heap.size wr W1 by rw [hW1]; exact below_alloc1 _ _)
        obtain ⟨X, hX⟩ : ∃ X, X = wr.heap.size := ⟨_, rfl⟩
        rw [← hX] at HX1 ⊢
        have HXE := Lib.hid hX
        have HB1 := Lib.hid (HF.out.below.trans (HD1.out.mono HF.out.below.size))
        clear hW1 hX z0 z1 z2 z3 z4 z5 z6 z7 x0 x1 y0 y1
        obtain ⟨z0, z1, z2, z3, z4, z5, z6, z7⟩ := cells8 HX1.out
        have HS1 := Lib.hid (small9_any r.left W1 _ _ _ (HNL.out.to (HW0.out.trans (HB1.out.mono HW0.out.size)) (Nat.le_refl _)))
        cases hsl : smallB r.left
        · have HSR := Lib.hid (show smallR r = false by unfold smallR; rw [hsl]; rfl)
          rw [hsl] at HS1
          clear hsl
          go_wp2_with fail
          refine HS1.out.mono ?_
          rintro e w2 ⟨rfl, hb2⟩
          have HD2 := Lib.hid (HD1.out.trans (hb2.mono HD1.out.size))
          clear hb2 z0 z1 z2 z3 z4 z5 z6 z7
          have HNX := Lib.hid ((HF.out.keep HD2.out).next (by rw [HSN.out]; simp [HSR.out]))
          go_wp2_with fail
          go_roundw
          case rel => exact ⟨k + 1, by go_num, by omega, _, HNX.out⟩
          case measure => simp [intOf]; omega
        · have HSL := Lib.hid hsl
          rw [hsl] at HS1
          clear hsl
          go_wp2_with fail
          refine HS1.out.mono ?_
          rintro e w2 ⟨rfl, hb2⟩
          have HD2 := Lib.hid (HD1.out.trans (hb2.mono HD1.out.size))
          have HB2 := Lib.hid (HB1.out.trans (hb2.mono HB1.out.size))
          have HX2 := Lib.hid ((hb2.block _ (at_lt HX1.out)).trans HX1.out)
          clear hb2 z0 z1 z2 z3 z4 z5 z6 z7
          obtain ⟨z0, z1, z2, z3, z4, z5, z6, z7⟩ := cells8 HX2.out
          have HS2 := Lib.hid (small9_any r.right w2 _ _ _ (HNR.out.to (HW0.out.trans (HB2.out.mono HW0.out.size)) (Nat.le_refl _)))
          cases hsr : smallB r.right
          · have HSR := Lib.hid (show smallR r = false by unfold smallR; rw [hsr, Bool.and_false])
            rw [hsr] at HS2
            clear hsr
            go_wp2_with fail
            refine HS2.out.mono ?_
            rintro e w3 ⟨rfl, hb3⟩
            have HD3 := Lib.hid (HD2.out.trans (hb3.mono HD2.out.size))
            clear hb3 z0 z1 z2 z3 z4 z5 z6 z7
            have HNX := Lib.hid ((HF.out.keep HD3.out).next (by rw [HSN.out]; simp [HSR.out]))
            go_wp2_with fail
            go_roundw
            case rel => exact ⟨k + 1, by go_num, by omega, _, HNX.out⟩
            case measure => simp [intOf]; omega
          · have HSR := Lib.hid (show smallR r = true by unfold smallR; rw [HSL.out, hsr]; rfl)
            rw [hsr] at HS2
            clear hsr
            go_wp2_with fail
            refine HS2.out.mono ?_
            rintro e w3 ⟨rfl, hb3⟩
            have HD3 := Lib.hid (HD2.out.trans (hb3.mono HD2.out.size))
            have HX3 := Lib.hid ((hb3.block _ (at_lt HX2.out)).trans HX2.out)
            have HF3 := Lib.hid (HF.out.keep HD3.out)
            clear hb3 z0 z1 z2 z3 z4 z5 z6 z7
            obtain ⟨z0, z1, z2, z3, z4, z5, z6, z7⟩ := cells8 HX3.out
            obtain ⟨y0, y1⟩ := cells2 HF3.out.out
            have HAL := Lib.hid (below_alloc1 w3 (.cells #[.int .i64 opx, .slice ppx lx c1x, .slice qx mx dx, .int .i64 opy, .slice ppy ly c1y, .slice qy my dy, .bool bk, .bool st] 51))
            go_wp2_with (refine stop_at (.call { callee := .builtin .append, args := #[.tmp 41, .tmp 43], argTypes := #[23, 23] }) rfl ?_)
            refine ⟨?_⟩
            refine wpList_append_rules rfl (.tmp 41) (.tmp 43) rfl (.slice pq nq cq) (few9L (rs.take k)) nq HNQ.out.symm rfl (HF3.out.own.below HAL.out (Nat.le_refl _)) _ [r] 1 rfl rfl (ReadL.one w3 _ _ [.int .i64 opx, .slice ppx lx c1x, .slice qx mx dx, .int .i64 opy, .slice ppy ly c1y, .slice qy my dy, .bool bk, .bool st] ⟨rfl, by simp [Value.oneCell']⟩ HRI.out) (by omega) (Nat.le_trans HF3.out.below.size HAL.out.size) ?_
            intro p4 c4 w4 hown4 hg4 hlie4
            have hf4 : Fr (fun j => (Value.slice pq nq cq).ownBlock = some j) w3 w4 := (Fr.of_below HAL.out _).trans (Fr.grown (F := fun j => (Value.slice pq nq cq).ownBlock = some j) hg4 (fun k h => h)) (fun _ _ h => h)
            have hz4 : (w3.alloc (.cells #[.int .i64 opx, .slice ppx lx c1x, .slice qx mx dx, .int .i64 opy, .slice ppy ly c1y, .slice qy my dy, .bool bk, .bool st] 51)).heap.size = w3.heap.size + 1 := by simp
            rw [hz4] at hlie4
            have HF4 := Lib.hid hf4
            have HBO4 := Lib.hid ((hf4.block G (at_lt HF3.out.out) HF3.out.apart.2.2).trans HF3.out.out)
            have HFR := Lib.hid (Fr.setCell (F := fun j => j = G) w4 (p := ⟨G, 1, none⟩) rfl (.slice p4 (nq + 1) c4))
            have HNX := Lib.hid (show FewAt9 w0 w B G tB tG #[.slice pc nc cc, .slice (some ⟨bp, op, none⟩) m cr] (.slice pc' mn cc') #[.slice none 0 0, .slice none 0 0] rs (k + 1) (w4.setCell ⟨G, 1, none⟩ (.slice p4 (nq + 1) c4)) (.slice p4 (nq + 1) c4) from by
              have key : ∀ j, (Value.slice pq nq cq).ownBlock ≠ some j → j < w3.heap.size → (Value.slice p4 (nq + 1) c4).ownBlock ≠ some j := fun j h1 h2 he => by
                rcases hlie4 with h | h
                · exact h1 (h ▸ he)
                · rw [he] at h; injection h with h; omega
              have hap := key G HF3.out.apart.2.2 (at_lt HF3.out.out)
              have hgb := HGB.out
              refine ⟨(HFR.out.block B (by have h1 := at_lt HF3.out.box; have h2 := hf4.size; omega) (by omega)).trans ((hf4.block B (at_lt HF3.out.box) HF3.out.apart.1).trans HF3.out.box), (HFR.out.block (B + 1) (by have h1 := at_lt HF3.out.res; have h2 := hf4.size; omega) (by omega)).trans ((hf4.block (B + 1) (at_lt HF3.out.res) HF3.out.apart.2.1).trans HF3.out.res), blk_set HBO4.out 1 (.slice p4 (nq + 1) c4), ?_, ⟨key B HF3.out.apart.1 (at_lt HF3.out.box), key (B + 1) HF3.out.apart.2.1 (at_lt HF3.out.res), hap⟩, ?_⟩
              · rw [HSN.out, HSR.out]
                exact hown4.fr HFR.out (fun j hj he => hap (he ▸ hj))
              · exact (HF3.out.below.trans (hf4.below HF3.out.below.size (fun j hj => (HF3.out.own.lt j hj).1))).trans (HFR.out.below (by have h1 := HF3.out.below.size; have h2 := hf4.size; omega) (fun j hj => by have hj : j = G := hj; have h1 := HB.out; omega)))
            have x2 := (cells2 HBO4.out).2
            have f2 := fz_at HBO4.out 1
            clear hown4 hg4 hlie4 hf4 hz4 y0 y1 z0 z1 z2 z3 z4 z5 z6 z7
            go_wp2_with fail
            go_roundw
            case rel => exact ⟨k + 1, by go_num, by omega, _, HNX.out⟩
            case measure => simp [intOf]; omega
      · have HOUT := Lib.hid (show few9L (rs.take k) = few9L rs from by
          by_cases h : nq < 8
          · have hkm : k = rs.length := by have := HM.out; omega
            rw [hkm, List.take_length]
          · exact few9_full (by rw [← HNQ.out]; exact h))
        by_cases hkm : k < m
        · have hki : (k : Int) < m := by omega
          have hqi : ¬ (nq : Int) < 8 := by omega
          clear hgo
          go_wp2_with (refine wpList_store_obj rfl (.tmp 2) (.tmp 46) 25 rfl (B + 1) rfl [.slice pc' mn cc', .slice pq nq cq] rfl _ _ HF.out.res (by kernel_rfl) rfl (by simp [Value.oneCell']) ?_; intro w5 hb5 hf5)
          obtain ⟨s0, s1⟩ := cells2 hb5
          have hbe : Below w.heap.size w w5 := HF.out.below.trans (hf5.below HF.out.below.size (fun q hq => by have hq : q = B + 1 := hq; have := HB.out; omega))
          refine bodyPost_ret (v := .agg #[.slice pc' mn cc', .slice pq nq cq]) (by simp [results, Try.results10, go_sem, s0, s1]) rfl ⟨pc', cc', _, by rw [HMN.out], by rw [← HOUT.out]; exact HF.out.own.fr hf5 (fun q hq he => HF.out.apart.2.1 (he ▸ hq)), hbe⟩
        · have hki : ¬ (k : Int) < m := by omega
          clear hgo
          go_wp2_with (refine wpList_store_obj rfl (.tmp 2) (.tmp 46) 25 rfl (B + 1) rfl [.slice pc' mn cc', .slice pq nq cq] rfl _ _ HF.out.res (by kernel_rfl) rfl (by simp [Value.oneCell']) ?_; intro w5 hb5 hf5)
          obtain ⟨s0, s1⟩ := cells2 hb5
          have hbe : Below w.heap.size w w5 := HF.out.below.trans (hf5.below HF.out.below.size (fun q hq => by have hq : q = B + 1 := hq; have := HB.out; omega))
          refine bodyPost_ret (v := .agg #[.slice pc' mn cc', .slice pq nq cq]) (by simp [results, Try.results10, go_sem, s0, s1]) rfl ⟨pc', cc', _, by rw [HMN.out], by rw [← HOUT.out]; exact HF.out.own.fr hf5 (fun q hq he => HF.out.apart.2.1 (he ▸ hq)), hbe⟩
end Go.Proofs.Ytmooflmhbpckjaa

/-
  tables: the reference's Decide. No condition beyond what each theorem names.
-/
set_option linter.unusedVariables false
set_option linter.unusedSimpArgs false
namespace Go.Proofs.Ytmooflmhbpckjaa
open Go.RowKit Classical

def TabR (w : World) (T : Nat) (p0 p1 : Value) (br len : Nat) : Prop := w.heap[T]? = some (.cells #[p0, p1, .int .u64 (br : Nat), .int .i64 (len : Nat)] 42)

theorem q_bit {x k pw : Nat} (hx : x < 2 ^ 64) (hp : pw = 2 ^ k) : (IntKind.u64.wrap ((x : Int) / (pw : Int))).tmod 2 = if x.testBit k then 1 else 0 := by
  have e1 : ((x : Int) / (pw : Int)) = ((x / pw : Nat) : Int) := by simp
  have hle : x / pw ≤ x := Nat.div_le_self _ _
  rw [e1, Nat.testBit_eq_decide_div_mod_eq, ← hp]
  generalize x / pw = q at *
  rw [IntWalk.u64_in _ (by omega)]
  have e2 : ((q : Nat) : Int).tmod 2 = ((q % 2 : Nat) : Int) := by
    rw [Int.tmod_eq_emod_of_nonneg (by omega)]; omega
  rw [e2]
  by_cases h : q % 2 = 1
  · simp [h]
  · simp [h]; omega

set_option maxRecDepth 100000 in
set_option maxHeartbeats 8000000 in
theorem refDecide_any (w : World) (T : Nat) (p0 p1 : Value) (br len a b : Nat) (ht : TabR w T p0 p1 br len) (ha : a < 2 ^ 64) (hb : b < 2 ^ 64) (hbr : br < 2 ^ 64) (hlen : len ≤ 60) :
    Calls Try.prog 16 #[.pointer (some ⟨T, 0, none⟩), .int .u64 (a : Nat), .int .u64 (b : Nat)] w fun e w' => e = .returned (.bool (decB len (a &&& b) br)) ∧ w' = w := by
  obtain ⟨y0, y1, y2, y3⟩ := cells4 ht
  have HA := Lib.hid ha
  have HB := Lib.hid hb
  have HBR := Lib.hid hbr
  clear ha hb hbr ht
  go_enter Try.func16, Try.ntmps16
  go_wp2_with fail
  go_loopw [7] (fun i wz => ∃ k : Nat, i = .int .i64 k ∧ k ≤ len ∧ (∀ j, j < k → (a &&& b).testBit j = false) ∧ wz = w) (fun i _ => len - (intOf i).toNat)
  case atStart => exact ⟨0, rfl, by omega, fun j h => by omega, rfl⟩
  case round =>
    obtain ⟨k, rfl, hk, hbits, rfl⟩ := hrel
    have HBT := Lib.hid hbits
    clear hbits
    by_cases hkl : k < len
    · have hki : (k : Int) < len := by omega
      have hk0 : (0 : Int) ≤ k := by omega
      have hk64 : k ≤ 64 := by omega
      have hk64i : (k : Int) ≤ 64 := by omega
      have hw5 : IntKind.u64.wrap (k : Int) = (k : Int) := IntWalk.u64_in _ (by omega)
      have hwp := wrap_pow (k := k) (by omega)
      obtain ⟨pw, hpw⟩ : ∃ pw : Nat, pw = 2 ^ k := ⟨_, rfl⟩
      rw [← hpw] at hwp
      have hpw0 : 0 < pw := by rw [hpw]; exact Nat.two_pow_pos k
      have hpi : ¬ (pw : Int) = 0 := by omega
      have hpb : ((pw : Int) == 0) = false := beq_eq_false_iff_ne.2 hpi
      have HPW := Lib.hid hpw
      clear hpw
      have h1 := q_bit (k := k) HA.out HPW.out
      have h2 := q_bit (k := k) HB.out HPW.out
      have h3 := q_bit (k := k) HBR.out HPW.out
      cases ta : a.testBit k
      · have HTA := Lib.hid ta
        rw [ta] at h1
        simp only [Bool.false_eq_true, if_false] at h1
        clear ta h2 h3
        go_wp2_with fail
        go_roundw
        case rel => exact ⟨k + 1, by go_num, by omega, fun j hj => by
          by_cases e : j = k
          · rw [e, Nat.testBit_and]; rw [HTA.out]; simp
          · exact HBT.out j (by omega), by first | rfl | trivial⟩
        case measure => simp [intOf]; omega
      · have HTA := Lib.hid ta
        rw [ta] at h1
        simp only [if_true] at h1
        clear ta
        cases tb : b.testBit k
        · have HTB := Lib.hid tb
          rw [tb] at h2
          simp only [Bool.false_eq_true, if_false] at h2
          clear tb h3
          go_wp2_with fail
          go_roundw
          case rel => exact ⟨k + 1, by go_num, by omega, fun j hj => by
            by_cases e : j = k
            · rw [e, Nat.testBit_and]; rw [HTB.out]; simp
            · exact HBT.out j (by omega), by first | rfl | trivial⟩
          case measure => simp [intOf]; omega
        · have HR := Lib.hid (decB_hit (br := br) (x := a &&& b) hkl (by rw [Nat.testBit_and, HTA.out, tb]; rfl) HBT.out)
          rw [tb] at h2
          simp only [if_true] at h2
          clear tb
          cases tr' : br.testBit k
          · rw [tr'] at h3 HR
            simp only [Bool.false_eq_true, if_false] at h3
            clear tr'
            go_wp2_with fail
            go_ret
            exact ⟨ret_val (by rw [HR.out]; rfl), rfl⟩
          · rw [tr'] at h3 HR
            simp only [if_true] at h3
            clear tr'
            go_wp2_with fail
            go_ret
            exact ⟨ret_val (by rw [HR.out]; rfl), rfl⟩
    · have hki : ¬ (k : Int) < len := by omega
      have HR := Lib.hid (decB_end (br := br) (x := a &&& b) (len := len) (fun j hj => HBT.out j (by omega)))
      go_wp2_with fail
      go_ret
      exact ⟨ret_val (by rw [HR.out]; rfl), rfl⟩
end Go.Proofs.Ytmooflmhbpckjaa

/-
  A ruleset as an argument: how its rows are opened. Plain theorems; no condition.
-/
set_option linter.unusedVariables false
set_option linter.unusedSimpArgs false
set_option maxRecDepth 100000
namespace Go.Proofs.Ytmooflmhbpckjaa
open Go.ChangeShapes Go.WideShapes Go.ChangeAt Go.RowKit Go.Deep
section
variable {H : Type} {enc : TypeId × Value → H} {w : World} {base : Nat} {spare : Nat → Bool} {held : Bool}
theorem cellsRule : Try.prog.cellsOf 51 = 8 := by kernel_rfl
theorem cellsStr : Try.prog.cellsOf 9 = 1 := by kernel_rfl
theorem cellsStrs : Try.prog.cellsOf 22 = 1 := by kernel_rfl
theorem cellsRules : Try.prog.cellsOf 23 = 1 := by kernel_rfl
theorem cellsRuleset : Try.prog.cellsOf 25 = 2 := by kernel_rfl

theorem rule_of {fuel : Nat} {cs : List Value} {x : DataW H × List MemPlace} (h : DataW.trod enc Try.prog w base spare held fuel 51 cs = some x) (hs : Sized 51 x.1) : ∃ r, RuleIs w r cs := by
  obtain ⟨xs, n, rfl, rfl, hl, hlen, hf⟩ := DataW.trod_struct Try.underlying51 h
  rw [cellsRule] at hl
  match cs, hl with
  | [c0, c1, c2, c3, c4, c5, c6, c7], _ =>
    have hxl : xs.length = 4 := by simpa using hlen
    have h0 := hf 0 _ rfl
    have h1 := hf 1 _ rfl
    have h2 := hf 2 _ rfl
    have h3 := hf 3 _ rfl
    simp only [List.getElem_toArray, List.getElem_cons_zero, List.getElem_cons_succ, cellsNode, cellsBool] at h0 h1 h2 h3
    rw [List.getElem?_eq_getElem (show 0 < xs.length by omega)] at h0
    rw [List.getElem?_eq_getElem (show 1 < xs.length by omega)] at h1
    rw [List.getElem?_eq_getElem (show 2 < xs.length by omega)] at h2
    rw [List.getElem?_eq_getElem (show 3 < xs.length by omega)] at h3
    have hsz : ∀ (j : Nat) (t : TypeId) (hj : j < xs.length), [49, 49, 4, 4][j]? = some t → Sized t xs[j].1 := by
      intro j t hj ht n hn
      refine hs n ?_
      simp only [DataW.weights, Try.underlying51]
      exact DataW.weights_mem_each (j := j) (t := t) (d := xs[j].1) (by simpa using ht) (by simp [hj]) n hn
    obtain ⟨x1, a, b, c, e0, hx1⟩ := node_of _ h0 (hsz 0 _ (by omega) rfl)
    obtain ⟨x2, d, e, f, e1, hx2⟩ := node_of _ h1 (hsz 1 _ (by omega) rfl)
    obtain ⟨brk, e2, -⟩ := DataW.trod_bool Try.underlying4 h2
    obtain ⟨st, e3, -⟩ := DataW.trod_bool Try.underlying4 h3
    simp at e0 e1 e2 e3
    obtain ⟨rfl, rfl, rfl⟩ := e0
    obtain ⟨rfl, rfl, rfl⟩ := e1
    subst e2 e3
    exact ⟨⟨x1, x2, brk, st⟩, _, _, _, _, _, _, rfl, hx1, hx2⟩

theorem rules_of {fuel : Nat} {cs : List Value} {x : DataW H × List MemPlace} (h : DataW.trod enc Try.prog w base spare held fuel 23 cs = some x) (hs : Sized 23 x.1) : ∃ v rs, cs = [v] ∧ Rules w v rs ∧ rs.length ≤ maxLen := by
  obtain ⟨v, n, rows, D, -, rfl, hrows, -, hm, h4⟩ := slice_of Try.underlying23 (by rw [cellsRule]; omega) h hs
  rw [cellsRule] at hrows
  have hex : ∀ i, i < rows.length → ∃ r : Rl, ∃ row, rows[i]? = some row ∧ RuleIs w r row := by
    intro i hi
    obtain ⟨g1, g2⟩ := h4 i hi
    obtain ⟨r, hr⟩ := rule_of g1 g2
    exact ⟨r, _, List.getElem?_eq_getElem hi, hr⟩
  have : Inhabited Rl := ⟨⟨.mk 0 [] [], .mk 0 [] [], false, false⟩⟩
  obtain ⟨f, hf⟩ := choose_lt hex
  refine ⟨v, (List.range rows.length).map f, rfl, ⟨rows, hrows, by simp, fun i hi => ?_⟩, by simpa using hm⟩
  have hi' : i < rows.length := by simpa using hi
  obtain ⟨row, g1, g2⟩ := hf i hi'
  exact ⟨row, g1, by simpa using g2⟩


theorem ruleset_open {r : Reach} {b0 : Nat} {v : Value} {d : DataW H} {p : List MemPlace} (hv : Value.okWide Try.prog w r b0 25 v) (h : DataW.Trod enc Try.prog w base spare held 25 v d p) (hs : Sized 25 d) :
    ∃ pc nc cc rv rs, v = .agg #[.slice pc nc cc, rv] ∧ nc ≤ cc ∧ (0 < nc → ∃ a, pc = some a) ∧ nc ≤ maxLen ∧ Rules w rv rs ∧ rs.length ≤ maxLen := by
  obtain ⟨cs, rfl, -⟩ := okWide_struct Try.underlying25 hv
  obtain ⟨fuel, hf0⟩ := h
  obtain ⟨xs, n, rfl, e, hl, hlen, hf⟩ := DataW.trod_struct Try.underlying25 hf0
  obtain ⟨rfl, rfl⟩ := Prod.mk.inj e
  clear e
  rw [cellsRuleset] at hl
  obtain ⟨c0, c1, hcs⟩ : ∃ c0 c1, cs = #[c0, c1] := by
    have h2 : cs.toList.length = 2 := by simpa [Value.cells] using hl
    obtain ⟨l⟩ := cs
    match l, h2 with
    | [a, b], _ => exact ⟨a, b, rfl⟩
  subst hcs
  have hxl : xs.length = 2 := by simpa using hlen
  have h0 := hf 0 _ rfl
  have h1 := hf 1 _ rfl
  simp only [Value.cells, List.getElem_toArray, List.getElem_cons_zero, List.getElem_cons_succ, cellsStrs, cellsRules] at h0 h1
  rw [List.getElem?_eq_getElem (show 0 < xs.length by omega)] at h0
  rw [List.getElem?_eq_getElem (show 1 < xs.length by omega)] at h1
  have hsz : ∀ (j : Nat) (t : TypeId) (hj : j < xs.length), [22, 23][j]? = some t → Sized t xs[j].1 := by
    intro j t hj ht n hn
    refine hs n ?_
    simp only [DataW.weights, Try.underlying25]
    exact DataW.weights_mem_each (j := j) (t := t) (d := xs[j].1) (by simpa using ht) (by simp [hj]) n hn
  obtain ⟨v1, n1, rows, D, -, e1, ⟨hr1, hrows⟩, -, hm1, -⟩ := slice_of Try.underlying22 (by rw [cellsStr]; omega) h0 (hsz 0 _ (by omega) rfl)
  obtain ⟨v2, rs, e2, h3, h4⟩ := rules_of h1 (hsz 1 _ (by omega) rfl)
  simp at e1 e2
  subst e1 e2
  obtain ⟨pc, cc, rfl, hc, hp⟩ := hrows
  refine ⟨pc, rows.length, cc, _, rs, rfl, hc, fun hpos => ?_, hm1, h3, h4⟩
  rw [cellsStr] at hr1
  obtain ⟨b, off, e, -⟩ := hp (by rw [flatten_length hr1]; omega)
  exact ⟨_, e⟩
end
end Go.Proofs.Ytmooflmhbpckjaa

/-
  TablesDecide: the first rule that is in both counts. No condition beyond what each theorem names.
-/
set_option linter.unusedVariables false
set_option linter.unusedSimpArgs false
namespace Go.Proofs.Ytmooflmhbpckjaa
open Go.RowKit Classical

theorem breaks_lt (rs : List Rl) : breaksL rs < 2 ^ rs.length := by
  have h1 := bitsL_lt (rs.map fun r => r.brk)
  rwa [List.length_map] at h1
theorem breaks_get {rs : List Rl} {k : Nat} {r : Rl} (h : rs[k]? = some r) : (breaksL rs).testBit k = r.brk := by
  obtain ⟨hk, e⟩ := List.getElem?_eq_some_iff.1 h
  unfold breaksL
  rw [bitsL_get _ k (by rw [List.length_map]; exact hk), List.getElem_map, e]

theorem rules_of_read {w : World} {v : Value} {rs : List Rl} (h : ReadL (RuleIs w) 8 w v rs) : Rules w v rs := by
  obtain ⟨rows, h1, h2, h3, h4⟩ := h
  exact ⟨rows, ⟨fun r hr => (h3 r hr).1, by rw [h2]; exact h1⟩, h2, h4⟩

set_option maxRecDepth 100000 in
set_option maxHeartbeats 16000000 in
theorem decide_law (w : World) (pc : Option Addr) (nc cc : Nat) (hcc : nc ≤ cc) (hpc : 0 < nc → ∃ a, pc = some a) (rv : Value) (rs0 : List Rl) (hr : Rules w rv rs0) (hl : rs0.length ≤ 9223372036854775807) (a b : Nat) (ha : a < 2 ^ 64) (hb : b < 2 ^ 64) :
    Calls Try.prog 4 #[.agg #[.slice pc nc cc, rv], .int .u64 (a : Nat), .int .u64 (b : Nat)] w (Says true w) := by
  obtain ⟨pr, cr, rfl, -, -⟩ := hr.get
  have HR := Lib.hid hr
  have HPC := Lib.hid hpc
  have HA := Lib.hid ha
  have HB := Lib.hid hb
  have HL := Lib.hid hl
  obtain ⟨m0, hm0⟩ : ∃ m0, m0 = rs0.length := ⟨_, rfl⟩
  rw [← hm0]
  have HM0 := Lib.hid hm0
  clear hr hpc ha hb hl hm0
  go_enter Try.func4, Try.ntmps4
  go_upto_region 1 with fail
  refine abs_wp fun W hW => ?_
  obtain ⟨B, hB⟩ : ∃ B, B = w.heap.size := ⟨_, rfl⟩
  have hbx : W.heap[B]? = some (.cells #[.slice pc nc cc, .slice pr m0 cr] 25) := by rw [hW, hB]; exact heap_alloc_new _ _
  have hbe : Below w.heap.size w W := by rw [hW]; exact below_alloc1 _ _
  rw [← hB]
  have HBE := Lib.hid hbe
  have HBX := Lib.hid hbx
  have HBB := Lib.hid hB
  clear hW hbx hbe hB
  go_wp2_with fail
  refine (shown9 W).mono ?_
  rintro e w1 ⟨rfl, hb1⟩
  have HB1 := Lib.hid (HBE.out.trans (hb1.mono HBE.out.size))
  have HBX1 := Lib.hid ((hb1.block _ (at_lt HBX.out)).trans HBX.out)
  clear hb1
  obtain ⟨x0, x1⟩ := cells2 HBX1.out
  have HFW := Lib.hid (few9_any w w1 HB1.out pc nc cc hcc HPC.out (.slice pr m0 cr) rs0 (by have h := HR.out; rwa [← HM0.out] at h) HL.out)
  obtain ⟨rs, hrs⟩ : ∃ rs, rs = few9L rs0 := ⟨_, rfl⟩
  have hr8 : rs.length ≤ 8 := by rw [hrs]; exact few9_length _
  have HRS := Lib.hid hrs
  clear hrs
  go_wp2_with fail
  refine HFW.out.mono ?_
  rintro e w2 ⟨pc2, cc2, pv, rfl, hown, hb2⟩
  rw [← HRS.out] at hown
  obtain ⟨nn, hnn⟩ : ∃ nn, nn = min nc 30 := ⟨_, rfl⟩
  rw [← hnn]
  obtain ⟨pq, cq, hpv⟩ := hown.form
  subst hpv
  obtain ⟨m, hm⟩ : ∃ m, m = rs.length := ⟨_, rfl⟩
  rw [← hm] at hr8 hown ⊢
  have HM := Lib.hid hm
  have HOWN := Lib.hid hown
  have HBX2 := Lib.hid ((hb2.block _ (at_lt HBX1.out)).trans HBX1.out)
  have HB2 := Lib.hid (HB1.out.trans (hb2.mono HB1.out.size))
  have HS1 := Lib.hid (at_lt HBX1.out)
  clear hm hnn hown hb2 x0 x1 HFW
  go_wp2_with (refine stop_at (.store 25 (.tmp 3) (.tmp 14)) rfl ?_)
  refine ⟨?_⟩
  refine wpList_store_obj rfl (.tmp 3) (.tmp 14) 25 rfl B rfl [.slice pc2 nn cc2, .slice pq m cq] rfl _ _ HBX2.out (by kernel_rfl) rfl (by simp [Value.oneCell']) ?_
  intro w3 hb3 hf3
  have HB3 := Lib.hid (show Below w.heap.size w w3 from HB2.out.trans (hf3.below HB2.out.size (fun j hj => by have hj : j = B := hj; have := HBB.out; omega)))
  have HRU := Lib.hid (show Rules w3 (.slice pq m cq) rs from rules_of_read ((HOWN.out.fr hf3 (fun j hj he => by have he : j = B := he; have h1 := (HOWN.out.lt j hj).1; have h2 := HS1.out; omega)).read.monoE (fun x r hr => hr.to HB3.out (Nat.le_refl _))))
  have HBX3 := Lib.hid (show w3.heap[B]? = some (.cells #[.slice pc2 nn cc2, .slice pq m cq] 25) from hb3)
  have HCO := Lib.hid (compile_any w3 pc2 nn cc2 (.slice pq m cq) rs HRU.out (by have := HM.out; omega))
  obtain ⟨x0, x1⟩ := cells2 HBX3.out
  clear hb3 hf3
  go_wp2_with fail
  refine HCO.out.mono ?_
  rintro e w4 ⟨hb4, hcase⟩
  have HB4 := Lib.hid (HB3.out.trans (hb4.mono HB3.out.size))
  have HD4 := Lib.hid hb4
  clear hb4 HCO x0 x1
  rcases hcase with ⟨-, rfl⟩ | ⟨-, -, rfl⟩ | ⟨-, T, oa, ob, N, O, M, U, -, -, -, rfl, htab, -, -⟩
  · go_wp2_with fail
    go_ret
    exact ⟨rfl, HB4.out⟩
  · go_wp2_with fail
    go_ret
    exact ⟨rfl, HB4.out⟩
  · rw [← HM.out] at htab
    obtain ⟨br, hbr⟩ : ∃ br, br = breaksL rs := ⟨_, rfl⟩
    rw [← hbr] at htab
    have HBR := Lib.hid hbr
    have hbl : br < 2 ^ 64 := by
      have h1 := breaks_lt rs
      rw [← HM.out, ← hbr] at h1
      have h2 : (2 : Nat) ^ m ≤ 2 ^ 8 := Nat.pow_le_pow_right (by omega) hr8
      omega
    have HBL := Lib.hid hbl
    have HTAB := Lib.hid (show TabAt w4 T (.pointer (some ⟨oa, 0, none⟩)) (.pointer (some ⟨ob, 0, none⟩)) br m from htab)
    have HT4 := Lib.hid (show ∀ W, Below w4.heap.size w4 W → TabAt W T (.pointer (some ⟨oa, 0, none⟩)) (.pointer (some ⟨ob, 0, none⟩)) br m from fun W hW => (hW.block _ (at_lt HTAB.out)).trans HTAB.out)
    have HX4 := Lib.hid (show ∀ W, Below w4.heap.size w4 W → W.cell? ⟨B, 1, none⟩ = some (.slice pq m cq) from fun W hW => (cells2 ((hW.block _ (Nat.lt_of_lt_of_le (at_lt HBX3.out) HD4.out.size)).trans ((HD4.out.block _ (at_lt HBX3.out)).trans HBX3.out))).2)
    have HRW := Lib.hid (show ∀ W, Below w4.heap.size w4 W → ∀ (k : Nat) r, rs[k]? = some r → ∃ b off, pq = some ⟨b, off, none⟩ ∧ W.cell? ⟨b, off + k * 8 + 6, none⟩ = some (.bool r.brk) from fun W hW k r hk => by
      obtain ⟨p', c', he, -, hg⟩ := HRU.out.get
      injection he with he1
      subst he1
      obtain ⟨hk2, rfl⟩ := List.getElem?_eq_some_iff.1 hk
      obtain ⟨b, off, rfl, hbl2, hrow⟩ := hg (by omega)
      obtain ⟨row, hc, a', b', c', d', e', f', rfl, -, -⟩ := hrow k hk2
      exact ⟨b, off, rfl, cell_below (HD4.out.trans (hW.mono HD4.out.size)) hbl2 (hc 6 _ rfl)⟩)
    clear htab hbr hbl
    obtain ⟨y0, y1, y2, y3⟩ := cells4 HTAB.out
    go_upto_region 6 with fail
    refine wp_region_plan (fun W => Below w4.heap.size w4 W) (.reads [0, 1, 2, 3, 4, 5, 6, 7, 8] (.one 9 (.reads [10] .done))) 92 (by kernel_rfl) (by kernel_rfl) rfl (fun _ _ _ _ _ h => h) (Below.refl _ _).drew ?_
    apply plan_reads
    · intro W hW
      obtain ⟨t0, t1, t2, t3⟩ := cells4 (HT4.out W hW)
      clear hW
      repeat (refine wpRead_step (fun K hK => ?_); go_simp; refine hK _ ?_; clear hK K)
      exact wpRead_nil rfl
    refine abs_plan fun W0 hW0 => ?_
    have HB0 := Lib.hid (show Below w4.heap.size w4 W0 by rw [hW0]; exact (Below.refl _ _).drew)
    clear hW0
    refine plan_one rfl ?_
    go_wp2_with fail
    have HAL5 := Lib.hid (HB0.out.trans ((below_alloc1 W0 (.cells #[.pointer none, .pointer none, .int .u64 (br : Nat), .int .i64 (m : Nat)] 42)).mono HB0.out.size))
    refine Then.mk HAL5.out ?_
    refine abs_plan fun w5 hw5 => ?_
    obtain ⟨V, hV⟩ : ∃ V, V = W0.heap.size := ⟨_, rfl⟩
    have HD5 := Lib.hid (show Below w4.heap.size w4 w5 by rw [hw5]; exact HAL5.out)
    have HTR := Lib.hid (show TabR w5 V (.pointer none) (.pointer none) br m by unfold TabR; rw [hw5, hV]; exact heap_alloc_new _ _)
    rw [← hV]
    clear hw5 hV y0 y1 y2 y3
    apply plan_reads
    · intro W hW
      repeat (refine wpRead_step (fun K hK => ?_); go_simp; refine hK _ ?_; clear hK K)
      exact wpRead_nil rfl
    refine plan_done ?_
    have HW5 := Lib.hid (Below.refl w5.heap.size w5)
    go_wp2_with fail
    go_loopw [11] (fun i wz => ∃ k : Nat, i = .int .i64 k ∧ k ≤ m ∧ Below w5.heap.size w5 wz) (fun i _ => m - (intOf i).toNat)
    case atStart => exact ⟨0, rfl, by omega, HW5.out⟩
    case round =>
      obtain ⟨k, rfl, hk, hb⟩ := hrel
      have HK := Lib.hid hb
      have HKD := Lib.hid (HD5.out.trans (hb.mono HD5.out.size))
      have x1 := HX4.out wr HKD.out
      clear hb
      by_cases hkm : k < m
      · have hki : (k : Int) < m := by omega
        have hk0 : (0 : Int) ≤ k := by omega
        have hkr : k < rs.length := by rw [← HM.out]; exact hkm
        obtain ⟨r, hr⟩ : ∃ r, rs[k]? = some r := ⟨_, List.getElem?_eq_getElem hkr⟩
        obtain ⟨bb, off, rfl, c6⟩ := HRW.out wr HKD.out k r hr
        obtain ⟨t0, t1, t2, t3⟩ := cells4 (HT4.out wr HKD.out)
        obtain ⟨fb, hfb⟩ : ∃ fb, fb = r.brk := ⟨_, rfl⟩
        rw [← hfb] at c6
        have hbq : (bits .and .u64 ((br : Int) / 2 ^ k) 1 == 1) = fb := by
          rw [bit_at br k HBL.out, HBR.out, breaks_get hr, hfb]
          cases r.brk <;> rfl
        have hne : (fb != fb) = false := by cases fb <;> rfl
        clear hr hfb hkr
        go_upto_region 10 with fail
        go_quiet (fail)
        go_wp2_with fail
        exact ⟨⟨k + 1, by go_num, by omega, ⟨HK.out.os, HK.out.tape, HK.out.output, HK.out.size, HK.out.block⟩⟩, by simp [intOf]; omega⟩
      · have hki : ¬ (k : Int) < m := by omega
        clear x1
        have HT5 := Lib.hid (show ∀ W, Below wr.heap.size wr W → TabAt W T (.pointer (some ⟨oa, 0, none⟩)) (.pointer (some ⟨ob, 0, none⟩)) br m from fun W hW => HT4.out W (HKD.out.trans (hW.mono HKD.out.size)))
        have HX5 := Lib.hid (show ∀ W, Below wr.heap.size wr W → W.cell? ⟨B, 1, none⟩ = some (.slice pq m cq) from fun W hW => HX4.out W (HKD.out.trans (hW.mono HKD.out.size)))
        have HR5 := Lib.hid (show ∀ W, Below wr.heap.size wr W → TabR W V (.pointer none) (.pointer none) br m from fun W hW => ((HK.out.trans (hW.mono HK.out.size)).block _ (at_lt HTR.out)).trans HTR.out)
        have hd0 : decB m (0 &&& b) br = true := decB_end (fun j _ => by simp)
        have hd1 : decB m (a &&& 0) br = true := decB_end (fun j _ => by simp)
        have HZ0 := Lib.hid hd0
        have HZ1 := Lib.hid hd1
        obtain ⟨dv, hdv⟩ : ∃ dv, dv = decB m (a &&& b) br := ⟨_, rfl⟩
        have HDV := Lib.hid hdv
        have hdd : (dv == dv) = true := by cases dv <;> rfl
        clear hd0 hd1 hdv
        obtain ⟨q0, q1, q2, q3⟩ := cells4 (HT5.out wr (Below.refl _ _))
        have q4 := HX5.out wr (Below.refl _ _)
        go_upto_region 12 with fail
        clear q0 q1 q2 q3 q4
        refine wp_region_plan (fun W => Below wr.heap.size wr W) (.reads [0, 1, 2, 3, 4, 5, 6, 7, 8, 9, 10, 11, 12, 13, 14, 16, 17, 18] (.one 15 (.one 19 (.reads [20, 21, 22, 23, 24] (.one 25 (.reads [26, 27, 28, 29] (.one 30 (.reads [31, 32] .done)))))))) 92 (by kernel_rfl) (by kernel_rfl) rfl (fun _ _ _ _ _ h => h) (Below.refl _ _).drew ?_
        apply plan_reads
        · intro W hW
          obtain ⟨t0, t1, t2, t3⟩ := cells4 (HT5.out W hW)
          have t4 := HX5.out W hW
          clear hW
          repeat (refine wpRead_step (fun K hK => ?_); go_simp; refine hK _ ?_; clear hK K)
          exact wpRead_nil rfl
        refine abs_plan fun W6 hW6 => ?_
        have HB6 := Lib.hid (show Below wr.heap.size wr W6 by rw [hW6]; exact (Below.refl _ _).drew)
        clear hW6
        have HD1 := Lib.hid (decide_any W6 T _ _ br m a b (HT5.out W6 HB6.out) HA.out HB.out HBL.out (by omega))
        have HD2 := Lib.hid (refDecide_any W6 V _ _ br m a b (HR5.out W6 HB6.out) HA.out HB.out HBL.out (by omega))
        have HD3 := Lib.hid (show Calls Try.prog 15 #[.pointer (some ⟨T, 0, none⟩), .int .u64 0, .int .u64 (b : Nat)] W6 fun e w' => e = .returned (.bool (decB m (0 &&& b) br)) ∧ w' = W6 from decide_any W6 T _ _ br m 0 b (HT5.out W6 HB6.out) (by decide) HB.out HBL.out (by omega))
        have HD4' := Lib.hid (show Calls Try.prog 15 #[.pointer (some ⟨T, 0, none⟩), .int .u64 (a : Nat), .int .u64 0] W6 fun e w' => e = .returned (.bool (decB m (a &&& 0) br)) ∧ w' = W6 from decide_any W6 T _ _ br m a 0 (HT5.out W6 HB6.out) HA.out (by decide) HBL.out (by omega))
        rw [← HDV.out] at HD1 HD2
        rw [HZ0.out] at HD3
        rw [HZ1.out] at HD4'
        refine plan_one rfl ?_
        go_wp2_with fail
        refine HD1.out.mono ?_
        rintro e w' ⟨rfl, rfl⟩
        go_wp2_with fail
        refine Then.mk HB6.out ?_
        refine plan_one rfl ?_
        go_wp2_with fail
        refine HD2.out.mono ?_
        rintro e w' ⟨rfl, rfl⟩
        go_wp2_with fail
        refine Then.mk HB6.out ?_
        apply plan_reads
        · intro W hW
          clear hW
          repeat (refine wpRead_step (fun K hK => ?_); go_simp; refine hK _ ?_; clear hK K)
          exact wpRead_nil rfl
        refine plan_one rfl ?_
        go_wp2_with fail
        refine HD3.out.mono ?_
        rintro e w' ⟨rfl, rfl⟩
        go_wp2_with fail
        refine Then.mk HB6.out ?_
        apply plan_reads
        · intro W hW
          clear hW
          repeat (refine wpRead_step (fun K hK => ?_); go_simp; refine hK _ ?_; clear hK K)
          exact wpRead_nil rfl
        refine plan_one rfl ?_
        go_wp2_with fail
        refine HD4'.out.mono ?_
        rintro e w' ⟨rfl, rfl⟩
        go_wp2_with fail
        refine Then.mk HB6.out ?_
        apply plan_reads
        · intro W hW
          clear hW
          repeat (refine wpRead_step (fun K hK => ?_); go_simp; refine hK _ ?_; clear hK K)
          exact wpRead_nil rfl
        refine plan_done ?_
        go_wp2_with fail
        go_ret
        exact ⟨rfl, HB4.out.trans ((HKD.out.trans (HB6.out.mono HKD.out.size)).mono HB4.out.size)⟩
theorem u64_nat {n : Int} (h : (Lit.int .u64 n).wf = true) : ∃ x : Nat, n = x ∧ x < 2 ^ 64 := by
  simp [Lit.wf, IntKind.min, IntKind.max, IntKind.signed, IntKind.bits] at h
  refine ⟨n.toNat, by omega, ?_⟩
  omega
theorem decide_lawI (w : World) (pc : Option Addr) (nc cc : Nat) (hcc : nc ≤ cc) (hpc : 0 < nc → ∃ a, pc = some a) (rv : Value) (rs0 : List Rl) (hr : Rules w rv rs0) (hl : rs0.length ≤ maxLen) (a b : Int) (ha : (Lit.int .u64 a).wf = true) (hb : (Lit.int .u64 b).wf = true) :
    Calls Try.prog 4 #[.agg #[.slice pc nc cc, rv], .int .u64 a, .int .u64 b] w (Says true w) := by
  obtain ⟨x, rfl, hx⟩ := u64_nat ha
  obtain ⟨y, rfl, hy⟩ := u64_nat hb
  exact decide_law w pc nc cc hcc hpc rv rs0 hr (by unfold maxLen at hl; omega) x y hx hy
end Go.Proofs.Ytmooflmhbpckjaa

/-
  TablesDecide answers true for every input, and leaves it as it was. No condition.
-/
set_option linter.unusedVariables false
namespace Go.Proofs.Ytmooflmhbpckjaa
open Go.ChangeShapes Go.WideShapes Go.ChangeAt Go.RowKit

theorem tablesDecide_params : ∀ t ∈ Try.f4.params.toList, Try.prog.readableRec t = true ∧ t < Try.prog.types.size := by
  rw [Try.params4]
  intro t ht
  simp at ht
  rcases ht with rfl | rfl | rfl
  all_goals exact ⟨by kernel_rfl, of_decide_eq_true (by kernel_rfl)⟩

set_option maxRecDepth 100000 in
theorem tablesDecide_lifted (os : Os) (started : os.Started) (H : Type) (enc : TypeId × Value → H) :
    ReturnsInHanded {} Try.checked os 4 .any (Rows.tablesDecideSpec.pre6 enc Try.prog Try.f4 Rows.tablesDecideRow.domain false) (Rows.tablesDecideSpec.post enc Try.prog Try.f4 false true false false) := by
  refine returnsInHanded_of_change_sized (C := Try.checked) own started (by kernel_rfl) Try.func4
    (ChangeSpec.witness6 (enc := enc) (C := Try.checked) false ⟨#[], #[.agg #[.slice none 0 0, .slice none 0 0], .int .u64 0, .int .u64 0], []⟩ 8 (by kernel_rfl) (by kernel_rfl) (by kernel_rfl) (by kernel_rfl)) ?_
  intro W base args ds gs before hval0 hW hcnd hsz0 _
  have hval : ∀ (j : Nat) t v, Try.f4.params[j]? = some t → args[j]? = some v → Value.okWide Try.prog W .any base t v := hval0
  have hW' := hW
  obtain ⟨p, q, hA0, hV, rfl, hfz, hnd⟩ := hW
  have hA : DataW.TrodAll enc Try.prog W 0 (fun _ => true) true Try.f4.params.toList args.toList ds p := hA0
  have hsz : (DataW.weightsEach Try.prog (Try.f4.params.toList ++ Rows.tablesDecideSpec.plain.varTypes Try.prog) (ds ++ gs)).all (· ≤ reachBytes) = true := hsz0
  rw [Try.params4] at hA hval hsz
  obtain ⟨v0, vs0, d0, ds0, p0, q0, hargs, rfl, rfl, h0, rr0⟩ := trodAll_cons hA
  obtain ⟨v1, vs1, d1, ds1, p1, q1, rfl, rfl, rfl, h1, rr1⟩ := trodAll_cons rr0
  obtain ⟨v2, vs2, d2, ds2, p2, q2, rfl, rfl, rfl, h2, rr2⟩ := trodAll_cons rr1
  obtain ⟨rfl, rfl, rfl⟩ := trodAll_nil rr2
  obtain rfl : args = #[v0, v1, v2] := by cases args; simp_all
  have hs0 := sized_arg hsz 0 25 d0 rfl rfl
  obtain ⟨pc0, nc0, cc0, rv0, rs0, rfl, hcc0, hpc0, hnc0, hr0, hl0⟩ := ruleset_open (hval 0 25 v0 rfl rfl) h0 hs0
  obtain ⟨n1, rfl, rfl, rfl, hw1⟩ := open_int Try.underlying37 (hval 1 37 v1 rfl rfl) h1
  obtain ⟨n2, rfl, rfl, rfl, hw2⟩ := open_int Try.underlying37 (hval 2 37 v2 rfl rfl) h2
  refine (decide_lawI W pc0 nc0 cc0 hcc0 hpc0 rv0 rs0 hr0 hl0 n1 n2 hw1 hw2).mono fun e W' ⟨he, hb⟩ => ?_
  subst he
  refine ⟨_, rfl, law_post (t := 4) laidOut tablesDecide_params (by kernel_rfl) Try.underlying4 rfl ?_ hW' hb⟩
  intro ds hds
  match ds, hds with
  | [d0, d1, d2], _ => exact ⟨rfl, rfl, rfl⟩

theorem tablesDecide : Rows.TablesDecideSaid :=
  OpenClaim.holds_of_wide 4 Try.f4 rfl rfl rfl rfl rfl rfl rfl ⟨rfl, rfl, rfl, rfl, rfl⟩ rfl rfl rfl rfl rfl (by kernel_rfl) Try.func4 (by kernel_rfl)
    (of_decide_eq_true (by kernel_rfl)) (by unfold Func.isWrapper; first | (rw [if_pos (by decide +kernel)]; kernel_rfl) | (rw [if_neg (by decide +kernel)]; exact ⟨rfl, rfl⟩))
    (fun os started H enc _ => tablesDecide_lifted os started H enc)
#print axioms tablesDecide
end Go.Proofs.Ytmooflmhbpckjaa

