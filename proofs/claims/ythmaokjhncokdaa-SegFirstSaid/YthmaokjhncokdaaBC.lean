import Derived.Test.YthmaokjhncokdaaB9
import Derived.Test.YthmaokjhncokdaaB2
import Derived.WalkMore
import Derived.ScopeJumps
/-
  tables: Compile. No condition beyond what each theorem names.
-/
set_option linter.unusedVariables false
set_option linter.unusedSimpArgs false
namespace Go.Proofs.Ythmaokjhncokdaa
open Go.RowKit Classical

/-- an expression, by its cells, with where its parts lie -/
def exprF (F : Nat → Prop) (w : World) (x : Nd × Bool) (row : List Value) : Prop := ∃ a b c, row = [a, b, c, .bool x.2] ∧ NodeF F w x.1 a b c
theorem exprF.fr {F G : Nat → Prop} {w w' : World} {x : Nd × Bool} {row : List Value} (h : exprF F w x row) (hf : Fr G w w') (hg : ∀ k, F k → ¬ G k) : exprF F w' x row := by
  obtain ⟨a, b, c, rfl, h⟩ := h
  exact ⟨a, b, c, rfl, h.fr hf hg⟩
theorem exprF.below {F : Nat → Prop} {B : Nat} {w w' : World} {x : Nd × Bool} {row : List Value} (h : exprF F w x row) (hb : Below B w w') (hB : w.heap.size ≤ B) : exprF F w' x row := by
  obtain ⟨a, b, c, rfl, h⟩ := h
  exact ⟨a, b, c, rfl, NodeF.below hb hB _ h⟩
theorem exprF.mono {F G : Nat → Prop} {w : World} {x : Nd × Bool} {row : List Value} (h : exprF F w x row) (hg : ∀ k, F k → G k) : exprF G w x row := by
  obtain ⟨a, b, c, rfl, h⟩ := h
  exact ⟨a, b, c, rfl, NodeF.mono hg _ h⟩
theorem exprF.is {F : Nat → Prop} {w : World} {x : Nd × Bool} {row : List Value} (h : exprF F w x row) : exprE w x row := by
  obtain ⟨a, b, c, rfl, h⟩ := h
  exact ⟨a, b, c, rfl, h.is⟩

/-- where the turned expressions lie: not in the tables, not in the lists themselves -/
def FC (B T : Nat) (w : World) (lv rv : Value) (j : Nat) : Prop := B ≤ j ∧ j < w.heap.size ∧ j ≠ T ∧ lv.ownBlock ≠ some j ∧ rv.ownBlock ≠ some j

theorem cells4 {w : World} {B : Nat} {a b c d : Value} {T : TypeId} (hb : w.heap[B]? = some (.cells #[a, b, c, d] T)) : w.cell? ⟨B, 0, none⟩ = some a ∧ w.cell? ⟨B, 1, none⟩ = some b ∧ w.cell? ⟨B, 2, none⟩ = some c ∧ w.cell? ⟨B, 3, none⟩ = some d := by
  refine ⟨?_, ?_, ?_, ?_⟩ <;> simp [World.cell?, hb]
theorem cells2 {w : World} {B : Nat} {a b : Value} {T : TypeId} (hb : w.heap[B]? = some (.cells #[a, b] T)) : w.cell? ⟨B, 0, none⟩ = some a ∧ w.cell? ⟨B, 1, none⟩ = some b := by
  constructor <;> simp [World.cell?, hb]

/-- behind k rules -/
structure CompAt (w : World) (B T m : Nat) (box : Array Value) (rs : List Rl) (k : Nat) (W : World) (lv rv : Value) (br : Nat) (p0 p1 : Value) : Prop where
  bx : W.heap[B]? = some (.cells box 25)
  tab : W.heap[T]? = some (.cells #[p0, p1, .int .u64 (br : Nat), .int .i64 (m : Nat)] 39)
  lo : OwnL (exprE w) 81 4 B W lv (leftsL (rs.take k))
  ro : OwnL (exprF (FC B T W lv rv) W) 81 4 B W rv (rightsL (rs.take k))
  sep : ∀ j, lv.ownBlock = some j → rv.ownBlock ≠ some j
  lT : lv.ownBlock ≠ some T ∧ lv.ownBlock ≠ some B
  rT : rv.ownBlock ≠ some T ∧ rv.ownBlock ≠ some B
  right : ∀ r ∈ rs.take k, RightX r.left ∧ RightX r.right
  below : Below B w W

theorem CompAt.store {w : World} {B T m : Nat} {box : Array Value} {rs : List Rl} {k : Nat} {W : World} {lv rv : Value} {br : Nat} {p0 p1 : Value} (h : CompAt w B T m box rs k W lv rv br p0 p1) (hBT : B < T) (v : Nat) : CompAt w B T m box rs k (W.setCell ⟨T, 2, none⟩ (.int .u64 (v : Nat))) lv rv v p0 p1 := by
  have hf := Fr.setCell (F := fun j => j = T) W (p := ⟨T, 2, none⟩) rfl (.int .u64 (v : Nat))
  refine ⟨(hf.block B (at_lt h.bx) (by omega)).trans h.bx, blk_set h.tab 2 (.int .u64 (v : Nat)), h.lo.fr hf (fun j hj he => h.lT.1 (he ▸ hj)), ?_, h.sep, h.lT, h.rT, h.right, h.below.trans (hf.below (by have := at_lt h.bx; omega) (fun j hj => by have hj : j = T := hj; omega))⟩
  exact (h.ro.fr hf (fun j hj he => h.rT.1 (he ▸ hj))).mono fun x r hx => (hx.fr hf (fun j hj he => hj.2.2.1 he)).mono fun j ⟨f1, f2, f3, f4, f5⟩ => ⟨f1, Nat.lt_of_lt_of_le f2 hf.size, f3, f4, f5⟩

theorem CompAt.keep {w : World} {B T m : Nat} {box : Array Value} {rs : List Rl} {k : Nat} {W W' : World} {lv rv : Value} {br : Nat} {p0 p1 : Value} (h : CompAt w B T m box rs k W lv rv br p0 p1) (hb : Below W.heap.size W W') : CompAt w B T m box rs k W' lv rv br p0 p1 :=
  ⟨(hb.block _ (at_lt h.bx)).trans h.bx, (hb.block _ (at_lt h.tab)).trans h.tab, h.lo.below hb (Nat.le_refl _), (h.ro.below hb (Nat.le_refl _)).mono fun x r hx => (hx.below hb (Nat.le_refl _)).mono fun j ⟨f1, f2, f3, f4, f5⟩ => ⟨f1, Nat.lt_of_lt_of_le f2 hb.size, f3, f4, f5⟩, h.sep, h.lT, h.rT, h.right, h.below.trans (hb.mono (Nat.le_of_lt (at_lt h.bx)))⟩

theorem CompAt.put0 {w : World} {B T m : Nat} {box : Array Value} {rs : List Rl} {k : Nat} {W : World} {lv rv : Value} {br : Nat} {p0 p1 : Value} (h : CompAt w B T m box rs k W lv rv br p0 p1) (hBT : B < T) (v : Value) : CompAt w B T m box rs k (W.setCell ⟨T, 0, none⟩ v) lv rv br v p1 := by
  have hf := Fr.setCell (F := fun j => j = T) W (p := ⟨T, 0, none⟩) rfl v
  refine ⟨(hf.block B (at_lt h.bx) (by omega)).trans h.bx, blk_set h.tab 0 v, h.lo.fr hf (fun j hj he => h.lT.1 (he ▸ hj)), ?_, h.sep, h.lT, h.rT, h.right, h.below.trans (hf.below (by have := at_lt h.bx; omega) (fun j hj => by have hj : j = T := hj; omega))⟩
  exact (h.ro.fr hf (fun j hj he => h.rT.1 (he ▸ hj))).mono fun x r hx => (hx.fr hf (fun j hj he => hj.2.2.1 he)).mono fun j ⟨f1, f2, f3, f4, f5⟩ => ⟨f1, Nat.lt_of_lt_of_le f2 hf.size, f3, f4, f5⟩
theorem CompAt.put1 {w : World} {B T m : Nat} {box : Array Value} {rs : List Rl} {k : Nat} {W : World} {lv rv : Value} {br : Nat} {p0 p1 : Value} (h : CompAt w B T m box rs k W lv rv br p0 p1) (hBT : B < T) (v : Value) : CompAt w B T m box rs k (W.setCell ⟨T, 1, none⟩ v) lv rv br p0 v := by
  have hf := Fr.setCell (F := fun j => j = T) W (p := ⟨T, 1, none⟩) rfl v
  refine ⟨(hf.block B (at_lt h.bx) (by omega)).trans h.bx, blk_set h.tab 1 v, h.lo.fr hf (fun j hj he => h.lT.1 (he ▸ hj)), ?_, h.sep, h.lT, h.rT, h.right, h.below.trans (hf.below (by have := at_lt h.bx; omega) (fun j hj => by have hj : j = T := hj; omega))⟩
  exact (h.ro.fr hf (fun j hj he => h.rT.1 (he ▸ hj))).mono fun x r hx => (hx.fr hf (fun j hj he => hj.2.2.1 he)).mono fun j ⟨f1, f2, f3, f4, f5⟩ => ⟨f1, Nat.lt_of_lt_of_le f2 hf.size, f3, f4, f5⟩
theorem CompAt.lefts {w : World} {B T m : Nat} {box : Array Value} {rs : List Rl} {k : Nat} {W : World} {lv rv : Value} {br : Nat} {p0 p1 : Value} (h : CompAt w B T m box rs k W lv rv br p0 p1) (hB : B = w.heap.size) : ReadL (exprE W) 4 W lv (leftsL (rs.take k)) :=
  h.lo.read.monoE (fun x r hr => by
    obtain ⟨a, b, c, rfl, hn⟩ := hr
    exact ⟨a, b, c, rfl, hn.to h.below (by omega)⟩)
theorem CompAt.rights {w : World} {B T m : Nat} {box : Array Value} {rs : List Rl} {k : Nat} {W : World} {lv rv : Value} {br : Nat} {p0 p1 : Value} (h : CompAt w B T m box rs k W lv rv br p0 p1) : ReadL (exprE W) 4 W rv (rightsL (rs.take k)) :=
  h.ro.read.monoE (fun x r hr => hr.is)

/-- what one machine comes to: it is there, or there are too many states -/
def ResB (n : Nat) (l : List (Nd × Bool)) (W : World) (q : Option Addr) (lim : Int) : Prop :=
  (lim = 0 ∧ ∃ ob N O, q = some ⟨ob, 0, none⟩ ∧ Built (autoE l) outN n (some (N, O.map some)) ∧ MachD W ob n N O) ∨ (lim = 7 ∧ q = none ∧ Built (autoE l) outN n none)
theorem ResB.to {n : Nat} {l : List (Nd × Bool)} {W W' : World} {q : Option Addr} {lim : Int} (h : ResB n l W q lim) (hb : Below W.heap.size W W') : ResB n l W' q lim := by
  rcases h with ⟨h1, ob, N, O, h2, h3, h4⟩ | h
  · exact .inl ⟨h1, ob, N, O, h2, h3, h4.to hb⟩
  · exact .inr h
theorem ResB.ptr {n : Nat} {l : List (Nd × Bool)} {W : World} {q : Option Addr} {lim : Int} {T i : Nat} {q' : Option Addr} {u : Value} (h : ResB n l W q lim) (hp : W.cell? ⟨T, i, none⟩ = some (.pointer q')) : ResB n l (W.setCell ⟨T, i, none⟩ u) q lim := by
  rcases h with ⟨h1, ob, N, O, h2, h3, h4⟩ | h
  · exact .inl ⟨h1, ob, N, O, h2, h3, h4.ptr hp⟩
  · exact .inr h

theorem take_snoc {rs : List Rl} {k : Nat} {r : Rl} (hr : rs[k]? = some r) : rs.take (k + 1) = rs.take k ++ [r] := by
  rw [List.take_add_one, hr]; rfl
theorem leftsL_snoc {rs : List Rl} {k : Nat} {r : Rl} (hr : rs[k]? = some r) : leftsL (rs.take (k + 1)) = leftsL (rs.take k) ++ [(r.left, r.start)] := by
  unfold leftsL
  rw [take_snoc hr, List.map_append]; rfl
theorem rightsL_snoc {rs : List Rl} {k : Nat} {r : Rl} (hr : rs[k]? = some r) : rightsL (rs.take (k + 1)) = rightsL (rs.take k) ++ [(revX r.right, false)] := by
  unfold rightsL
  rw [take_snoc hr, List.map_append]; rfl
theorem breaksL_snoc {rs : List Rl} {k : Nat} {r : Rl} (hr : rs[k]? = some r) : breaksL (rs.take (k + 1)) = breaksL (rs.take k) + (if r.brk then 2 ^ k else 0) := by
  have hk := (List.getElem?_eq_some_iff.1 hr).1
  unfold breaksL
  rw [take_snoc hr, List.map_append, List.map_cons, List.map_nil, bitsL_snoc]
  simp [Nat.min_eq_left (Nat.le_of_lt hk)]
theorem lefts_length {rs : List Rl} {k : Nat} (hk : k ≤ rs.length) : (leftsL (rs.take k)).length = k := by unfold leftsL; simp; omega
theorem rights_length {rs : List Rl} {k : Nat} (hk : k ≤ rs.length) : (rightsL (rs.take k)).length = k := by unfold rightsL; simp; omega

/-- a scope that is left by a jump to a label ahead -/
theorem wp_scope_ahead {P : Program} {c rest : Code} {Q : Exit → Act → World → Prop} {a : Act} {w : World} (l : Nat) (hf : findLabel c l = some rest) (first : c.wp P (Exit.jump l (fun a w => rest.wp P (Exit.noGoto Q) a w) Q) a w) : (Code.scope c).wp P Q a w :=
  wp_scope_jumps l _ (fun _ _ => 0) hf first (fun a w h => wp_mono h (fun e a w h => by
    cases e with
    | goto l' => exact h.elim
    | normal => exact h
    | exit id => exact h
    | ret => exact h
    | panic ch => exact h
    | outgrown => exact h))
theorem jump_go {l : Nat} {J : Act → World → Prop} {Q : Exit → Act → World → Prop} {a : Act} {w : World} (h : J a w) : Exit.jump l J Q (.goto l) a w := ⟨rfl, h⟩
theorem Exit.jump_ret {l : Nat} {J : Act → World → Prop} {Q : Exit → Act → World → Prop} {a : Act} {w : World} : Exit.jump l J Q .ret a w = Q .ret a w := rfl

def CompPost (w : World) (n : Nat) (rs : List Rl) (e : Ending) (w' : World) : Prop := Below w.heap.size w w' ∧
  ((¬ CompOk n rs ∧ e = .returned (.tuple #[.pointer none, .int .i64 1])) ∨
   (CompOk n rs ∧ (Built (autoE (leftsL rs)) outN n none ∨ Built (autoE (rightsL rs)) outN n none) ∧ e = .returned (.tuple #[.pointer none, .int .i64 7])) ∨
   (CompOk n rs ∧ ∃ T oa ob N O M U, w.heap.size ≤ T ∧ Built (autoE (leftsL rs)) outN n (some (N, O.map some)) ∧ Built (autoE (rightsL rs)) outN n (some (M, U.map some)) ∧ e = .returned (.tuple #[.pointer (some ⟨T, 0, none⟩), .int .i64 0]) ∧
     w'.heap[T]? = some (.cells #[.pointer (some ⟨oa, 0, none⟩), .pointer (some ⟨ob, 0, none⟩), .int .u64 (breaksL rs : Nat), .int .i64 (rs.length : Nat)] 39) ∧ MachD w' oa n N O ∧ MachD w' ob n M U))

set_option maxRecDepth 100000 in
set_option maxHeartbeats 16000000 in
theorem compile_any (w : World) (pc : Option Addr) (nc cc : Nat) (rv : Value) (rs : List Rl) (hr : Rules w rv rs) (hl : rs.length ≤ 1000000) :
    Calls Try.prog 17 #[.agg #[.slice pc nc cc, rv]] w (CompPost w nc rs) := by
  obtain ⟨pr, cr, rfl, hcr, hget⟩ := hr.get
  obtain ⟨m, hm⟩ : ∃ m, m = rs.length := ⟨_, rfl⟩
  have HGET := Lib.hid (show ∀ i r, rs[i]? = some r → ∃ b off, pr = some ⟨b, off, none⟩ ∧ b < w.heap.size ∧ ∃ row, cellsAt w b (off + i * 8) row ∧ RuleIs w r row from fun i r h => by
    obtain ⟨hi, rfl⟩ := List.getElem?_eq_some_iff.1 h
    obtain ⟨b, off, e, h1, h2⟩ := hget (by omega)
    exact ⟨b, off, e, h1, h2 i hi⟩)
  have HM := Lib.hid hm
  rw [← hm] at hl hcr ⊢
  clear hr hget hm
  go_enter Try.func17, Try.ntmps17
  go_wp2_with fail
  refine wp_scope_ahead 0 (by rfl) ?_
  go_upto_region 3 with fail
  refine abs_wp fun W hW => ?_
  obtain ⟨hbw, hbx, htb⟩ := two_allocs w _ _ W hW
  obtain ⟨B, hB⟩ : ∃ B, B = w.heap.size := ⟨_, rfl⟩
  obtain ⟨T, hT⟩ : ∃ T, T = w.heap.size + 1 := ⟨_, rfl⟩
  rw [← hT] at htb
  rw [← hB] at hbx
  have HBW := Lib.hid hbw
  have HBX := Lib.hid hbx
  have HTB := Lib.hid htb
  have HB := Lib.hid hB
  have HT := Lib.hid hT
  have HSZ := Lib.hid (show W.heap.size = w.heap.size + 2 by rw [hW]; simp)
  rw [← hT, ← hB]
  obtain ⟨x0, x1⟩ := cells2 hbx
  clear hW hbw hbx htb hB hT
  by_cases h40 : 40 < m
  · have h40i : (40 : Int) < m := by omega
    have HNO := Lib.hid (show ¬ CompOk nc rs from fun h => by have := h.1; have := HM.out; omega)
    go_wp2_with fail
    go_step3
    refine jump_go (Q := fun _ _ _ => True) ?_
    go_wp2_with fail
    rw [Exit.noGoto_ret]
    go_ret2
    exact ⟨HBW.out, .inl ⟨HNO.out, rfl⟩⟩
  · have h40i : ¬ (40 : Int) < m := by omega
    have HC0 := Lib.hid (show CompAt w B T m #[.slice pc nc cc, .slice pr m cr] rs 0 W (.slice none 0 0) (.slice none 0 0) 0 (.pointer none) (.pointer none) from ⟨HBX.out, HTB.out, OwnL.nil _, OwnL.nil _, fun j h => by simp [Value.ownBlock] at h, by simp [Value.ownBlock], by simp [Value.ownBlock], fun r h => by simp at h, by rw [HB.out]; exact HBW.out⟩)
    go_wp2_with fail
    go_loopw [4, 5, 27] (fun lv rv i wz => ∃ k : Nat, i = .int .i64 k ∧ k ≤ m ∧ CompAt w B T m #[.slice pc nc cc, .slice pr m cr] rs k wz lv rv (breaksL (rs.take k)) (.pointer none) (.pointer none)) (fun _ _ i _ => m - (intOf i).toNat)
    case atStart => exact ⟨0, rfl, by omega, HC0.out⟩
    case round =>
      obtain ⟨k, rfl, hk, hc⟩ := hrel
      have HC := Lib.hid hc
      obtain ⟨pl, cl1, hlv⟩ := hc.lo.form
      rw [lefts_length (by rw [← HM.out]; exact hk)] at hlv
      obtain ⟨pq, cq1, hrv⟩ := hc.ro.form
      rw [rights_length (by rw [← HM.out]; exact hk)] at hrv
      subst hlv hrv
      have HBS := Lib.hid (show Below w.heap.size w wr by rw [← HB.out]; exact hc.below)
      clear x0 x1
      obtain ⟨x0, x1⟩ := cells2 hc.bx
      clear hc
      by_cases hkm : k < m
      · have hki : (k : Int) < m := by omega
        have hk0 : (0 : Int) ≤ k := by omega
        have hkr : k < rs.length := by rw [← HM.out]; exact hkm
        obtain ⟨r, hrk⟩ : ∃ r, rs[k]? = some r := ⟨_, List.getElem?_eq_getElem hkr⟩
        obtain ⟨bp, op, rfl, hbp, row, hcell, hri⟩ := HGET.out k r hrk
        have HKR := Lib.hid hkr
        obtain ⟨a1, b1, c1, d1, e1, f1, rfl, hnl, hnr⟩ := hri
        have HRK := Lib.hid hrk
        obtain ⟨opx, ppx, lx, c1x, qx, mx, dx, rfl, rfl, rfl⟩ := hnl.form
        obtain ⟨opy, ppy, ly, c1y, qy, my, dy, rfl, rfl, rfl⟩ := hnr.form
        have HNL := Lib.hid hnl
        have HNR := Lib.hid hnr
        obtain ⟨bk, hbk⟩ : ∃ bk, bk = r.brk := ⟨_, rfl⟩
        obtain ⟨st, hst⟩ : ∃ st, st = r.start := ⟨_, rfl⟩
        rw [← hbk, ← hst] at hcell
        have HBK := Lib.hid (And.intro hbk hst)
        have y0 := cell_below HBS.out hbp (hcell 0 _ rfl)
        have y1 := cell_below HBS.out hbp (hcell 1 _ rfl)
        have y2 := cell_below HBS.out hbp (hcell 2 _ rfl)
        have y3 := cell_below HBS.out hbp (hcell 3 _ rfl)
        have y4 := cell_below HBS.out hbp (hcell 4 _ rfl)
        have y5 := cell_below HBS.out hbp (hcell 5 _ rfl)
        have y6 := cell_below HBS.out hbp (hcell 6 _ rfl)
        have y7 := cell_below HBS.out hbp (hcell 7 _ rfl)
        simp only [Nat.add_zero] at y0
        clear hcell hrk hbk hst hnl hnr hbp hkr
        go_upto_region 9 with fail
        refine abs_wp fun W1 hW1 => ?_
        have HX1 := Lib.hid (show W1.heap[wr.heap.size]? = some (.cells #[.int .i64 opx, .slice ppx lx c1x, .slice qx mx dx, .int .i64 opy, .slice ppy ly c1y, .slice qy my dy, .bool bk, .bool st] 54) by rw [hW1]; exact heap_alloc_new _ _)
        have HD1 := Lib.hid (show Below wr.heap.size wr W1 by rw [hW1]; exact below_alloc1 _ _)
        have HS1 := Lib.hid (show wr.heap.size < W1.heap.size by rw [hW1]; simp)
        have HB1 := Lib.hid (HBS.out.trans (HD1.out.mono HBS.out.size))
        obtain ⟨X, hX⟩ : ∃ X, X = wr.heap.size := ⟨_, rfl⟩
        rw [← hX] at HX1 ⊢
        have HXE := Lib.hid hX
        clear hW1 hX y0 y1 y2 y3 y4 y5 y6 y7 x0 x1
        obtain ⟨z0, z1, z2, z3, z4, z5, z6, z7⟩ := cells8 HX1.out
        have HRL := Lib.hid (right_any r.left W1 _ _ _ (HNL.out.to HB1.out (Nat.le_refl _)))
        cases hrl : rightB r.left
        · have HNO := Lib.hid (show ¬ CompOk nc rs from fun h => by
            have h1 := (h.2.1 r (List.mem_of_getElem? HRK.out)).1
            rw [rightB_iff.2 h1] at hrl
            cases hrl)
          rw [hrl] at HRL
          clear hrl
          go_wp2_with fail
          refine HRL.out.mono ?_
          rintro e w2 ⟨rfl, hb2⟩
          have HB2 := Lib.hid (HB1.out.trans (hb2.mono HB1.out.size))
          clear hb2 z0 z1 z2 z3 z4 z5 z6 z7
          go_wp2_with fail
          go_step3
          refine jump_go (Q := fun _ _ _ => True) ?_
          go_wp2_with fail
          rw [Exit.noGoto_ret]
          go_ret2
          exact ⟨HB2.out, .inl ⟨HNO.out, rfl⟩⟩
        · have HL1 := Lib.hid (rightB_iff.1 hrl)
          rw [hrl] at HRL
          clear hrl
          go_wp2_with fail
          refine HRL.out.mono ?_
          rintro e w2 ⟨rfl, hb2⟩
          have HD2 := Lib.hid (HD1.out.trans (hb2.mono HD1.out.size))
          have HB2 := Lib.hid (HB1.out.trans (hb2.mono HB1.out.size))
          have HX2 := Lib.hid ((hb2.block _ (at_lt HX1.out)).trans HX1.out)
          clear hb2 z0 z1 z2 z3 z4 z5 z6 z7
          obtain ⟨z0, z1, z2, z3, z4, z5, z6, z7⟩ := cells8 HX2.out
          have HRR := Lib.hid (right_any r.right w2 _ _ _ (HNR.out.to HB2.out (Nat.le_refl _)))
          cases hrl : rightB r.right
          · have HNO := Lib.hid (show ¬ CompOk nc rs from fun h => by
              have h1 := (h.2.1 r (List.mem_of_getElem? HRK.out)).2
              rw [rightB_iff.2 h1] at hrl
              cases hrl)
            rw [hrl] at HRR
            clear hrl
            go_wp2_with fail
            refine HRR.out.mono ?_
            rintro e w3 ⟨rfl, hb3⟩
            have HB3 := Lib.hid (HB2.out.trans (hb3.mono HB2.out.size))
            clear hb3 z0 z1 z2 z3 z4 z5 z6 z7
            go_wp2_with fail
            go_step3
            refine jump_go (Q := fun _ _ _ => True) ?_
            go_wp2_with fail
            rw [Exit.noGoto_ret]
            go_ret2
            exact ⟨HB3.out, .inl ⟨HNO.out, rfl⟩⟩
          · have HR1 := Lib.hid (rightB_iff.1 hrl)
            rw [hrl] at HRR
            clear hrl
            go_wp2_with fail
            refine HRR.out.mono ?_
            rintro e w3 ⟨rfl, hb3⟩
            have HD3 := Lib.hid (HD2.out.trans (hb3.mono HD2.out.size))
            have HB3 := Lib.hid (HB2.out.trans (hb3.mono HB2.out.size))
            have HX3 := Lib.hid ((hb3.block _ (at_lt HX2.out)).trans HX2.out)
            clear hb3 z0 z1 z2 z3 z4 z5 z6 z7
            obtain ⟨z0, z1, z2, z3, z4, z5, z6, z7⟩ := cells8 HX3.out
            obtain ⟨lv, hlv⟩ : ∃ lv, lv = Value.slice pl k cl1 := ⟨_, rfl⟩
            obtain ⟨rv, hrv⟩ : ∃ rv, rv = Value.slice pq k cq1 := ⟨_, rfl⟩
            have HLV := Lib.hid hlv
            have HRV := Lib.hid hrv
            have HCV := Lib.hid (show CompAt w B T m #[.slice pc nc cc, .slice (some ⟨bp, op, none⟩) m cr] rs k wr lv rv (breaksL (rs.take k)) (.pointer none) (.pointer none) by rw [hlv, hrv]; exact HC.out)
            clear hlv hrv
            have HAL := Lib.hid (below_alloc1 w3 (.cells #[.int .i64 opx, .slice ppx lx c1x, .slice qx mx dx, .bool st] 81))
            have HE := Lib.hid (show exprE w (r.left, r.start) [.int .i64 opx, .slice ppx lx c1x, .slice qx mx dx, .bool st] from ⟨_, _, _, by rw [HBK.out.2], HNL.out⟩)
            go_wp2_with (refine stop_at (.call { callee := .builtin .append, args := #[.tmp 42, .tmp 48], argTypes := #[79, 79] }) rfl ?_)
            refine ⟨?_⟩
            refine wpList_append_exprs rfl (.tmp 42) (.tmp 48) rfl lv (leftsL (rs.take k)) k (lefts_length (by rw [← HM.out]; exact hk)) HLV.out.symm ((HCV.out.lo.below HD3.out (Nat.le_refl _)).below HAL.out (Nat.le_refl _)) _ [(r.left, r.start)] 1 rfl rfl (ReadL.one w3 _ _ [.int .i64 opx, .slice ppx lx c1x, .slice qx mx dx, .bool st] ⟨rfl, by simp [Value.oneCell']⟩ HE.out) (by omega) (by have h1 := HD3.out.size; have h2 := at_lt HCV.out.bx; have h3 := HAL.out.size; omega) ?_
            intro p4 c4 w4 hown4 hg4 hlie4
            have hf4 : Fr (fun j => lv.ownBlock = some j) w3 w4 := (Fr.of_below HAL.out _).trans (Fr.grown (F := fun j => lv.ownBlock = some j) hg4 (fun k h => h)) (fun _ _ h => h)
            have hz4 : (w3.alloc (.cells #[.int .i64 opx, .slice ppx lx c1x, .slice qx mx dx, .bool st] 81)).heap.size = w3.heap.size + 1 := by simp
            rw [hz4] at hlie4
            have HF4 := Lib.hid hf4
            have HLI4 := Lib.hid hlie4
            have HO4 := Lib.hid hown4
            have HS4 := Lib.hid (show w3.heap.size + 1 ≤ w4.heap.size by have := hg4.size; omega)
            have HBS4 := Lib.hid (show Below B w w4 from (HCV.out.below.trans (HD3.out.mono (Nat.le_of_lt (at_lt HCV.out.bx)))).trans (hf4.below (by have h1 := HD3.out.size; have h2 := at_lt HCV.out.bx; omega) (fun j hj => (HCV.out.lo.lt j hj).1)))
            have HBW4 := Lib.hid (show Below w.heap.size w w4 by rw [← HB.out]; exact HBS4.out)
            have HX4 := Lib.hid ((hf4.block X (at_lt HX3.out) (fun he => by have h1 := (HCV.out.lo.lt _ he).2; have h2 := HXE.out; omega)).trans HX3.out)
            clear hown4 hg4 hlie4 hf4 hz4 z0 z1 z2 z3 z4 z5 z6 z7 HAL HE
            obtain ⟨z0, z1, z2, z3, z4, z5, z6, z7⟩ := cells8 HX4.out
            have HREV := Lib.hid (rev_x r.right w4 _ _ _ (HNR.out.to HBW4.out (Nat.le_refl _)))
            go_wp2_with fail
            refine HREV.out.mono ?_
            rintro e w5 ⟨ra, rb, rc, rfl, hn5, hb5⟩
            have HN5 := Lib.hid hn5.lt
            obtain ⟨op5, pp5, l5, c5, q5, m5, d5, rfl, rfl, rfl⟩ := hn5.is.form
            have HD5 := Lib.hid hb5
            have HX5 := Lib.hid ((hb5.block _ (at_lt HX4.out)).trans HX4.out)
            clear hn5 hb5 z0 z1 z2 z3 z4 z5 z6 z7 HREV
            have HAL := Lib.hid (below_alloc1 w5 (.cells #[.int .i64 op5, .slice pp5 l5 c5, .slice q5 m5 d5, .bool false] 81))
            obtain ⟨lv4, hlv4⟩ : ∃ lv4, lv4 = Value.slice p4 (k + 1) c4 := ⟨_, rfl⟩
            rw [← hlv4] at HLI4 HO4
            have HLV4 := Lib.hid hlv4
            clear hlv4
            have HLT := Lib.hid (show ∀ j, lv4.ownBlock = some j → j < w4.heap.size from fun j hj => (HO4.out.lt j hj).2)
            have HNEW := Lib.hid (show ReadL (exprF (FC B T w5 lv4 rv) (w5.alloc (.cells #[.int .i64 op5, .slice pp5 l5 c5, .slice q5 m5 d5, .bool false] 81))) 4 (w5.alloc (.cells #[.int .i64 op5, .slice pp5 l5 c5, .slice q5 m5 d5, .bool false] 81)) (.slice (some ⟨w5.heap.size, 0, none⟩) 1 1) [(revX r.right, false)] from
              ReadL.one w5 _ _ [.int .i64 op5, .slice pp5 l5 c5, .slice q5 m5 d5, .bool false] ⟨rfl, by simp [Value.oneCell']⟩ (exprF.below (F := FC B T w5 lv4 rv) ⟨_, _, _, rfl, NodeF.mono (fun j hj => by
                have h1 := HS4.out
                have h2 := HD3.out.size
                have h3 := at_lt HCV.out.tab
                have h4 := at_lt HCV.out.bx
                refine ⟨by omega, hj.2, by omega, fun he => by have := HLT.out j he; omega, fun he => by have := (HCV.out.ro.lt j he).2; omega⟩) _ HN5.out⟩ HAL.out (Nat.le_refl _)))
            have HRO5 := Lib.hid (show OwnL (exprF (FC B T w5 lv4 rv) (w5.alloc (.cells #[.int .i64 op5, .slice pp5 l5 c5, .slice q5 m5 d5, .bool false] 81))) 81 4 B (w5.alloc (.cells #[.int .i64 op5, .slice pp5 l5 c5, .slice q5 m5 d5, .bool false] 81)) rv (rightsL (rs.take k)) from
              ((((HCV.out.ro.below HD3.out (Nat.le_refl _)).fr HF4.out (fun j hj he => HCV.out.sep j he hj)).below HD5.out (Nat.le_refl _)).below HAL.out (Nat.le_refl _)).mono fun x row hx =>
                ((((hx.below HD3.out (Nat.le_refl _)).fr HF4.out (fun j hj he => hj.2.2.2.1 he)).below HD5.out (Nat.le_refl _)).below HAL.out (Nat.le_refl _)).mono fun j hj => by
                  obtain ⟨f1, f2, f3, f4, f5⟩ := hj
                  have h1 := HS4.out
                  have h2 := HD3.out.size
                  have h3 := HD5.out.size
                  refine ⟨f1, by omega, f3, fun he => ?_, f5⟩
                  rcases HLI4.out with h | h
                  · exact f4 (h ▸ he)
                  · rw [he] at h; injection h with h; omega)
            go_wp2_with (refine stop_at (.call { callee := .builtin .append, args := #[.tmp 50, .tmp 55], argTypes := #[79, 79] }) rfl ?_)
            refine ⟨?_⟩
            refine wpList_append_exprs rfl (.tmp 50) (.tmp 55) rfl rv (rightsL (rs.take k)) k (rights_length (by rw [← HM.out]; exact hk)) HRV.out.symm HRO5.out _ [(revX r.right, false)] 1 rfl rfl HNEW.out (by omega) (by have h1 := HD3.out.size; have h2 := at_lt HCV.out.bx; have h3 := HS4.out; have h4 := HD5.out.size; have h5 := HAL.out.size; omega) ?_
            intro p6 c6 w6 hown6 hg6 hlie6
            have hf6 : Fr (fun j => rv.ownBlock = some j) w5 w6 := (Fr.of_below HAL.out _).trans (Fr.grown (F := fun j => rv.ownBlock = some j) hg6 (fun k h => h)) (fun _ _ h => h)
            have hg6' : Fr (fun j => rv.ownBlock = some j) (w5.alloc (.cells #[.int .i64 op5, .slice pp5 l5 c5, .slice q5 m5 d5, .bool false] 81)) w6 := Fr.grown (F := fun j => rv.ownBlock = some j) hg6 (fun k h => h)
            have hz6 : (w5.alloc (.cells #[.int .i64 op5, .slice pp5 l5 c5, .slice q5 m5 d5, .bool false] 81)).heap.size = w5.heap.size + 1 := by simp
            rw [hz6] at hlie6
            have hs6 : w5.heap.size + 1 ≤ w6.heap.size := by have := hg6.size; omega
            obtain ⟨rv6, hrv6⟩ : ∃ rv6, rv6 = Value.slice p6 (k + 1) c6 := ⟨_, rfl⟩
            rw [← hrv6] at hown6 hlie6
            have HRV6 := Lib.hid hrv6
            have HMID := Lib.hid (show CompAt w B T m #[.slice pc nc cc, .slice (some ⟨bp, op, none⟩) m cr] rs (k + 1) w6 lv4 rv6 (breaksL (rs.take k)) (.pointer none) (.pointer none) from by
              have s3 := HD3.out.size
              have s4 := HS4.out
              have s5 := HD5.out.size
              have lbx := at_lt HCV.out.bx
              have ltb := at_lt HCV.out.tab
              have hlr : ∀ j, lv4.ownBlock = some j → rv.ownBlock ≠ some j := fun j hj he => by
                rcases HLI4.out with h | h
                · exact HCV.out.sep j (h ▸ hj) he
                · rw [hj] at h; injection h with h
                  have := (HCV.out.ro.lt j he).2
                  omega
              have blk : ∀ j o, wr.heap[j]? = some o → lv.ownBlock ≠ some j → rv.ownBlock ≠ some j → w6.heap[j]? = some o := fun j o hj h1 h2 => by
                have hl := at_lt hj
                exact (hf6.block j (by omega) h2).trans ((HD5.out.block j (by omega)).trans ((HF4.out.block j (by omega) h1).trans ((HD3.out.block j hl).trans hj)))
              refine ⟨blk B _ HCV.out.bx HCV.out.lT.2 HCV.out.rT.2, blk T _ HCV.out.tab HCV.out.lT.1 HCV.out.rT.1, ?_, ?_, ?_, ?_, ?_, ?_, ?_⟩
              · rw [leftsL_snoc HRK.out]
                exact (HO4.out.below HD5.out (Nat.le_refl _)).fr hf6 (fun j hj he => hlr j hj he)
              · rw [rightsL_snoc HRK.out]
                exact hown6.mono fun x row hx => (hx.fr hg6' (fun j hj he => hj.2.2.2.2 he)).mono fun j hj => by
                  obtain ⟨f1, f2, f3, f4, f5⟩ := hj
                  refine ⟨f1, by omega, f3, f4, fun he => ?_⟩
                  rcases hlie6 with h | h
                  · exact f5 (h ▸ he)
                  · rw [he] at h; injection h with h; omega
              · intro j hj he
                rcases hlie6 with h | h
                · exact hlr j hj (h ▸ he)
                · rw [he] at h; injection h with h
                  have := HLT.out j hj
                  omega
              · have key : ∀ j, lv.ownBlock ≠ some j → j < wr.heap.size → lv4.ownBlock ≠ some j := fun j h1 h2 he => by
                  rcases HLI4.out with h | h
                  · exact h1 (h ▸ he)
                  · rw [he] at h; injection h with h; omega
                exact ⟨key T HCV.out.lT.1 ltb, key B HCV.out.lT.2 lbx⟩
              · have key : ∀ j, rv.ownBlock ≠ some j → j < wr.heap.size → rv6.ownBlock ≠ some j := fun j h1 h2 he => by
                  rcases hlie6 with h | h
                  · exact h1 (h ▸ he)
                  · rw [he] at h; injection h with h; omega
                exact ⟨key T HCV.out.rT.1 ltb, key B HCV.out.rT.2 lbx⟩
              · intro r' hr'
                rw [take_snoc HRK.out] at hr'
                rcases List.mem_append.1 hr' with h | h
                · exact HCV.out.right r' h
                · rw [List.mem_singleton.1 h]; exact ⟨HL1.out, HR1.out⟩
              · exact (HBS4.out.trans (HD5.out.mono (by omega))).trans (hf6.below (by omega) (fun j hj => (HCV.out.ro.lt j hj).1)))
            have HX6 := Lib.hid ((hf6.block X (at_lt HX5.out) (fun he => by have h1 := (HCV.out.ro.lt _ he).2; have h2 := HXE.out; omega)).trans HX5.out)
            have HBSN := Lib.hid (show breaksL (rs.take (k + 1)) = breaksL (rs.take k) + (if r.brk then 2 ^ k else 0) by
              exact breaksL_snoc HRK.out)
            have HBT := Lib.hid (show B < T by have := HB.out; have := HT.out; omega)
            clear hown6 hg6 hlie6 hf6 hz6 hs6 hg6' hrv6
            obtain ⟨z0, z1, z2, z3, z4, z5, z6, z7⟩ := cells8 HX6.out
            cases bk
            · have HEND := Lib.hid (show CompAt w B T m #[.slice pc nc cc, .slice (some ⟨bp, op, none⟩) m cr] rs (k + 1) w6 (.slice p4 (k + 1) c4) (.slice p6 (k + 1) c6) (breaksL (rs.take (k + 1))) (.pointer none) (.pointer none) by
                rw [HBSN.out, ← HBK.out.1, ← HLV4.out, ← HRV6.out]
                exact HMID.out)
              go_wp2_with fail
              go_roundw
              case rel => exact ⟨k + 1, by go_num, by omega, HEND.out⟩
              case measure => simp [intOf]; omega
            · obtain ⟨br, hbr⟩ : ∃ br, br = breaksL (rs.take k) := ⟨_, rfl⟩
              rw [← hbr] at HMID HBSN
              have HBR := Lib.hid hbr
              clear hbr
              go_upto_region 13 with fail
              refine wp_region_plan (fun _ => True) (.reads [0, 1, 2, 4, 5] (.one 3 (.reads [6, 7, 8] (.one 9 .done)))) 112 (by kernel_rfl) (by kernel_rfl) rfl (fun _ _ _ _ _ h => h) trivial ?_
              apply plan_reads
              · intro W' hW'
                repeat (refine wpRead_step (fun K hK => ?_); go_simp; refine hK _ ?_; clear hK K)
                exact wpRead_nil rfl
              refine abs_plan fun W0 hW0 => ?_
              have HB0 := Lib.hid (show Below w6.heap.size w6 W0 by rw [hW0]; exact (Below.refl _ _).drew)
              clear hW0
              have HM0 := Lib.hid (HMID.out.keep HB0.out)
              have x2 : W0.cell? ⟨T, 2, none⟩ = some (.int .u64 (br : Nat)) := by simp [World.cell?, HM0.out.tab]
              have f2 := fz_at HM0.out.tab 2
              refine plan_one rfl ?_
              go_wp2_with fail
              refine Then.mk trivial ?_
              apply plan_reads
              · intro W' hW'
                repeat (refine wpRead_step (fun K hK => ?_); go_simp; refine hK _ ?_; clear hK K)
                exact wpRead_nil rfl
              refine plan_one rfl ?_
              go_wp2_with fail
              refine Then.mk trivial ?_
              refine plan_done ?_
              have hval : bits .or .u64 (br : Int) (IntKind.u64.wrap (2 ^ k)) = ((breaksL (rs.take (k + 1)) : Nat) : Int) := by
                have hlen : ((rs.take k).map fun r => r.brk).length = k := by have := HKR.out; simp; omega
                have h := bits_put ((rs.take k).map fun r => r.brk) (by rw [hlen]; omega)
                rw [hlen] at h
                have e1 : breaksL (rs.take (k + 1)) = bitsL (((rs.take k).map fun r => r.brk) ++ [true]) := by
                  unfold breaksL
                  rw [take_snoc HRK.out, List.map_append, List.map_cons, List.map_nil, ← HBK.out.1]
                rw [e1, ← h, HBR.out]
                rfl
              have HEND := Lib.hid (show CompAt w B T m #[.slice pc nc cc, .slice (some ⟨bp, op, none⟩) m cr] rs (k + 1) (W0.setCell ⟨T, 2, none⟩ (.int .u64 (bits .or .u64 (br : Int) (IntKind.u64.wrap (2 ^ k))))) (.slice p4 (k + 1) c4) (.slice p6 (k + 1) c6) (breaksL (rs.take (k + 1))) (.pointer none) (.pointer none) by
                rw [hval, ← HLV4.out, ← HRV6.out]
                exact HM0.out.store HBT.out _)
              clear hval
              go_wp2_with fail
              go_roundw
              case rel => exact ⟨k + 1, by go_num, by omega, HEND.out⟩
              case measure => simp [intOf]; omega
      · have hki : ¬ (k : Int) < m := by omega
        obtain rfl : k = m := by omega
        have htk : rs.take k = rs := List.take_of_length_le (by rw [← HM.out]; exact Nat.le_refl _)
        have HTK := Lib.hid htk
        have HK40 := Lib.hid (show k ≤ 40 by omega)
        have HBT := Lib.hid (show B < T by have := HB.out; have := HT.out; omega)
        clear htk hki hkm
        go_upto_region 15 with fail
        refine wp_region_plan (fun _ => True) (.reads [0, 1, 2, 3, 4, 5, 6, 7, 8, 9, 12] (.one 10 (.reads [11] .done))) 112 (by kernel_rfl) (by kernel_rfl) rfl (fun _ _ _ _ _ h => h) trivial ?_
        apply plan_reads
        · intro W' hW'
          repeat (refine wpRead_step (fun K hK => ?_); go_simp; refine hK _ ?_; clear hK K)
          exact wpRead_nil rfl
        refine abs_plan fun W0 hW0 => ?_
        have HB0 := Lib.hid (show Below wr.heap.size wr W0 by rw [hW0]; exact (Below.refl _ _).drew)
        clear hW0
        refine plan_one rfl ?_
        go_wp2_with fail
        refine Then.mk trivial ?_
        refine abs_plan fun W1 hW1 => ?_
        obtain ⟨A, hA⟩ : ∃ A, A = W0.heap.size := ⟨_, rfl⟩
        obtain ⟨tA, hTA⟩ : ∃ tA, W1.heap[A]? = some (.cells #[.pointer (some ⟨T, 0, none⟩), .slice pl k cl1, .pointer (some ⟨T, 1, none⟩), .slice pq k cq1] tA) := ⟨_, by rw [hW1, hA]; exact heap_alloc_new _ _⟩
        have HA0 := Lib.hid hTA
        have HCA := Lib.hid (HC.out.keep (HB0.out.trans (show Below wr.heap.size W0 W1 by rw [hW1]; exact (below_alloc1 W0 _).mono HB0.out.size)))
        have HTA := Lib.hid (show T < A by rw [hA]; exact Nat.lt_of_lt_of_le (at_lt HC.out.tab) HB0.out.size)
        rw [← hA]
        clear hW1 hA hTA
        apply plan_reads
        · intro W' hW'
          repeat (refine wpRead_step (fun K hK => ?_); go_simp; refine hK _ ?_; clear hK K)
          exact wpRead_nil rfl
        refine plan_done ?_
        have HN0 := Lib.hid (show ∀ h : ResB nc (leftsL rs) wr none 5, True from fun _ => trivial)
        clear x0 x1
        go_wp2_with fail
        go_loopw [7, 8, 81] (fun e lim i wz => e = .int .i64 1 ∧ wz.heap[A]? = some (.cells #[.pointer (some ⟨T, 0, none⟩), .slice pl k cl1, .pointer (some ⟨T, 1, none⟩), .slice pq k cq1] tA) ∧
          ((i = .int .i64 0 ∧ lim = .int .i64 0 ∧ CompAt w B T k #[.slice pc nc cc, .slice pr k cr] rs k wz (.slice pl k cl1) (.slice pq k cq1) (breaksL rs) (.pointer none) (.pointer none)) ∨
           (i = .int .i64 1 ∧ ∃ l0 q0, lim = .int .i64 l0 ∧ ArgOk nc (leftsL rs) ∧ ResB nc (leftsL rs) wz q0 l0 ∧ CompAt w B T k #[.slice pc nc cc, .slice pr k cr] rs k wz (.slice pl k cl1) (.slice pq k cq1) (breaksL rs) (.pointer q0) (.pointer none)) ∨
           (i = .int .i64 2 ∧ ∃ l0 l1 q0 q1, lim = .int .i64 (if l1 = 0 then l0 else l1) ∧ ArgOk nc (leftsL rs) ∧ ArgOk nc (rightsL rs) ∧ ResB nc (leftsL rs) wz q0 l0 ∧ ResB nc (rightsL rs) wz q1 l1 ∧ CompAt w B T k #[.slice pc nc cc, .slice pr k cr] rs k wz (.slice pl k cl1) (.slice pq k cq1) (breaksL rs) (.pointer q0) (.pointer q1)))) (fun _ _ i _ => 2 - (intOf i).toNat)
        case atStart => exact ⟨rfl, HA0.out, .inl ⟨rfl, rfl, by have h := HCA.out; rwa [HTK.out] at h⟩⟩
        case round =>
          obtain ⟨rfl, ha, hcase⟩ := hrel
          have HA1 := Lib.hid ha
          clear ha
          rcases hcase with ⟨rfl, rfl, hc⟩ | ⟨rfl, l0, q0, rfl, hao, hres, hc⟩ | ⟨rfl, l0, l1, q0, q1, rfl, hao, hao1, hres, hres1, hc⟩
          · have HC2 := Lib.hid hc
            obtain ⟨d0, d1, d2, d3⟩ := cells4 HA1.out
            go_upto_region 18 with fail
            refine abs_wp fun W1 hW1 => ?_
            obtain ⟨tX, hX⟩ : ∃ tX, W1.heap[wr.heap.size]? = some (.cells #[.pointer (some ⟨T, 0, none⟩), .slice pl k cl1] tX) := ⟨_, by rw [hW1]; exact heap_alloc_new _ _⟩
            have hb1 : Below wr.heap.size wr W1 := by rw [hW1]; exact below_alloc1 _ _
            obtain ⟨X, hXe⟩ : ∃ X, X = wr.heap.size := ⟨_, rfl⟩
            rw [← hXe] at hX ⊢
            have HX1 := Lib.hid hX
            have HCW := Lib.hid (HC2.out.keep hb1)
            have HA2 := Lib.hid ((hb1.block _ (at_lt HA1.out)).trans HA1.out)
            have HRS1 := Lib.hid trivial
            clear hW1 hX hb1 hXe hc d0 d1 d2 d3
            obtain ⟨e0, e1⟩ := cells2 HX1.out
            obtain ⟨x0, x1⟩ := cells2 HCW.out.bx
            have HBU := Lib.hid (build_any W1 (.slice pl k cl1) (leftsL rs) nc (by have h := HCW.out.lefts HB.out; rwa [HTK.out] at h) (by have h1 := HM.out; have h2 := HK40.out; unfold leftsL; rw [List.length_map]; omega))
            go_wp2_with fail
            refine HBU.out.mono ?_
            rintro e W2 ⟨hb2, hcase⟩
            simp only [Int.toNat_natCast] at hcase
            have HCX := Lib.hid (HCW.out.keep hb2)
            have HA3 := Lib.hid ((hb2.block _ (at_lt HA2.out)).trans HA2.out)
            have HX2 := Lib.hid ((hb2.block _ (at_lt HX1.out)).trans HX1.out)
            have HBW2 := Lib.hid (show Below w.heap.size w W2 by rw [← HB.out]; exact HCX.out.below)
            clear e0 e1 x0 x1 hb2 HBU
            obtain ⟨e0, e1⟩ := cells2 HX2.out
            obtain ⟨y0, y1, y2, y3⟩ := cells4 HCX.out.tab
            have f0 := fz_at HCX.out.tab 0
            have HY := Lib.hid y0
            rcases hcase with ⟨hno, rfl⟩ | ⟨hok, hbu, rfl⟩ | ⟨hok, ob, N, O, -, hbu, rfl, hmd⟩
            · have HNO := Lib.hid (show ¬ CompOk nc rs from fun h => hno h.2.2.1)
              clear hno
              go_wp2_with fail
              go_step3
              refine jump_go (Q := fun _ _ _ => True) ?_
              go_wp2_with fail
              rw [Exit.noGoto_ret]
              go_ret2
              exact ⟨HBW2.out, .inl ⟨HNO.out, rfl⟩⟩
            · have HOK := Lib.hid hok
              have HBU2 := Lib.hid hbu
              have HFIN := Lib.hid (HCX.out.put0 HBT.out (.pointer none))
              have HAF := Lib.hid (((Fr.setCell (F := fun j => j = T) W2 (p := ⟨T, 0, none⟩) rfl (.pointer none)).block A (at_lt HA3.out) (by have := HTA.out; omega)).trans HA3.out)
              clear hok hbu 
              go_wp2_with fail
              go_roundw
              case rel => exact ⟨rfl, HAF.out, .inr (.inl ⟨rfl, 7, none, rfl, HOK.out, .inr ⟨rfl, rfl, HBU2.out⟩, HFIN.out⟩)⟩
              case measure => simp [intOf]
            · have HOK := Lib.hid hok
              have HBU2 := Lib.hid hbu
              have HMD2 := Lib.hid hmd
              have HFIN := Lib.hid (HCX.out.put0 HBT.out (.pointer (some ⟨ob, 0, none⟩)))
              have HAF := Lib.hid (((Fr.setCell (F := fun j => j = T) W2 (p := ⟨T, 0, none⟩) rfl (.pointer (some ⟨ob, 0, none⟩))).block A (at_lt HA3.out) (by have := HTA.out; omega)).trans HA3.out)
              clear hok hbu hmd
              go_wp2_with fail
              go_roundw
              case rel => exact ⟨rfl, HAF.out, .inr (.inl ⟨rfl, 0, some ⟨ob, 0, none⟩, rfl, HOK.out, .inl ⟨rfl, ob, N, O, rfl, HBU2.out, HMD2.out.ptr HY.out⟩, HFIN.out⟩)⟩
              case measure => simp [intOf]
          · have HC2 := Lib.hid hc
            have HRS := Lib.hid hres
            have HAO := Lib.hid hao
            clear hres hao 
            obtain ⟨d0, d1, d2, d3⟩ := cells4 HA1.out
            go_upto_region 18 with fail
            refine abs_wp fun W1 hW1 => ?_
            obtain ⟨tX, hX⟩ : ∃ tX, W1.heap[wr.heap.size]? = some (.cells #[.pointer (some ⟨T, 1, none⟩), .slice pq k cq1] tX) := ⟨_, by rw [hW1]; exact heap_alloc_new _ _⟩
            have hb1 : Below wr.heap.size wr W1 := by rw [hW1]; exact below_alloc1 _ _
            obtain ⟨X, hXe⟩ : ∃ X, X = wr.heap.size := ⟨_, rfl⟩
            rw [← hXe] at hX ⊢
            have HX1 := Lib.hid hX
            have HCW := Lib.hid (HC2.out.keep hb1)
            have HA2 := Lib.hid ((hb1.block _ (at_lt HA1.out)).trans HA1.out)
            have HRS1 := Lib.hid (HRS.out.to hb1)
            clear hW1 hX hb1 hXe hc d0 d1 d2 d3
            obtain ⟨e0, e1⟩ := cells2 HX1.out
            obtain ⟨x0, x1⟩ := cells2 HCW.out.bx
            have HBU := Lib.hid (build_any W1 (.slice pq k cq1) (rightsL rs) nc (by have h := HCW.out.rights; rwa [HTK.out] at h) (by have h1 := HM.out; have h2 := HK40.out; unfold rightsL; rw [List.length_map]; omega))
            go_wp2_with fail
            refine HBU.out.mono ?_
            rintro e W2 ⟨hb2, hcase⟩
            simp only [Int.toNat_natCast] at hcase
            have HCX := Lib.hid (HCW.out.keep hb2)
            have HA3 := Lib.hid ((hb2.block _ (at_lt HA2.out)).trans HA2.out)
            have HX2 := Lib.hid ((hb2.block _ (at_lt HX1.out)).trans HX1.out)
            have HBW2 := Lib.hid (show Below w.heap.size w W2 by rw [← HB.out]; exact HCX.out.below)
            have HRS2 := Lib.hid (HRS1.out.to hb2)
            clear e0 e1 x0 x1 hb2 HBU
            obtain ⟨e0, e1⟩ := cells2 HX2.out
            obtain ⟨y0, y1, y2, y3⟩ := cells4 HCX.out.tab
            have f0 := fz_at HCX.out.tab 1
            have HY := Lib.hid y1
            rcases hcase with ⟨hno, rfl⟩ | ⟨hok, hbu, rfl⟩ | ⟨hok, ob, N, O, -, hbu, rfl, hmd⟩
            · have HNO := Lib.hid (show ¬ CompOk nc rs from fun h => hno h.2.2.2)
              clear hno
              go_wp2_with fail
              go_step3
              refine jump_go (Q := fun _ _ _ => True) ?_
              go_wp2_with fail
              rw [Exit.noGoto_ret]
              go_ret2
              exact ⟨HBW2.out, .inl ⟨HNO.out, rfl⟩⟩
            · have HOK := Lib.hid hok
              have HBU2 := Lib.hid hbu
              have HFIN := Lib.hid (HCX.out.put1 HBT.out (.pointer none))
              have HAF := Lib.hid (((Fr.setCell (F := fun j => j = T) W2 (p := ⟨T, 1, none⟩) rfl (.pointer none)).block A (at_lt HA3.out) (by have := HTA.out; omega)).trans HA3.out)
              clear hok hbu 
              go_wp2_with fail
              go_roundw
              case rel => exact ⟨rfl, HAF.out, .inr (.inr ⟨rfl, l0, 7, q0, none, by simp, HAO.out, HOK.out, HRS2.out.ptr HY.out, .inr ⟨rfl, rfl, HBU2.out⟩, HFIN.out⟩)⟩
              case measure => simp [intOf]
            · have HOK := Lib.hid hok
              have HBU2 := Lib.hid hbu
              have HMD2 := Lib.hid hmd
              have HFIN := Lib.hid (HCX.out.put1 HBT.out (.pointer (some ⟨ob, 0, none⟩)))
              have HAF := Lib.hid (((Fr.setCell (F := fun j => j = T) W2 (p := ⟨T, 1, none⟩) rfl (.pointer (some ⟨ob, 0, none⟩))).block A (at_lt HA3.out) (by have := HTA.out; omega)).trans HA3.out)
              clear hok hbu hmd
              go_wp2_with fail
              go_roundw
              case rel => exact ⟨rfl, HAF.out, .inr (.inr ⟨rfl, l0, 0, q0, some ⟨ob, 0, none⟩, by simp, HAO.out, HOK.out, HRS2.out.ptr HY.out, .inl ⟨rfl, ob, N, O, rfl, HBU2.out, HMD2.out.ptr HY.out⟩, HFIN.out⟩)⟩
              case measure => simp [intOf]
          · have HC2 := Lib.hid hc
            have HBW2 := Lib.hid (show Below w.heap.size w wr by rw [← HB.out]; exact hc.below)
            have HOK := Lib.hid (show CompOk nc rs from ⟨by rw [← HM.out]; exact HK40.out, by have h := hc.right; rwa [HTK.out] at h, hao, hao1⟩)
            clear hc hao hao1
            rcases hres with ⟨rfl, oa, N, O, rfl, hbu, hmd⟩ | ⟨rfl, rfl, hbu⟩
            · rcases hres1 with ⟨rfl, ob, M, U, rfl, hbu1, hmd1⟩ | ⟨rfl, rfl, hbu1⟩
              · have HR := Lib.hid (And.intro hbu (And.intro hbu1 (And.intro hmd hmd1)))
                clear hbu hbu1 hmd hmd1
                go_wp2_with fail
                rw [Exit.jump_ret]
                go_ret2
                exact ⟨HBW2.out, .inr (.inr ⟨HOK.out, T, oa, ob, N, O, M, U, by have := HT.out; omega, HR.out.1, HR.out.2.1, rfl, by rw [← HM.out]; exact HC2.out.tab, HR.out.2.2.1, HR.out.2.2.2⟩)⟩
              · have HBL := Lib.hid hbu1
                clear hbu hbu1 hmd
                go_wp2_with fail
                go_step3
                go_wp2_with fail
                rw [Exit.jump_ret]
                go_ret2
                exact ⟨HBW2.out, .inr (.inl ⟨HOK.out, .inr HBL.out, rfl⟩)⟩
            · rcases hres1 with ⟨rfl, ob, M, U, rfl, hbu1, hmd1⟩ | ⟨rfl, rfl, hbu1⟩
              · have HBL := Lib.hid hbu
                clear hbu hbu1 hmd1
                go_wp2_with fail
                go_step3
                go_wp2_with fail
                rw [Exit.jump_ret]
                go_ret2
                exact ⟨HBW2.out, .inr (.inl ⟨HOK.out, .inl HBL.out, rfl⟩)⟩
              · have HBL := Lib.hid hbu
                clear hbu hbu1
                go_wp2_with fail
                go_step3
                go_wp2_with fail
                rw [Exit.jump_ret]
                go_ret2
                exact ⟨HBW2.out, .inr (.inl ⟨HOK.out, .inl HBL.out, rfl⟩)⟩
end Go.Proofs.Ythmaokjhncokdaa

/-
  tables: Decide. No condition beyond what each theorem names.
-/
set_option linter.unusedVariables false
set_option linter.unusedSimpArgs false
namespace Go.Proofs.Ythmaokjhncokdaa
open Go.RowKit Classical

/-- tables, by their cells -/
def TabAt (w : World) (T : Nat) (p0 p1 : Value) (br len : Nat) : Prop := w.heap[T]? = some (.cells #[p0, p1, .int .u64 (br : Nat), .int .i64 (len : Nat)] 39)

/-- the first rule that is in both counts -/
noncomputable def decB (len x br : Nat) : Bool := decide (∀ i, i < len → x.testBit i = true → (∀ j, j < i → x.testBit j = false) → br.testBit i = true)
theorem decB_hit {len x br k : Nat} (hk : k < len) (h : x.testBit k = true) (hb : ∀ j, j < k → x.testBit j = false) : decB len x br = br.testBit k := by
  unfold decB
  cases hbr : br.testBit k
  · refine decide_eq_false fun h2 => ?_
    rw [h2 k hk h hb] at hbr
    cases hbr
  · refine decide_eq_true fun i hi h1 h2 => ?_
    rcases Nat.lt_trichotomy i k with h3 | rfl | h3
    · rw [hb i h3] at h1; cases h1
    · exact hbr
    · rw [h2 k h3] at h; cases h
theorem decB_end {len x br : Nat} (hb : ∀ j, j < len → x.testBit j = false) : decB len x br = true := by
  unfold decB
  refine decide_eq_true fun i hi h1 h2 => ?_
  rw [hb i hi] at h1; cases h1

set_option maxRecDepth 100000 in
set_option maxHeartbeats 8000000 in
theorem decide_any (w : World) (T : Nat) (p0 p1 : Value) (br len a b : Nat) (ht : TabAt w T p0 p1 br len) (ha : a < 2 ^ 64) (hb : b < 2 ^ 64) (hbr : br < 2 ^ 64) (hlen : len ≤ 60) :
    Calls Try.prog 24 #[.pointer (some ⟨T, 0, none⟩), .int .u64 (a : Nat), .int .u64 (b : Nat)] w fun e w' => e = .returned (.bool (decB len (a &&& b) br)) ∧ w' = w := by
  obtain ⟨y0, y1, y2, y3⟩ := cells4 ht
  obtain ⟨x, hx⟩ : ∃ x, x = a &&& b := ⟨_, rfl⟩
  have hab : bits .and .u64 (a : Int) (b : Int) = ((x : Nat) : Int) := by rw [hx]; exact u64_and_nat a b (by omega) (by omega)
  have hx64 : x < 2 ^ 64 := by rw [hx]; exact Nat.lt_of_le_of_lt Nat.and_le_left ha
  have HX := Lib.hid hx
  have HX64 := Lib.hid hx64
  have HBR := Lib.hid hbr
  rw [← hx]
  clear ha hb hx hx64 hbr ht
  go_enter Try.func24, Try.ntmps24
  go_wp2_with fail
  go_loopw [12] (fun i wz => ∃ k : Nat, i = .int .i64 k ∧ k ≤ len ∧ (∀ j, j < k → x.testBit j = false) ∧ wz = w) (fun i _ => len - (intOf i).toNat)
  case atStart => exact ⟨0, rfl, by omega, fun j h => by omega, rfl⟩
  case round =>
    obtain ⟨k, rfl, hk, hbits, rfl⟩ := hrel
    have HB := Lib.hid hbits
    clear hbits
    by_cases hkl : k < len
    · have hki : (k : Int) < len := by omega
      have hk0 : (0 : Int) ≤ k := by omega
      have hk64 : k ≤ 64 := by omega
      have hk64i : (k : Int) ≤ 64 := by omega
      have h1 := bit_at x k HX64.out
      have h2 := bit_at br k HBR.out
      by_cases hbit : x.testBit k = true
      · rw [if_pos hbit] at h1
        have HR := Lib.hid (decB_hit (br := br) hkl hbit HB.out)
        clear hbit
        cases hb2 : br.testBit k
        · rw [hb2] at h2 HR
          simp only [Bool.false_eq_true, if_false] at h2
          clear hb2
          go_wp2_with fail
          go_ret
          exact ⟨ret_val (by rw [HR.out]; rfl), rfl⟩
        · rw [hb2] at h2 HR
          simp only [if_true] at h2
          clear hb2
          go_wp2_with fail
          go_ret
          exact ⟨ret_val (by rw [HR.out]; rfl), rfl⟩
      · rw [if_neg hbit] at h1
        have HNB := Lib.hid (show x.testBit k = false by simpa using hbit)
        clear hbit h2
        go_wp2_with fail
        go_roundw
        case rel => exact ⟨k + 1, by go_num, by omega, fun j hj => by
          by_cases e : j = k
          · rw [e]; exact HNB.out
          · exact HB.out j (by omega), by first | rfl | trivial⟩
        case measure => simp [intOf]; omega
    · have hki : ¬ (k : Int) < len := by omega
      have HR := Lib.hid (decB_end (br := br) (x := x) (len := len) (fun j hj => HB.out j (by omega)))
      go_wp2_with fail
      go_ret
      exact ⟨ret_val (by rw [HR.out]; rfl), rfl⟩

end Go.Proofs.Ythmaokjhncokdaa

