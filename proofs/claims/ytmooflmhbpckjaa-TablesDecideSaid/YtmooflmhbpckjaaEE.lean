/-
  dfa: a builder; fits, step. No condition beyond what each theorem names.
-/
import Derived.Test.YtmooflmhbpckjaaED
import Derived.Test.YtmooflmhbpckjaaDI
import Derived.Test.YtmooflmhbpckjaaNJ
import Derived.Laws.BitsAllLaws
set_option linter.unusedVariables false
set_option linter.unusedSimpArgs false
namespace Go.Proofs.Ytmooflmhbpckjaa
open Go.RowKit

/-- a list of numbers of one's own, as one cell -/
def ownE (base : Nat) (w : World) (xs : List Int) (row : List Value) : Prop := ∃ v, row = [v] ∧ OwnL intE 3 1 base w v xs

theorem one_slice {p : Option Addr} {n c : Nat} : (Value.slice p n c).oneCell' = true := rfl
theorem ownE.cells {base : Nat} {w : World} {xs : List Int} {row : List Value} (h : ownE base w xs row) : row.length = 1 ∧ ∀ u ∈ row, u.oneCell' = true := by
  obtain ⟨v, rfl, h⟩ := h
  obtain ⟨p, c, rfl⟩ := h.form
  simp [Value.oneCell']
theorem ownE.below {base B : Nat} {w w' : World} {xs : List Int} {row : List Value} (h : ownE base w xs row) (hb : Below B w w') (hB : w.heap.size ≤ B) : ownE base w' xs row := by
  obtain ⟨v, rfl, h⟩ := h
  exact ⟨v, rfl, h.below hb hB⟩
/-- what changes a block of another type leaves it -/
theorem ownE.fr {base : Nat} {w w' : World} {xs : List Int} {row : List Value} {G : Nat → Prop} (h : ownE base w xs row) (hf : Fr G w w') (hg : ∀ k, G k → ∃ cs T, T ≠ 3 ∧ w.heap[k]? = some (.cells cs T)) : ownE base w' xs row := by
  obtain ⟨v, rfl, h⟩ := h
  refine ⟨v, rfl, h.fr hf fun k hk hG => ?_⟩
  obtain ⟨cs, T, hT, he⟩ := hg k hG
  exact h.notAt he (Ne.symm hT) hk

/-- a list of lists, all of one's own -/
def OwnLL (base : Nat) (w : World) (v : Value) (xss : List (List Int)) : Prop := OwnL (ownE base w) 46 1 base w v xss
theorem OwnLL.below {base B : Nat} {w w' : World} {v : Value} {xss : List (List Int)} (h : OwnLL base w v xss) (hb : Below B w w') (hB : w.heap.size ≤ B) : OwnLL base w' v xss :=
  (OwnL.below h hb hB).mono (fun x r hr => hr.below hb hB)
theorem OwnLL.nil (base : Nat) (w : World) : OwnLL base w (.slice none 0 0) [] := OwnL.nil w
theorem OwnL.blkT {α : Type} {E : α → List Value → Prop} {T : TypeId} {sz base : Nat} {w : World} {v : Value} {xs : List α} (h : OwnL E T sz base w v xs) : ∀ k, v.ownBlock = some k → ∃ cs, w.heap[k]? = some (.cells cs T) := by
  obtain ⟨_, ⟨-, h⟩, -⟩ := h
  intro k hk
  rcases h with ⟨rfl, -⟩ | ⟨g1, c1, cur1, rfl, -, h1, -⟩
  · cases hk
  · simp only [Value.ownBlock, Option.some.injEq] at hk
    subst hk
    exact ⟨cur1, h1⟩
theorem OwnLL.llf {base : Nat} {w : World} {v : Value} {xss : List (List Int)} (h : OwnLL base w v xss) : LLF (fun k => base ≤ k ∧ k < w.heap.size) w v xss := by
  refine ⟨(OwnL.read h).monoE (fun x r hr => ?_), fun _ k hk => OwnL.lt h k hk⟩
  obtain ⟨v, rfl, h1⟩ := hr
  obtain ⟨p, c, rfl⟩ := h1.form
  exact ⟨_, rfl, rfl, h1.read.ints, fun _ k hk => h1.lt k hk⟩

theorem infoInts : (Try.prog.info? 46).map (fun i => (i.zero, i.size, i.bytes)) = some (some (.slice none 0 0), 1, 24) := by kernel_rfl
section
variable {ops : Array Oper} {rest : List Oper} {o : Oper} {a : Act} {w : World} {Q : Exit → Act → World → Prop} {base : Nat}
/-- append of one list to a list of lists of one's own -/
theorem wpList_append_LL (hgd : o.guard = none) (s x : Operand) (t : TypeId) (ht : Try.prog.underlying t = some (.slice 46)) (ho : o.op = .call { callee := .builtin .append, args := #[s, x], argTypes := #[t, t] })
    (v : Value) (xss : List (List Int)) (n : Nat) (hn : xss.length = n) (hs : a.eval s = v) (w0 : World) (hown : OwnLL base w0 v xss) (u : Value) (xs : List Int) (hu : OwnL intE 3 1 base w0 u xs) (hx : a.eval x = .slice (some ⟨w0.heap.size, 0, none⟩) 1 1) (hw : w = w0.alloc (.cells #[u] 46)) (hlen : n + 1 ≤ 1000000) (hbase : base ≤ w0.heap.size)
    (h : ∀ p c w', OwnLL base w' (.slice p (n + 1) c) (xss ++ [xs]) → Below base w0 w' → Fr (fun k => v.ownBlock = some k) w0 w' → ((Value.slice p (n + 1) c).ownBlock = v.ownBlock ∨ ∀ k, (Value.slice p (n + 1) c).ownBlock = some k → w0.heap.size ≤ k) → wpList Try.prog ops Q rest (a.put o.dst (.slice p (n + 1) c)) w') : wpList Try.prog ops Q (o :: rest) a w := by
  subst hw
  subst hn
  obtain ⟨i0, hi, hz0, hz1, hz2⟩ := info_parts infoInts
  have hal := below_alloc1 w0 (.cells #[u] 46)
  have hE : ownE base (w0.alloc (.cells #[u] 46)) xs [u] := ⟨u, rfl, hu.below hal (Nat.le_refl _)⟩
  have hown1 := hown.below hal (Nat.le_refl _)
  refine wpList_append_L hgd s x t ho i0 _ 24 ht hi hz0 hz1 hz2 rfl (by decide) v xss hs hown1 (base := base) _ [xs] hx (ReadL.one w0 _ xs [u] hE.cells hE) (by unfold maxLen; simp; omega) (by simp; omega) (Nat.le_trans hbase hal.size) ?_
  intro p c w' k1 k2 k3
  have hfr : Fr (fun k => v.ownBlock = some k) (w0.alloc (.cells #[u] 46)) w' := Fr.grown (F := fun k => v.ownBlock = some k) k2 (fun k h => h)
  refine h p c w' ?_ ?_ ?_ ?_
  · exact OwnL.mono k1 (fun y r hr => hr.fr hfr (fun k hk => by
      obtain ⟨cs, hcs⟩ := OwnL.blkT hown1 k hk
      exact ⟨cs, _, by decide, hcs⟩))
  · exact (hal.mono hbase).trans (hfr.below (Nat.le_trans hbase hal.size) (fun k hk => (OwnL.lt hown k hk).1))
  · exact (Fr.of_below hal _).trans hfr (fun _ _ h => h)
  · rcases k3 with k3 | k3
    · exact .inl k3
    · refine .inr fun k hk => ?_
      have hk2 := Option.some.inj (k3.symm.trans hk)
      have := hal.size
      omega
end

/-! ### the builder -/
def exprE (w : World) (e : Nd × Bool) (row : List Value) : Prop := ∃ a b c, row = [a, b, c, .bool e.2] ∧ NodeIs w e.1 a b c
def machE (w : World) (S : List Sta) (row : List Value) : Prop := ∃ m, row = [.pointer (some ⟨m, 0, none⟩)] ∧ MachR w m S
/-- expressions, and their machines -/
def BuilderR (w : World) (bb : Nat) (l : List (Nd × Bool)) : Prop := ∃ lv mv, w.heap[bb]? = some (.cells #[lv, mv] 92) ∧ ReadL (exprE w) 4 w lv l ∧ ReadL (machE w) 1 w mv (l.map fun e => mach e.1)

theorem BuilderR.to {w w' : World} {bb : Nat} {l : List (Nd × Bool)} (h : BuilderR w bb l) (hb : Below w.heap.size w w') : BuilderR w' bb l := by
  obtain ⟨lv, mv, h1, h2, h3⟩ := h
  refine ⟨lv, mv, (hb.block _ (at_lt h1)).trans h1, (h2.below hb (Nat.le_refl _)).monoE (fun x r hr => ?_), (h3.below hb (Nat.le_refl _)).monoE (fun x r hr => ?_)⟩
  · obtain ⟨a, b, c, rfl, hn⟩ := hr
    exact ⟨a, b, c, rfl, hn.to hb (Nat.le_refl _)⟩
  · obtain ⟨m, rfl, hm⟩ := hr
    exact ⟨m, rfl, hm.to hb⟩

/-- what a builder's cells read as -/
theorem BuilderR.get {w : World} {bb : Nat} {l : List (Nd × Bool)} (h : BuilderR w bb l) : bb < w.heap.size ∧ ∃ pl cl pm cm, w.cell? ⟨bb, 0, none⟩ = some (.slice pl l.length cl) ∧ w.cell? ⟨bb, 1, none⟩ = some (.slice pm l.length cm) ∧ l.length ≤ cl ∧ l.length ≤ cm ∧
    (0 < l.length → ∃ b1 o1 b2 o2, pl = some ⟨b1, o1, none⟩ ∧ pm = some ⟨b2, o2, none⟩ ∧ b1 < w.heap.size ∧ b2 < w.heap.size ∧ ∀ i (hi : i < l.length), w.cell? ⟨b1, o1 + i * 4 + 3, none⟩ = some (.bool l[i].2) ∧ ∃ m, w.cell? ⟨b2, o2 + i, none⟩ = some (.pointer (some ⟨m, 0, none⟩)) ∧ MachR w m (mach l[i].1)) := by
  obtain ⟨lv, mv, h1, h2, h3⟩ := h
  obtain ⟨pl, cl, rfl, g1, g2⟩ := h2.get (by decide)
  obtain ⟨pm, cm, rfl, g3, g4⟩ := h3.get (by decide)
  rw [List.length_map] at g3
  simp only [List.length_map] at h1
  refine ⟨at_lt h1, pl, cl, pm, cm, by simp [World.cell?, h1], by simp [World.cell?, h1], g1, g3, fun h0 => ?_⟩
  obtain ⟨b1, o1, rfl, k1, k2⟩ := g2 h0
  obtain ⟨b2, o2, rfl, k3, k4⟩ := g4 (by rw [List.length_map]; exact h0)
  refine ⟨b1, o1, b2, o2, rfl, rfl, k1, k3, fun i hi => ?_⟩
  obtain ⟨r1, c1, a, b, c, rfl, -⟩ := k2 i hi
  obtain ⟨r2, c2, m, rfl, hm⟩ := k4 i (by simpa using hi)
  refine ⟨c1 3 _ rfl, m, ?_, by simpa using hm⟩
  have := c2 0 _ rfl
  simpa using this

/-- a situation's states are states of the machines -/
def SitOk (l : List (Nd × Bool)) (s : List (List Int)) : Prop := s.length = l.length ∧ ∀ i (h1 : i < l.length) (h2 : i < s.length), (∀ u ∈ s[i], 0 ≤ u ∧ u < (mach l[i].1).length) ∧ s[i].length ≤ 1000

/-- which fit, as bits -/
def bitsL : List Bool → Nat
  | [] => 0
  | b :: r => (if b then 1 else 0) + 2 * bitsL r
theorem bitsL_snoc : ∀ (l : List Bool) (b : Bool), bitsL (l ++ [b]) = bitsL l + (if b then 2 ^ l.length else 0)
  | [], b => by cases b <;> rfl
  | a :: l, b => by
    rw [List.cons_append, bitsL, bitsL_snoc l b, bitsL, List.length_cons, Nat.pow_succ]
    cases b
    · simp
    · simp; omega
theorem bitsL_lt : ∀ (l : List Bool), bitsL l < 2 ^ l.length
  | [] => by simp [bitsL]
  | a :: l => by
    have := bitsL_lt l
    rw [bitsL, List.length_cons, Nat.pow_succ]
    split <;> omega
theorem bitsL_get : ∀ (l : List Bool) (i : Nat) (h : i < l.length), (bitsL l).testBit i = l[i]
  | a :: l, 0, h => by
    rw [bitsL, Nat.testBit_zero]
    cases a
    · simp
    · simp
  | a :: l, i + 1, h => by
    have ih := bitsL_get l i (by simpa using h)
    rw [bitsL, Nat.testBit_succ, List.getElem_cons_succ, ← ih]
    congr 1
    split <;> omega
theorem wrap_pow {k : Nat} (h : k < 64) : IntKind.u64.wrap (2 ^ k) = ((2 ^ k : Nat) : Int) := by
  have h1 : (2 : Nat) ^ k < 2 ^ 64 := Nat.pow_lt_pow_right (by omega) h
  have h2 : ((2 : Int) ^ k) = ((2 ^ k : Nat) : Int) := by simp
  rw [h2]
  generalize 2 ^ k = z at *
  have e : (z : Int) % 18446744073709551616 = z := by omega
  show (if (false && decide ((z : Int) % 18446744073709551616 ≥ 9223372036854775808)) = true then (z : Int) % 18446744073709551616 - 18446744073709551616 else (z : Int) % 18446744073709551616) = z
  rw [e]
  simp
theorem bits_put (l : List Bool) (h : l.length < 64) : bits .or .u64 (bitsL l : Nat) (IntKind.u64.wrap (2 ^ l.length)) = (bitsL (l ++ [true]) : Nat) := by
  have h1 := bitsL_lt l
  have h2 : (2 : Nat) ^ l.length < 2 ^ 64 := Nat.pow_lt_pow_right (by omega) h
  rw [wrap_pow h, u64_or_nat _ _ (by omega) (by omega), bitsL_snoc]
  have h3 := Nat.two_pow_add_eq_or_of_lt h1 1
  rw [Nat.mul_one] at h3
  rw [Nat.or_comm, ← h3]
  simp
  omega
theorem bitsL_inj {l m : List Bool} (h : l.length = m.length) (e : bitsL l = bitsL m) : l = m :=
  List.ext_getElem h fun i h1 h2 => by rw [← bitsL_get l i h1, ← bitsL_get m i h2, e]

set_option maxRecDepth 100000 in
set_option maxHeartbeats 4000000 in
theorem fits_sit (F : Nat → Prop) (w : World) (bb : Nat) (l : List (Nd × Bool)) (hB : BuilderR w bb l) (hl : l.length ≤ 64) (v : Value) (s : List (List Int)) (hs : LLF F w v s) (hok : SitOk l s) :
    Calls Try.prog 59 #[.pointer (some ⟨bb, 0, none⟩), v] w fun e w' => e = .returned (.int .u64 (bitsL (outE s) : Nat)) ∧ w = w' := by
  obtain ⟨hbl, pl, cl, pm, cm, c0, c1, -, hcm, hgg⟩ := hB.get
  obtain ⟨p, cp, rfl, hc, hg⟩ := hs.1.get (by decide)
  obtain ⟨hsl, hsr⟩ := hok
  rw [hsl] at hc ⊢
  have HGG := Lib.hid hgg
  have HG := Lib.hid hg
  have HSR := Lib.hid hsr
  have HSL := Lib.hid hsl
  clear hB hs hgg hg hsr hsl
  go_enter Try.func59, Try.ntmps59
  go_wp2_with fail
  go_loop [5, 13] (fun u i => ∃ k : Nat, i = .int .i64 k ∧ k ≤ l.length ∧ u = .int .u64 (bitsL (outE (s.take k)) : Nat)) (fun _ i => l.length - (intOf i).toNat)
  case atStart => exact ⟨0, rfl, by omega, rfl⟩
  case round =>
    obtain ⟨k, rfl, h1, rfl⟩ := hrel
    by_cases hk : k < l.length
    · obtain ⟨b1, o1, b2, o2, rfl, rfl, hb1, hb2, hcc⟩ := HGG.out (by omega)
      obtain ⟨-, m, d1, hm⟩ := hcc k hk
      have hks : k < s.length := by rw [HSL.out]; exact hk
      obtain ⟨b3, o3, rfl, hb3, hss⟩ := HG.out (by omega)
      obtain ⟨row, hcell, sv, rfl, -, hsv, -⟩ := hss k hks
      have d2 : w.cell? ⟨b3, o3 + k, none⟩ = some sv := by have := hcell 0 sv rfl; simpa using this
      obtain ⟨h2, h3⟩ := HSR.out k hk hks
      have HA := Lib.hid (accepts_any w m (mach l[k].1) hm sv s[k] hsv (by omega))
      obtain ⟨q, cq, rfl, -, -⟩ := hsv.get
      have hkk : (k : Int) < l.length := by omega
      have hk0 : (0 : Int) ≤ k := by omega
      have hk64 : (k : Int) < 64 := by omega
      have HTK := Lib.hid (show outE (s.take (k + 1)) = outE (s.take k) ++ [s[k].any fun u => 1 == u] by rw [List.take_succ_eq_append_getElem hks]; unfold outE; rw [List.map_append]; rfl)
      generalize s[k].any (fun u => 1 == u) = b at *
      generalize s[k].length = sk at *
      clear hcc hss hcell hm hsv h2 h3
      go_wp2_with fail
      refine HA.out.mono ?_
      rintro e w' ⟨rfl, rfl⟩
      cases b
      · go_wp2_with fail
        go_round
        case rel => exact ⟨k + 1, by go_num, by omega, by rw [HTK.out, bitsL_snoc]; rfl⟩
        case measure => simp [intOf]; omega
      · have hlk : (outE (s.take k)).length = k := by unfold outE; rw [List.length_map, List.length_take]; omega
        have HOR := Lib.hid (bits_put (outE (s.take k)) (by omega))
        rw [hlk] at HOR
        clear hlk
        go_wp2_with fail
        go_round
        case rel => exact ⟨k + 1, by go_num, by omega, by rw [HTK.out, ← HOR.out]⟩
        case measure => simp [intOf]; omega
    · have hke : s.take k = s := List.take_of_length_le (by rw [HSL.out]; omega)
      have hkk : ¬ (k : Int) < l.length := by omega
      rw [hke]
      clear hke
      go_wp2_with fail
      go_ret
      exact ⟨rfl, rfl⟩
end Go.Proofs.Ytmooflmhbpckjaa
