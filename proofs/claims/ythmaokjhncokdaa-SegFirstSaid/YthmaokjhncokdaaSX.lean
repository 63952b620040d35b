import Derived.Test.YthmaokjhncokdaaSL
import Derived.Test.YthmaokjhncokdaaBP
import Derived.Maps.AppendAt
import Derived.Deep.CutBlock
import Derived.Deep.DeepCutAuto
import Derived.RegionTactic
import Derived.BigRegion
/-
  The reference's Boundaries of layer 6, brought here from the reading texts. No condition beyond what each theorem names.
-/
set_option linter.unusedVariables false
set_option linter.unusedSimpArgs false
set_option maxRecDepth 100000
namespace Go.Proofs.Ythmaokjhncokdaa
open Go.RowKit

-- of B
def Got (bs cur : List Bool) (r : Nat → Nat → Prop) (k : Nat) : Prop := cur.length = bs.length ∧ ∀ q, tr cur q ↔ ∃ p, p < k ∧ tr bs p ∧ r p q

theorem Got.put {bs cur : List Bool} {r : Nat → Nat → Prop} {k d : Nat} (h : Got bs cur r k) (hk : k < bs.length) (hb : bs[k] = true) (hto : d < bs.length) (hr : ∀ q, r k q ↔ q = d) : Got bs (cur.set d true) r (k + 1) := by
  refine ⟨by simp [h.1], fun q => ?_⟩
  have hkt : tr bs k := by simp [tr, hk, hb]
  by_cases e : q = d
  · subst e
    refine ⟨fun _ => ⟨k, by omega, hkt, (hr q).2 rfl⟩, fun _ => ?_⟩
    simp [tr, h.1, hto]
  · have : tr (cur.set d true) q ↔ tr cur q := by
      unfold tr; rw [List.getElem?_set_ne (by omega)]
    rw [this, h.2 q]
    refine ⟨fun ⟨p, h1, h2⟩ => ⟨p, by omega, h2⟩, fun ⟨p, h1, h2, h3⟩ => ?_⟩
    by_cases e' : p = k
    · subst e'; exact absurd ((hr q).1 h3) e
    · exact ⟨p, by omega, h2, h3⟩

theorem Got.start (bs : List Bool) (r : Nat → Nat → Prop) : Got bs (List.replicate bs.length false) r 0 := by
  refine ⟨by simp, fun q => ⟨fun h => ?_, fun ⟨p, h, _⟩ => by omega⟩⟩
  unfold tr at h
  rw [List.getElem?_replicate] at h
  split at h <;> simp at h

-- of C
/-- the first k places of both, behind that the first one's -/
def orTo (bs cs : List Bool) (k : Nat) : List Bool := (List.range bs.length).map fun i => if i < k then bs[i]?.getD false || cs[i]?.getD false else bs[i]?.getD false

def orL (bs cs : List Bool) : List Bool := orTo bs cs bs.length

theorem orTo_length (bs cs : List Bool) (k : Nat) : (orTo bs cs k).length = bs.length := by simp [orTo]

theorem tr_or {bs cs : List Bool} (hl : cs.length = bs.length) (q : Nat) : tr (orL bs cs) q ↔ tr bs q ∨ tr cs q := by
  by_cases h : q < bs.length
  · have h' : q < cs.length := by omega
    simp [tr, orL, orTo, h, h']
  · have h' : ¬ q < cs.length := by omega
    simp [tr, orL, orTo, h, h']

-- of E
/-- a set that was made since a world, or stands in the block of another value -/
def Came (w : World) (r : Nat → Nat → Prop) (bs : List Bool) (fv : Value) (e : Ending) (w' : World) : Prop :=
  ∃ v out, e = .returned v ∧ Bools w' v out ∧ img r bs out ∧ Below w.heap.size w w' ∧ ∀ k, v.ownBlock = some k → fv.ownBlock = some k ∨ w.heap.size ≤ k

theorem img_same {r s : Nat → Nat → Prop} {bs out : List Bool} (h : img r bs out) (hrs : ∀ p q, r p q ↔ s p q) : img s bs out :=
  ⟨h.1, fun q => (h.2 q).trans ⟨fun ⟨p, h1, h2⟩ => ⟨p, h1, (hrs p q).1 h2⟩, fun ⟨p, h1, h2⟩ => ⟨p, h1, (hrs p q).2 h2⟩⟩⟩

theorem img_refl (bs : List Bool) : img (fun p q => p = q) bs bs := ⟨rfl, fun q => ⟨fun h => ⟨q, h, rfl⟩, fun ⟨p, h1, h2⟩ => h2 ▸ h1⟩⟩

theorem Rel_iff {back : Bool} {r s : Nat → Nat → Prop} (h : ∀ p q, r p q ↔ s p q) (p q : Nat) : Rel back r p q ↔ Rel back s p q := by cases back <;> exact h _ _

theorem Rel_eq {back : Bool} (p q : Nat) : Rel back (fun a b => a = b) p q ↔ p = q := by cases back <;> simp [Rel, eq_comm]

/-- the parts in the order in which they are gone through -/
def ordered (back : Bool) (ps : List Nd) : List Nd := match back with | true => ps.reverse | false => ps

/-- the chain through some parts, each as it is gone through -/
def chain (t : List Int) (back : Bool) (l : List Nd) : Nat → Nat → Prop := match back with | true => fun p q => Mseq t l.reverse q p | false => Mseq t l

theorem chain_nil (t : List Int) (back : Bool) (p q : Nat) : chain t back [] p q ↔ p = q := by cases back <;> simp [chain, Mseq, eq_comm]

theorem chain_snoc (t : List Int) (back : Bool) (l : List Nd) (x : Nd) (p q : Nat) : chain t back (l ++ [x]) p q ↔ ∃ m, chain t back l p m ∧ Rel back (M t x) m q := by
  cases back
  · simp only [chain, Rel, Mseq_append, Mseq_one]
  · simp only [chain, Rel, List.reverse_append, List.reverse_cons, List.reverse_nil, List.nil_append, Mseq_append, Mseq_one]
    exact ⟨fun ⟨c, h1, h2⟩ => ⟨c, h2, h1⟩, fun ⟨c, h1, h2⟩ => ⟨c, h2, h1⟩⟩

theorem chain_all (t : List Int) (back : Bool) (ps : List Nd) (p q : Nat) : chain t back (ordered back ps) p q ↔ Rel back (Mseq t ps) p q := by
  cases back <;> simp [chain, ordered, Rel]

theorem img_chain {t : List Int} {back : Bool} {l : List Nd} {x : Nd} {bs cur out : List Bool} (h1 : img (chain t back l) bs cur) (h2 : img (Rel back (M t x)) cur out) : img (chain t back (l ++ [x])) bs out := by
  refine ⟨h2.1.trans h1.1, fun q => ⟨fun h => ?_, fun ⟨p, h3, h4⟩ => ?_⟩⟩
  · obtain ⟨m, h3, h4⟩ := (h2.2 q).1 h
    obtain ⟨p, h5, h6⟩ := (h1.2 m).1 h3
    exact ⟨p, h5, (chain_snoc ..).2 ⟨m, h6, h4⟩⟩
  · obtain ⟨m, h5, h6⟩ := (chain_snoc ..).1 h4
    exact (h2.2 q).2 ⟨m, (h1.2 m).2 ⟨p, h3, h5⟩, h6⟩

-- of F
theorem Came.mono {w w' : World} {r s : Nat → Nat → Prop} {bs : List Bool} {fv : Value} {e : Ending} (h : Came w r bs fv e w') (hrs : ∀ p q, r p q ↔ s p q) : Came w s bs fv e w' := by
  obtain ⟨v, out, h1, h2, h3, h4⟩ := h
  exact ⟨v, out, h1, h2, img_same h3 hrs, h4⟩

-- of G
theorem Rel_or {back : Bool} {r s u : Nat → Nat → Prop} (h : ∀ p q, u p q ↔ r p q ∨ s p q) (p q : Nat) : Rel back u p q ↔ Rel back r p q ∨ Rel back s p q := by cases back <;> exact h _ _

theorem alt_step {t : List Int} {back : Bool} {ps : List Nd} {k : Nat} (h : k < ps.length) {bs cur out : List Bool} (hl : out.length = cur.length) (h1 : ∀ q, tr cur q ↔ ∃ p, tr bs p ∧ Rel back (Malt t (ps.take k)) p q) (h2 : img (Rel back (M t ps[k])) bs out) :
    ∀ q, tr (orL cur out) q ↔ ∃ p, tr bs p ∧ Rel back (Malt t (ps.take (k + 1))) p q := by
  intro q
  rw [tr_or hl, h1 q, h2.2 q]
  constructor
  · rintro (⟨p, a, b⟩ | ⟨p, a, b⟩)
    · exact ⟨p, a, (Rel_or (Malt_take h) p q).2 (.inl b)⟩
    · exact ⟨p, a, (Rel_or (Malt_take h) p q).2 (.inr b)⟩
  · rintro ⟨p, a, b⟩
    rcases (Rel_or (Malt_take h) p q).1 b with b | b
    · exact .inl ⟨p, a, b⟩
    · exact .inr ⟨p, a, b⟩

theorem rel_star_step {back : Bool} {r : Nat → Nat → Prop} {p m q : Nat} (h : Rel back (Star r) p m) (k : Rel back r m q) : Rel back (Star r) p q := by
  cases back
  · exact .step h k
  · exact Star.head k h

theorem rel_star_refl {back : Bool} {r : Nat → Nat → Prop} (p : Nat) : Rel back (Star r) p p := by cases back <;> exact .refl _

theorem rel_star_ind {back : Bool} {r : Nat → Nat → Prop} {S : Nat → Prop} (hs : ∀ m q, S m → Rel back r m q → S q) {p q : Nat} (h : Rel back (Star r) p q) (hp : S p) : S q := by
  cases back
  · have h' : Star r p q := h
    induction h' with
    | refl => exact hp
    | step h1 h2 ih => exact hs _ _ (ih h1) h2
  · have h' : Star r q p := h
    have h2 := h'.swap
    clear h h'
    induction h2 with
    | refl => exact hp
    | step h1 h2 ih => exact hs _ _ ih h2

theorem star_more {back : Bool} {r : Nat → Nat → Prop} {bs cur now out : List Bool} (hl : out.length = cur.length) (hN : ∀ q, tr now q ↔ tr cur q) (h6 : img (Rel back r) now out)
    (h1 : ∀ q, tr bs q → tr cur q) (h2 : ∀ q, tr cur q → ∃ p, tr bs p ∧ Rel back (Star r) p q) : (∀ q, tr bs q → tr (orL cur out) q) ∧ ∀ q, tr (orL cur out) q → ∃ p, tr bs p ∧ Rel back (Star r) p q := by
  refine ⟨fun q h => (tr_or hl q).2 (.inl (h1 q h)), fun q h => ?_⟩
  rcases (tr_or hl q).1 h with h | h
  · exact h2 q h
  · obtain ⟨m, h3, h4⟩ := (h6.2 q).1 h
    obtain ⟨p, h5, h7⟩ := h2 m ((hN m).1 h3)
    exact ⟨p, h5, rel_star_step h7 h4⟩

theorem opt_fin {back : Bool} {r : Nat → Nat → Prop} {bs cur now out : List Bool} (hl : out.length = cur.length) (hN : ∀ q, tr now q ↔ tr cur q) (h6 : img (Rel back r) now out)
    (h1 : ∀ q, tr bs q → tr cur q) (h2 : ∀ q, tr cur q → tr bs q) (q : Nat) : tr (orL cur out) q ↔ ∃ p, tr bs p ∧ (p = q ∨ Rel back r p q) := by
  rw [tr_or hl]
  constructor
  · rintro (h | h)
    · exact ⟨q, h2 q h, .inl rfl⟩
    · obtain ⟨m, h3, h4⟩ := (h6.2 q).1 h
      exact ⟨m, h2 m ((hN m).1 h3), .inr h4⟩
  · rintro ⟨p, h3, rfl | h4⟩
    · exact .inl (h1 _ h3)
    · exact .inr ((h6.2 q).2 ⟨p, (hN p).2 (h1 p h3), h4⟩)

theorem rel_4 {t : List Int} {back : Bool} {cls : List Int} {ps : List Nd} (h : ps.length = 1) (p q : Nat) : Rel back (M t (.mk 4 cls ps)) p q ↔ Rel back (Star (Malt t ps)) p q := by
  cases back <;> simp [Rel, M_4, h]

theorem rel_5 {t : List Int} {back : Bool} {cls : List Int} {ps : List Nd} (h : ps.length = 1) (p q : Nat) : Rel back (M t (.mk 5 cls ps)) p q ↔ p = q ∨ Rel back (Malt t ps) p q := by
  cases back <;> simp [Rel, M_5, h, eq_comm]

theorem rel_45 {t : List Int} {back : Bool} {op : Int} {cls : List Int} {ps : List Nd} (ho : op = 4 ∨ op = 5) (h : ps.length ≠ 1) (p q : Nat) : ¬ Rel back (M t (.mk op cls ps)) p q := by
  rcases ho with rfl | rfl <;> cases back <;> simp [Rel, M_4, M_5, h]

-- of I
theorem Says.mk {b c : Bool} {w w' : World} (h : b = c) (hb : Below w.heap.size w w') : Says c w (.returned (.bool b)) w' := ⟨by rw [h], hb⟩

-- of J
theorem bnd_end {rs : List Rl} {t : List Int} {k : Nat} (h : k = 0 ∨ k = t.length) : bndB rs t k = decide (0 < t.length) := by
  unfold bndB
  rcases h with h | h <;> simp [h]

theorem bnd_mid {rs : List Rl} {t : List Int} {k : Nat} (h1 : 0 < k) (h2 : k < t.length) : bndB rs t k = match rs.find? (fun r => fitsB r t k) with | some r => r.brk | none => true := by
  unfold bndB
  rw [decide_eq_true (by omega), show (k == 0) = false by simp; omega, show (k == t.length) = false by simp; omega]
  simp only [Bool.false_or, Bool.true_and]
  rfl

-- of Q
theorem Rules.nil (w : World) : Rules w (.slice none 0 0) [] := ⟨[], ⟨by simp, none, 0, rfl, by simp, fun h => by simp at h⟩, rfl, fun i h => by simp at h⟩

/-- what the first rule that fits says, or d -/
def brkOr (d : Bool) : Option Rl → Bool | some r => r.brk | none => d

theorem bnd_in {rs : List Rl} {t : List Int} {k : Nat} (h1 : 0 < k) (h2 : k < t.length) : bndB rs t k = brkOr true (rs.find? (fun r => fitsB r t k)) := by
  rw [bnd_mid h1 h2]; cases rs.find? (fun r => fitsB r t k) <;> rfl

theorem bnds_length (rs : List Rl) (t : List Int) : (bnds rs t).length = t.length + 1 := by simp [bnds]

-- of Turned
theorem ruleF.fr06 {F G : Nat → Prop} {w w' : World} {r : Rl} {row : List Value} (h : ruleF F w r row) (hf : Fr G w w') (hg : ∀ k, F k → ¬ G k) : ruleF F w' r row := by
  obtain ⟨a, b, c, d, e, f, rfl, h1, h2⟩ := h
  exact ⟨a, b, c, d, e, f, rfl, h1.fr hf hg, h2.fr hf hg⟩

theorem ruleF.below06 {F : Nat → Prop} {B : Nat} {w w' : World} {r : Rl} {row : List Value} (h : ruleF F w r row) (hb : Below B w w') (hB : w.heap.size ≤ B) : ruleF F w' r row := by
  obtain ⟨a, b, c, d, e, f, rfl, h1, h2⟩ := h
  exact ⟨a, b, c, d, e, f, rfl, h1.below hb hB, h2.below hb hB⟩

theorem ruleF.mono06 {F G : Nat → Prop} {w : World} {r : Rl} {row : List Value} (h : ruleF F w r row) (hg : ∀ k, F k → G k) : ruleF G w r row := by
  obtain ⟨a, b, c, d, e, f, rfl, h1, h2⟩ := h
  exact ⟨a, b, c, d, e, f, rfl, h1.mono hg, h2.mono hg⟩

-- of Ends
theorem bnd_no {t : List Int} {k : Nat} : bndB [] t k = decide (0 < t.length) := by
  unfold bndB; simp

-- of RA
def boolE (x : Bool) (row : List Value) : Prop := row = [.bool x]

theorem flatten_bools {xs : List Bool} {rows : List (List Value)} (hl : rows.length = xs.length) (h : ∀ i (h : i < xs.length), ∃ row, rows[i]? = some row ∧ boolE xs[i] row) : rows.flatten = xs.map Value.bool := by
  have : rows = xs.map (fun x => [Value.bool x]) := by
    refine List.ext_getElem? fun i => ?_
    by_cases hi : i < xs.length
    · obtain ⟨row, h1, h2⟩ := h i hi
      rw [h1, h2]
      simp [hi]
    · rw [List.getElem?_eq_none (by omega), List.getElem?_eq_none (by simp; omega)]
  rw [this]
  clear this h hl
  induction xs with
  | nil => rfl
  | cons x r ih => simp [ih]

theorem ReadL.bools {w : World} {v : Value} {xs : List Bool} (h : ReadL boolE 1 w v xs) : Bools w v xs := by
  obtain ⟨rows, h1, h2, h3, h4⟩ := h
  rw [flatten_bools h2 h4] at h1
  exact h1

section
variable {ops : Array Oper} {rest : List Oper} {o : Oper} {a : Act} {w : World} {Q : Exit → Act → World → Prop} {base : Nat}
theorem wpList_append_bools (hgd : o.guard = none) (s x : Operand) (ho : o.op = .call { callee := .builtin .append, args := #[s, x], argTypes := #[55, 55] })
    (v : Value) (xs : List Bool) (hs : a.eval s = v) (hown : OwnL boolE 4 1 base w v xs) (xv : Value) (ns : List Bool) (hx : a.eval x = xv) (hr : ReadL boolE 1 w xv ns) (hlen : xs.length + ns.length ≤ 1000000) (hbase : base ≤ w.heap.size)
    (h : ∀ p c w', OwnL boolE 4 1 base w' (.slice p (xs.length + ns.length) c) (xs ++ ns) → w.grownBy w' v.ownBlock → ((Value.slice p (xs.length + ns.length) c).ownBlock = v.ownBlock ∨ (Value.slice p (xs.length + ns.length) c).ownBlock = some w.heap.size) → wpList Try.prog ops Q rest (a.put o.dst (.slice p (xs.length + ns.length) c)) w') : wpList Try.prog ops Q (o :: rest) a w := by
  obtain ⟨i0, hi, hz0, hz1, hz2⟩ := info_parts infoBool
  exact wpList_append_L hgd s x 55 ho i0 _ 1 Try.underlying55 hi hz0 hz1 hz2 rfl (by decide) v xs hs hown xv ns hx hr (by unfold maxLen; omega) (by omega) hbase h

end
set_option maxHeartbeats 2000000 in
theorem all_any06 (w : World) (n : Nat) (is : Bool) (hn : n ≤ 100000) :
    Calls Try.prog 71 #[.int .i64 n, .bool is] w fun e w' => ∃ v, e = .returned v ∧ OwnL boolE 4 1 w.heap.size w' v (List.replicate (n + 1) is) ∧ Below w.heap.size w w' := by
  go_enter Try.func71, Try.ntmps71
  go_wp2_with fail
  go_loopw [5, 6] (fun v i wr => ∃ k : Nat, i = .int .i64 k ∧ k ≤ n + 1 ∧ OwnL boolE 4 1 w.heap.size wr v (List.replicate k is) ∧ Below w.heap.size w wr) (fun _ i _ => n + 1 - (intOf i).toNat)
  case atStart => exact ⟨0, rfl, by omega, OwnL.nil _, Below.refl _ _⟩
  case round =>
    obtain ⟨k, rfl, h1, hown, hb⟩ := hrel
    have HOWN := Lib.hid hown
    have HB := Lib.hid hb
    by_cases hk : k ≤ n
    · have ha := below_alloc1 wr (.cells #[.bool is] 4)
      have HA := Lib.hid ha
      have HO2 := Lib.hid (hown.below ha (Nat.le_refl _))
      have HRD := Lib.hid (ReadL.one (E := boolE) (sz := 1) wr 4 is [.bool is] (by simp [Value.oneCell']) rfl)
      have HSZ := Lib.hid (Nat.le_trans hb.size ha.size)
      have HLEN := Lib.hid (show (List.replicate k is).length + [is].length ≤ 1000000 by simp; omega)
      clear ha hown hb
      go_wp2_with (at_builtin; refine wpList_append_bools rfl (.tmp 12) (.tmp 14) rfl u5 (List.replicate k is) rfl HO2.out _ [is] rfl HRD.out HLEN.out HSZ.out ?_)
      intro p5 c5 w5 hown hg _
      have HB5 := Lib.hid ((HB.out.trans (HA.out.mono HB.out.size)).grown hg HSZ.out (fun k hk => (HO2.out.lt k hk).1))
      have HOW5 := Lib.hid hown
      clear hown hg
      go_wp2_with fail
      go_roundw
      case rel => exact ⟨k + 1, by go_num, by omega, by rw [List.replicate_succ']; exact HOW5.out, HB5.out⟩
      case measure => simp [intOf]; omega
    · have hkn : k = n + 1 := by omega
      subst hkn
      obtain ⟨p, c, rfl⟩ := hown.form
      clear hown hb
      go_wp2_with fail
      go_ret
      exact ⟨_, rfl, HOWN.out, HB.out⟩

set_option maxHeartbeats 2000000 in
theorem in_any (w : World) (v : Value) (cls : List Int) (c : Int) (hn : cls.length * 8 ≤ R) (hv : Ints w v cls) :
    Calls Try.prog 110 #[v, .int .i64 c] w (Says (decide (c ∈ cls)) w) := by
  obtain ⟨p, cap, rfl, hcap, hx⟩ := hv.get
  unfold R at hn
  have HX := Lib.hid hx
  have HNO := Lib.hid (fun (k : Nat) (h : ∀ j (hj : j < cls.length), j < k → cls[j] ≠ c) (hk : cls.length ≤ k) => show c ∉ cls from fun hm => by
    obtain ⟨j, hj, rfl⟩ := List.getElem_of_mem hm
    exact h j hj (by omega) rfl)
  clear hv hx
  go_enter Try.func110, Try.ntmps110
  go_wp2_with fail
  go_loopw [5] (fun i wr => ∃ k : Nat, i = .int .i64 k ∧ k ≤ cls.length ∧ (∀ j (hj : j < cls.length), j < k → cls[j] ≠ c) ∧ Below w.heap.size w wr) (fun i _ => cls.length - (intOf i).toNat)
  case atStart => exact ⟨0, rfl, by omega, fun _ _ h => absurd h (Nat.not_lt_zero _), Below.refl _ _⟩
  case round =>
    obtain ⟨k, rfl, h1, hno, hb⟩ := hrel
    have HB := Lib.hid hb
    have HN := Lib.hid hno
    by_cases hk : k < cls.length
    · obtain ⟨b, off, rfl, hbl, hy⟩ := HX.out (by omega)
      have y0 := cell_below hb hbl (hy k hk)
      have HM := Lib.hid (List.getElem_mem hk)
      by_cases hc : cls[k] = c
      · have hc' : (cls[k] == c) = true := by simp [hc]
        have HC := Lib.hid (show c ∈ cls by rw [← hc]; exact HM.out)
        clear hc hno hb hy
        go_wp2_with fail
        go_ret
        exact Says.mk (decide_eq_true HC.out).symm HB.out
      · have hc' : (cls[k] == c) = false := by simp [hc]
        have HC := Lib.hid hc
        clear hc hno hb hy
        go_wp2_with fail
        go_roundw
        case rel => exact ⟨k + 1, by go_num, by omega, fun j hj hjk => by
          by_cases hjk2 : j = k
          · subst hjk2; exact HC.out
          · exact HN.out j hj (by omega), HB.out⟩
        case measure => simp [intOf]; omega
    · clear hno hb
      go_wp2_with fail
      go_ret
      exact Says.mk (decide_eq_false (HNO.out k HN.out (by omega))).symm HB.out

/-- the places of both -/
def orB (xs ys : List Bool) (k : Nat) : List Bool := (List.range k).map (fun i => xs[i]?.getD false || ys[i]?.getD false)

set_option maxHeartbeats 2000000 in
theorem either_any (w : World) (u v : Value) (xs ys : List Bool) (hl : xs.length = ys.length) (hn : xs.length ≤ 100000) (hu : Bools w u xs) (hv : Bools w v ys) :
    Calls Try.prog 111 #[u, v] w fun e w' => ∃ v', e = .returned v' ∧ Bools w' v' (orB xs ys xs.length) ∧ Below w.heap.size w w' := by
  obtain ⟨p1, c1, rfl, hc1, hx1⟩ := hu.get
  obtain ⟨p2, c2, rfl, hc2, hx2⟩ := hv.get
  have HX1 := Lib.hid hx1
  have HX2 := Lib.hid hx2
  have HL := Lib.hid hl
  have hys : ys.length ≤ 100000 := by omega
  clear hx1 hx2 hu hv
  go_enter Try.func111, Try.ntmps111
  go_wp2_with fail
  go_loopw [5, 6] (fun t i wr => ∃ k : Nat, i = .int .i64 k ∧ k ≤ xs.length ∧ OwnL boolE 4 1 w.heap.size wr t (orB xs ys k) ∧ Below w.heap.size w wr) (fun _ i _ => xs.length - (intOf i).toNat)
  case atStart => exact ⟨0, rfl, by omega, OwnL.nil _, Below.refl _ _⟩
  case round =>
    obtain ⟨k, rfl, h1, hown, hb⟩ := hrel
    have HOWN := Lib.hid hown
    have HB := Lib.hid hb
    by_cases hk : k < xs.length
    · have hk2 : k < ys.length := by omega
      obtain ⟨b1, o1, rfl, hl1, hy1⟩ := HX1.out (by omega)
      obtain ⟨b2, o2, rfl, hl2, hy2⟩ := HX2.out (by omega)
      have y1 := cell_below hb hl1 (hy1 k hk)
      have y2 := cell_below hb hl2 (hy2 k hk2)
      have HST := Lib.hid (show orB xs ys (k + 1) = orB xs ys k ++ [xs[k] || ys[k]] by unfold orB; rw [List.range_succ, List.map_append]; simp [hk, hk2])
      have HLO := Lib.hid (show (orB xs ys k).length = k by simp [orB])
      generalize xs[k] = xk at *
      generalize ys[k] = yk at *
      have hk2i : (k : Int) < ys.length := by omega
      clear hl hown hy1 hy2
      rcases Bool.eq_false_or_eq_true xk with hxk | hxk <;> rcases Bool.eq_false_or_eq_true yk with hyk | hyk
      · subst hxk hyk
        have ha := below_alloc1 wr (.cells #[.bool true] 4)
        have HA := Lib.hid ha
        have HO2 := Lib.hid (HOWN.out.below ha (Nat.le_refl _))
        have HRD := Lib.hid (ReadL.one (E := boolE) (sz := 1) wr 4 true [.bool true] (by simp [Value.oneCell']) rfl)
        have HSZ := Lib.hid (Nat.le_trans hb.size ha.size)
        have HLEN := Lib.hid (show (orB xs ys k).length + [true].length ≤ 1000000 by rw [HLO.out]; simp; omega)
        clear ha hb
        go_wp2_with (at_builtin; refine wpList_append_bools rfl (.tmp 13) (.tmp 24) rfl u5 (orB xs ys k) rfl HO2.out _ [true] rfl HRD.out HLEN.out HSZ.out ?_)
        intro p5 c5 w5 hown hg _
        have HB5 := Lib.hid ((HB.out.trans (HA.out.mono HB.out.size)).grown hg HSZ.out (fun k hk => (HO2.out.lt k hk).1))
        have HOW5 := Lib.hid hown
        clear hown hg y1 y2
        go_wp2_with fail
        go_roundw
        case rel => exact ⟨k + 1, by go_num, by omega, by rw [HST.out]; exact HOW5.out, HB5.out⟩
        case measure => simp [intOf]; omega
      · subst hxk hyk
        have ha := below_alloc1 wr (.cells #[.bool true] 4)
        have HA := Lib.hid ha
        have HO2 := Lib.hid (HOWN.out.below ha (Nat.le_refl _))
        have HRD := Lib.hid (ReadL.one (E := boolE) (sz := 1) wr 4 true [.bool true] (by simp [Value.oneCell']) rfl)
        have HSZ := Lib.hid (Nat.le_trans hb.size ha.size)
        have HLEN := Lib.hid (show (orB xs ys k).length + [true].length ≤ 1000000 by rw [HLO.out]; simp; omega)
        clear ha hb
        go_wp2_with (at_builtin; refine wpList_append_bools rfl (.tmp 13) (.tmp 24) rfl u5 (orB xs ys k) rfl HO2.out _ [true] rfl HRD.out HLEN.out HSZ.out ?_)
        intro p5 c5 w5 hown hg _
        have HB5 := Lib.hid ((HB.out.trans (HA.out.mono HB.out.size)).grown hg HSZ.out (fun k hk => (HO2.out.lt k hk).1))
        have HOW5 := Lib.hid hown
        clear hown hg y1 y2
        go_wp2_with fail
        go_roundw
        case rel => exact ⟨k + 1, by go_num, by omega, by rw [HST.out]; exact HOW5.out, HB5.out⟩
        case measure => simp [intOf]; omega
      · subst hxk hyk
        have ha := below_alloc1 wr (.cells #[.bool true] 4)
        have HA := Lib.hid ha
        have HO2 := Lib.hid (HOWN.out.below ha (Nat.le_refl _))
        have HRD := Lib.hid (ReadL.one (E := boolE) (sz := 1) wr 4 true [.bool true] (by simp [Value.oneCell']) rfl)
        have HSZ := Lib.hid (Nat.le_trans hb.size ha.size)
        have HLEN := Lib.hid (show (orB xs ys k).length + [true].length ≤ 1000000 by rw [HLO.out]; simp; omega)
        clear ha hb
        go_wp2_with (at_builtin; refine wpList_append_bools rfl (.tmp 13) (.tmp 24) rfl u5 (orB xs ys k) rfl HO2.out _ [true] rfl HRD.out HLEN.out HSZ.out ?_)
        intro p5 c5 w5 hown hg _
        have HB5 := Lib.hid ((HB.out.trans (HA.out.mono HB.out.size)).grown hg HSZ.out (fun k hk => (HO2.out.lt k hk).1))
        have HOW5 := Lib.hid hown
        clear hown hg y1 y2
        go_wp2_with fail
        go_roundw
        case rel => exact ⟨k + 1, by go_num, by omega, by rw [HST.out]; exact HOW5.out, HB5.out⟩
        case measure => simp [intOf]; omega
      · subst hxk hyk
        have ha := below_alloc1 wr (.cells #[.bool false] 4)
        have HA := Lib.hid ha
        have HO2 := Lib.hid (HOWN.out.below ha (Nat.le_refl _))
        have HRD := Lib.hid (ReadL.one (E := boolE) (sz := 1) wr 4 false [.bool false] (by simp [Value.oneCell']) rfl)
        have HSZ := Lib.hid (Nat.le_trans hb.size ha.size)
        have HLEN := Lib.hid (show (orB xs ys k).length + [false].length ≤ 1000000 by rw [HLO.out]; simp; omega)
        clear ha hb
        go_wp2_with (at_builtin; refine wpList_append_bools rfl (.tmp 13) (.tmp 24) rfl u5 (orB xs ys k) rfl HO2.out _ [false] rfl HRD.out HLEN.out HSZ.out ?_)
        intro p5 c5 w5 hown hg _
        have HB5 := Lib.hid ((HB.out.trans (HA.out.mono HB.out.size)).grown hg HSZ.out (fun k hk => (HO2.out.lt k hk).1))
        have HOW5 := Lib.hid hown
        clear hown hg y1 y2
        go_wp2_with fail
        go_roundw
        case rel => exact ⟨k + 1, by go_num, by omega, by rw [HST.out]; exact HOW5.out, HB5.out⟩
        case measure => simp [intOf]; omega
    · obtain ⟨p, c, rfl⟩ := hown.form
      have hke : k = xs.length := by omega
      have HKE := Lib.hid hke
      clear hown hb hl hke
      go_wp2_with fail
      go_ret
      exact ⟨_, rfl, by rw [← HKE.out]; exact HOWN.out.read.bools, HB.out⟩

-- of RB
theorem orB_eq {xs ys : List Bool} (h : xs.length = ys.length) : orB xs ys xs.length = orL xs ys := by
  unfold orB orL orTo
  refine List.map_congr_left fun i hi => ?_
  rw [if_pos (List.mem_range.1 hi)]

theorem orL_length (xs ys : List Bool) : (orL xs ys).length = xs.length := orTo_length _ _ _

theorem either_or (w : World) (u v : Value) (xs ys : List Bool) (hl : ys.length = xs.length) (hn : xs.length ≤ 100000) (hu : Bools w u xs) (hv : Bools w v ys) :
    Calls Try.prog 111 #[u, v] w fun e w' => ∃ v', e = .returned v' ∧ Bools w' v' (orL xs ys) ∧ Below w.heap.size w w' := by
  refine (either_any w u v xs ys hl.symm hn hu hv).mono ?_
  rintro e w' ⟨v', h1, h2, h3⟩
  exact ⟨v', h1, by rw [← orB_eq hl.symm]; exact h2, h3⟩

theorem same_dec06 (w : World) (u v : Value) (xs ys : List Bool) (hll : ys.length = xs.length) (hl : xs.length ≤ 1000000) (hu : Bools w u xs) (hv : Bools w v ys) : Calls Try.prog 29 #[u, v] w (Says (decide (xs = ys)) w) := by
  obtain ⟨p1, c1, rfl, hc1, hx1⟩ := hu.get
  obtain ⟨p2, c2, rfl, hc2, hx2⟩ := hv.get
  have HX1 := Lib.hid hx1
  have HX2 := Lib.hid hx2
  have HLL := Lib.hid hll
  rw [hll]
  clear hx1 hx2 hu hv hll hc2
  go_enter Try.func29, Try.ntmps29
  go_wp2_with fail
  go_loopw [5] (fun i wr => ∃ (k : Nat), i = .int .i64 k ∧ k ≤ xs.length ∧ (∀ j, j < k → xs[j]? = ys[j]?) ∧ Below w.heap.size w wr) (fun i _ => xs.length - (intOf i).toNat)
  case atStart => exact ⟨0, rfl, by omega, fun _ h => absurd h (Nat.not_lt_zero _), Below.refl _ _⟩
  case round =>
    obtain ⟨k, rfl, h1, heq, hb⟩ := hrel
    have HB := Lib.hid hb
    have HEQ := Lib.hid heq
    by_cases hk : k < xs.length
    · have hk2 : k < ys.length := by have := HLL.out; omega
      obtain ⟨b1, o1, rfl, hl1, hy1⟩ := HX1.out (by omega)
      obtain ⟨b2, o2, rfl, hl2, hy2⟩ := HX2.out (by omega)
      have y1 := cell_below hb hl1 (hy1 k hk)
      have y2 := cell_below hb hl2 (hy2 k hk2)
      have HX := Lib.hid (show xs[k]? = some xs[k] by simp [hk])
      have HY := Lib.hid (show ys[k]? = some ys[k] by simp [hk2])
      generalize xs[k] = xk at *
      generalize ys[k] = yk at *
      clear hb heq hy1 hy2 hk2
      by_cases hne : xk = yk
      · subst hne
        have hne : (xk != xk) = false := by simp
        go_wp2_with fail
        go_quiet (fail)
        go_wp2_with fail
        go_roundw
        case rel => exact ⟨k + 1, by go_num, by omega, fun j hj => by
          by_cases h : j = k
          · subst h; rw [HX.out, HY.out]
          · exact HEQ.out j (by omega), ⟨HB.out.os, HB.out.tape, HB.out.output, HB.out.size, HB.out.block⟩⟩
        case measure => simp [intOf]; omega
      · have HNE := Lib.hid (show xs ≠ ys from fun h => by have h1 := HX.out; rw [h, HY.out] at h1; cases h1; exact hne rfl)
        rcases Bool.eq_false_or_eq_true xk with h | h <;> rcases Bool.eq_false_or_eq_true yk with h' | h'
        all_goals
          first
          | exact absurd (h.trans h'.symm) hne
          | (rw [h] at y1
             rw [h'] at y2
             clear h h' hne
             go_wp2_with fail
             go_quiet (fail)
             go_wp2_with fail
             go_ret
             exact Says.mk (decide_eq_false HNE.out).symm (⟨HB.out.os, HB.out.tape, HB.out.output, HB.out.size, HB.out.block⟩))
    · have HE := Lib.hid (show xs = ys from List.ext_getElem? fun i => by
        by_cases h : i < k
        · exact HEQ.out i h
        · rw [List.getElem?_eq_none (by omega), List.getElem?_eq_none (by have := HLL.out; omega)])
      clear hb heq
      go_wp2_with fail
      go_ret
      exact Says.mk (decide_eq_true HE.out).symm HB.out

def MovesAt (t : List Int) (back : Bool) (x : Nd) : Prop := ∀ (w : World) (tv fv a b c : Value) (bs : List Bool), bs.length = t.length + 1 → Ints w tv t → Bools w fv bs → NodeIs w x a b c →
    Calls Try.prog 96 #[.agg #[a, b, c], tv, fv, .bool back] w fun e w' => ∃ v out, e = .returned v ∧ Bools w' v out ∧ img (Rel back (M t x)) bs out ∧ Below w.heap.size w w'

theorem img_none {r : Nat → Nat → Prop} {bs : List Bool} {n : Nat} (hl : bs.length = n) (h : ∀ p q, ¬ r p q) : img r bs (List.replicate n false) :=
  ⟨by simp [hl], fun q => ⟨fun h1 => absurd h1 (no_places n q), fun ⟨p, _, h2⟩ => absurd h2 (h p q)⟩⟩

/-- as many steps as there are places between are enough -/
def nearby (p q d : Nat) : Prop := q ≤ p + d ∧ p ≤ q + d

theorem star_near {t : List Int} {ps : List Nd} {back : Bool} {p q : Nat} (h : Rel back (Star (Malt t ps)) p q) : p = q ∨ ∃ m, Rel back (Star (Malt t ps)) p m ∧ Rel back (Malt t ps) m q ∧ m ≠ q ∧ ∀ d, nearby p q (d + 1) → nearby p m d := by
  have key : ∀ {a b : Nat}, Star (Malt t ps) a b → a ≤ b := fun h => by
    induction h with
    | refl => exact Nat.le_refl _
    | step _ h2 ih => exact Nat.le_trans ih (Malt_le h2)
  cases back
  · have h' : Star (Malt t ps) p q := h
    clear h
    induction h' with
    | refl => exact .inl rfl
    | step h1 h2 ih =>
      rename_i m q
      by_cases hmq : m = q
      · subst hmq; exact ih
      · refine .inr ⟨m, h1, h2, hmq, fun d hd => ?_⟩
        have h3 := key h1
        have h4 := Malt_le h2
        unfold nearby at *
        omega
  · have h' : Star (Malt t ps) q p := h
    have h2 := h'.swap
    clear h h'
    induction h2 with
    | refl => exact .inl rfl
    | step h1 h2 ih =>
      rename_i m q
      by_cases hmq : m = q
      · subst hmq; exact ih
      · have h1' : Star (Malt t ps) m p := h1.swap
        refine .inr ⟨m, h1', h2, hmq, fun d hd => ?_⟩
        have h3 := key h1'
        have h4 := Malt_le h2
        unfold nearby at *
        omega

theorem star_len {t : List Int} {ps : List Nd} {back : Bool} {p q : Nat} (h : Rel back (Star (Malt t ps)) p q) : p = q ∨ (p ≤ t.length ∧ q ≤ t.length) := by
  have key : ∀ {a b : Nat}, Star (Malt t ps) a b → a = b ∨ (a ≤ b ∧ b ≤ t.length) := fun h => by
    induction h with
    | refl => exact .inl rfl
    | step h1 h2 ih =>
      rename_i m q
      have h4 := Malt_le h2
      obtain ⟨x, hx, h5⟩ := Malt_mem.1 h2
      have h6 := M_len h5
      omega
  cases back
  · rcases key (show Star (Malt t ps) p q from h) with h | h <;> omega
  · rcases key (show Star (Malt t ps) q p from h) with h | h <;> omega

set_option maxHeartbeats 4000000 in
theorem moves_0 (t : List Int) (back : Bool) (cls : List Int) (ps : List Nd) (hn : t.length ≤ 50000) : MovesAt t back (.mk 0 cls ps) := by
    intro w tv fv a b c bs hl ht hf hx
    skip
    rw [nodeIs_iff] at hx
    obtain ⟨rfl, hcl, hcb, hpb, hps⟩ := hx
    obtain ⟨pt, capt, rfl, hct, hxt⟩ := ht.get
    obtain ⟨pf, capf, rfl, hcf, hxf⟩ := hf.get
    obtain ⟨pc, capc, rfl, hcc, -⟩ := hcl.get
    obtain ⟨pp, capp, rfl, hcp, hxp⟩ := hps.get
    rw [hl] at hf hcf ⊢
    have HT := Lib.hid ht
    have HF := Lib.hid hf
    have HXF := Lib.hid hxf
    have HXT := Lib.hid hxt
    have HCL := Lib.hid hcl
    have HCB := Lib.hid hcb
    have HXP := Lib.hid hxp
    have HL := Lib.hid hl
    unfold R at hcb hpb
    clear hl ht hf hcl hps hxt hxf hxp
    go_enter Try.func96, Try.ntmps96
    go_upto_region 1 with fail
    refine abs_wp fun W hW => ?_
    have hBW : Below w.heap.size w W := by rw [hW]; exact below_alloc1 _ _
    have hbox : W.heap[w.heap.size]? = some (.cells #[.int .i64 0, .slice pc cls.length capc, .slice pp ps.length capp] 52) := by rw [hW]; exact heap_alloc_new _ _
    obtain ⟨B, hB⟩ : ∃ B, B = w.heap.size := ⟨_, rfl⟩
    rw [← hB] at hbox ⊢
    have HBX := Lib.hid hbox
    have HBW := Lib.hid hBW
    have HALL := Lib.hid (all_any06 W t.length false (by omega))
    clear hW hBW hbox hB
    go_wp2_with fail
    refine HALL.out.mono ?_
    rintro e w1 ⟨v1, rfl, ho1, hb1⟩
    have HB1 := Lib.hid (HBW.out.trans (hb1.mono HBW.out.size))
    have HBX1 := Lib.hid ((hb1.block B (at_lt HBX.out)).trans HBX.out)
    have HSZ1 := Lib.hid (at_lt HBX1.out)
    obtain ⟨x0, x1, x2⟩ := cells3 HBX1.out
    obtain ⟨p1, c1, hv1⟩ := ho1.form
    subst hv1
    simp only [List.length_replicate] at ho1 ⊢
    have HO1 := Lib.hid ho1
    have HNO := Lib.hid ho1.read.bools
    clear ho1 hb1 HALL
    go_wp2_with fail
    go_ret
    exact ⟨_, bs, rfl, HF.out.to HB1.out (Nat.le_refl _), img_same (img_refl bs) (fun p q => ((Rel_iff (fun p q => M_0 p q) p q).trans (Rel_eq p q)).symm), HB1.out⟩

set_option maxHeartbeats 4000000 in
theorem moves_else (t : List Int) (back : Bool) (op : Int) (cls : List Int) (ps : List Nd) (hn : t.length ≤ 50000) (h0 : op ≠ 0) (h1 : op ≠ 1) (h2 : op ≠ 2) (h3 : op ≠ 3) (h4 : op ≠ 4) (h5 : op ≠ 5) : MovesAt t back (.mk op cls ps) := by
    have HM := Lib.hid (fun p q => M_else (t := t) (cls := cls) (ps := ps) h0 h1 h2 h3 h4 h5 p q)
    replace h0 : (op == 0) = false := by simp [h0]
    replace h1 : (op == 1) = false := by simp [h1]
    replace h2 : (op == 2) = false := by simp [h2]
    replace h3 : (op == 3) = false := by simp [h3]
    replace h4 : (op == 4) = false := by simp [h4]
    replace h5 : (op == 5) = false := by simp [h5]
    intro w tv fv a b c bs hl ht hf hx
    skip
    rw [nodeIs_iff] at hx
    obtain ⟨rfl, hcl, hcb, hpb, hps⟩ := hx
    obtain ⟨pt, capt, rfl, hct, hxt⟩ := ht.get
    obtain ⟨pf, capf, rfl, hcf, hxf⟩ := hf.get
    obtain ⟨pc, capc, rfl, hcc, -⟩ := hcl.get
    obtain ⟨pp, capp, rfl, hcp, hxp⟩ := hps.get
    rw [hl] at hf hcf ⊢
    have HT := Lib.hid ht
    have HF := Lib.hid hf
    have HXF := Lib.hid hxf
    have HXT := Lib.hid hxt
    have HCL := Lib.hid hcl
    have HCB := Lib.hid hcb
    have HXP := Lib.hid hxp
    have HL := Lib.hid hl
    unfold R at hcb hpb
    clear hl ht hf hcl hps hxt hxf hxp
    go_enter Try.func96, Try.ntmps96
    go_upto_region 1 with fail
    refine abs_wp fun W hW => ?_
    have hBW : Below w.heap.size w W := by rw [hW]; exact below_alloc1 _ _
    have hbox : W.heap[w.heap.size]? = some (.cells #[.int .i64 op, .slice pc cls.length capc, .slice pp ps.length capp] 52) := by rw [hW]; exact heap_alloc_new _ _
    obtain ⟨B, hB⟩ : ∃ B, B = w.heap.size := ⟨_, rfl⟩
    rw [← hB] at hbox ⊢
    have HBX := Lib.hid hbox
    have HBW := Lib.hid hBW
    have HALL := Lib.hid (all_any06 W t.length false (by omega))
    clear hW hBW hbox hB
    go_wp2_with fail
    refine HALL.out.mono ?_
    rintro e w1 ⟨v1, rfl, ho1, hb1⟩
    have HB1 := Lib.hid (HBW.out.trans (hb1.mono HBW.out.size))
    have HBX1 := Lib.hid ((hb1.block B (at_lt HBX.out)).trans HBX.out)
    have HSZ1 := Lib.hid (at_lt HBX1.out)
    obtain ⟨x0, x1, x2⟩ := cells3 HBX1.out
    obtain ⟨p1, c1, hv1⟩ := ho1.form
    subst hv1
    simp only [List.length_replicate] at ho1 ⊢
    have HO1 := Lib.hid ho1
    have HNO := Lib.hid ho1.read.bools
    clear ho1 hb1 HALL
    go_wp2_with fail
    go_ret
    exact ⟨_, _, rfl, HNO.out, img_none HL.out (fun p q h => by cases back <;> exact HM.out _ _ h), HB1.out⟩

set_option maxHeartbeats 4000000 in
theorem moves_2_false (t : List Int) (cls : List Int) (ps : List Nd) (hn : t.length ≤ 50000) (ih : ∀ x ∈ ps, MovesAt t false x) : MovesAt t false (.mk 2 cls ps) := by
    intro w tv fv a b c bs hl ht hf hx
    have IH := Lib.hid ih
    rw [nodeIs_iff] at hx
    obtain ⟨rfl, hcl, hcb, hpb, hps⟩ := hx
    obtain ⟨pt, capt, rfl, hct, hxt⟩ := ht.get
    obtain ⟨pf, capf, rfl, hcf, hxf⟩ := hf.get
    obtain ⟨pc, capc, rfl, hcc, -⟩ := hcl.get
    obtain ⟨pp, capp, rfl, hcp, hxp⟩ := hps.get
    rw [hl] at hf hcf ⊢
    have HT := Lib.hid ht
    have HF := Lib.hid hf
    have HXF := Lib.hid hxf
    have HXT := Lib.hid hxt
    have HCL := Lib.hid hcl
    have HCB := Lib.hid hcb
    have HXP := Lib.hid hxp
    have HL := Lib.hid hl
    unfold R at hcb hpb
    clear hl ht hf hcl hps hxt hxf hxp ih
    go_enter Try.func96, Try.ntmps96
    go_upto_region 1 with fail
    refine abs_wp fun W hW => ?_
    have hBW : Below w.heap.size w W := by rw [hW]; exact below_alloc1 _ _
    have hbox : W.heap[w.heap.size]? = some (.cells #[.int .i64 2, .slice pc cls.length capc, .slice pp ps.length capp] 52) := by rw [hW]; exact heap_alloc_new _ _
    obtain ⟨B, hB⟩ : ∃ B, B = w.heap.size := ⟨_, rfl⟩
    rw [← hB] at hbox ⊢
    have HBX := Lib.hid hbox
    have HBW := Lib.hid hBW
    have HALL := Lib.hid (all_any06 W t.length false (by omega))
    clear hW hBW hbox hB
    go_wp2_with fail
    refine HALL.out.mono ?_
    rintro e w1 ⟨v1, rfl, ho1, hb1⟩
    have HB1 := Lib.hid (HBW.out.trans (hb1.mono HBW.out.size))
    have HBX1 := Lib.hid ((hb1.block B (at_lt HBX.out)).trans HBX.out)
    have HSZ1 := Lib.hid (at_lt HBX1.out)
    obtain ⟨x0, x1, x2⟩ := cells3 HBX1.out
    obtain ⟨p1, c1, hv1⟩ := ho1.form
    subst hv1
    simp only [List.length_replicate] at ho1 ⊢
    have HO1 := Lib.hid ho1
    have HNO := Lib.hid ho1.read.bools
    clear ho1 hb1 HALL
    go_wp2_with fail
    go_loopw [10, 13] (fun u i wr => ∃ (k : Nat) (cur : List Bool), i = .int .i64 k ∧ k ≤ ps.length ∧ Bools wr u cur ∧ img (chain t false ((ordered false ps).take k)) bs cur ∧ Below w1.heap.size w1 wr) (fun _ i _ => ps.length - (intOf i).toNat)
    case atStart => exact ⟨0, bs, rfl, by omega, by have := HF.out.to HB1.out (Nat.le_refl _); exact this, img_same (img_refl bs) (fun p q => (chain_nil t false p q).symm), Below.refl _ _⟩
    case round =>
      obtain ⟨k, cur, rfl, h1, hcur, himg, hb⟩ := hrel
      have HCUR := Lib.hid hcur
      have HIMG := Lib.hid himg
      have HB := Lib.hid hb
      have y2 := cell_below hb HSZ1.out x2
      have hbw := HB1.out.trans (hb.mono HB1.out.size)
      have HBWR := Lib.hid hbw
      by_cases hk : k < ps.length
      · obtain ⟨bb, off, rfl, hbl, hxx⟩ := HXP.out (by omega)
        obtain ⟨j, hj⟩ : ∃ j, j = k := ⟨_, rfl⟩
        have hjl : j < ps.length := by omega
        obtain ⟨x, y, z, c0, c1, c2, hnode⟩ := hxx j hjl
        have r0 := cell_below hbw hbl c0
        have r1 := cell_below hbw hbl c1
        have r2 := cell_below hbw hbl c2
        have HCM := Lib.hid (IH.out ps[j] (List.getElem_mem hjl) wr _ _ x y z cur (by rw [himg.1, HL.out]) (HT.out.to hbw (Nat.le_refl _)) hcur (hnode.to hbw (Nat.le_refl _)))
        have hol : (ordered false ps).length = ps.length := by simp [ordered]
        have hko : k < (ordered false ps).length := by omega
        have HTK := Lib.hid (show (ordered false ps).take (k + 1) = (ordered false ps).take k ++ [ps[j]] by
          rw [List.take_succ_eq_append_getElem hko]
          congr 2
          subst hj
          rfl)
        have hji : (k : Int) = (j : Int) := by omega
        have j0 : (0 : Int) ≤ j := by omega
        have j1 : (j : Int) < ps.length := by omega
        clear hcur himg hb hxx c0 c1 c2 hnode hbw hol hko hj
        go_wp2_with fail
        refine HCM.out.mono ?_
        rintro e w2 ⟨v2, out2, rfl, hbo, himg2, hb2⟩
        have HBO := Lib.hid hbo
        have HI2 := Lib.hid (img_chain HIMG.out himg2)
        have HB2 := Lib.hid (HB.out.trans (hb2.mono HB.out.size))
        clear hbo himg2 hb2 y2 r0 r1 r2 HCM
        go_wp2_with fail
        go_roundw
        case rel => exact ⟨k + 1, out2, by go_num, by omega, HBO.out, by rw [HTK.out]; exact HI2.out, HB2.out⟩
        case measure => simp [intOf]; omega
      · have HTA := Lib.hid (show (ordered false ps).take k = ordered false ps from List.take_of_length_le (by simp [ordered]; omega))
        obtain ⟨q1, d1, hq⟩ := hcur.get.imp fun _ h => h.imp fun _ h => h.1
        subst hq
        clear hcur himg hb hbw
        go_wp2_with fail
        go_ret
        exact ⟨_, cur, rfl, HCUR.out, img_same HIMG.out (fun p q => by rw [HTA.out, chain_all]; exact (Rel_iff (fun p q => M_2 p q) p q).symm), HBWR.out⟩

set_option maxHeartbeats 4000000 in
theorem moves_2_true (t : List Int) (cls : List Int) (ps : List Nd) (hn : t.length ≤ 50000) (ih : ∀ x ∈ ps, MovesAt t true x) : MovesAt t true (.mk 2 cls ps) := by
    intro w tv fv a b c bs hl ht hf hx
    have IH := Lib.hid ih
    rw [nodeIs_iff] at hx
    obtain ⟨rfl, hcl, hcb, hpb, hps⟩ := hx
    obtain ⟨pt, capt, rfl, hct, hxt⟩ := ht.get
    obtain ⟨pf, capf, rfl, hcf, hxf⟩ := hf.get
    obtain ⟨pc, capc, rfl, hcc, -⟩ := hcl.get
    obtain ⟨pp, capp, rfl, hcp, hxp⟩ := hps.get
    rw [hl] at hf hcf ⊢
    have HT := Lib.hid ht
    have HF := Lib.hid hf
    have HXF := Lib.hid hxf
    have HXT := Lib.hid hxt
    have HCL := Lib.hid hcl
    have HCB := Lib.hid hcb
    have HXP := Lib.hid hxp
    have HL := Lib.hid hl
    unfold R at hcb hpb
    clear hl ht hf hcl hps hxt hxf hxp ih
    go_enter Try.func96, Try.ntmps96
    go_upto_region 1 with fail
    refine abs_wp fun W hW => ?_
    have hBW : Below w.heap.size w W := by rw [hW]; exact below_alloc1 _ _
    have hbox : W.heap[w.heap.size]? = some (.cells #[.int .i64 2, .slice pc cls.length capc, .slice pp ps.length capp] 52) := by rw [hW]; exact heap_alloc_new _ _
    obtain ⟨B, hB⟩ : ∃ B, B = w.heap.size := ⟨_, rfl⟩
    rw [← hB] at hbox ⊢
    have HBX := Lib.hid hbox
    have HBW := Lib.hid hBW
    have HALL := Lib.hid (all_any06 W t.length false (by omega))
    clear hW hBW hbox hB
    go_wp2_with fail
    refine HALL.out.mono ?_
    rintro e w1 ⟨v1, rfl, ho1, hb1⟩
    have HB1 := Lib.hid (HBW.out.trans (hb1.mono HBW.out.size))
    have HBX1 := Lib.hid ((hb1.block B (at_lt HBX.out)).trans HBX.out)
    have HSZ1 := Lib.hid (at_lt HBX1.out)
    obtain ⟨x0, x1, x2⟩ := cells3 HBX1.out
    obtain ⟨p1, c1, hv1⟩ := ho1.form
    subst hv1
    simp only [List.length_replicate] at ho1 ⊢
    have HO1 := Lib.hid ho1
    have HNO := Lib.hid ho1.read.bools
    clear ho1 hb1 HALL
    go_wp2_with fail
    go_loopw [10, 13] (fun u i wr => ∃ (k : Nat) (cur : List Bool), i = .int .i64 k ∧ k ≤ ps.length ∧ Bools wr u cur ∧ img (chain t true ((ordered true ps).take k)) bs cur ∧ Below w1.heap.size w1 wr) (fun _ i _ => ps.length - (intOf i).toNat)
    case atStart => exact ⟨0, bs, rfl, by omega, by have := HF.out.to HB1.out (Nat.le_refl _); exact this, img_same (img_refl bs) (fun p q => (chain_nil t true p q).symm), Below.refl _ _⟩
    case round =>
      obtain ⟨k, cur, rfl, h1, hcur, himg, hb⟩ := hrel
      have HCUR := Lib.hid hcur
      have HIMG := Lib.hid himg
      have HB := Lib.hid hb
      have y2 := cell_below hb HSZ1.out x2
      have hbw := HB1.out.trans (hb.mono HB1.out.size)
      have HBWR := Lib.hid hbw
      by_cases hk : k < ps.length
      · obtain ⟨bb, off, rfl, hbl, hxx⟩ := HXP.out (by omega)
        obtain ⟨j, hj⟩ : ∃ j, j = (ps.length - 1 - k) := ⟨_, rfl⟩
        have hjl : j < ps.length := by omega
        obtain ⟨x, y, z, c0, c1, c2, hnode⟩ := hxx j hjl
        have r0 := cell_below hbw hbl c0
        have r1 := cell_below hbw hbl c1
        have r2 := cell_below hbw hbl c2
        have HCM := Lib.hid (IH.out ps[j] (List.getElem_mem hjl) wr _ _ x y z cur (by rw [himg.1, HL.out]) (HT.out.to hbw (Nat.le_refl _)) hcur (hnode.to hbw (Nat.le_refl _)))
        have hol : (ordered true ps).length = ps.length := by simp [ordered]
        have hko : k < (ordered true ps).length := by omega
        have HTK := Lib.hid (show (ordered true ps).take (k + 1) = (ordered true ps).take k ++ [ps[j]] by
          rw [List.take_succ_eq_append_getElem hko]
          congr 2
          subst hj
          exact List.getElem_reverse _)
        have hji : (ps.length : Int) - 1 - (k : Int) = (j : Int) := by omega
        have j0 : (0 : Int) ≤ j := by omega
        have j1 : (j : Int) < ps.length := by omega
        clear hcur himg hb hxx c0 c1 c2 hnode hbw hol hko hj
        go_wp2_with fail
        refine HCM.out.mono ?_
        rintro e w2 ⟨v2, out2, rfl, hbo, himg2, hb2⟩
        have HBO := Lib.hid hbo
        have HI2 := Lib.hid (img_chain HIMG.out himg2)
        have HB2 := Lib.hid (HB.out.trans (hb2.mono HB.out.size))
        clear hbo himg2 hb2 y2 r0 r1 r2 HCM
        go_wp2_with fail
        go_roundw
        case rel => exact ⟨k + 1, out2, by go_num, by omega, HBO.out, by rw [HTK.out]; exact HI2.out, HB2.out⟩
        case measure => simp [intOf]; omega
      · have HTA := Lib.hid (show (ordered true ps).take k = ordered true ps from List.take_of_length_le (by simp [ordered]; omega))
        obtain ⟨q1, d1, hq⟩ := hcur.get.imp fun _ h => h.imp fun _ h => h.1
        subst hq
        clear hcur himg hb hbw
        go_wp2_with fail
        go_ret
        exact ⟨_, cur, rfl, HCUR.out, img_same HIMG.out (fun p q => by rw [HTA.out, chain_all]; exact (Rel_iff (fun p q => M_2 p q) p q).symm), HBWR.out⟩

-- of RC
set_option maxHeartbeats 4000000 in
theorem moves_3 (t : List Int) (back : Bool) (cls : List Int) (ps : List Nd) (hn : t.length ≤ 50000) (ih : ∀ x ∈ ps, MovesAt t back x) : MovesAt t back (.mk 3 cls ps) := by
    intro w tv fv a b c bs hl ht hf hx
    have IH := Lib.hid ih
    rw [nodeIs_iff] at hx
    obtain ⟨rfl, hcl, hcb, hpb, hps⟩ := hx
    obtain ⟨pt, capt, rfl, hct, hxt⟩ := ht.get
    obtain ⟨pf, capf, rfl, hcf, hxf⟩ := hf.get
    obtain ⟨pc, capc, rfl, hcc, -⟩ := hcl.get
    obtain ⟨pp, capp, rfl, hcp, hxp⟩ := hps.get
    rw [hl] at hf hcf ⊢
    have HT := Lib.hid ht
    have HF := Lib.hid hf
    have HXF := Lib.hid hxf
    have HXT := Lib.hid hxt
    have HCL := Lib.hid hcl
    have HCB := Lib.hid hcb
    have HXP := Lib.hid hxp
    have HL := Lib.hid hl
    unfold R at hcb hpb
    clear hl ht hf hcl hps hxt hxf hxp ih
    go_enter Try.func96, Try.ntmps96
    go_upto_region 1 with fail
    refine abs_wp fun W hW => ?_
    have hBW : Below w.heap.size w W := by rw [hW]; exact below_alloc1 _ _
    have hbox : W.heap[w.heap.size]? = some (.cells #[.int .i64 3, .slice pc cls.length capc, .slice pp ps.length capp] 52) := by rw [hW]; exact heap_alloc_new _ _
    obtain ⟨B, hB⟩ : ∃ B, B = w.heap.size := ⟨_, rfl⟩
    rw [← hB] at hbox ⊢
    have HBX := Lib.hid hbox
    have HBW := Lib.hid hBW
    have HALL := Lib.hid (all_any06 W t.length false (by omega))
    clear hW hBW hbox hB
    go_wp2_with fail
    refine HALL.out.mono ?_
    rintro e w1 ⟨v1, rfl, ho1, hb1⟩
    have HB1 := Lib.hid (HBW.out.trans (hb1.mono HBW.out.size))
    have HBX1 := Lib.hid ((hb1.block B (at_lt HBX.out)).trans HBX.out)
    have HSZ1 := Lib.hid (at_lt HBX1.out)
    obtain ⟨x0, x1, x2⟩ := cells3 HBX1.out
    obtain ⟨p1, c1, hv1⟩ := ho1.form
    subst hv1
    simp only [List.length_replicate] at ho1 ⊢
    have HO1 := Lib.hid ho1
    have HNO := Lib.hid ho1.read.bools
    clear ho1 hb1 HALL
    go_wp2_with fail
    go_loopw [10, 15] (fun u i wr => ∃ (k : Nat) (cur : List Bool), i = .int .i64 k ∧ k ≤ ps.length ∧ cur.length = t.length + 1 ∧ Bools wr u cur ∧ (∀ q, tr cur q ↔ ∃ p, tr bs p ∧ Rel back (Malt t (ps.take k)) p q) ∧ Below w1.heap.size w1 wr) (fun _ i _ => ps.length - (intOf i).toNat)
    case atStart => exact ⟨0, _, rfl, by omega, by simp, HNO.out, fun q => ⟨fun h => absurd h (no_places _ q), fun ⟨p, _, h⟩ => by cases back <;> simp [Rel, Malt] at h⟩, Below.refl _ _⟩
    case round =>
      obtain ⟨k, cur, rfl, h1, hcl, hcur, himg, hb⟩ := hrel
      have HCUR := Lib.hid hcur
      have HIMG := Lib.hid himg
      have HCLN := Lib.hid hcl
      have HB := Lib.hid hb
      have y2 := cell_below hb HSZ1.out x2
      have hbw := HB1.out.trans (hb.mono HB1.out.size)
      have HBWR := Lib.hid hbw
      by_cases hk : k < ps.length
      · obtain ⟨bb, off, rfl, hbl, hxx⟩ := HXP.out (by omega)
        obtain ⟨x, y, z, c0, c1, c2, hnode⟩ := hxx k hk
        have r0 := cell_below hbw hbl c0
        have r1 := cell_below hbw hbl c1
        have r2 := cell_below hbw hbl c2
        have HCM := Lib.hid (IH.out ps[k] (List.getElem_mem hk) wr _ _ x y z bs HL.out (HT.out.to hbw (Nat.le_refl _)) (HF.out.to hbw (Nat.le_refl _)) (hnode.to hbw (Nat.le_refl _)))
        have HST := Lib.hid (fun (out : List Bool) (hl : out.length = cur.length) (h2 : img (Rel back (M t ps[k])) bs out) => alt_step hk hl HIMG.out h2)
        obtain ⟨q1, d1, hq⟩ := hcur.get.imp fun _ h => h.imp fun _ h => h.1
        subst hq
        clear hcur himg hb hxx c0 c1 c2 hnode hbw hcl
        go_wp2_with fail
        refine HCM.out.mono ?_
        rintro e w2 ⟨v2, out2, rfl, hbo, himg2, hb2⟩
        have hl2 : out2.length = cur.length := by rw [himg2.1, HL.out, HCLN.out]
        have HCE := Lib.hid (either_or w2 _ _ cur out2 hl2 (by rw [HCLN.out]; omega) (HCUR.out.to hb2 (Nat.le_refl _)) hbo)
        have HI2 := Lib.hid (HST.out out2 hl2 himg2)
        have HB2 := Lib.hid (HB.out.trans (hb2.mono HB.out.size))
        clear hbo himg2 hb2 y2 r0 r1 r2 HCM hl2
        go_wp2_with fail
        refine HCE.out.mono ?_
        rintro e w3 ⟨v3, rfl, hbo, hb3⟩
        have HB3 := Lib.hid (HB2.out.trans (hb3.mono HB2.out.size))
        have HBO := Lib.hid hbo
        clear hbo hb3 HCE
        go_wp2_with fail
        go_roundw
        case rel => exact ⟨k + 1, orL cur out2, by go_num, by omega, by rw [orL_length]; exact HCLN.out, HBO.out, HI2.out, HB3.out⟩
        case measure => simp [intOf]; omega
      · have HTA := Lib.hid (show ps.take k = ps from List.take_of_length_le (by omega))
        obtain ⟨q1, d1, hq⟩ := hcur.get.imp fun _ h => h.imp fun _ h => h.1
        subst hq
        clear hcur himg hb hbw hcl
        go_wp2_with fail
        go_ret
        exact ⟨_, cur, rfl, HCUR.out, ⟨HCLN.out.trans HL.out.symm, fun q => by
          rw [HIMG.out q, HTA.out]
          exact ⟨fun ⟨p, h1, h2⟩ => ⟨p, h1, (Rel_iff (fun p q => M_3 p q) p q).2 h2⟩, fun ⟨p, h1, h2⟩ => ⟨p, h1, (Rel_iff (fun p q => M_3 p q) p q).1 h2⟩⟩⟩, HBWR.out⟩

set_option maxHeartbeats 4000000 in
theorem moves_5 (t : List Int) (back : Bool) (cls : List Int) (ps : List Nd) (hn : t.length ≤ 50000) (ih : ∀ x ∈ ps, MovesAt t back x) : MovesAt t back (.mk 5 cls ps) := by
    intro w tv fv a b c bs hl ht hf hx
    have IH := Lib.hid ih
    rw [nodeIs_iff] at hx
    obtain ⟨rfl, hcl, hcb, hpb, hps⟩ := hx
    obtain ⟨pt, capt, rfl, hct, hxt⟩ := ht.get
    obtain ⟨pf, capf, rfl, hcf, hxf⟩ := hf.get
    obtain ⟨pc, capc, rfl, hcc, -⟩ := hcl.get
    obtain ⟨pp, capp, rfl, hcp, hxp⟩ := hps.get
    rw [hl] at hf hcf ⊢
    have HT := Lib.hid ht
    have HF := Lib.hid hf
    have HXF := Lib.hid hxf
    have HXT := Lib.hid hxt
    have HCL := Lib.hid hcl
    have HCB := Lib.hid hcb
    have HXP := Lib.hid hxp
    have HL := Lib.hid hl
    unfold R at hcb hpb
    clear hl ht hf hcl hps hxt hxf hxp ih
    go_enter Try.func96, Try.ntmps96
    go_upto_region 1 with fail
    refine abs_wp fun W hW => ?_
    have hBW : Below w.heap.size w W := by rw [hW]; exact below_alloc1 _ _
    have hbox : W.heap[w.heap.size]? = some (.cells #[.int .i64 5, .slice pc cls.length capc, .slice pp ps.length capp] 52) := by rw [hW]; exact heap_alloc_new _ _
    obtain ⟨B, hB⟩ : ∃ B, B = w.heap.size := ⟨_, rfl⟩
    rw [← hB] at hbox ⊢
    have HBX := Lib.hid hbox
    have HBW := Lib.hid hBW
    have HALL := Lib.hid (all_any06 W t.length false (by omega))
    clear hW hBW hbox hB
    go_wp2_with fail
    refine HALL.out.mono ?_
    rintro e w1 ⟨v1, rfl, ho1, hb1⟩
    have HB1 := Lib.hid (HBW.out.trans (hb1.mono HBW.out.size))
    have HBX1 := Lib.hid ((hb1.block B (at_lt HBX.out)).trans HBX.out)
    have HSZ1 := Lib.hid (at_lt HBX1.out)
    obtain ⟨x0, x1, x2⟩ := cells3 HBX1.out
    obtain ⟨p1, c1, hv1⟩ := ho1.form
    subst hv1
    simp only [List.length_replicate] at ho1 ⊢
    have HO1 := Lib.hid ho1
    have HNO := Lib.hid ho1.read.bools
    clear ho1 hb1 HALL
    by_cases hp1 : ps.length = 1
    · have hpe : ((ps.length : Int) == 1) = true := by simp [hp1]
      have HP1 := Lib.hid hp1
      have h0p : 0 < ps.length := by omega
      obtain ⟨bb, off, rfl, hbl, hxx⟩ := HXP.out (by omega)
      obtain ⟨x, y, z, c0, c1, c2, hnode⟩ := hxx 0 (by omega)
      have hbw := HB1.out
      have r0 := cell_below hbw hbl c0
      have r1 := cell_below hbw hbl c1
      have r2 := cell_below hbw hbl c2
      simp only [Nat.zero_mul, Nat.add_zero] at r0 r1 r2
      have HCM := Lib.hid (IH.out ps[0] (List.getElem_mem h0p) w1 _ _ x y z bs HL.out (HT.out.to hbw (Nat.le_refl _)) (HF.out.to hbw (Nat.le_refl _)) (hnode.to hbw (Nat.le_refl _)))
      have h0i : (0 : Int) < ps.length := by omega
      clear hp1 hxx c0 c1 c2 hnode hbw
      go_wp2_with fail
      refine HCM.out.mono ?_
      rintro e w2 ⟨v2, out2, rfl, hbo, himg2, hb2⟩
      have hl2 : out2.length = bs.length := himg2.1
      have HB2 := Lib.hid (HB1.out.trans (hb2.mono HB1.out.size))
      have HCE := Lib.hid (either_or w2 _ _ bs out2 hl2 (by rw [HL.out]; omega) (HF.out.to HB2.out (Nat.le_refl _)) hbo)
      have HL2 := Lib.hid hl2
      have HI2 := Lib.hid himg2
      clear hbo himg2 hb2 r0 r1 r2 HCM hl2
      go_wp2_with fail
      refine HCE.out.mono ?_
      rintro e w3 ⟨v3, rfl, hbo, hb3⟩
      have HB3 := Lib.hid (HB2.out.trans (hb3.mono HB2.out.size))
      have HBO := Lib.hid hbo
      clear hbo hb3 HCE
      go_wp2_with fail
      go_ret
      refine ⟨_, orL bs out2, rfl, HBO.out, ⟨orL_length _ _, fun q => ?_⟩, HB3.out⟩
      have hm : img (Rel back (Malt t ps)) bs out2 := img_same HI2.out (fun p q => Rel_iff (fun p q => malt_one HP1.out p q) p q)
      rw [opt_fin HL2.out (fun q => Iff.rfl) hm (fun q h => h) (fun q h => h) q]
      exact ⟨fun ⟨p, h1, h2⟩ => ⟨p, h1, (rel_5 HP1.out p q).2 h2⟩, fun ⟨p, h1, h2⟩ => ⟨p, h1, (rel_5 HP1.out p q).1 h2⟩⟩
    · have hpe : ((ps.length : Int) == 1) = false := by simp; omega
      have HP1 := Lib.hid hp1
      clear hp1
      go_wp2_with fail
      go_ret
      exact ⟨_, _, rfl, HNO.out, img_none HL.out (fun p q => rel_45 (.inr rfl) HP1.out p q), HB1.out⟩

theorem star_step_all {t : List Int} {ps : List Nd} {back : Bool} {bs cur out : List Bool} {k : Nat} (hl : out.length = cur.length) (h6 : img (Rel back (Malt t ps)) cur out) (hk : ∀ p q, tr bs p → Rel back (Star (Malt t ps)) p q → nearby p q k → tr cur q) :
    ∀ p q, tr bs p → Rel back (Star (Malt t ps)) p q → nearby p q (k + 1) → tr (orL cur out) q := by
  intro p q hp hs hd
  rcases star_near hs with rfl | ⟨m, h1, h2, -, h3⟩
  · exact (tr_or hl _).2 (.inl (hk p p hp hs (by unfold nearby; omega)))
  · exact (tr_or hl _).2 (.inr ((h6.2 q).2 ⟨m, hk p m hp h1 (h3 k hd), h2⟩))

theorem tr_orL_eq {cur out : List Bool} (hl : out.length = cur.length) (h : orL cur out = cur) (q : Nat) (hq : tr out q) : tr cur q := by
  rw [← h]
  exact (tr_or hl q).2 (.inr hq)

set_option maxHeartbeats 4000000 in
theorem moves_4 (t : List Int) (back : Bool) (cls : List Int) (ps : List Nd) (hn : t.length ≤ 50000) (ih : ∀ x ∈ ps, MovesAt t back x) : MovesAt t back (.mk 4 cls ps) := by
    intro w tv fv a b c bs hl ht hf hx
    have IH := Lib.hid ih
    rw [nodeIs_iff] at hx
    obtain ⟨rfl, hcl, hcb, hpb, hps⟩ := hx
    obtain ⟨pt, capt, rfl, hct, hxt⟩ := ht.get
    obtain ⟨pf, capf, rfl, hcf, hxf⟩ := hf.get
    obtain ⟨pc, capc, rfl, hcc, -⟩ := hcl.get
    obtain ⟨pp, capp, rfl, hcp, hxp⟩ := hps.get
    rw [hl] at hf hcf ⊢
    have HT := Lib.hid ht
    have HF := Lib.hid hf
    have HXF := Lib.hid hxf
    have HXT := Lib.hid hxt
    have HCL := Lib.hid hcl
    have HCB := Lib.hid hcb
    have HXP := Lib.hid hxp
    have HL := Lib.hid hl
    unfold R at hcb hpb
    clear hl ht hf hcl hps hxt hxf hxp ih
    go_enter Try.func96, Try.ntmps96
    go_upto_region 1 with fail
    refine abs_wp fun W hW => ?_
    have hBW : Below w.heap.size w W := by rw [hW]; exact below_alloc1 _ _
    have hbox : W.heap[w.heap.size]? = some (.cells #[.int .i64 4, .slice pc cls.length capc, .slice pp ps.length capp] 52) := by rw [hW]; exact heap_alloc_new _ _
    obtain ⟨B, hB⟩ : ∃ B, B = w.heap.size := ⟨_, rfl⟩
    rw [← hB] at hbox ⊢
    have HBX := Lib.hid hbox
    have HBW := Lib.hid hBW
    have HALL := Lib.hid (all_any06 W t.length false (by omega))
    clear hW hBW hbox hB
    go_wp2_with fail
    refine HALL.out.mono ?_
    rintro e w1 ⟨v1, rfl, ho1, hb1⟩
    have HB1 := Lib.hid (HBW.out.trans (hb1.mono HBW.out.size))
    have HBX1 := Lib.hid ((hb1.block B (at_lt HBX.out)).trans HBX.out)
    have HSZ1 := Lib.hid (at_lt HBX1.out)
    obtain ⟨x0, x1, x2⟩ := cells3 HBX1.out
    obtain ⟨p1, c1, hv1⟩ := ho1.form
    subst hv1
    simp only [List.length_replicate] at ho1 ⊢
    have HO1 := Lib.hid ho1
    have HNO := Lib.hid ho1.read.bools
    clear ho1 hb1 HALL
    by_cases hp1 : ps.length = 1
    · have hpe : ((ps.length : Int) != 1) = false := by simp [hp1]
      have hpe2 : ((ps.length : Int) == 1) = true := by simp [hp1]
      have HP1 := Lib.hid hp1
      have h0p : 0 < ps.length := by omega
      obtain ⟨bb, off, rfl, hbl, hxx⟩ := HXP.out (by omega)
      obtain ⟨x, y, z, c0, c1, c2, hnode⟩ := hxx 0 (by omega)
      have HC0 := Lib.hid c0
      have HC1 := Lib.hid c1
      have HC2 := Lib.hid c2
      have HND := Lib.hid hnode
      have h0i : (0 : Int) < ps.length := by omega
      clear hp1 hxx c0 c1 c2 hnode
      go_wp2_with fail
      go_loopw [10, 16] (fun u i wr => ∃ (k : Nat) (cur : List Bool), i = .int .i64 k ∧ k ≤ t.length ∧ cur.length = t.length + 1 ∧ Bools wr u cur ∧ (∀ q, tr bs q → tr cur q) ∧ (∀ q, tr cur q → ∃ p, tr bs p ∧ Rel back (Star (Malt t ps)) p q) ∧ (∀ p q, tr bs p → Rel back (Star (Malt t ps)) p q → nearby p q k → tr cur q) ∧ Below w1.heap.size w1 wr) (fun _ i _ => t.length - (intOf i).toNat)
      case atStart => exact ⟨0, bs, rfl, by omega, HL.out, HF.out.to HB1.out (Nat.le_refl _), fun q h => h, fun q h => ⟨q, h, rel_star_refl q⟩, fun p q hp _ hd => by
        have : p = q := by unfold nearby at hd; omega
        exact this ▸ hp, Below.refl _ _⟩
      case round =>
        obtain ⟨k, cur, rfl, h1, hcl, hcur, hA, hS, hC, hb⟩ := hrel
        have HCUR := Lib.hid hcur
        have HA := Lib.hid hA
        have HS := Lib.hid hS
        have HC := Lib.hid hC
        have HCLN := Lib.hid hcl
        have HB := Lib.hid hb
        have y2 := cell_below hb HSZ1.out x2
        have hbw := HB1.out.trans (hb.mono HB1.out.size)
        have HBWR := Lib.hid hbw
        obtain ⟨q1, d1, hq⟩ := hcur.get.imp fun _ h => h.imp fun _ h => h.1
        subst hq
        clear hA hS hC
        by_cases hk : k < t.length
        · have r0 := cell_below hbw hbl HC0.out
          have r1 := cell_below hbw hbl HC1.out
          have r2 := cell_below hbw hbl HC2.out
          simp only [Nat.zero_mul, Nat.add_zero] at r0 r1 r2
          have HCM := Lib.hid (IH.out ps[0] (List.getElem_mem h0p) wr _ _ x y z cur HCLN.out (HT.out.to hbw (Nat.le_refl _)) hcur (HND.out.to hbw (Nat.le_refl _)))
          clear hcur hb hbw hcl
          go_wp2_with fail
          refine HCM.out.mono ?_
          rintro e w2 ⟨v2, out2, rfl, hbo, himg2, hb2⟩
          have hl2 : out2.length = cur.length := himg2.1
          have HCE := Lib.hid (either_or w2 _ _ cur out2 hl2 (by rw [HCLN.out]; omega) (HCUR.out.to hb2 (Nat.le_refl _)) hbo)
          have HIM := Lib.hid (show img (Rel back (Malt t ps)) cur out2 from img_same himg2 (fun p q => Rel_iff (fun p q => malt_one HP1.out p q) p q))
          have HL2 := Lib.hid hl2
          have HB2 := Lib.hid (HB.out.trans (hb2.mono HB.out.size))
          have HB22 := Lib.hid hb2
          clear hbo himg2 hb2 y2 r0 r1 r2 HCM hl2
          go_wp2_with fail
          refine HCE.out.mono ?_
          rintro e w3 ⟨v3, rfl, hbo, hb3⟩
          have HB3 := Lib.hid (HB2.out.trans (hb3.mono HB2.out.size))
          have HBO := Lib.hid hbo
          have HCUR3 := Lib.hid ((HCUR.out.to HB22.out (Nat.le_refl _)).to hb3 (Nat.le_refl _))
          have HSM := Lib.hid (same_dec06 w3 _ _ (orL cur out2) cur (orL_length _ _).symm (by rw [orL_length, HCLN.out]; omega) hbo ((HCUR.out.to HB22.out (Nat.le_refl _)).to hb3 (Nat.le_refl _)))
          clear hbo hb3 HCE
          go_wp2_with fail
          refine HSM.out.mono ?_
          rintro e w4 ⟨rfl, hb4⟩
          have HB4 := Lib.hid (HB3.out.trans (hb4.mono HB3.out.size))
          have HB34 := Lib.hid hb4
          have HBW4 := Lib.hid (HB1.out.trans (HB4.out.mono HB1.out.size))
          have HCUR4 := Lib.hid (HCUR3.out.to hb4 (Nat.le_refl _))
          clear hb4 HSM
          by_cases heq : orL cur out2 = cur
          · have hde : decide (orL cur out2 = cur) = true := decide_eq_true heq
            have HEQ := Lib.hid heq
            rw [hde]
            clear heq hde
            go_wp2_with fail
            go_ret
            refine ⟨_, cur, rfl, HCUR4.out, ⟨HCLN.out.trans HL.out.symm, fun q => ⟨fun h => ?_, fun ⟨p, h1, h2⟩ => ?_⟩⟩, HBW4.out⟩
            · obtain ⟨p, h1, h2⟩ := HS.out q h
              exact ⟨p, h1, (rel_4 HP1.out p q).2 h2⟩
            · exact rel_star_ind (S := fun m => tr cur m) (fun m q hm hr => tr_orL_eq HL2.out HEQ.out q ((HIM.out.2 q).2 ⟨m, hm, hr⟩)) ((rel_4 HP1.out p q).1 h2) (HA.out p h1)
          · have hde : decide (orL cur out2 = cur) = false := decide_eq_false heq
            rw [hde]
            clear heq hde
            go_wp2_with fail
            go_roundw
            case rel =>
              have hmore := star_more HL2.out (fun q => Iff.rfl) HIM.out HA.out HS.out
              exact ⟨k + 1, orL cur out2, by go_num, by omega, by rw [orL_length]; exact HCLN.out, HBO.out.to HB34.out (Nat.le_refl _), hmore.1, hmore.2, star_step_all HL2.out HIM.out HC.out, HB4.out⟩
            case measure => simp [intOf]; omega
        · have hkn : k = t.length := by omega
          have HKN := Lib.hid hkn
          clear hcur hb hbw hcl hkn
          go_wp2_with fail
          go_ret
          refine ⟨_, cur, rfl, HCUR.out, ⟨HCLN.out.trans HL.out.symm, fun q => ⟨fun h => ?_, fun ⟨p, h1, h2⟩ => ?_⟩⟩, HBWR.out⟩
          · obtain ⟨p, h1, h2⟩ := HS.out q h
            exact ⟨p, h1, (rel_4 HP1.out p q).2 h2⟩
          · have h3 := (rel_4 HP1.out p q).1 h2
            refine HC.out p q h1 h3 ?_
            have h4 := star_len h3
            have h5 := HKN.out
            unfold nearby
            omega
    · have hpe : ((ps.length : Int) != 1) = true := by simp; omega
      have HP1 := Lib.hid hp1
      clear hp1
      go_wp2_with fail
      go_ret
      exact ⟨_, _, rfl, HNO.out, img_none HL.out (fun p q => rel_45 (.inl rfl) HP1.out p q), HB1.out⟩

-- of RD
/-- the character at i is of these classes, and the place j is in the set -/
def sv (t cls : List Int) (bs : List Bool) (i j : Nat) : Bool := (match t[i]? with | some c => decide (c ∈ cls) | none => false) && bs[j]?.getD false

theorem sv_get {t cls : List Int} {bs : List Bool} {i j : Nat} (hi : i < t.length) (hj : j < bs.length) : sv t cls bs i j = (decide (t[i] ∈ cls) && bs[j]) := by
  unfold sv; rw [List.getElem?_eq_getElem hi, List.getElem?_eq_getElem hj]; rfl

theorem sv_tr {t cls : List Int} {bs : List Bool} {i j : Nat} : sv t cls bs i j = true ↔ (∃ c, t[i]? = some c ∧ c ∈ cls) ∧ tr bs j := by
  unfold sv tr
  cases h : t[i]? <;> cases h' : bs[j]? <;> simp

theorem boolE_splice {row : List Value} (h : row.length = 1) (x : Bool) : boolE x (splice row 0 [.bool x]) := by
  match row, h with
  | [u], _ => rfl

def fwd (t cls : List Int) (bs : List Bool) (k : Nat) : List Bool := (List.range (t.length + 1)).map fun j => decide (1 ≤ j ∧ j ≤ k) && sv t cls bs (j - 1) (j - 1)

def bck (t cls : List Int) (bs : List Bool) (k : Nat) : List Bool := (List.range (t.length + 1)).map fun j => decide (j < k) && sv t cls bs j (j + 1)

theorem fwd_zero (t cls : List Int) (bs : List Bool) : List.replicate (t.length + 1) false = fwd t cls bs 0 := by
  refine List.ext_getElem (by simp [fwd]) fun i h1 h2 => ?_
  simp [fwd]
  omega

theorem bck_zero (t cls : List Int) (bs : List Bool) : List.replicate (t.length + 1) false = bck t cls bs 0 := by
  refine List.ext_getElem (by simp [bck]) fun i h1 h2 => ?_
  simp [bck]

theorem fwd_step (t cls : List Int) (bs : List Bool) (k : Nat) : (fwd t cls bs k).set (k + 1) (sv t cls bs k k) = fwd t cls bs (k + 1) := by
  refine List.ext_getElem (by simp [fwd]) fun i h1 h2 => ?_
  rw [List.getElem_set]
  simp only [fwd, List.getElem_map, List.getElem_range]
  split
  · rename_i h; subst h; simp
  · rename_i h
    congr 1
    simp only [decide_eq_decide]
    omega

theorem bck_step (t cls : List Int) (bs : List Bool) (k : Nat) : (bck t cls bs k).set k (sv t cls bs k (k + 1)) = bck t cls bs (k + 1) := by
  refine List.ext_getElem (by simp [bck]) fun i h1 h2 => ?_
  rw [List.getElem_set]
  simp only [bck, List.getElem_map, List.getElem_range]
  split
  · rename_i h; subst h; simp
  · rename_i h
    congr 1
    simp only [decide_eq_decide]
    omega

theorem img_fwd {t cls : List Int} {bs : List Bool} (hl : bs.length = t.length + 1) : img (one t cls) bs (fwd t cls bs t.length) := by
  refine ⟨by simp [fwd, hl], fun q => ?_⟩
  unfold one
  by_cases hq : q < t.length + 1
  · have h : tr (fwd t cls bs t.length) q ↔ (decide (1 ≤ q ∧ q ≤ t.length) && sv t cls bs (q - 1) (q - 1)) = true := by simp [tr, fwd, hq]
    rw [h, Bool.and_eq_true, decide_eq_true_iff, sv_tr]
    constructor
    · rintro ⟨h1, h2, h3⟩; exact ⟨q - 1, h3, by omega, h2⟩
    · rintro ⟨p, h1, rfl, h2⟩; exact ⟨by omega, h2, h1⟩
  · constructor
    · intro h; have := tr_lt h; simp [fwd] at this; omega
    · rintro ⟨p, h1, rfl, c, h2, h3⟩
      have := (List.getElem?_eq_some_iff.1 h2).1
      omega

theorem img_bck {t cls : List Int} {bs : List Bool} (hl : bs.length = t.length + 1) : img (fun p q => one t cls q p) bs (bck t cls bs t.length) := by
  refine ⟨by simp [bck, hl], fun q => ?_⟩
  unfold one
  by_cases hq : q < t.length + 1
  · have h : tr (bck t cls bs t.length) q ↔ (decide (q < t.length) && sv t cls bs q (q + 1)) = true := by simp [tr, bck, hq]
    rw [h, Bool.and_eq_true, decide_eq_true_iff, sv_tr]
    constructor
    · rintro ⟨h1, h2, h3⟩; exact ⟨q + 1, h3, rfl, h2⟩
    · rintro ⟨p, h1, rfl, h2⟩
      obtain ⟨c, h3, h4⟩ := h2
      exact ⟨(List.getElem?_eq_some_iff.1 h3).1, ⟨c, h3, h4⟩, h1⟩
  · constructor
    · intro h; have := tr_lt h; simp [bck] at this; omega
    · rintro ⟨p, h1, rfl, c, h2, h3⟩
      have := (List.getElem?_eq_some_iff.1 h2).1
      omega

set_option maxRecDepth 100000 in
set_option maxHeartbeats 4000000 in
theorem moves_1_false (t : List Int) (cls : List Int) (ps : List Nd) (hn : t.length ≤ 50000) : MovesAt t false (.mk 1 cls ps) := by
    intro w tv fv a b c bs hl ht hf hx
    skip
    rw [nodeIs_iff] at hx
    obtain ⟨rfl, hcl, hcb, hpb, hps⟩ := hx
    obtain ⟨pt, capt, rfl, hct, hxt⟩ := ht.get
    obtain ⟨pf, capf, rfl, hcf, hxf⟩ := hf.get
    obtain ⟨pc, capc, rfl, hcc, -⟩ := hcl.get
    obtain ⟨pp, capp, rfl, hcp, hxp⟩ := hps.get
    rw [hl] at hf hcf ⊢
    have HT := Lib.hid ht
    have HF := Lib.hid hf
    have HXF := Lib.hid hxf
    have HXT := Lib.hid hxt
    have HCL := Lib.hid hcl
    have HCB := Lib.hid hcb
    have HXP := Lib.hid hxp
    have HL := Lib.hid hl
    unfold R at hcb hpb
    clear hl ht hf hcl hps hxt hxf hxp
    go_enter Try.func96, Try.ntmps96
    go_upto_region 1 with fail
    refine abs_wp fun W hW => ?_
    have hBW : Below w.heap.size w W := by rw [hW]; exact below_alloc1 _ _
    have hbox : W.heap[w.heap.size]? = some (.cells #[.int .i64 1, .slice pc cls.length capc, .slice pp ps.length capp] 52) := by rw [hW]; exact heap_alloc_new _ _
    obtain ⟨B, hB⟩ : ∃ B, B = w.heap.size := ⟨_, rfl⟩
    have HBE := Lib.hid hB
    have HWZ := Lib.hid (show W.heap.size = B + 1 by rw [hW, hB]; simp)
    rw [← hB] at hbox ⊢
    have HBX := Lib.hid hbox
    have HBW := Lib.hid hBW
    have HALL := Lib.hid (all_any06 W t.length false (by omega))
    clear hW hBW hbox hB
    go_wp2_with fail
    refine HALL.out.mono ?_
    rintro e w1 ⟨v1, rfl, ho1, hb1⟩
    have HB1 := Lib.hid (HBW.out.trans (hb1.mono HBW.out.size))
    have HBX1 := Lib.hid ((hb1.block B (at_lt HBX.out)).trans HBX.out)
    have HSZ1 := Lib.hid (at_lt HBX1.out)
    obtain ⟨x0, x1, x2⟩ := cells3 HBX1.out
    obtain ⟨p1, c1, hv1⟩ := ho1.form
    subst hv1
    simp only [List.length_replicate] at ho1 ⊢
    have HO1 := Lib.hid ho1
    have HNO := Lib.hid ho1.read.bools
    clear ho1 hb1 HALL
    rw [HWZ.out, fwd_zero t cls bs] at HO1
    go_wp2_with fail
    go_loopw [11] (fun i wr => ∃ k : Nat, i = .int .i64 k ∧ k ≤ t.length ∧ OwnL boolE 4 1 (B + 1) wr (.slice p1 (t.length + 1) c1) (fwd t cls bs k) ∧ wr.heap[B]? = some (.cells #[.int .i64 1, .slice pc cls.length capc, .slice pp ps.length capp] 52) ∧ Below w.heap.size w wr) (fun i _ => t.length - (intOf i).toNat)
    case atStart => exact ⟨0, rfl, by omega, HO1.out, HBX1.out, HB1.out⟩
    case round =>
      obtain ⟨k, rfl, h1, hown, hbx, hb⟩ := hrel
      have HOWN := Lib.hid hown
      have HBXR := Lib.hid hbx
      have HBWR := Lib.hid hb
      by_cases hk : k < t.length
      · obtain ⟨bt, ot, rfl, hbt, hyt⟩ := HXT.out (by omega)
        obtain ⟨bf, of, rfl, hbf, hyf⟩ := HXF.out (by have := HL.out; omega)
        have y0 := cell_below hb hbt (hyt k hk)
        have hbl : bs.length = t.length + 1 := HL.out
        have f0 := cell_below hb hbf (hyf k (by omega))
        have HSV := Lib.hid (sv_get (cls := cls) hk (show k < bs.length by omega))
        have HSZR := Lib.hid (at_lt hbx)
        have HIN := Lib.hid (fun (W : World) (hW : Below wr.heap.size wr W) => in_any W (.slice pc cls.length capc) cls t[k] HCB.out ((HCL.out.to hb (Nat.le_refl _)).to hW (Nat.le_refl _)))
        have Y0 := Lib.hid y0
        have F0 := Lib.hid f0
        have hbtl : bt < wr.heap.size := Nat.lt_of_lt_of_le hbt hb.size
        have hbfl : bf < wr.heap.size := Nat.lt_of_lt_of_le hbf hb.size
        have hki : (k : Int) < (t.length : Int) := by omega
        have hki2 : k < t.length + 1 := by omega
        have hki3 : k + 1 < t.length + 1 := by omega
        have hki4 : (k : Int) + 1 < (t.length : Int) + 1 := by omega
        have hki5 : k ≤ t.length := by omega
        have hki6 : (k : Int) < (t.length : Int) + 1 := by omega
        generalize t[k] = tk at *
        generalize bs[k]'(by omega) = fk at *
        clear hown hbx hb hyt hyf y0 f0 hbl
        go_upto_region 10 with fail
        refine wp_region_plan (fun W => W.heap[B]? = some (.cells #[.int .i64 1, .slice pc cls.length capc, .slice pp ps.length capp] 52) ∧ W.cell? ⟨bt, ot + k, none⟩ = some (.int .i64 tk)) (.reads [0, 1, 2, 3, 4, 5] (.one 6 (.reads [7] .done))) 155 (by kernel_rfl) (by kernel_rfl) rfl (fun _ _ _ _ _ h => h) ⟨HBXR.out, Y0.out⟩ ?_
        apply plan_reads
        · intro W hW
          obtain ⟨s0, s1⟩ := hW
          have s2 := (cells3 s0).2.1
          repeat (refine wpRead_step (fun K hK => ?_); go_simp; refine hK _ ?_; clear hK K)
          exact wpRead_nil rfl
        have HC := Lib.hid (HIN.out wr.drew (Below.refl _ _).drew)
        refine plan_one rfl ?_
        go_wp2_with fail
        refine HC.out.mono ?_
        rintro e w2 ⟨rfl, hb2⟩
        have HB2 := Lib.hid (show Below wr.heap.size wr w2 from (Below.refl _ _).drew.trans hb2)
        have HBW2 := Lib.hid (HBWR.out.trans (HB2.out.mono HBWR.out.size))
        clear hb2 HC
        go_wp2_with fail
        refine Then.mk ⟨(HB2.out.block B HSZR.out).trans HBXR.out, cell_below HB2.out hbtl Y0.out⟩ ?_
        apply plan_reads
        · intro W hW
          repeat (refine wpRead_step (fun K hK => ?_); go_simp; refine hK _ ?_; clear hK K)
          exact wpRead_nil rfl
        refine plan_done ?_
        have f0 := cell_below HB2.out hbfl F0.out
        have hown2 := HOWN.out.below HB2.out (Nat.le_refl _)
        obtain ⟨g, cap, cur, row, hve, hg, hheap, hrow, hrl, hrc, hE, hcsz, hst⟩ := hown2.store (by omega) (k := (k + 1)) (by simp [fwd]; omega)
        have hlen : (fwd t cls bs k).length = t.length + 1 := by simp [fwd]
        rw [hlen] at hve
        injection hve with e1 e2 e3
        subst e1 e3
        have HH := Lib.hid hheap
        have HRL := Lib.hid hrl
        have HST := Lib.hid hst
        have hfit : (k + 1) + 1 ≤ cur.size := by omega
        clear hown2 hheap hrow hrl hrc hE hcsz hst hlen e2
        rcases Bool.eq_false_or_eq_true (decide (tk ∈ cls)) with hd | hd <;> rcases Bool.eq_false_or_eq_true fk with hf | hf
        all_goals
          rw [hd, hf] at HSV
          rw [hd]
          rw [hf] at f0
          simp only [Bool.and_true, Bool.and_false, Bool.true_and, Bool.false_and] at HSV
          clear hd hf
        · go_wp2_with (refine wpList_store_row rfl (.tmp 63) (.tmp 62) 4 rfl g (k + 1) rfl (.bool true) rfl cur _ (by kernel_rfl) HH.out hfit (by simp [Value.cells, Value.oneCell']) ?_)
          go_roundw
          case rel =>
            have hz := HSV.out
            have hst := HST.out 0 [.bool (sv t cls bs k k)] (by simp) (by simp [Value.oneCell']) (sv t cls bs k k) (boolE_splice HRL.out _)
            rw [fwd_step t cls bs k] at hst
            refine ⟨k + 1, by go_num, by omega, hst _ ?_, ?_, ?_⟩
            · simp only [Nat.mul_one, Nat.add_zero, hz]
              exact setRow_heap _ g _ _ _ (0, 0) HH.out
            · rw [setRow_other _ _ _ _ (by omega)]
              exact (HB2.out.block B (by have := HSZR.out; omega)).trans HBXR.out
            · exact HBW2.out.trans ((Fr.setRow (F := fun k => k = g) _ rfl _).below HBW2.out.size (fun q hq => by have h : q = g := hq; have := HBE.out; omega))
          case measure => simp [intOf]; omega
        · go_wp2_with (refine wpList_store_row rfl (.tmp 63) (.tmp 62) 4 rfl g (k + 1) rfl (.bool false) rfl cur _ (by kernel_rfl) HH.out hfit (by simp [Value.cells, Value.oneCell']) ?_)
          go_roundw
          case rel =>
            have hz := HSV.out
            have hst := HST.out 0 [.bool (sv t cls bs k k)] (by simp) (by simp [Value.oneCell']) (sv t cls bs k k) (boolE_splice HRL.out _)
            rw [fwd_step t cls bs k] at hst
            refine ⟨k + 1, by go_num, by omega, hst _ ?_, ?_, ?_⟩
            · simp only [Nat.mul_one, Nat.add_zero, hz]
              exact setRow_heap _ g _ _ _ (0, 0) HH.out
            · rw [setRow_other _ _ _ _ (by omega)]
              exact (HB2.out.block B (by have := HSZR.out; omega)).trans HBXR.out
            · exact HBW2.out.trans ((Fr.setRow (F := fun k => k = g) _ rfl _).below HBW2.out.size (fun q hq => by have h : q = g := hq; have := HBE.out; omega))
          case measure => simp [intOf]; omega
        · go_wp2_with (refine wpList_store_row rfl (.tmp 63) (.tmp 62) 4 rfl g (k + 1) rfl (.bool false) rfl cur _ (by kernel_rfl) HH.out hfit (by simp [Value.cells, Value.oneCell']) ?_)
          go_roundw
          case rel =>
            have hz := HSV.out
            have hst := HST.out 0 [.bool (sv t cls bs k k)] (by simp) (by simp [Value.oneCell']) (sv t cls bs k k) (boolE_splice HRL.out _)
            rw [fwd_step t cls bs k] at hst
            refine ⟨k + 1, by go_num, by omega, hst _ ?_, ?_, ?_⟩
            · simp only [Nat.mul_one, Nat.add_zero, hz]
              exact setRow_heap _ g _ _ _ (0, 0) HH.out
            · rw [setRow_other _ _ _ _ (by omega)]
              exact (HB2.out.block B (by have := HSZR.out; omega)).trans HBXR.out
            · exact HBW2.out.trans ((Fr.setRow (F := fun k => k = g) _ rfl _).below HBW2.out.size (fun q hq => by have h : q = g := hq; have := HBE.out; omega))
          case measure => simp [intOf]; omega
        · go_wp2_with (refine wpList_store_row rfl (.tmp 63) (.tmp 62) 4 rfl g (k + 1) rfl (.bool false) rfl cur _ (by kernel_rfl) HH.out hfit (by simp [Value.cells, Value.oneCell']) ?_)
          go_roundw
          case rel =>
            have hz := HSV.out
            have hst := HST.out 0 [.bool (sv t cls bs k k)] (by simp) (by simp [Value.oneCell']) (sv t cls bs k k) (boolE_splice HRL.out _)
            rw [fwd_step t cls bs k] at hst
            refine ⟨k + 1, by go_num, by omega, hst _ ?_, ?_, ?_⟩
            · simp only [Nat.mul_one, Nat.add_zero, hz]
              exact setRow_heap _ g _ _ _ (0, 0) HH.out
            · rw [setRow_other _ _ _ _ (by omega)]
              exact (HB2.out.block B (by have := HSZR.out; omega)).trans HBXR.out
            · exact HBW2.out.trans ((Fr.setRow (F := fun k => k = g) _ rfl _).below HBW2.out.size (fun q hq => by have h : q = g := hq; have := HBE.out; omega))
          case measure => simp [intOf]; omega
      · have hke : k = t.length := by omega
        subst hke
        clear hown hbx hb
        go_wp2_with fail
        go_ret
        exact ⟨_, _, rfl, HOWN.out.read.bools, img_same (img_fwd HL.out) (fun p q => (M_1 (ps := ps) p q).symm), HBWR.out⟩

set_option maxRecDepth 100000 in
set_option maxHeartbeats 4000000 in
theorem moves_1_true (t : List Int) (cls : List Int) (ps : List Nd) (hn : t.length ≤ 50000) : MovesAt t true (.mk 1 cls ps) := by
    intro w tv fv a b c bs hl ht hf hx
    skip
    rw [nodeIs_iff] at hx
    obtain ⟨rfl, hcl, hcb, hpb, hps⟩ := hx
    obtain ⟨pt, capt, rfl, hct, hxt⟩ := ht.get
    obtain ⟨pf, capf, rfl, hcf, hxf⟩ := hf.get
    obtain ⟨pc, capc, rfl, hcc, -⟩ := hcl.get
    obtain ⟨pp, capp, rfl, hcp, hxp⟩ := hps.get
    rw [hl] at hf hcf ⊢
    have HT := Lib.hid ht
    have HF := Lib.hid hf
    have HXF := Lib.hid hxf
    have HXT := Lib.hid hxt
    have HCL := Lib.hid hcl
    have HCB := Lib.hid hcb
    have HXP := Lib.hid hxp
    have HL := Lib.hid hl
    unfold R at hcb hpb
    clear hl ht hf hcl hps hxt hxf hxp
    go_enter Try.func96, Try.ntmps96
    go_upto_region 1 with fail
    refine abs_wp fun W hW => ?_
    have hBW : Below w.heap.size w W := by rw [hW]; exact below_alloc1 _ _
    have hbox : W.heap[w.heap.size]? = some (.cells #[.int .i64 1, .slice pc cls.length capc, .slice pp ps.length capp] 52) := by rw [hW]; exact heap_alloc_new _ _
    obtain ⟨B, hB⟩ : ∃ B, B = w.heap.size := ⟨_, rfl⟩
    have HBE := Lib.hid hB
    have HWZ := Lib.hid (show W.heap.size = B + 1 by rw [hW, hB]; simp)
    rw [← hB] at hbox ⊢
    have HBX := Lib.hid hbox
    have HBW := Lib.hid hBW
    have HALL := Lib.hid (all_any06 W t.length false (by omega))
    clear hW hBW hbox hB
    go_wp2_with fail
    refine HALL.out.mono ?_
    rintro e w1 ⟨v1, rfl, ho1, hb1⟩
    have HB1 := Lib.hid (HBW.out.trans (hb1.mono HBW.out.size))
    have HBX1 := Lib.hid ((hb1.block B (at_lt HBX.out)).trans HBX.out)
    have HSZ1 := Lib.hid (at_lt HBX1.out)
    obtain ⟨x0, x1, x2⟩ := cells3 HBX1.out
    obtain ⟨p1, c1, hv1⟩ := ho1.form
    subst hv1
    simp only [List.length_replicate] at ho1 ⊢
    have HO1 := Lib.hid ho1
    have HNO := Lib.hid ho1.read.bools
    clear ho1 hb1 HALL
    rw [HWZ.out, bck_zero t cls bs] at HO1
    go_wp2_with fail
    go_loopw [11] (fun i wr => ∃ k : Nat, i = .int .i64 k ∧ k ≤ t.length ∧ OwnL boolE 4 1 (B + 1) wr (.slice p1 (t.length + 1) c1) (bck t cls bs k) ∧ wr.heap[B]? = some (.cells #[.int .i64 1, .slice pc cls.length capc, .slice pp ps.length capp] 52) ∧ Below w.heap.size w wr) (fun i _ => t.length - (intOf i).toNat)
    case atStart => exact ⟨0, rfl, by omega, HO1.out, HBX1.out, HB1.out⟩
    case round =>
      obtain ⟨k, rfl, h1, hown, hbx, hb⟩ := hrel
      have HOWN := Lib.hid hown
      have HBXR := Lib.hid hbx
      have HBWR := Lib.hid hb
      by_cases hk : k < t.length
      · obtain ⟨bt, ot, rfl, hbt, hyt⟩ := HXT.out (by omega)
        obtain ⟨bf, of, rfl, hbf, hyf⟩ := HXF.out (by have := HL.out; omega)
        have y0 := cell_below hb hbt (hyt k hk)
        have hbl : bs.length = t.length + 1 := HL.out
        have f0 := cell_below hb hbf (hyf (k + 1) (by omega))
        have HSV := Lib.hid (sv_get (cls := cls) hk (show (k + 1) < bs.length by omega))
        have HSZR := Lib.hid (at_lt hbx)
        have HIN := Lib.hid (fun (W : World) (hW : Below wr.heap.size wr W) => in_any W (.slice pc cls.length capc) cls t[k] HCB.out ((HCL.out.to hb (Nat.le_refl _)).to hW (Nat.le_refl _)))
        have Y0 := Lib.hid y0
        have F0 := Lib.hid f0
        have hbtl : bt < wr.heap.size := Nat.lt_of_lt_of_le hbt hb.size
        have hbfl : bf < wr.heap.size := Nat.lt_of_lt_of_le hbf hb.size
        have hki : (k : Int) < (t.length : Int) := by omega
        have hki2 : k < t.length + 1 := by omega
        have hki3 : k + 1 < t.length + 1 := by omega
        have hki4 : (k : Int) + 1 < (t.length : Int) + 1 := by omega
        have hki5 : k ≤ t.length := by omega
        have hki6 : (k : Int) < (t.length : Int) + 1 := by omega
        generalize t[k] = tk at *
        generalize bs[(k + 1)]'(by omega) = fk at *
        clear hown hbx hb hyt hyf y0 f0 hbl
        go_upto_region 10 with fail
        refine wp_region_plan (fun W => W.heap[B]? = some (.cells #[.int .i64 1, .slice pc cls.length capc, .slice pp ps.length capp] 52) ∧ W.cell? ⟨bt, ot + k, none⟩ = some (.int .i64 tk)) (.reads [0, 1, 2, 3, 4, 5] (.one 6 (.reads [7] .done))) 155 (by kernel_rfl) (by kernel_rfl) rfl (fun _ _ _ _ _ h => h) ⟨HBXR.out, Y0.out⟩ ?_
        apply plan_reads
        · intro W hW
          obtain ⟨s0, s1⟩ := hW
          have s2 := (cells3 s0).2.1
          repeat (refine wpRead_step (fun K hK => ?_); go_simp; refine hK _ ?_; clear hK K)
          exact wpRead_nil rfl
        have HC := Lib.hid (HIN.out wr.drew (Below.refl _ _).drew)
        refine plan_one rfl ?_
        go_wp2_with fail
        refine HC.out.mono ?_
        rintro e w2 ⟨rfl, hb2⟩
        have HB2 := Lib.hid (show Below wr.heap.size wr w2 from (Below.refl _ _).drew.trans hb2)
        have HBW2 := Lib.hid (HBWR.out.trans (HB2.out.mono HBWR.out.size))
        clear hb2 HC
        go_wp2_with fail
        refine Then.mk ⟨(HB2.out.block B HSZR.out).trans HBXR.out, cell_below HB2.out hbtl Y0.out⟩ ?_
        apply plan_reads
        · intro W hW
          repeat (refine wpRead_step (fun K hK => ?_); go_simp; refine hK _ ?_; clear hK K)
          exact wpRead_nil rfl
        refine plan_done ?_
        have f0 := cell_below HB2.out hbfl F0.out
        have hown2 := HOWN.out.below HB2.out (Nat.le_refl _)
        obtain ⟨g, cap, cur, row, hve, hg, hheap, hrow, hrl, hrc, hE, hcsz, hst⟩ := hown2.store (by omega) (k := k) (by simp [bck]; omega)
        have hlen : (bck t cls bs k).length = t.length + 1 := by simp [bck]
        rw [hlen] at hve
        injection hve with e1 e2 e3
        subst e1 e3
        have HH := Lib.hid hheap
        have HRL := Lib.hid hrl
        have HST := Lib.hid hst
        have hfit : k + 1 ≤ cur.size := by omega
        clear hown2 hheap hrow hrl hrc hE hcsz hst hlen e2
        rcases Bool.eq_false_or_eq_true (decide (tk ∈ cls)) with hd | hd <;> rcases Bool.eq_false_or_eq_true fk with hf | hf
        all_goals
          rw [hd, hf] at HSV
          rw [hd]
          rw [hf] at f0
          simp only [Bool.and_true, Bool.and_false, Bool.true_and, Bool.false_and] at HSV
          clear hd hf
        · go_wp2_with (refine wpList_store_row rfl (.tmp 52) (.tmp 51) 4 rfl g k rfl (.bool true) rfl cur _ (by kernel_rfl) HH.out hfit (by simp [Value.cells, Value.oneCell']) ?_)
          go_roundw
          case rel =>
            have hz := HSV.out
            have hst := HST.out 0 [.bool (sv t cls bs k (k + 1))] (by simp) (by simp [Value.oneCell']) (sv t cls bs k (k + 1)) (boolE_splice HRL.out _)
            rw [bck_step t cls bs k] at hst
            refine ⟨k + 1, by go_num, by omega, hst _ ?_, ?_, ?_⟩
            · simp only [Nat.mul_one, Nat.add_zero, hz]
              exact setRow_heap _ g _ _ _ (0, 0) HH.out
            · rw [setRow_other _ _ _ _ (by omega)]
              exact (HB2.out.block B (by have := HSZR.out; omega)).trans HBXR.out
            · exact HBW2.out.trans ((Fr.setRow (F := fun k => k = g) _ rfl _).below HBW2.out.size (fun q hq => by have h : q = g := hq; have := HBE.out; omega))
          case measure => simp [intOf]; omega
        · go_wp2_with (refine wpList_store_row rfl (.tmp 52) (.tmp 51) 4 rfl g k rfl (.bool false) rfl cur _ (by kernel_rfl) HH.out hfit (by simp [Value.cells, Value.oneCell']) ?_)
          go_roundw
          case rel =>
            have hz := HSV.out
            have hst := HST.out 0 [.bool (sv t cls bs k (k + 1))] (by simp) (by simp [Value.oneCell']) (sv t cls bs k (k + 1)) (boolE_splice HRL.out _)
            rw [bck_step t cls bs k] at hst
            refine ⟨k + 1, by go_num, by omega, hst _ ?_, ?_, ?_⟩
            · simp only [Nat.mul_one, Nat.add_zero, hz]
              exact setRow_heap _ g _ _ _ (0, 0) HH.out
            · rw [setRow_other _ _ _ _ (by omega)]
              exact (HB2.out.block B (by have := HSZR.out; omega)).trans HBXR.out
            · exact HBW2.out.trans ((Fr.setRow (F := fun k => k = g) _ rfl _).below HBW2.out.size (fun q hq => by have h : q = g := hq; have := HBE.out; omega))
          case measure => simp [intOf]; omega
        · go_wp2_with (refine wpList_store_row rfl (.tmp 52) (.tmp 51) 4 rfl g k rfl (.bool false) rfl cur _ (by kernel_rfl) HH.out hfit (by simp [Value.cells, Value.oneCell']) ?_)
          go_roundw
          case rel =>
            have hz := HSV.out
            have hst := HST.out 0 [.bool (sv t cls bs k (k + 1))] (by simp) (by simp [Value.oneCell']) (sv t cls bs k (k + 1)) (boolE_splice HRL.out _)
            rw [bck_step t cls bs k] at hst
            refine ⟨k + 1, by go_num, by omega, hst _ ?_, ?_, ?_⟩
            · simp only [Nat.mul_one, Nat.add_zero, hz]
              exact setRow_heap _ g _ _ _ (0, 0) HH.out
            · rw [setRow_other _ _ _ _ (by omega)]
              exact (HB2.out.block B (by have := HSZR.out; omega)).trans HBXR.out
            · exact HBW2.out.trans ((Fr.setRow (F := fun k => k = g) _ rfl _).below HBW2.out.size (fun q hq => by have h : q = g := hq; have := HBE.out; omega))
          case measure => simp [intOf]; omega
        · go_wp2_with (refine wpList_store_row rfl (.tmp 52) (.tmp 51) 4 rfl g k rfl (.bool false) rfl cur _ (by kernel_rfl) HH.out hfit (by simp [Value.cells, Value.oneCell']) ?_)
          go_roundw
          case rel =>
            have hz := HSV.out
            have hst := HST.out 0 [.bool (sv t cls bs k (k + 1))] (by simp) (by simp [Value.oneCell']) (sv t cls bs k (k + 1)) (boolE_splice HRL.out _)
            rw [bck_step t cls bs k] at hst
            refine ⟨k + 1, by go_num, by omega, hst _ ?_, ?_, ?_⟩
            · simp only [Nat.mul_one, Nat.add_zero, hz]
              exact setRow_heap _ g _ _ _ (0, 0) HH.out
            · rw [setRow_other _ _ _ _ (by omega)]
              exact (HB2.out.block B (by have := HSZR.out; omega)).trans HBXR.out
            · exact HBW2.out.trans ((Fr.setRow (F := fun k => k = g) _ rfl _).below HBW2.out.size (fun q hq => by have h : q = g := hq; have := HBE.out; omega))
          case measure => simp [intOf]; omega
      · have hke : k = t.length := by omega
        subst hke
        clear hown hbx hb
        go_wp2_with fail
        go_ret
        exact ⟨_, _, rfl, HOWN.out.read.bools, img_same (img_bck HL.out) (fun p q => (M_1 (ps := ps) q p).symm), HBWR.out⟩

theorem moves_any (t : List Int) (back : Bool) (hn : t.length ≤ 50000) : ∀ x : Nd, MovesAt t back x
  | .mk op cls ps => by
    have ih : ∀ x ∈ ps, MovesAt t back x := fun x hx => by
      have := List.sizeOf_lt_of_mem hx
      exact moves_any t back hn x
    by_cases h0 : op = 0
    · subst h0; exact moves_0 t back cls ps hn
    by_cases h1 : op = 1
    · subst h1; cases back
      · exact moves_1_false t cls ps hn
      · exact moves_1_true t cls ps hn
    by_cases h2 : op = 2
    · subst h2; cases back
      · exact moves_2_false t cls ps hn ih
      · exact moves_2_true t cls ps hn ih
    by_cases h3 : op = 3
    · subst h3; exact moves_3 t back cls ps hn ih
    by_cases h4 : op = 4
    · subst h4; exact moves_4 t back cls ps hn ih
    by_cases h5 : op = 5
    · subst h5; exact moves_5 t back cls ps hn ih
    exact moves_else t back op cls ps hn h0 h1 h2 h3 h4 h5
  termination_by x => SizeOf.sizeOf x
  decreasing_by simp; omega

-- of RE
/-- of each place whether a rule fits there -/
noncomputable def fitsL (r : Rl) (t : List Int) (k : Nat) : List Bool := (List.range k).map fun (p : Nat) => fitsB r t (p : Int)

theorem where_fits {r : Rl} {t : List Int} {from_ left right : List Bool} (hf : ∀ p, tr from_ p ↔ p ≤ t.length ∧ (r.start = true → p = 0)) (hl : img (Rel false (M t r.left)) from_ left) (hr : img (Rel true (M t r.right)) (List.replicate (t.length + 1) true) right)
    {q : Nat} (hq : q ≤ t.length) (h1 : q < left.length) (h2 : q < right.length) : (left[q] && right[q]) = fitsB r t (q : Int) := by
  have e1 : left[q] = true ↔ tr left q := by unfold tr; rw [List.getElem?_eq_getElem h1]; simp
  have e2 : right[q] = true ↔ tr right q := by unfold tr; rw [List.getElem?_eq_getElem h2]; simp
  rw [Bool.eq_iff_iff, Bool.and_eq_true, e1, e2, hl.2 q, hr.2 q, fitsB_iff]
  unfold FitsAt
  simp only [Int.toNat_natCast]
  constructor
  · rintro ⟨⟨a, h3, h4⟩, b, h5, h6⟩
    have h7 := tr_lt h5
    simp at h7
    exact ⟨by omega, by omega, ⟨a, h4, ((hf a).1 h3).2⟩, b, by omega, h6⟩
  · rintro ⟨-, -, ⟨a, h3, h4⟩, b, h5, h6⟩
    have h7 := M_le h3
    refine ⟨⟨a, (hf a).2 ⟨by omega, h4⟩, h3⟩, b, ?_, h6⟩
    unfold tr
    rw [List.getElem?_replicate, if_pos (by omega)]

theorem from_all (st : Bool) (n p : Nat) : tr ((List.replicate (n + 1) (!st)).set 0 true) p ↔ p ≤ n ∧ (st = true → p = 0) := by
  unfold tr
  cases p with
  | zero => simp
  | succ p =>
    rw [List.getElem?_set_ne (by omega), List.getElem?_replicate]
    cases st <;> simp <;> omega

theorem OwnL.base {α : Type} {E : α → List Value → Prop} {T : TypeId} {sz base base' : Nat} {w : World} {v : Value} {xs : List α} (h : OwnL E T sz base w v xs) (hb : base' ≤ base) : OwnL E T sz base' w v xs := by
  obtain ⟨rows, ⟨h0, h1⟩, h2⟩ := h
  refine ⟨rows, ⟨h0, ?_⟩, h2⟩
  rcases h1 with h1 | ⟨g, cap, cur, e, hg, h3⟩
  · exact .inl h1
  · exact .inr ⟨g, cap, cur, e, Nat.le_trans hb hg, h3⟩

set_option maxRecDepth 100000 in
set_option maxHeartbeats 4000000 in
theorem where_any (w : World) (t : List Int) (r : Rl) (row : List Value) (tv : Value) (hn : t.length ≤ 50000) (ht : Ints w tv t) (hr : RuleIs w r row) :
    Calls Try.prog 72 #[.agg row.toArray, tv] w fun e w' => ∃ v, e = .returned v ∧ OwnL boolE 4 1 w.heap.size w' v (fitsL r t (t.length + 1)) ∧ Below w.heap.size w w' := by
  obtain ⟨a, b, c, d, e, f, rfl, hx, hy⟩ := hr
  obtain ⟨pt, capt, rfl, hct, -⟩ := ht.get
  have HT := Lib.hid ht
  have HX := Lib.hid hx
  have HY := Lib.hid hy
  obtain ⟨brk, hbrk⟩ : ∃ q, q = r.brk := ⟨_, rfl⟩
  obtain ⟨st, hst⟩ : ∃ q, q = r.start := ⟨_, rfl⟩
  rw [← hbrk, ← hst]
  have HST := Lib.hid hst
  clear ht hx hy hbrk hst
  go_enter Try.func72, Try.ntmps72
  go_upto_region 1 with fail
  refine abs_wp fun W hW => ?_
  have hBW : Below w.heap.size w W := by rw [hW]; exact below_alloc1 _ _
  have hbox : W.heap[w.heap.size]? = some (.cells #[a, b, c, d, e, f, .bool brk, .bool st] 54) := by rw [hW]; exact heap_alloc_new _ _
  obtain ⟨B, hB⟩ : ∃ B, B = w.heap.size := ⟨_, rfl⟩
  have HBE := Lib.hid hB
  have HWZ := Lib.hid (show W.heap.size = B + 1 by rw [hW, hB]; simp)
  rw [← hB] at hbox ⊢
  have HBX := Lib.hid hbox
  have HBW := Lib.hid hBW
  have z7 := (cells8 hbox).2.2.2.2.2.2.2
  have HALL := Lib.hid (all_any06 W t.length (!st) (by omega))
  clear hW hBW hbox hB
  go_wp2_with fail
  refine HALL.out.mono ?_
  rintro e1 w1 ⟨v1, rfl, ho1, hb1⟩
  obtain ⟨g, cap, cur, row, hve, hg, hheap, hrow, hrl, hrc, hE, hcsz, hsto⟩ := ho1.store (by omega) (k := 0) (by simp)
  subst hve
  have HH := Lib.hid hheap
  have hst := hsto 0 [.bool true] (by simp) (by simp [Value.oneCell']) true (boolE_splice hrl true)
  simp only [Nat.zero_mul, Nat.add_zero] at hst
  have HSTO := Lib.hid hst
  have hfit : 0 + 1 ≤ cur.size := by omega
  have HB1 := Lib.hid hb1
  have HG := Lib.hid (show B + 1 ≤ g by rw [← HWZ.out]; exact hg)
  simp only [List.length_replicate]
  simp only [List.length_replicate] at HSTO
  clear ho1 hb1 hheap hrow hrl hrc hE hcsz hsto hg hst z7 HALL
  go_upto_region 4 with (refine wpList_store_row rfl (.tmp 19) (.const (.bool true)) 4 rfl g 0 rfl (.bool true) rfl cur _ (by kernel_rfl) HH.out hfit (by simp [Value.cells, Value.oneCell']) ?_)
  refine abs_wp fun W2 hW2 => ?_
  have HFR := Lib.hid (show Fr (fun k => k = g) w1 W2 by rw [hW2]; exact Fr.setRow (F := fun k => k = g) _ rfl _)
  have HOW := Lib.hid (HSTO.out W2 (by rw [hW2]; exact setRow_heap _ g _ _ _ (0, 0) HH.out))
  have HBW2 := Lib.hid (show Below W.heap.size W W2 from HB1.out.trans (HFR.out.below HB1.out.size (fun q hq => by have h : q = g := hq; have := HG.out; have := HWZ.out; omega)))
  have HBX2 := Lib.hid ((HBW2.out.block B (at_lt HBX.out)).trans HBX.out)
  have HB2 := Lib.hid (HBW.out.trans (HBW2.out.mono HBW.out.size))
  have HSZ2 := Lib.hid (at_lt HBX2.out)
  have HFROM := Lib.hid (fun p => from_all st t.length p)
  have hlf : ((List.replicate (t.length + 1) (!st)).set 0 true).length = t.length + 1 := by simp
  have HLF := Lib.hid hlf
  generalize (List.replicate (t.length + 1) (!st)).set 0 true = from_ at *
  have HMV := Lib.hid (moves_any t false hn r.left W2 _ _ a b c from_ hlf (HT.out.to HB2.out (Nat.le_refl _)) HOW.out.read.bools (HX.out.to HB2.out (Nat.le_refl _)))
  obtain ⟨z0, z1, z2, -⟩ := cells8 HBX2.out
  clear hW2 hfit hlf
  go_wp2_with fail
  refine HMV.out.mono ?_
  rintro e3 w3 ⟨v3, left, rfl, hleft, himg, hb3⟩
  have HB3 := Lib.hid hb3
  have HLEFT := Lib.hid hleft
  have HIML := Lib.hid himg
  have hll : left.length = t.length + 1 := himg.1.trans HLF.out
  have HLL := Lib.hid hll
  have HBW3 := Lib.hid (HB2.out.trans (hb3.mono HB2.out.size))
  have HBX3 := Lib.hid ((hb3.block B HSZ2.out).trans HBX2.out)
  obtain ⟨pl, cl, hpl, hcl, hxl⟩ := hleft.get
  subst hpl
  have HXL := Lib.hid hxl
  rw [hll]
  clear hleft himg hb3 hll hxl z0 z1 z2 HMV
  go_upto_region 5 with fail
  refine wp_region_plan (fun W => W.heap[B]? = some (.cells #[a, b, c, d, e, f, .bool brk, .bool st] 54)) (.reads [0, 1, 2, 3] (.one 4 (.one 5 (.reads [6] .done)))) 50 (by kernel_rfl) (by kernel_rfl) rfl (fun _ _ _ _ _ h => h) HBX3.out ?_
  apply plan_reads
  · intro W' hW'
    obtain ⟨s0, s1, s2, s3, s4, s5, s6, s7⟩ := cells8 hW'
    repeat (refine wpRead_step (fun K hK => ?_); go_simp; refine hK _ ?_; clear hK K)
    exact wpRead_nil rfl
  refine abs_plan fun W4 hW4 => ?_
  have HB4 := Lib.hid (show Below w3.heap.size w3 W4 by rw [hW4]; exact (Below.refl _ _).drew)
  have HALL2 := Lib.hid (all_any06 W4 t.length true (by omega))
  clear hW4
  refine plan_one rfl ?_
  go_wp2_with fail
  refine HALL2.out.mono ?_
  rintro e5 w5 ⟨v5, rfl, ho5, hb5⟩
  have HB5 := Lib.hid (HB4.out.trans (hb5.mono HB4.out.size))
  have HBW5 := Lib.hid (HBW3.out.trans (HB5.out.mono HBW3.out.size))
  obtain ⟨p5, c5, hv5⟩ := ho5.form
  subst hv5
  simp only [List.length_replicate] at ho5 ⊢
  have HMV2 := Lib.hid (moves_any t true hn r.right w5 _ _ d e f (List.replicate (t.length + 1) true) (by simp) (HT.out.to HBW5.out (Nat.le_refl _)) ho5.read.bools (HY.out.to HBW5.out (Nat.le_refl _)))
  have HBX5 := Lib.hid ((HB5.out.block B (at_lt HBX3.out)).trans HBX3.out)
  clear ho5 hb5 HALL2
  go_wp2_with fail
  refine Then.mk HBX5.out ?_
  refine plan_one rfl ?_
  go_wp2_with fail
  refine HMV2.out.mono ?_
  rintro e6 w6 ⟨v6, right, rfl, hright, himg, hb6⟩
  have HB6 := Lib.hid (HB5.out.trans (hb6.mono HB5.out.size))
  have HBW6 := Lib.hid (HBW3.out.trans (HB6.out.mono HBW3.out.size))
  have HBX6 := Lib.hid ((hb6.block B (at_lt HBX5.out)).trans HBX5.out)
  have hlr : right.length = t.length + 1 := by rw [himg.1]; simp
  have HLR := Lib.hid hlr
  have HIMR := Lib.hid himg
  obtain ⟨pr, cr, hpr, hcr, hxr⟩ := hright.get
  subst hpr
  have HXR := Lib.hid hxr
  rw [hlr]
  clear hright himg hb6 hlr hxr HMV2
  go_wp2_with fail
  refine Then.mk HBX6.out ?_
  apply plan_reads
  · intro W' hW'
    repeat (refine wpRead_step (fun K hK => ?_); go_simp; refine hK _ ?_; clear hK K)
    exact wpRead_nil rfl
  refine plan_done ?_
  have HFL := Lib.hid (fun (q : Nat) (hq : q ≤ t.length) (h1 : q < left.length) (h2 : q < right.length) => where_fits (r := r) (t := t) (fun p => by rw [← HST.out]; exact HFROM.out p) HIML.out HIMR.out hq h1 h2)
  go_wp2_with fail
  go_loopw [9, 10] (fun u i wr => ∃ k : Nat, i = .int .i64 k ∧ k ≤ t.length + 1 ∧ OwnL boolE 4 1 w6.heap.size wr u (fitsL r t k) ∧ Below w6.heap.size w6 wr) (fun _ i _ => t.length + 1 - (intOf i).toNat)
  case atStart => exact ⟨0, rfl, by omega, OwnL.nil _, Below.refl _ _⟩
  case round =>
    obtain ⟨k, rfl, h1, hown, hb⟩ := hrel
    have HOWN := Lib.hid hown
    have HB := Lib.hid hb
    by_cases hk : k < t.length + 1
    · have hkl : k < left.length := by have := HLL.out; omega
      have hkr : k < right.length := by have := HLR.out; omega
      obtain ⟨b1, o1, rfl, hl1, hy1⟩ := HXL.out (by omega)
      obtain ⟨b2, o2, rfl, hl2, hy2⟩ := HXR.out (by omega)
      have y1 := cell_below (HB6.out.trans (hb.mono HB6.out.size)) hl1 (hy1 k hkl)
      have y2 := cell_below hb hl2 (hy2 k hkr)
      have hfk := HFL.out k (by omega) hkl hkr
      have HSTP := Lib.hid (show fitsL r t (k + 1) = fitsL r t k ++ [fitsB r t (k : Int)] by unfold fitsL; rw [List.range_succ, List.map_append]; rfl)
      have HLO := Lib.hid (show (fitsL r t k).length = k by simp [fitsL])
      have hki : (k : Int) < (t.length : Int) + 1 := by omega
      have hki2 : k ≤ t.length := by omega
      generalize left[k] = xk at *
      generalize right[k] = yk at *
      generalize fitsB r t (k : Int) = fk at *
      have HFK := Lib.hid hfk
      clear hown hy1 hy2 hfk
      rcases Bool.eq_false_or_eq_true xk with hxk | hxk <;> rcases Bool.eq_false_or_eq_true yk with hyk | hyk
      · subst hxk hyk
        have ha := below_alloc1 wr (.cells #[.bool true] 4)
        have HA := Lib.hid ha
        have HO2 := Lib.hid (HOWN.out.below ha (Nat.le_refl _))
        have HRD := Lib.hid (ReadL.one (E := boolE) (sz := 1) wr 4 true [.bool true] (by simp [Value.oneCell']) rfl)
        have HSZ := Lib.hid (Nat.le_trans hb.size ha.size)
        have HLEN := Lib.hid (show (fitsL r t k).length + [true].length ≤ 1000000 by rw [HLO.out]; simp; omega)
        have HV := Lib.hid (show fk = true from HFK.out.symm)
        clear ha hb
        go_wp2_with (at_builtin; refine wpList_append_bools rfl (.tmp 36) (.tmp 47) rfl u9 (fitsL r t k) rfl HO2.out _ [true] rfl HRD.out HLEN.out HSZ.out ?_)
        intro p5 c5 w5 hown hg _
        have HB5 := Lib.hid ((HB.out.trans (HA.out.mono HB.out.size)).grown hg HSZ.out (fun k hk => (HO2.out.lt k hk).1))
        have HOW5 := Lib.hid hown
        clear hown hg y1 y2
        go_wp2_with fail
        go_roundw
        case rel => exact ⟨k + 1, by go_num, by omega, by rw [HSTP.out, HV.out]; exact HOW5.out, HB5.out⟩
        case measure => simp [intOf]; omega
      · subst hxk hyk
        have ha := below_alloc1 wr (.cells #[.bool false] 4)
        have HA := Lib.hid ha
        have HO2 := Lib.hid (HOWN.out.below ha (Nat.le_refl _))
        have HRD := Lib.hid (ReadL.one (E := boolE) (sz := 1) wr 4 false [.bool false] (by simp [Value.oneCell']) rfl)
        have HSZ := Lib.hid (Nat.le_trans hb.size ha.size)
        have HLEN := Lib.hid (show (fitsL r t k).length + [false].length ≤ 1000000 by rw [HLO.out]; simp; omega)
        have HV := Lib.hid (show fk = false from HFK.out.symm)
        clear ha hb
        go_wp2_with (at_builtin; refine wpList_append_bools rfl (.tmp 36) (.tmp 47) rfl u9 (fitsL r t k) rfl HO2.out _ [false] rfl HRD.out HLEN.out HSZ.out ?_)
        intro p5 c5 w5 hown hg _
        have HB5 := Lib.hid ((HB.out.trans (HA.out.mono HB.out.size)).grown hg HSZ.out (fun k hk => (HO2.out.lt k hk).1))
        have HOW5 := Lib.hid hown
        clear hown hg y1 y2
        go_wp2_with fail
        go_roundw
        case rel => exact ⟨k + 1, by go_num, by omega, by rw [HSTP.out, HV.out]; exact HOW5.out, HB5.out⟩
        case measure => simp [intOf]; omega
      · subst hxk hyk
        have ha := below_alloc1 wr (.cells #[.bool false] 4)
        have HA := Lib.hid ha
        have HO2 := Lib.hid (HOWN.out.below ha (Nat.le_refl _))
        have HRD := Lib.hid (ReadL.one (E := boolE) (sz := 1) wr 4 false [.bool false] (by simp [Value.oneCell']) rfl)
        have HSZ := Lib.hid (Nat.le_trans hb.size ha.size)
        have HLEN := Lib.hid (show (fitsL r t k).length + [false].length ≤ 1000000 by rw [HLO.out]; simp; omega)
        have HV := Lib.hid (show fk = false from HFK.out.symm)
        clear ha hb
        go_wp2_with (at_builtin; refine wpList_append_bools rfl (.tmp 36) (.tmp 47) rfl u9 (fitsL r t k) rfl HO2.out _ [false] rfl HRD.out HLEN.out HSZ.out ?_)
        intro p5 c5 w5 hown hg _
        have HB5 := Lib.hid ((HB.out.trans (HA.out.mono HB.out.size)).grown hg HSZ.out (fun k hk => (HO2.out.lt k hk).1))
        have HOW5 := Lib.hid hown
        clear hown hg y1 y2
        go_wp2_with fail
        go_roundw
        case rel => exact ⟨k + 1, by go_num, by omega, by rw [HSTP.out, HV.out]; exact HOW5.out, HB5.out⟩
        case measure => simp [intOf]; omega
      · subst hxk hyk
        have ha := below_alloc1 wr (.cells #[.bool false] 4)
        have HA := Lib.hid ha
        have HO2 := Lib.hid (HOWN.out.below ha (Nat.le_refl _))
        have HRD := Lib.hid (ReadL.one (E := boolE) (sz := 1) wr 4 false [.bool false] (by simp [Value.oneCell']) rfl)
        have HSZ := Lib.hid (Nat.le_trans hb.size ha.size)
        have HLEN := Lib.hid (show (fitsL r t k).length + [false].length ≤ 1000000 by rw [HLO.out]; simp; omega)
        have HV := Lib.hid (show fk = false from HFK.out.symm)
        clear ha hb
        go_wp2_with (at_builtin; refine wpList_append_bools rfl (.tmp 36) (.tmp 47) rfl u9 (fitsL r t k) rfl HO2.out _ [false] rfl HRD.out HLEN.out HSZ.out ?_)
        intro p5 c5 w5 hown hg _
        have HB5 := Lib.hid ((HB.out.trans (HA.out.mono HB.out.size)).grown hg HSZ.out (fun k hk => (HO2.out.lt k hk).1))
        have HOW5 := Lib.hid hown
        clear hown hg y1 y2
        go_wp2_with fail
        go_roundw
        case rel => exact ⟨k + 1, by go_num, by omega, by rw [HSTP.out, HV.out]; exact HOW5.out, HB5.out⟩
        case measure => simp [intOf]; omega
    · obtain ⟨p, c', rfl⟩ := hown.form
      have hke : k = t.length + 1 := by omega
      have HKE := Lib.hid hke
      have HBWR := Lib.hid (HBW6.out.trans (hb.mono HBW6.out.size))
      clear hown hb hke
      go_wp2_with fail
      go_ret
      exact ⟨_, rfl, by rw [← HKE.out]; exact HOWN.out.base HBW6.out.size, HBWR.out⟩

theorem fitsL_length (r : Rl) (t : List Int) (k : Nat) : (fitsL r t k).length = k := by simp [fitsL]

-- of RF
/-- the places below k with one more rule, the others without it -/
noncomputable def mixL (rs : List Rl) (t : List Int) (i k : Nat) : List Bool := (List.range (t.length + 1)).map fun p => if p < k then bndB (rs.drop i) t p else bndB (rs.drop (i + 1)) t p

theorem mixL_length (rs : List Rl) (t : List Int) (i k : Nat) : (mixL rs t i k).length = t.length + 1 := by simp [mixL]

theorem mixL_one (rs : List Rl) (t : List Int) (i : Nat) : bnds (rs.drop (i + 1)) t = mixL rs t i 1 := by
  unfold mixL bnds
  refine List.map_congr_left fun p _ => ?_
  split
  · rw [bnd_end (.inl (by omega)), bnd_end (.inl (by omega))]
  · rfl

theorem mixL_end (rs : List Rl) (t : List Int) (i k : Nat) (h1 : 1 ≤ k) (hk : t.length ≤ k) : mixL rs t i k = bnds (rs.drop i) t := by
  unfold mixL bnds
  refine List.map_congr_left fun p hp => ?_
  have := List.mem_range.1 hp
  split
  · rfl
  · rw [bnd_end (.inr (by omega)), bnd_end (.inr (by omega))]

theorem bnd_drop {rs : List Rl} {t : List Int} {i k : Nat} (hi : i < rs.length) (h1 : 0 < k) (h2 : k < t.length) : bndB (rs.drop i) t k = if fitsB rs[i] t (k : Int) then rs[i].brk else bndB (rs.drop (i + 1)) t k := by
  rw [bnd_in h1 h2, bnd_in h1 h2, List.drop_eq_getElem_cons hi, List.find?_cons]
  cases fitsB rs[i] t (k : Int) <;> rfl

theorem mixL_step (rs : List Rl) (t : List Int) (i k : Nat) (hk : k < t.length + 1) : (mixL rs t i k).set k (bndB (rs.drop i) t k) = mixL rs t i (k + 1) := by
  refine List.ext_getElem (by simp [mixL]) fun j h1 h2 => ?_
  rw [List.getElem_set]
  simp only [mixL, List.getElem_map, List.getElem_range]
  split
  · rename_i h; subst h; simp
  · rename_i h
    by_cases hj : j < k
    · rw [if_pos hj, if_pos (by omega)]
    · rw [if_neg hj, if_neg (by omega)]

theorem mixL_skip (rs : List Rl) (t : List Int) (i k : Nat) (h : bndB (rs.drop i) t k = bndB (rs.drop (i + 1)) t k) : mixL rs t i k = mixL rs t i (k + 1) := by
  unfold mixL
  refine List.map_congr_left fun p _ => ?_
  by_cases hp : p < k
  · rw [if_pos hp, if_pos (by omega)]
  · by_cases hpk : p = k
    · subst hpk; rw [if_neg hp, if_pos (by omega), h]
    · rw [if_neg hp, if_neg (by omega)]

theorem bnds_rep (t : List Int) : List.replicate (t.length + 1) (decide (0 < t.length)) = bnds [] t := by
  refine List.ext_getElem (by simp [bnds]) fun i h1 h2 => ?_
  simp only [bnds, List.getElem_replicate, List.getElem_map, List.getElem_range]
  rw [bnd_no]

set_option maxRecDepth 100000 in
set_option maxHeartbeats 4000000 in
theorem refBounds_any (w : World) (v tv : Value) (rs : List Rl) (t : List Int) (hn : t.length ≤ 50000) (hr : rs.length ≤ 1000000) (ht : Ints w tv t) (hv : Rules w v rs) :
    Calls Try.prog 49 #[v, tv] w fun e w' => ∃ v', e = .returned v' ∧ Bools w' v' (bnds rs t) ∧ Below w.heap.size w w' := by
  obtain ⟨pv, cv, rfl, hcv, hxv⟩ := hv.get
  obtain ⟨pt, capt, rfl, hct, -⟩ := ht.get
  have HT := Lib.hid ht
  have HXV := Lib.hid hxv
  have HALL := Lib.hid (all_any06 w t.length (decide (0 < (t.length : Int))) (by omega))
  clear ht hv hxv
  go_enter Try.func49, Try.ntmps49
  go_wp2_with fail
  generalize hd : decide (0 < t.length) = d
  have HD := Lib.hid hd
  clear HALL hd
  refine (all_any06 w t.length d (by omega)).mono ?_
  rintro e w1 ⟨v1, rfl, ho1, hb1⟩
  rw [← HD.out, bnds_rep, ← List.drop_length (l := rs)] at ho1
  obtain ⟨p1, c1, hv1⟩ := ho1.form
  subst hv1
  rw [bnds_length] at ho1 ⊢
  have HO1 := Lib.hid ho1
  have HB1 := Lib.hid hb1
  clear ho1 hb1
  go_wp2_with fail
  go_loopw [7] (fun i wr => ∃ k : Nat, i = .int .i64 ((k : Int) - 1) ∧ k ≤ rs.length ∧ OwnL boolE 4 1 w.heap.size wr (.slice p1 (t.length + 1) c1) (bnds (rs.drop k) t) ∧ Below w.heap.size w wr) (fun i _ => (intOf i + 1).toNat)
  case atStart => exact ⟨rs.length, rfl, Nat.le_refl _, HO1.out, HB1.out⟩
  case round =>
    obtain ⟨k, rfl, h1, hown, hb⟩ := hrel
    have HOWN := Lib.hid hown
    have HB := Lib.hid hb
    by_cases hk : 1 ≤ k
    · obtain ⟨m, hm⟩ : ∃ m, k = m + 1 := ⟨k - 1, by omega⟩
      subst hm
      have hmk : m < rs.length := by omega
      obtain ⟨bb, off, rfl, hbl, hxx⟩ := HXV.out (by omega)
      obtain ⟨row, hrow, hri⟩ := hxx m hmk
      have HC := Lib.hid (where_any wr t rs[m] row _ hn (HT.out.to hb (Nat.le_refl _)) (hri.to hb (Nat.le_refl _)))
      obtain ⟨a, b, c, e', e'', f, rfl, -, -⟩ := hri
      have k0 := cell_below hb hbl (hrow 0 _ rfl)
      have k1 := cell_below hb hbl (hrow 1 _ rfl)
      have k2 := cell_below hb hbl (hrow 2 _ rfl)
      have k3 := cell_below hb hbl (hrow 3 _ rfl)
      have k4 := cell_below hb hbl (hrow 4 _ rfl)
      have k5 := cell_below hb hbl (hrow 5 _ rfl)
      have k6 := cell_below hb hbl (hrow 6 _ rfl)
      have k7 := cell_below hb hbl (hrow 7 _ rfl)
      simp only [Nat.add_zero] at k0
      have HK6 := Lib.hid (hrow 6 _ rfl)
      have hmm : ((m + 1 : Nat) : Int) - 1 = m := by omega
      rw [hmm]
      have j0 : (0 : Int) ≤ m := by omega
      have j1 : (m : Int) < rs.length := by omega
      have HDR := Lib.hid (fun (p : Nat) (h1 : 0 < p) (h2 : p < t.length) => bnd_drop hmk h1 h2)
      generalize rs[m] = rm at *
      rw [mixL_one] at HOWN
      clear hown hb hxx hrow hmm
      go_wp2_with fail
      refine HC.out.mono ?_
      rintro e2 w2 ⟨v2, rfl, how, hb2⟩
      have HOW := Lib.hid how
      have HB2 := Lib.hid (HB.out.trans (hb2.mono HB.out.size))
      have HOWN2 := Lib.hid (HOWN.out.below hb2 (Nat.le_refl _))
      have HLT := Lib.hid (HOWN.out.lt)
      obtain ⟨p2, c2, hv2⟩ := how.form
      subst hv2
      rw [fitsL_length] at HOW ⊢
      clear how hb2 k0 k1 k2 k3 k4 k5 k6 k7 HC
      go_wp2_with fail
      go_loopw [9] (fun i wz => ∃ j : Nat, i = .int .i64 j ∧ 1 ≤ j ∧ OwnL boolE 4 1 w.heap.size wz (.slice p1 (t.length + 1) c1) (mixL rs t m j) ∧ OwnL boolE 4 1 wr.heap.size wz (.slice p2 (t.length + 1) c2) (fitsL rm t (t.length + 1)) ∧ Below w.heap.size w wz) (fun i _ => t.length - (intOf i).toNat)
      case atStart => exact ⟨1, rfl, Nat.le_refl _, HOWN2.out, HOW.out, HB2.out⟩
      case round =>
        obtain ⟨j, rfl, hj1, hown, how, hb⟩ := hrel
        have HOWN3 := Lib.hid hown
        have HOW3 := Lib.hid how
        have HB3 := Lib.hid hb
        by_cases hj : j < t.length
        · obtain ⟨p3, c3, he3, hc3, hx3⟩ := how.read.bools.get
          rw [fitsL_length] at he3
          injection he3 with e1 e2 e3
          subst e1 e3
          obtain ⟨b3, o3, rfl, hl3, hy3⟩ := hx3 (by rw [fitsL_length]; omega)
          have y3 := hy3 j (by rw [fitsL_length]; omega)
          have hg : (fitsL rm t (t.length + 1))[j]'(by rw [fitsL_length]; omega) = fitsB rm t (j : Int) := by simp [fitsL]
          rw [hg] at y3
          have hdr := HDR.out j hj1 hj
          have g1 : j < t.length + 1 := by omega
          have g2 : j ≤ t.length := by omega
          have g3 : (j : Int) < (t.length : Int) + 1 := by omega
          cases hf : fitsB rm t (j : Int)
          · rw [hf] at hdr y3
            have HSK := Lib.hid (mixL_skip rs t m j (by rw [hdr]; rfl))
            clear hown how hb hx3 hy3 hg hdr hf e2 hc3
            go_wp2_with fail
            go_roundw
            case rel => exact ⟨j + 1, by go_num, by omega, by rw [← HSK.out]; exact HOWN3.out, HOW3.out, HB3.out⟩
            case measure => simp [intOf]; omega
          · rw [hf] at hdr y3
            rw [if_pos rfl] at hdr
            have HDRJ := Lib.hid hdr
            have k6 := cell_below hb hbl HK6.out
            obtain ⟨g, cap, cur, row, hve, hgb, hheap, hrow, hrl, hrc, hE, hcsz, hst⟩ := hown.store (by omega) (k := j) (by rw [mixL_length]; omega)
            rw [mixL_length] at hve
            injection hve with e1 e2' e3
            subst e1 e3
            have HH := Lib.hid hheap
            have hstt := hst 0 [.bool rm.brk] (by simp) (by simp [Value.oneCell']) rm.brk (boolE_splice hrl _)
            have hset : (mixL rs t m j).set j rm.brk = mixL rs t m (j + 1) := by rw [← hdr]; exact mixL_step rs t m j g1
            rw [hset] at hstt
            simp only [Nat.mul_one, Nat.add_zero] at hstt
            have HST := Lib.hid hstt
            have hfit : j + 1 ≤ cur.size := by omega
            have HGB := Lib.hid hgb
            have HGL := Lib.hid ((HLT.out g rfl).2)
            clear hown how hb hx3 hy3 hg hdr hf e2 hc3 hheap hrow hrl hrc hE hcsz hst hstt hset hgb e2'
            go_wp2_with (refine wpList_store_row rfl (.tmp 45) (.tmp 44) 4 rfl g j rfl (.bool rm.brk) rfl cur _ (by kernel_rfl) HH.out hfit (by simp [Value.cells, Value.oneCell']) ?_)
            go_roundw
            case rel =>
              refine ⟨j + 1, by go_num, by omega, HST.out _ (setRow_heap _ g _ _ _ (0, 0) HH.out), ?_, ?_⟩
              · exact HOW3.out.fr (Fr.setRow (F := fun k => k = g) _ rfl _) (fun q hq hqg => by have h : q = g := hqg; have h2 := (HOW3.out.lt q hq).1; have := HGL.out; omega)
              · exact HB3.out.trans ((Fr.setRow (F := fun k => k = g) _ rfl _).below HB3.out.size (fun q hq => by have h : q = g := hq; have := HGB.out; omega))
            case measure => simp [intOf]; omega
        · have HME := Lib.hid (mixL_end rs t m j hj1 (by omega))
          clear hown how hb
          go_wp2_with fail
          go_roundw
          case rel => exact ⟨m, congrArg (Value.int .i64) (by omega), by omega, by rw [← HME.out]; exact HOWN3.out, HB3.out⟩
          case measure => simp [intOf]
    · have hk0 : k = 0 := by omega
      subst hk0
      clear hown hb
      go_wp2_with fail
      go_ret
      exact ⟨_, rfl, HOWN.out.read.bools, HB.out⟩

end Go.Proofs.Ythmaokjhncokdaa

