/-
  A region whose operations may come in more than one order, walked along a plan. No condition beyond what each theorem names.
-/
import Derived.WalkKit
import Derived.OrdersHeld
set_option linter.unusedVariables false
set_option linter.unusedSimpArgs false
namespace Go.Proofs.Ytmooflmhbpckjaa
open Go.RowKit

/-- how a region that draws its order is gone through: readers first, then whichever writer comes up -/
inductive Plan where
  | done
  | reads (l : List Nat) (p : Plan)
  | one (i : Nat) (p : Plan)
  | last (i : Nat)
  | two (i : Nat) (p : Plan) (j : Nat) (q : Plan)
  | three (i : Nat) (p : Plan) (j : Nat) (q : Plan) (k : Nat) (r : Plan)

def dstIs (ops : Array Oper) (i : Nat) (d : Option Tmp) : Bool := match ops[i]? with | some o => o.dst == d | none => false

def dstOk (ops : Array Oper) (sz : Nat) (l : List Nat) (i : Nat) : Bool := match (ops[i]?).bind (·.dst) with | some d => decide (d < sz) && l.all (fun j => !dstIs ops j (some d)) | none => false

/-- the operation f, if there is such, waits for i -/
def waits (ops : Array Oper) (f i : Nat) : Bool := match ops[f]? with | some o => decide (i ≠ f) && o.after.any (fun e => Region.binds .any e && e.on == i) | none => true

def readsOk (ops : Array Oper) (sz f : Nat) : List Nat → Array Bool → Option (Array Bool)
  | [], listed => some listed
  | i :: l, listed =>
    if (Region.ready .any ops listed).contains i && Region.free .any ops listed i && dstOk ops sz l i && waits ops f i
    then readsOk ops sz f l (listed.setIfInBounds i true) else none

/-- f is the operation behind which nothing is held any more -/
def Plan.ok (ops : Array Oper) (sz f : Nat) : Nat → Plan → Array Bool → Bool
  | _, .done, listed => (Region.ready .any ops listed).isEmpty
  | n, .last i, listed => decide (1 ≤ n) && (Region.ready .any ops listed == [i]) && decide (i = f) && (Region.ready .any ops (listed.setIfInBounds i true)).isEmpty
  | n, .reads l p, listed => decide (l.length ≤ n) && match readsOk ops sz f l listed with | some listed' => p.ok ops sz f (n - l.length) listed' | none => false
  | n, .one i p, listed => decide (1 ≤ n) && (Region.ready .any ops listed == [i]) && p.ok ops sz f (n - 1) (listed.setIfInBounds i true)
  | n, .two i p j q, listed => decide (1 ≤ n) && (Region.ready .any ops listed == [i, j]) && p.ok ops sz f (n - 1) (listed.setIfInBounds i true) && q.ok ops sz f (n - 1) (listed.setIfInBounds j true)
  | n, .three i p j q k r, listed => decide (1 ≤ n) && (Region.ready .any ops listed == [i, j, k]) && p.ok ops sz f (n - 1) (listed.setIfInBounds i true) && q.ok ops sz f (n - 1) (listed.setIfInBounds j true) && r.ok ops sz f (n - 1) (listed.setIfInBounds k true)

/-- behind a writer: what is held is held still, and then K -/
def Then (S : World → Prop) (K : Act → World → Prop) (Q : Exit → Act → World → Prop) : Exit → Act → World → Prop
  | .normal, a, w => S w ∧ K a w
  | e, a, w => Q e a w

theorem Then.mk {S : World → Prop} {K : Act → World → Prop} {Q : Exit → Act → World → Prop} {a : Act} {w : World} (h1 : S w) (h2 : K a w) : Then S K Q .normal a w := ⟨h1, h2⟩

/-- whatever order is picked from here on; S holds behind every operation that is carried out, but behind f -/
def wpAnyF (P : Program) (ops : Array Oper) (Q : Exit → Act → World → Prop) (S : World → Prop) (f : Nat) : Nat → Array Bool → Act → World → Prop
  | 0, listed, a, w => Region.ready .any ops listed = [] ∧ Q .normal a w
  | fuel + 1, listed, a, w =>
    (Region.ready .any ops listed = [] → Q .normal a w) ∧
    ∀ i ∈ Region.ready .any ops listed, wpOp P ops Q i (fun a' w' => (i ≠ f → S w') ∧ wpAnyF P ops Q S f fuel (listed.setIfInBounds i true) a' w') a w

section
variable {P : Program} {ops : Array Oper} {S : World → Prop} {Q : Exit → Act → World → Prop} {f : Nat}
theorem wpAny_of_F : ∀ (fuel : Nat) (listed : Array Bool) (a : Act) (w : World), wpAnyF P ops Q S f fuel listed a w → wpAny P .any ops Q fuel listed a w
  | 0, _, _, _, h => h
  | fuel + 1, _, _, _, h => ⟨h.1, fun i hi => wpOp_mono (fun a' w' h' => wpAny_of_F fuel _ a' w' h'.2) (h.2 i hi)⟩

theorem wpAnyF_first {i : Nat} {oi : Oper} {v : Value} (hi : ops[i]? = some oi) (hsel : ∀ (j : Nat) (o : Oper) cs b, ops[j]? = some o → o.op ≠ .select cs b)
    (hQ : ∀ c a w, Q (.panic c) (a.put oi.dst v) w → Q (.panic c) a w) (hw : waits ops f i = true) :
    ∀ (fuel : Nat) (listed : Array Bool) (a : Act) (w : World),
      (∀ j oj, ops[j]? = some oj → j ≠ i → listed.getD j true = false → (∀ e ∈ oj.after, Region.binds .any e = true → e.on ≠ i) → oi.apart ops oj = true) →
      i ∈ Region.ready .any ops listed → YieldsIf P ops S oi v a → S w →
      wpAnyF P ops Q S f fuel (listed.setIfInBounds i true) (a.put oi.dst v) w → wpAnyF P ops Q S f (fuel + 1) listed a w := by
  intro fuel
  induction fuel with
  | zero =>
    intro listed a w _ hr hy hS H
    refine ⟨fun h => (by rw [h] at hr; cases hr), fun j hj => ?_⟩
    by_cases hji : j = i
    · subst hji; exact hy.wpOp hi hS ⟨fun _ => hS, H⟩
    · have := ready_mono hj hji
      rw [H.1] at this
      cases this
  | succ fuel ih =>
    intro listed a w hfree hr hy hS H
    refine ⟨fun h => (by rw [h] at hr; cases hr), fun j hj => ?_⟩
    by_cases hji : j = i
    · subst hji; exact hy.wpOp hi hS ⟨fun _ => hS, H⟩
    · have h1 := H.2 j (ready_mono hj hji)
      obtain ⟨hjun, oj, hoj, hall⟩ := mem_ready.1 hj
      have hnot : ∀ e ∈ oj.after, Region.binds .any e = true → e.on ≠ i := fun e he hb heq => by
        have h1 := hall e he hb
        have h0 := (mem_ready.1 hr).1
        rw [heq] at h1
        rcases Nat.lt_or_ge i listed.size with h' | h'
        · simp [h'] at h0 h1; rw [h0] at h1; cases h1
        · simp [Array.getElem?_eq_none h'] at h1
      have hjf : j ≠ f := by
        intro e
        subst e
        simp only [waits, hoj, Bool.and_eq_true] at hw
        have h3 := hw.2
        simp only [List.any_eq_true, Array.any_eq_true', Bool.and_eq_true, beq_iff_eq] at h3
        obtain ⟨e, he, hb, heq⟩ := h3
        exact hnot e he hb heq
      have h2 := wpOp_putIf hoj (hfree j oj hoj hji hjun hnot) (fun cs b => hsel i oi cs b hi) (fun cs b => hsel j oj cs b hoj) hQ hy h1
      have hfree' : ∀ k ok, ops[k]? = some ok → k ≠ i → (listed.setIfInBounds j true).getD k true = false →
          (∀ e ∈ ok.after, Region.binds .any e = true → e.on ≠ i) → oi.apart ops ok = true := fun k ok hk hki hun hno => by
        refine hfree k ok hk hki ?_ hno
        by_cases hjk : j = k
        · subst hjk; exact hjun
        · rw [getD_set_ne true hjk] at hun; exact hun
      refine wpOp_mono (fun a' w' h3 => ⟨fun _ => h3.2.1 hjf, ih (listed.setIfInBounds j true) a' w' hfree' (ready_mono hr (Ne.symm hji)) h3.1 (h3.2.1 hjf) ?_⟩) h2
      rw [Array.setIfInBounds_comm _ _ hji]
      exact h3.2.2

theorem wpAnyF_all {rs : List Nat} {fuel : Nat} {listed : Array Bool} {a : Act} {w : World} (hr : Region.ready .any ops listed = rs) (hne : rs ≠ [])
    (h : ∀ i ∈ rs, wpOp P ops Q i (fun a' w' => (i ≠ f → S w') ∧ wpAnyF P ops Q S f fuel (listed.setIfInBounds i true) a' w') a w) : wpAnyF P ops Q S f (fuel + 1) listed a w :=
  ⟨fun h0 => absurd (hr ▸ h0) hne, hr ▸ h⟩

theorem wpAnyF_done {listed : Array Bool} {a : Act} {w : World} (hr : Region.ready .any ops listed = []) (h : Q .normal a w) : ∀ fuel, wpAnyF P ops Q S f fuel listed a w
  | 0 => ⟨hr, h⟩
  | _ + 1 => ⟨fun _ => h, by rw [hr]; simp⟩
end

def Oper.readUpon (o : Oper) (a : Act) (w : World) (next : Act → Prop) : Result Next → Prop
  | .ok (.value v) w' => w' = w ∧ next (a.put o.dst v)
  | _ => False
def Oper.read (P : Program) (o : Oper) (a : Act) (w : World) (next : Act → Prop) : Prop := Oper.readUpon o a w next ((execOp a.eval o).run P w)
attribute [go_sem] Oper.read Oper.readUpon

def wpRead (P : Program) (ops : Array Oper) (w : World) (Q : Act → Prop) : List Oper → Act → Prop
  | [], a => Q a
  | o :: rest, a => if Region.wanted o (yielded ops a.tmps) then Oper.read P o a w (wpRead P ops w Q rest) else wpRead P ops w Q rest (a.put o.dst undef)

section
variable {P : Program} {ops : Array Oper} {S : World → Prop} {Q : Exit → Act → World → Prop}

theorem wpRead_nil {w : World} {R : Act → Prop} {a : Act} (h : R a) : wpRead P ops w R [] a := h
theorem wpRead_step {w : World} {R : Act → Prop} {a : Act} {o : Oper} {rest : List Oper}
    (h : ∀ K : Act → Prop, (∀ a, wpRead P ops w R rest a → K a) → if Region.wanted o (yielded ops a.tmps) then Oper.read P o a w K else K (a.put o.dst undef)) : wpRead P ops w R (o :: rest) a :=
  h _ (fun _ h => h)

def readOps (ops : Array Oper) (l : List Nat) : List Oper := l.filterMap (ops[·]?)

/-- the walk along a plan -/
def Plan.wp (P : Program) (ops : Array Oper) (S : World → Prop) (Q : Exit → Act → World → Prop) : Plan → Act → World → Prop
  | .done, a, w => Q .normal a w
  | .reads l p, a, w => ∃ A, (∀ W, S W → wpRead P ops W (fun a' => a' = A) (readOps ops l) a) ∧ p.wp P ops S Q A w
  | .one i p, a, w => ∀ o, ops[i]? = some o → wpList P ops (Then S (p.wp P ops S Q) Q) [o] a w
  | .last i, a, w => ∀ o, ops[i]? = some o → wpList P ops Q [o] a w
  | .two i p j q, a, w => (∀ o, ops[i]? = some o → wpList P ops (Then S (p.wp P ops S Q) Q) [o] a w) ∧ (∀ o, ops[j]? = some o → wpList P ops (Then S (q.wp P ops S Q) Q) [o] a w)
  | .three i p j q k r, a, w => (∀ o, ops[i]? = some o → wpList P ops (Then S (p.wp P ops S Q) Q) [o] a w) ∧ (∀ o, ops[j]? = some o → wpList P ops (Then S (q.wp P ops S Q) Q) [o] a w) ∧
      (∀ o, ops[k]? = some o → wpList P ops (Then S (r.wp P ops S Q) Q) [o] a w)

theorem wpOp_of_list {i : Nat} {K : Act → World → Prop} {a : Act} {w : World} (hi : i < ops.size) (h : ∀ o, ops[i]? = some o → wpList P ops (Then S K Q) [o] a w) : wpOp P ops Q i (fun a' w' => S w' ∧ K a' w') a w := by
  have ho : ops[i]? = some ops[i] := by simp [hi]
  have h := h _ ho
  unfold wpOp
  simp only [ho]
  unfold wpList at h
  split
  · rename_i hw
    rw [if_pos hw] at h
    rcases h with h | ⟨h1, h2⟩
    · left
      unfold Oper.wp at *
      generalize (execOp a.eval ops[i]).run P w = r at *
      cases r with
      | ok n w' => cases n <;> exact h
      | halt x w' => cases x <;> exact h
    · right
      obtain ⟨a0, w0, h2⟩ := h2
      exact ⟨h1, a0, w0, h2⟩
  · rename_i hw
    rw [if_neg hw] at h
    exact h

theorem wpOp_of_last {i : Nat} {a : Act} {w : World} (hi : i < ops.size) (h : ∀ o, ops[i]? = some o → wpList P ops Q [o] a w) : wpOp P ops Q i (fun a' w' => Q .normal a' w') a w := by
  have ho : ops[i]? = some ops[i] := by simp [hi]
  have h := h _ ho
  unfold wpOp
  simp only [ho]
  unfold wpList at h
  split
  · rename_i hw
    rw [if_pos hw] at h
    rcases h with h | ⟨h1, h2⟩
    · left
      unfold Oper.wp at *
      generalize (execOp a.eval ops[i]).run P w = r at *
      cases r with
      | ok n w' => cases n <;> exact h
      | halt x w' => cases x <;> exact h
    · right
      obtain ⟨a0, w0, h2⟩ := h2
      exact ⟨h1, a0, w0, h2⟩
  · rename_i hw
    rw [if_neg hw] at h
    exact h

theorem wpOp_size {i : Nat} {K : Act → World → Prop} {a : Act} {w : World} (h : wpOp P ops Q i K a w) : wpOp P ops Q i (fun a' w' => a'.tmps.size = a.tmps.size ∧ K a' w') a w := by
  have hp : ∀ (a : Act) (d : Option Tmp) (v : Value), (a.put d v).tmps.size = a.tmps.size := fun a d v => by cases d <;> simp [Act.put]
  unfold wpOp at *
  cases ho : ops[i]? with
  | none => simp only [ho] at *; exact ⟨trivial, h⟩
  | some o =>
    simp only [ho] at *
    split
    · rename_i hw
      rw [if_pos hw] at h
      rcases h with h | h
      · left
        unfold Oper.wp at *
        generalize (execOp a.eval o).run P w = r at *
        cases r with
        | ok n w' =>
          cases n <;> simp only [Oper.upon] at h ⊢
          case value u => exact ⟨hp _ _ _, h⟩
          case skip => exact ⟨hp _ _ _, h⟩
          case defer d => exact ⟨hp _ _ _, h⟩
          case enter f args =>
            refine Calls.mono h fun e w'' he => ?_
            cases e with
            | returned u => exact ⟨hp _ _ _, he⟩
            | panicked c => exact he
            | outgrown => exact he
          case row row args => exact Rows.mono h fun u w'' he => ⟨hp _ _ _, he⟩
        | halt x w' => cases x <;> exact h
      · exact .inr h
    · rename_i hw
      rw [if_neg hw] at h
      exact ⟨hp _ _ _, h⟩

theorem ready_lt {listed : Array Bool} {i : Nat} (h : i ∈ Region.ready .any ops listed) : i < ops.size := by
  unfold Region.ready at h
  simp only [List.mem_filter, List.mem_range] at h
  exact h.1

theorem put_slot {a : Act} {d e : Nat} {v : Value} (h : d ≠ e) : (a.put (some e) v).tmps[d]? = a.tmps[d]? := by
  simp [Act.put, Array.getElem?_setIfInBounds, Ne.symm h]

theorem put_same {a : Act} {d : Nat} {v : Value} (h : d < a.tmps.size) : (a.put (some d) v).tmps[d]? = some v := by
  simp [Act.put, Array.getElem?_setIfInBounds, h]

theorem put_size (a : Act) (d : Option Tmp) (v : Value) : (a.put d v).tmps.size = a.tmps.size := by
  cases d <;> simp [Act.put]

theorem wpRead_slot {W : World} {A : Act} {d : Nat} : ∀ (l : List Oper) (a : Act), wpRead P ops W (fun a' => a' = A) l a → (∀ o ∈ l, o.dst ≠ some d) → A.tmps[d]? = a.tmps[d]?
  | [], a, h, _ => by rw [show a = A from h]
  | o :: r, a, h, hd => by
    have ho : ∀ v, (a.put o.dst v).tmps[d]? = a.tmps[d]? := fun v => by
      cases e : o.dst with
      | none => simp [Act.put]
      | some x => exact put_slot (fun e' => hd o (by simp) (by rw [e, e']))
    unfold wpRead at h
    split at h
    · unfold Oper.read Oper.readUpon at h
      split at h
      · rw [wpRead_slot r _ h.2 (fun o' h' => hd o' (by simp [h'])), ho]
      · exact h.elim
    · rw [wpRead_slot r _ h (fun o' h' => hd o' (by simp [h'])), ho]

theorem readOps_mem {l : List Nat} {o : Oper} (h : o ∈ readOps ops l) : ∃ j ∈ l, ops[j]? = some o := by
  simp only [readOps, List.mem_filterMap] at h
  exact h

theorem reads_sound {f n : Nat} (hs : Region.noSelect ops = true) (hQ : ∀ c a w d v, Q (.panic c) (Act.put a (some d) v) w → Q (.panic c) a w) : ∀ (l : List Nat) (listed listed' : Array Bool) (a A : Act) (w : World), S w →
    readsOk ops a.tmps.size f l listed = some listed' → (∀ W, S W → wpRead P ops W (fun a' => a' = A) (readOps ops l) a) →
    (A.tmps.size = a.tmps.size → wpAnyF P ops Q S f n listed' A w) → wpAnyF P ops Q S f (n + l.length) listed a w
  | [], listed, listed', a, A, w, hS, hok, h, H => by
    simp only [readsOk, Option.some.injEq] at hok
    subst hok
    have : a = A := h w hS
    subst this
    exact H rfl
  | i :: l, listed, listed', a, A, w, hS, hok, h, H => by
    unfold readsOk at hok
    split at hok
    · rename_i hc
      simp only [Bool.and_eq_true] at hc
      obtain ⟨⟨⟨hr, hf⟩, hd⟩, hwt⟩ := hc
      have hr' : i ∈ Region.ready .any ops listed := by simpa using hr
      have hlt := ready_lt hr'
      have ho : ops[i]? = some ops[i] := by simp [hlt]
      have hro : readOps ops (i :: l) = ops[i] :: readOps ops l := by simp [readOps, hlt]
      simp only [dstOk, ho, Option.bind_some] at hd
      cases hdst : (ops[i]).dst with
      | none => simp [hdst] at hd
      | some d =>
        simp only [hdst, Bool.and_eq_true, decide_eq_true_eq, List.all_eq_true] at hd
        obtain ⟨hd1, hd2⟩ := hd
        have hdn : ∀ o ∈ readOps ops l, o.dst ≠ some d := by
          intro o hm e
          obtain ⟨j, hj, hoj⟩ := readOps_mem hm
          have := hd2 j hj
          simp [dstIs, hoj, e] at this
        rw [hro] at h
        by_cases hw : Region.wanted ops[i] (yielded ops a.tmps) = true
        · have key : ∀ W, S W → (execOp a.eval ops[i]).run P W = .ok (.value (A.tmps[d]?.getD undef)) W ∧ wpRead P ops W (fun a' => a' = A) (readOps ops l) (a.put (some d) (A.tmps[d]?.getD undef)) := by
            intro W hW
            have h1 := h W hW
            unfold wpRead at h1
            rw [if_pos hw] at h1
            unfold Oper.read Oper.readUpon at h1
            split at h1
            · rename_i v w' hrun
              obtain ⟨rfl, h2⟩ := h1
              rw [hdst] at h2
              have h3 := wpRead_slot _ _ h2 hdn
              rw [put_same hd1] at h3
              rw [h3]
              exact ⟨hrun, h2⟩
            · exact h1.elim
          have ih := reads_sound hs hQ l (listed.setIfInBounds i true) listed' (a.put (some d) (A.tmps[d]?.getD undef)) A w hS (by rw [put_size]; exact hok) (fun W hW => (key W hW).2) (fun e => H (by rw [e, put_size]))
          refine wpAnyF_first ho (Region.noSelect_spec hs) (fun c a w hq => by rw [hdst] at hq; exact hQ c a w d _ hq) hwt _ listed a w (Region.free_spec ho hf) hr' (v := A.tmps[d]?.getD undef) (.inl ⟨hw, fun W hW => (key W hW).1⟩) hS ?_
          rw [hdst]
          exact ih
        · have hw' : Region.wanted ops[i] (yielded ops a.tmps) = false := by simpa using hw
          have ih := reads_sound hs hQ l (listed.setIfInBounds i true) listed' (a.put (some d) undef) A w hS (by rw [put_size]; exact hok) (fun W hW => by
            have h1 := h W hW
            unfold wpRead at h1
            rw [if_neg hw, hdst] at h1
            exact h1) (fun e => H (by rw [e, put_size]))
          refine wpAnyF_first ho (Region.noSelect_spec hs) (fun c a w hq => by rw [hdst] at hq; exact hQ c a w d _ hq) hwt _ listed a w (Region.free_spec ho hf) hr' (v := undef) (.inr ⟨hw', rfl⟩) hS ?_
          rw [hdst]
          exact ih
    · exact absurd hok (by simp)

theorem ready_one {listed : Array Bool} {i : Nat} (h : (Region.ready .any ops listed == [i]) = true) : Region.ready .any ops listed = [i] := by simpa using h

theorem plan_sound (hs : Region.noSelect ops = true) (hQ : ∀ c a w d v, Q (.panic c) (Act.put a (some d) v) w → Q (.panic c) a w) (sz f : Nat) : ∀ (p : Plan) (n : Nat) (listed : Array Bool) (a : Act) (w : World), S w → a.tmps.size = sz →
    p.ok ops sz f n listed = true → p.wp P ops S Q a w → wpAnyF P ops Q S f n listed a w
  | .done, n, listed, a, w, hS, hsz, hok, h => by
    unfold Plan.ok at hok
    exact wpAnyF_done (by simpa using hok) h n
  | .reads l p, n, listed, a, w, hS, hsz, hok, h => by
    unfold Plan.ok at hok
    simp only [Bool.and_eq_true, decide_eq_true_eq] at hok
    obtain ⟨hn, hok⟩ := hok
    obtain ⟨A, h1, h2⟩ := h
    split at hok
    · rename_i listed' hl
      obtain ⟨m, rfl⟩ : ∃ m, n = m + l.length := ⟨n - l.length, by omega⟩
      rw [Nat.add_sub_cancel] at hok
      subst hsz
      exact reads_sound hs hQ l listed listed' a A w hS hl h1 (fun e => plan_sound hs hQ _ f p m listed' A w hS e hok h2)
    · exact absurd hok (by simp)
  | .one i p, n, listed, a, w, hS, hsz, hok, h => by
    unfold Plan.ok at hok
    simp only [Bool.and_eq_true, decide_eq_true_eq] at hok
    obtain ⟨⟨hn, hr⟩, hok⟩ := hok
    obtain ⟨m, rfl⟩ : ∃ m, n = m + 1 := ⟨n - 1, by omega⟩
    have hr' := ready_one hr
    refine wpAnyF_all hr' (by simp) fun k hk => ?_
    obtain rfl : k = i := by simpa using hk
    exact wpOp_mono (fun a' w' h' => ⟨fun _ => h'.2.1, plan_sound hs hQ sz f p m _ a' w' h'.2.1 (h'.1.trans hsz) hok h'.2.2⟩) (wpOp_size (wpOp_of_list (ready_lt (listed := listed) (by rw [hr']; simp)) h))
  | .last i, n, listed, a, w, hS, hsz, hok, h => by
    unfold Plan.ok at hok
    simp only [Bool.and_eq_true, decide_eq_true_eq] at hok
    obtain ⟨⟨⟨hn, hr⟩, rfl⟩, he⟩ := hok
    obtain ⟨m, rfl⟩ : ∃ m, n = m + 1 := ⟨n - 1, by omega⟩
    have hr' := ready_one hr
    refine wpAnyF_all hr' (by simp) fun k hk => ?_
    obtain rfl : k = i := by simpa using hk
    exact wpOp_mono (fun a' w' h' => ⟨fun e => absurd rfl e, wpAnyF_done (by simpa using he) h' m⟩) (wpOp_of_last (ready_lt (listed := listed) (by rw [hr']; simp)) h)
  | .two i p j q, n, listed, a, w, hS, hsz, hok, h => by
    unfold Plan.ok at hok
    simp only [Bool.and_eq_true, decide_eq_true_eq] at hok
    obtain ⟨⟨⟨hn, hr⟩, hok⟩, hok2⟩ := hok
    obtain ⟨m, rfl⟩ : ∃ m, n = m + 1 := ⟨n - 1, by omega⟩
    have hr' : Region.ready .any ops listed = [i, j] := by simpa using hr
    refine wpAnyF_all hr' (by simp) fun k hk => ?_
    have hk' : k = i ∨ k = j := by simpa using hk
    rcases hk' with rfl | rfl
    · exact wpOp_mono (fun a' w' h' => ⟨fun _ => h'.2.1, plan_sound hs hQ sz f p m _ a' w' h'.2.1 (h'.1.trans hsz) hok h'.2.2⟩) (wpOp_size (wpOp_of_list (ready_lt (listed := listed) (by rw [hr']; simp)) h.1))
    · exact wpOp_mono (fun a' w' h' => ⟨fun _ => h'.2.1, plan_sound hs hQ sz f q m _ a' w' h'.2.1 (h'.1.trans hsz) hok2 h'.2.2⟩) (wpOp_size (wpOp_of_list (ready_lt (listed := listed) (by rw [hr']; simp)) h.2))
  | .three i p j q k r, n, listed, a, w, hS, hsz, hok, h => by
    unfold Plan.ok at hok
    simp only [Bool.and_eq_true, decide_eq_true_eq] at hok
    obtain ⟨⟨⟨⟨hn, hr⟩, hok⟩, hok2⟩, hok3⟩ := hok
    obtain ⟨m, rfl⟩ : ∃ m, n = m + 1 := ⟨n - 1, by omega⟩
    have hr' : Region.ready .any ops listed = [i, j, k] := by simpa using hr
    refine wpAnyF_all hr' (by simp) fun x hx => ?_
    have hx' : x = i ∨ x = j ∨ x = k := by simpa using hx
    rcases hx' with rfl | rfl | rfl
    · exact wpOp_mono (fun a' w' h' => ⟨fun _ => h'.2.1, plan_sound hs hQ sz f p m _ a' w' h'.2.1 (h'.1.trans hsz) hok h'.2.2⟩) (wpOp_size (wpOp_of_list (ready_lt (listed := listed) (by rw [hr']; simp)) h.1))
    · exact wpOp_mono (fun a' w' h' => ⟨fun _ => h'.2.1, plan_sound hs hQ sz f q m _ a' w' h'.2.1 (h'.1.trans hsz) hok2 h'.2.2⟩) (wpOp_size (wpOp_of_list (ready_lt (listed := listed) (by rw [hr']; simp)) h.2.1))
    · exact wpOp_mono (fun a' w' h' => ⟨fun _ => h'.2.1, plan_sound hs hQ sz f r m _ a' w' h'.2.1 (h'.1.trans hsz) hok3 h'.2.2⟩) (wpOp_size (wpOp_of_list (ready_lt (listed := listed) (by rw [hr']; simp)) h.2.2))

/-- A REGION THAT DRAWS ITS ORDER, ALONG A PLAN: what S holds is held by every writer; the readers look at no more than that. -/
theorem wp_region_fin (f : Nat) {id : Nat} {l : List Oper} {a : Act} {w : World} (S : World → Prop) (p : Plan) (sz : Nat) (hm : P.follows .mixedOrders = true)
    (hok : (Region.noSelect l.toArray && p.ok l.toArray sz f l.length (Array.replicate l.length false)) = true) (hsz : a.tmps.size = sz) (hQ : ∀ c a w d v, Q (.panic c) (Act.put a (some d) v) w → Q (.panic c) a w)
    (hS : S w.drew) (h : p.wp P l.toArray S Q a w.drew) : (Code.region id l.toArray true).wp P Q a w := by
  simp only [Bool.and_eq_true] at hok
  refine wp_region_any hm (wpAny_of_F (S := S) (f := f) _ _ _ _ ?_)
  have := plan_sound hok.1 hQ sz f p l.length (Array.replicate l.length false) a w.drew hS hsz hok.2 h
  simpa using this

theorem wp_region_plan {id : Nat} {l : List Oper} {a : Act} {w : World} (S : World → Prop) (p : Plan) (sz : Nat) (hm : P.follows .mixedOrders = true)
    (hok : (Region.noSelect l.toArray && p.ok l.toArray sz l.length l.length (Array.replicate l.length false)) = true) (hsz : a.tmps.size = sz) (hQ : ∀ c a w d v, Q (.panic c) (Act.put a (some d) v) w → Q (.panic c) a w)
    (hS : S w.drew) (h : p.wp P l.toArray S Q a w.drew) : (Code.region id l.toArray true).wp P Q a w := wp_region_fin l.length S p sz hm hok hsz hQ hS h

theorem plan_done {a : Act} {w : World} (h : Q .normal a w) : Plan.wp P ops S Q .done a w := h
theorem plan_last {i : Nat} {a : Act} {w : World} {o : Oper} (ho : ops[i]? = some o) (h : wpList P ops Q [o] a w) : Plan.wp P ops S Q (.last i) a w := fun o' ho' => by
  rw [ho] at ho'; cases ho'; exact h
theorem plan_reads {l : List Nat} {p : Plan} {a A : Act} {w : World} (h1 : ∀ W, S W → wpRead P ops W (fun a' => a' = A) (readOps ops l) a) (h2 : p.wp P ops S Q A w) : Plan.wp P ops S Q (.reads l p) a w := ⟨A, h1, h2⟩
theorem plan_one {i : Nat} {p : Plan} {a : Act} {w : World} {o : Oper} (ho : ops[i]? = some o) (h : wpList P ops (Then S (p.wp P ops S Q) Q) [o] a w) : Plan.wp P ops S Q (.one i p) a w := fun o' ho' => by
  rw [ho] at ho'; cases ho'; exact h
theorem plan_two {i j : Nat} {p q : Plan} {a : Act} {w : World} {o u : Oper} (ho : ops[i]? = some o) (hu : ops[j]? = some u) (h : wpList P ops (Then S (p.wp P ops S Q) Q) [o] a w) (k : wpList P ops (Then S (q.wp P ops S Q) Q) [u] a w) :
    Plan.wp P ops S Q (.two i p j q) a w := ⟨fun o' ho' => by rw [ho] at ho'; cases ho'; exact h, fun o' ho' => by rw [hu] at ho'; cases ho'; exact k⟩
theorem abs_wp {c : Code} {a : Act} {w : World} (h : ∀ W, W = w → c.wp P Q a W) : c.wp P Q a w := h w rfl
theorem abs_list {l : List Oper} {a : Act} {w : World} (h : ∀ W, W = w → wpList P ops Q l a W) : wpList P ops Q l a w := h w rfl
end
end Go.Proofs.Ytmooflmhbpckjaa
