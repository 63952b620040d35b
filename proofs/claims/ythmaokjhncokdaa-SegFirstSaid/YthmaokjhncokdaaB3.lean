import Derived.Test.YthmaokjhncokdaaB1
import Derived.Test.YthmaokjhncokdaaB2
/-
  States of a machine, how an expression is laid down in them, and that the paths through them are its rows. Plain definitions and theorems; no program.
-/
set_option linter.unusedVariables false
set_option linter.unusedSimpArgs false
namespace Go.Proofs.Ythmaokjhncokdaa

/-- a state: where it goes without a class; whether it takes one, and which -/
structure Sta where
  free : List Int
  set : Bool
  takes : List Int

def z0 : Sta := ⟨[], false, []⟩

def joinF (L : List Sta) (i : Nat) (ts : List Int) : List Sta := L.modify i (fun s => ⟨s.free ++ ts, s.set, s.takes⟩)

mutual
/-- the states behind an expression that is laid down behind others -/
def layF : Nd → List Sta → List Sta
  | .mk op cls ps, L =>
    if op = 1 then (L ++ [⟨[], true, cls⟩]) ++ [z0]
    else if op = 0 then joinF ((L ++ [z0]) ++ [z0]) L.length [(L.length : Int) + 1]
    else if op = 2 then joinF (seqF ps ((L ++ [z0]) ++ [z0]) L.length).1 (seqF ps ((L ++ [z0]) ++ [z0]) L.length).2 [(L.length : Int) + 1]
    else if op = 3 then altF ps ((L ++ [z0]) ++ [z0]) L.length
    else oneF op ps ((L ++ [z0]) ++ [z0]) L.length
def seqF : List Nd → List Sta → Nat → List Sta × Nat
  | [], L, a => (L, a)
  | p :: r, L, a => seqF r (joinF (layF p L) a [(L.length : Int)]) (L.length + 1)
def altF : List Nd → List Sta → Nat → List Sta
  | [], L, n => L
  | p :: r, L, n => altF r (joinF (joinF (layF p L) n [(L.length : Int)]) (L.length + 1) [(n : Int) + 1]) n
def oneF : Int → List Nd → List Sta → Nat → List Sta
  | op, [], L, n => L
  | op, p :: _, L, n =>
    if op = 4 then joinF (joinF (joinF (layF p L) n [(L.length : Int), (n : Int) + 1]) (L.length + 1) [(n : Int) + 1]) (L.length + 1) [(L.length : Int)]
    else joinF (joinF (layF p L) n [(L.length : Int), (n : Int) + 1]) (L.length + 1) [(n : Int) + 1]
end

mutual
def cnt : Nd → Nat
  | .mk _ _ ps => 1 + cntL ps
def cntL : List Nd → Nat
  | [] => 0
  | x :: r => cnt x + cntL r
end

mutual
/-- an expression of the six kinds, of as many parts as the kind may have -/
def Good : Nd → Prop
  | .mk op cls ps => (op = 0 ∨ op = 1 ∨ op = 2 ∨ op = 3 ∨ op = 4 ∨ op = 5) ∧ (op = 0 ∨ op = 1 → ps = []) ∧ (op = 4 ∨ op = 5 → ps.length = 1) ∧ GoodL ps
def GoodL : List Nd → Prop
  | [] => True
  | x :: r => Good x ∧ GoodL r
end

theorem GoodL_mem : ∀ {l : List Nd}, GoodL l → ∀ x ∈ l, Good x
  | [], _, x, h => by simp at h
  | y :: r, h, x, hx => by
    simp only [GoodL] at h
    rcases List.mem_cons.1 hx with rfl | hx
    · exact h.1
    · exact GoodL_mem h.2 x hx

theorem joinF_length (L : List Sta) (i : Nat) (ts : List Int) : (joinF L i ts).length = L.length := by simp [joinF]

/-- the i-th state; of none there is nothing -/
def at_ (L : List Sta) (i : Nat) : Sta := L.getD i z0

theorem at_join (L : List Sta) (i : Nat) (ts : List Int) (j : Nat) (hi : i < L.length) : at_ (joinF L i ts) j = if j = i then ⟨(at_ L i).free ++ ts, (at_ L i).set, (at_ L i).takes⟩ else at_ L j := by
  unfold at_ joinF
  simp only [List.getD_eq_getElem?_getD, List.getElem?_modify]
  split
  · rename_i h
    subst h
    simp [hi]
  · rename_i h
    rw [if_neg (fun e => h e.symm)]
    simp

theorem at_append (L K : List Sta) (j : Nat) : at_ (L ++ K) j = if j < L.length then at_ L j else at_ K (j - L.length) := by
  unfold at_
  simp only [List.getD_eq_getElem?_getD]
  split
  · rename_i h; rw [List.getElem?_append_left h]
  · rename_i h; rw [List.getElem?_append_right (by omega)]

theorem at_two (L : List Sta) (a b : Sta) (j : Nat) : at_ ((L ++ [a]) ++ [b]) j = if j < L.length then at_ L j else if j = L.length then a else if j = L.length + 1 then b else z0 := by
  rw [at_append, at_append]
  simp only [List.length_append, List.length_singleton]
  by_cases h1 : j < L.length
  · rw [if_pos (by omega), if_pos h1, if_pos h1]
  · by_cases h2 : j = L.length
    · subst h2; simp [at_]
    · rw [if_neg (by omega), if_neg h1, if_neg h2]
      by_cases h3 : j = L.length + 1
      · subst h3; simp [at_]
      · rw [if_neg h3]; unfold at_; simp; rw [List.getElem?_eq_none (by simp; omega)]; rfl

/-- an edge without a class -/
def Free (S : List Sta) (i j : Nat) : Prop := (j : Int) ∈ (at_ S i).free
/-- a state takes the class at a place -/
def Take (S : List Sta) (t : List Int) (i p : Nat) : Prop := ∃ c, t[p]? = some c ∧ c ∈ (at_ S i).takes
def Edge (S : List Sta) (t : List Int) (i p j q : Nat) : Prop := (Free S i j ∧ q = p) ∨ (j = i + 1 ∧ q = p + 1 ∧ Take S t i p)

/-- a path of so many edges from a state at a place to a state at a place -/
inductive Path (S : List Sta) (t : List Int) : Nat → Nat → Nat → Nat → Nat → Prop where
  | nil (i p : Nat) : Path S t 0 i p i p
  | cons {l i p j q k r : Nat} : Edge S t i p j q → Path S t l j q k r → Path S t (l + 1) i p k r

theorem Path.trans {S : List Sta} {t : List Int} {l m i p j q k r : Nat} (h : Path S t l i p j q) (g : Path S t m j q k r) : ∃ n, Path S t n i p k r := by
  induction h with
  | nil => exact ⟨_, g⟩
  | cons h1 _ ih =>
    obtain ⟨n, h⟩ := ih g
    exact ⟨_, .cons h1 h⟩

def entries : List Nd → Nat → List Int
  | [], _ => []
  | p :: r, s => (s : Int) :: entries r (s + 2 * cnt p)

/-- a state that takes no class -/
def plain (s : Sta) : Prop := s.set = false ∧ s.takes = []

mutual
/-- an expression is laid down from a state on -/
def Lays (S : List Sta) : Nd → Nat → Prop
  | .mk op cls ps, n => plain (at_ S (n + 1)) ∧
    if op = 1 then at_ S n = ⟨[], true, cls⟩
    else plain (at_ S n) ∧
      if op = 0 then (at_ S n).free = [(n : Int) + 1]
      else if op = 2 then SeqL S ps n (n + 2) (n + 1)
      else if op = 3 then (at_ S n).free = entries ps (n + 2) ∧ AltL S ps (n + 2) (n + 1)
      else OneL S op ps n
def SeqL (S : List Sta) : List Nd → Nat → Nat → Nat → Prop
  | [], a, s, e => (at_ S a).free = [(e : Int)]
  | p :: r, a, s, e => (at_ S a).free = [(s : Int)] ∧ Lays S p s ∧ SeqL S r (s + 1) (s + 2 * cnt p) e
def AltL (S : List Sta) : List Nd → Nat → Nat → Prop
  | [], s, e => True
  | p :: r, s, e => (at_ S (s + 1)).free = [(e : Int)] ∧ Lays S p s ∧ AltL S r (s + 2 * cnt p) e
def OneL (S : List Sta) : Int → List Nd → Nat → Prop
  | op, [], n => True
  | op, p :: _, n => (at_ S n).free = [(n : Int) + 2, (n : Int) + 1] ∧ (at_ S (n + 3)).free = (if op = 4 then [(n : Int) + 1, (n : Int) + 2] else [(n : Int) + 1]) ∧ Lays S p (n + 2)
end

theorem cnt_pos : ∀ (x : Nd), 0 < cnt x
  | .mk _ _ ps => by simp only [cnt]; omega

/-- two lists of states say the same of these, but for where the second one goes -/
def Alike (S T : List Sta) (n m : Nat) : Prop := ∀ j, n ≤ j → j < m → (j ≠ n + 1 → at_ T j = at_ S j) ∧ (at_ T j).set = (at_ S j).set ∧ (at_ T j).takes = (at_ S j).takes

theorem Alike.plain {S T : List Sta} {n m j : Nat} (h : Alike S T n m) (h1 : n ≤ j) (h2 : j < m) (hp : plain (at_ S j)) : plain (at_ T j) := by
  obtain ⟨-, g1, g2⟩ := h j h1 h2
  exact ⟨g1.trans hp.1, g2.trans hp.2⟩

mutual
theorem Lays_ext {S T : List Sta} : ∀ (x : Nd) (n : Nat), Lays S x n → Alike S T n (n + 2 * cnt x) → Lays T x n
  | .mk op cls ps, n, h, g => by
    unfold Lays at *
    simp only [cnt] at g
    obtain ⟨h1, h2⟩ := h
    refine ⟨g.plain (by omega) (by omega) h1, ?_⟩
    have e : at_ T n = at_ S n := (g n (by omega) (by omega)).1 (by omega)
    split at h2
    · rw [if_pos ‹_›, e]; exact h2
    · rw [if_neg ‹_›]
      obtain ⟨h2, h3⟩ := h2
      refine ⟨e ▸ h2, ?_⟩
      split at h3
      · rw [if_pos ‹_›, e]; exact h3
      · rw [if_neg ‹_›]
        split at h3
        · rw [if_pos ‹_›]
          exact SeqL_ext ps n (n + 2) (n + 1) h3 (by rw [e]) (fun j h1 h2 => (g j (by omega) (by omega)).1 (by omega))
        · rw [if_neg ‹_›]
          split at h3
          · rw [if_pos ‹_›]
            exact ⟨by rw [e]; exact h3.1, AltL_ext ps (n + 2) (n + 1) h3.2 (fun j h1 h2 => (g j (by omega) (by omega)).1 (by omega))⟩
          · rw [if_neg ‹_›]
            exact OneL_ext op ps n h3 (by rw [e]) (fun j h1 h2 => (g j (by omega) (by omega)).1 (by omega))
theorem SeqL_ext {S T : List Sta} : ∀ (ps : List Nd) (a s e : Nat), SeqL S ps a s e → (at_ T a).free = (at_ S a).free → (∀ j, s ≤ j → j < s + 2 * cntL ps → at_ T j = at_ S j) → SeqL T ps a s e
  | [], a, s, e, h, g, _ => by unfold SeqL at *; rw [g]; exact h
  | p :: r, a, s, e, h, g, k => by
    unfold SeqL at *
    simp only [cntL] at k
    have hp := cnt_pos p
    refine ⟨by rw [g]; exact h.1, Lays_ext p s h.2.1 (fun j h1 h2 => ?_), SeqL_ext r _ _ e h.2.2 (by rw [k (s + 1) (by omega) (by omega)]) (fun j h1 h2 => k j (by omega) (by omega))⟩
    have := k j h1 (by omega)
    exact ⟨fun _ => this, by rw [this], by rw [this]⟩
theorem AltL_ext {S T : List Sta} : ∀ (ps : List Nd) (s e : Nat), AltL S ps s e → (∀ j, s ≤ j → j < s + 2 * cntL ps → at_ T j = at_ S j) → AltL T ps s e
  | [], s, e, h, _ => by unfold AltL; trivial
  | p :: r, s, e, h, k => by
    unfold AltL at *
    simp only [cntL] at k
    have hp := cnt_pos p
    refine ⟨by rw [k (s + 1) (by omega) (by omega)]; exact h.1, Lays_ext p s h.2.1 (fun j h1 h2 => ?_), AltL_ext r _ e h.2.2 (fun j h1 h2 => k j (by omega) (by omega))⟩
    have := k j h1 (by omega)
    exact ⟨fun _ => this, by rw [this], by rw [this]⟩
theorem OneL_ext {S T : List Sta} : ∀ (op : Int) (ps : List Nd) (n : Nat), OneL S op ps n → (at_ T n).free = (at_ S n).free → (∀ j, n + 2 ≤ j → j < n + 2 + 2 * cntL ps → at_ T j = at_ S j) → OneL T op ps n
  | op, [], n, h, _, _ => by unfold OneL; trivial
  | op, p :: r, n, h, g, k => by
    unfold OneL at *
    simp only [cntL] at k
    have hp := cnt_pos p
    refine ⟨by rw [g]; exact h.1, by rw [k (n + 3) (by omega) (by omega)]; exact h.2.1, Lays_ext p (n + 2) h.2.2 (fun j h1 h2 => ?_)⟩
    have := k j h1 (by omega)
    exact ⟨fun _ => this, by rw [this], by rw [this]⟩
end

structure LaidOk (x : Nd) (L S : List Sta) : Prop where
  length : S.length = L.length + 2 * cnt x
  keep : ∀ j, j < L.length → at_ S j = at_ L j
  lays : Lays S x L.length
  out : (at_ S (L.length + 1)).free = []

structure SeqOk (ps : List Nd) (L : List Sta) (a : Nat) (R : List Sta × Nat) : Prop where
  length : R.1.length = L.length + 2 * cntL ps
  lt : R.2 < R.1.length
  out : (at_ R.1 R.2).free = []
  keep : ∀ j, j < L.length → j ≠ a → at_ R.1 j = at_ L j
  same : (at_ R.1 a).set = (at_ L a).set ∧ (at_ R.1 a).takes = (at_ L a).takes
  lays : ∀ e : Nat, SeqL (joinF R.1 R.2 [(e : Int)]) ps a L.length e
  new : R.2 = a ∨ L.length ≤ R.2

structure AltOk (ps : List Nd) (L : List Sta) (n : Nat) (S : List Sta) : Prop where
  length : S.length = L.length + 2 * cntL ps
  keep : ∀ j, j < L.length → j ≠ n → at_ S j = at_ L j
  same : (at_ S n).set = (at_ L n).set ∧ (at_ S n).takes = (at_ L n).takes
  free : (at_ S n).free = (at_ L n).free ++ entries ps L.length
  lays : AltL S ps L.length (n + 1)

theorem seq_ok_cons {p : Nd} {r : List Nd} (hp : ∀ L, LaidOk p L (layF p L)) (hr : ∀ (L : List Sta) (a : Nat), a < L.length → (at_ L a).free = [] → SeqOk r L a (seqF r L a))
    (L : List Sta) (a : Nat) (ha : a < L.length) (h0 : (at_ L a).free = []) : SeqOk (p :: r) L a (seqF (p :: r) L a) := by
  have e : seqF (p :: r) L a = seqF r (joinF (layF p L) a [(L.length : Int)]) (L.length + 1) := by rw [seqF]
  rw [e]
  have g := hp L
  generalize layF p L = L1 at *
  have hc := cnt_pos p
  have hlen : (joinF L1 a [(L.length : Int)]).length = L.length + 2 * cnt p := by rw [joinF_length, g.length]
  have haL : a < L1.length := by rw [g.length]; omega
  have hat : ∀ j, at_ (joinF L1 a [(L.length : Int)]) j = if j = a then ⟨(at_ L1 a).free ++ [(L.length : Int)], (at_ L1 a).set, (at_ L1 a).takes⟩ else at_ L1 j := fun j => at_join L1 a _ j haL
  generalize joinF L1 a [(L.length : Int)] = L2 at *
  have k := hr L2 (L.length + 1) (by omega) (by rw [hat, if_neg (by omega)]; exact g.out)
  generalize seqF r L2 (L.length + 1) = R at *
  have hne : a ≠ L.length + 1 := by omega
  have hRa : at_ R.1 a = ⟨[(L.length : Int)], (at_ L a).set, (at_ L a).takes⟩ := by
    rw [k.keep a (by omega) hne, hat, if_pos rfl, g.keep a ha, h0]; rfl
  refine ⟨by rw [k.length, hlen]; simp only [cntL]; omega, k.lt, k.out, fun j hj hja => ?_, by rw [hRa]; exact ⟨rfl, rfl⟩, fun e => ?_, ?_⟩
  · rw [k.keep j (by omega) (by omega), hat, if_neg hja, g.keep j hj]
  · have hn := k.new
    have hj : ∀ j, at_ (joinF R.1 R.2 [(e : Int)]) j = if j = R.2 then ⟨(at_ R.1 R.2).free ++ [(e : Int)], (at_ R.1 R.2).set, (at_ R.1 R.2).takes⟩ else at_ R.1 j := fun j => at_join R.1 R.2 _ j k.lt
    unfold SeqL
    refine ⟨by rw [hj, if_neg (by omega), hRa], Lays_ext p _ g.lays (fun j h1 h2 => ?_), by have := k.lays e; rwa [hlen] at this⟩
    have hs : (at_ (joinF R.1 R.2 [(e : Int)]) j).set = (at_ R.1 j).set ∧ (at_ (joinF R.1 R.2 [(e : Int)]) j).takes = (at_ R.1 j).takes := by
      rw [hj]; split
      · rename_i h; rw [h]; exact ⟨rfl, rfl⟩
      · exact ⟨rfl, rfl⟩
    by_cases hje : j = L.length + 1
    · subst hje
      refine ⟨fun h => absurd rfl h, hs.1.trans (k.same.1.trans ?_), hs.2.trans (k.same.2.trans ?_)⟩ <;> rw [hat, if_neg (by omega)]
    · have : at_ (joinF R.1 R.2 [(e : Int)]) j = at_ L1 j := by
        rw [hj, if_neg (by omega), k.keep j (by omega) hje, hat, if_neg (by omega)]
      exact ⟨fun _ => this, by rw [this], by rw [this]⟩
  · rcases k.new with h | h
    · right; omega
    · right; omega

theorem alt_ok_cons {p : Nd} {r : List Nd} (hp : ∀ L, LaidOk p L (layF p L)) (hr : ∀ (L : List Sta) (n : Nat), n + 1 < L.length → AltOk r L n (altF r L n))
    (L : List Sta) (n : Nat) (ha : n + 1 < L.length) : AltOk (p :: r) L n (altF (p :: r) L n) := by
  have e : altF (p :: r) L n = altF r (joinF (joinF (layF p L) n [(L.length : Int)]) (L.length + 1) [(n : Int) + 1]) n := by rw [altF]
  rw [e]
  have g := hp L
  generalize layF p L = L1 at *
  have hc := cnt_pos p
  have h1 : (joinF L1 n [(L.length : Int)]).length = L1.length := joinF_length _ _ _
  have hlen : (joinF (joinF L1 n [(L.length : Int)]) (L.length + 1) [(n : Int) + 1]).length = L.length + 2 * cnt p := by rw [joinF_length, h1, g.length]
  have hnL : n < L1.length := by rw [g.length]; omega
  have hlL : L.length + 1 < (joinF L1 n [(L.length : Int)]).length := by rw [h1, g.length]; omega
  have hat : ∀ j, at_ (joinF (joinF L1 n [(L.length : Int)]) (L.length + 1) [(n : Int) + 1]) j = if j = L.length + 1 then ⟨[(n : Int) + 1], (at_ L1 j).set, (at_ L1 j).takes⟩ else if j = n then ⟨(at_ L n).free ++ [(L.length : Int)], (at_ L n).set, (at_ L n).takes⟩ else at_ L1 j := by
    intro j
    rw [at_join _ _ _ _ hlL, at_join _ _ _ _ hnL, at_join _ _ _ _ hnL]
    by_cases hj : j = L.length + 1
    · subst hj
      rw [if_pos rfl, if_pos rfl, if_neg (by omega), g.out]; rfl
    · rw [if_neg hj, if_neg hj, g.keep n (by omega)]
  generalize joinF (joinF L1 n [(L.length : Int)]) (L.length + 1) [(n : Int) + 1] = L2 at *
  have k := hr L2 n (by omega)
  generalize altF r L2 n = R at *
  have hn : at_ L2 n = ⟨(at_ L n).free ++ [(L.length : Int)], (at_ L n).set, (at_ L n).takes⟩ := by rw [hat, if_neg (by omega), if_pos rfl]
  refine ⟨by rw [k.length, hlen]; simp only [cntL]; omega, fun j hj hja => ?_, ?_, ?_, ?_⟩
  · rw [k.keep j (by omega) hja, hat, if_neg (by omega), if_neg hja, g.keep j hj]
  · rw [k.same.1, k.same.2, hn]; exact ⟨rfl, rfl⟩
  · rw [k.free, hn, hlen]; simp only [entries, List.append_assoc, List.singleton_append]
  · unfold AltL
    refine ⟨?_, Lays_ext p _ g.lays (fun j h1 h2 => ?_), by have := k.lays; rwa [hlen] at this⟩
    · rw [k.keep _ (by omega) (by omega), hat, if_pos rfl]; rfl
    · have e : at_ R j = at_ L2 j := k.keep j (by omega) (by omega)
      rw [e, hat]
      split
      · rename_i h; exact ⟨fun h' => absurd h h', rfl, rfl⟩
      · rw [if_neg (by omega)]; exact ⟨fun _ => rfl, rfl, rfl⟩

theorem one_ok {p : Nd} (hp : ∀ L, LaidOk p L (layF p L)) (op : Int) (r : List Nd) (L : List Sta) (n : Nat) (hn : L.length = n + 2) (h0 : (at_ L n).free = []) :
    (oneF op (p :: r) L n).length = n + 2 + 2 * cnt p ∧ (∀ j, j < n + 2 → j ≠ n → at_ (oneF op (p :: r) L n) j = at_ L j) ∧ (at_ (oneF op (p :: r) L n) n).set = (at_ L n).set ∧ (at_ (oneF op (p :: r) L n) n).takes = (at_ L n).takes ∧ OneL (oneF op (p :: r) L n) op (p :: r) n := by
  obtain ⟨gl, gk, gy, go⟩ := hp L
  rw [hn] at gl gk gy go
  have hc := cnt_pos p
  have e : ∃ fs : List Int, fs = (if op = 4 then [(n : Int) + 1, (n : Int) + 2] else [(n : Int) + 1]) ∧ (oneF op (p :: r) L n).length = (layF p L).length ∧
      ∀ j, at_ (oneF op (p :: r) L n) j = if j = n + 3 then ⟨fs, (at_ (layF p L) j).set, (at_ (layF p L) j).takes⟩ else if j = n then ⟨[(n : Int) + 2, (n : Int) + 1], (at_ (layF p L) n).set, (at_ (layF p L) n).takes⟩ else at_ (layF p L) j := by
    have gn := gk n (by omega)
    rw [oneF, hn]
    generalize layF p L = L1 at *
    have hnL : n < L1.length := by rw [gl]; omega
    have c1 : ((n + 2 : Nat) : Int) = (n : Int) + 2 := by omega
    rw [c1]
    have a1 : ∀ j, at_ (joinF L1 n [(n : Int) + 2, (n : Int) + 1]) j = if j = n then ⟨[(n : Int) + 2, (n : Int) + 1], (at_ L1 n).set, (at_ L1 n).takes⟩ else at_ L1 j := by
      intro j
      rw [at_join _ _ _ _ hnL, gn, h0]; rfl
    have l1 : (joinF L1 n [(n : Int) + 2, (n : Int) + 1]).length = L1.length := joinF_length _ _ _
    generalize joinF L1 n [(n : Int) + 2, (n : Int) + 1] = L2 at *
    have h3 : n + 2 + 1 < L2.length := by omega
    have a2 : ∀ j, at_ (joinF L2 (n + 2 + 1) [(n : Int) + 1]) j = if j = n + 3 then ⟨[(n : Int) + 1], (at_ L1 (n + 3)).set, (at_ L1 (n + 3)).takes⟩ else at_ L2 j := by
      intro j
      have ha3 : at_ L2 (n + 2 + 1) = at_ L1 (n + 3) := by rw [a1, if_neg (by omega)]
      rw [at_join _ _ _ _ h3, ha3, show (at_ L1 (n + 3)).free = [] from go]; rfl
    have l2 : (joinF L2 (n + 2 + 1) [(n : Int) + 1]).length = L2.length := joinF_length _ _ _
    generalize joinF L2 (n + 2 + 1) [(n : Int) + 1] = L3 at *
    refine ⟨_, rfl, ?_⟩
    by_cases h4 : op = 4
    · rw [if_pos h4, if_pos h4]
      refine ⟨by rw [joinF_length]; omega, fun j => ?_⟩
      have ha3 : at_ L3 (n + 2 + 1) = ⟨[(n : Int) + 1], (at_ L1 (n + 3)).set, (at_ L1 (n + 3)).takes⟩ := by rw [a2, if_pos rfl]
      rw [at_join _ _ _ _ (by omega), ha3, a2, a1]
      by_cases hj : j = n + 3
      · subst hj; rw [if_pos rfl, if_pos rfl]; rfl
      · rw [if_neg hj, if_neg hj, if_neg hj]
    · rw [if_neg h4, if_neg h4]
      refine ⟨by omega, fun j => ?_⟩
      rw [a2, a1]
      by_cases hj : j = n + 3
      · subst hj; rw [if_pos rfl]
      · rw [if_neg hj, if_neg hj]
  obtain ⟨fs, hfs, hl, ha⟩ := e
  have gn := gk n (by omega)
  generalize oneF op (p :: r) L n = S at *
  refine ⟨by rw [hl, gl], fun j h1 h2 => ?_, ?_, ?_, ?_⟩
  · rw [ha, if_neg (by omega), if_neg h2, gk j (by omega)]
  · rw [ha, if_neg (by omega), if_pos rfl, gn]
  · rw [ha, if_neg (by omega), if_pos rfl, gn]
  · unfold OneL
    refine ⟨by rw [ha, if_neg (by omega), if_pos rfl], by rw [ha, if_pos rfl, hfs], Lays_ext p _ gy (fun j h1 h2 => ?_)⟩
    rw [ha]
    split
    · rename_i h; exact ⟨fun h' => absurd h h', rfl, rfl⟩
    · rw [if_neg (by omega)]; exact ⟨fun _ => rfl, rfl, rfl⟩

theorem plain_z0 : plain z0 := ⟨rfl, rfl⟩

mutual
theorem lay_ok : ∀ (x : Nd), Good x → ∀ L, LaidOk x L (layF x L)
  | .mk op cls ps, hg, L => by
    unfold Good at hg
    obtain ⟨hop, hnil, hone, hps⟩ := hg
    have t1 : ∀ j, at_ ((L ++ [z0]) ++ [z0]) j = if j < L.length then at_ L j else z0 := by
      intro j
      rw [at_two]
      split
      · rfl
      · split
        · rfl
        · split <;> rfl
    have l1 : ((L ++ [z0]) ++ [z0]).length = L.length + 2 := by simp
    by_cases h1 : op = 1
    · have e : layF (.mk op cls ps) L = (L ++ [⟨[], true, cls⟩]) ++ [z0] := by rw [layF, if_pos h1]
      rw [e]
      have hn := hnil (.inr h1)
      subst hn
      refine ⟨by simp [cnt, cntL], fun j hj => by rw [at_two, if_pos hj], ?_, by rw [at_two, if_neg (by omega), if_neg (by omega), if_pos rfl]; rfl⟩
      unfold Lays
      rw [if_pos h1, at_two, at_two, if_neg (by omega), if_neg (by omega), if_pos rfl, if_neg (by omega), if_pos rfl]
      exact ⟨plain_z0, rfl⟩
    generalize hL1 : (L ++ [z0]) ++ [z0] = L1 at *
    have tn : at_ L1 L.length = z0 := by rw [t1, if_neg (by omega)]
    have tn1 : at_ L1 (L.length + 1) = z0 := by rw [t1, if_neg (by omega)]
    by_cases h0 : op = 0
    · have e : layF (.mk op cls ps) L = joinF L1 L.length [(L.length : Int) + 1] := by rw [layF, if_neg h1, if_pos h0, hL1]
      rw [e]
      have hn := hnil (.inl h0)
      subst hn
      have ha : ∀ j, at_ (joinF L1 L.length [(L.length : Int) + 1]) j = if j = L.length then ⟨[(L.length : Int) + 1], false, []⟩ else at_ L1 j := by
        intro j; rw [at_join _ _ _ _ (by omega), tn]; rfl
      refine ⟨by rw [joinF_length, l1]; simp [cnt, cntL], fun j hj => by rw [ha, if_neg (by omega), t1, if_pos hj], ?_, by rw [ha, if_neg (by omega), tn1]; rfl⟩
      unfold Lays
      rw [if_neg h1, if_pos h0, ha, if_neg (by omega), tn1, ha, if_pos rfl]
      exact ⟨plain_z0, ⟨rfl, rfl⟩, rfl⟩
    by_cases h2 : op = 2
    · have e : layF (.mk op cls ps) L = joinF (seqF ps L1 L.length).1 (seqF ps L1 L.length).2 [(L.length : Int) + 1] := by rw [layF, if_neg h1, if_neg h0, if_pos h2, hL1]
      rw [e]
      have k := seq_ok ps hps L1 L.length (by omega) (by rw [tn]; rfl)
      generalize seqF ps L1 L.length = R at *
      obtain ⟨kl, klt, ko, kk, ks, ky, kn⟩ := k
      rw [l1] at kl kk ky kn
      have hj : ∀ j, at_ (joinF R.1 R.2 [(L.length : Int) + 1]) j = if j = R.2 then ⟨(at_ R.1 R.2).free ++ [(L.length : Int) + 1], (at_ R.1 R.2).set, (at_ R.1 R.2).takes⟩ else at_ R.1 j := fun j => at_join R.1 R.2 _ j klt
      have hy := ky (L.length + 1)
      rw [show ((L.length + 1 : Nat) : Int) = (L.length : Int) + 1 by omega] at hy
      have h1' : at_ (joinF R.1 R.2 [(L.length : Int) + 1]) (L.length + 1) = z0 := by rw [hj, if_neg (by omega), kk _ (by omega) (by omega), tn1]
      refine ⟨by rw [joinF_length, kl]; simp only [cnt]; omega, fun j hj' => by rw [hj, if_neg (by omega), kk j (by omega) (by omega), t1, if_pos hj'], ?_, by rw [h1']; rfl⟩
      unfold Lays
      rw [if_neg h1, if_neg h0, if_pos h2, h1']
      refine ⟨plain_z0, ?_, hy⟩
      have hs : (at_ (joinF R.1 R.2 [(L.length : Int) + 1]) L.length).set = (at_ R.1 L.length).set ∧ (at_ (joinF R.1 R.2 [(L.length : Int) + 1]) L.length).takes = (at_ R.1 L.length).takes := by
        rw [hj]; split
        · rename_i h; rw [h]; exact ⟨rfl, rfl⟩
        · exact ⟨rfl, rfl⟩
      rw [tn] at ks
      exact ⟨hs.1.trans ks.1, hs.2.trans ks.2⟩
    by_cases h3 : op = 3
    · have e : layF (.mk op cls ps) L = altF ps L1 L.length := by rw [layF, if_neg h1, if_neg h0, if_neg h2, if_pos h3, hL1]
      rw [e]
      have k := alt_ok ps hps L1 L.length (by omega)
      generalize altF ps L1 L.length = R at *
      obtain ⟨kl, kk, ks, kf, ky⟩ := k
      rw [l1] at kl kk ky kf
      rw [tn] at ks kf
      have h1' : at_ R (L.length + 1) = z0 := by rw [kk _ (by omega) (by omega), tn1]
      refine ⟨by rw [kl]; simp only [cnt]; omega, fun j hj' => by rw [kk j (by omega) (by omega), t1, if_pos hj'], ?_, by rw [h1']; rfl⟩
      unfold Lays
      rw [if_neg h1, if_neg h0, if_neg h2, if_pos h3, h1']
      exact ⟨plain_z0, ⟨ks.1, ks.2⟩, by rw [kf]; rfl, ky⟩
    · have e : layF (.mk op cls ps) L = oneF op ps L1 L.length := by rw [layF, if_neg h1, if_neg h0, if_neg h2, if_neg h3, hL1]
      rw [e]
      have h45 : op = 4 ∨ op = 5 := by omega
      match ps, hone h45, hps with
      | [p], _, hps =>
        unfold GoodL at hps
        obtain ⟨kl, kk, ks, kt, ky⟩ := one_ok (lay_ok p hps.1) op [] L1 L.length l1 (by rw [tn]; rfl)
        generalize oneF op [p] L1 L.length = R at *
        rw [tn] at ks kt
        have h1' : at_ R (L.length + 1) = z0 := by rw [kk _ (by omega) (by omega), tn1]
        refine ⟨by rw [kl]; simp only [cnt, cntL]; omega, fun j hj' => by rw [kk j (by omega) (by omega), t1, if_pos hj'], ?_, by rw [h1']; rfl⟩
        unfold Lays
        rw [if_neg h1, if_neg h0, if_neg h2, if_neg h3, h1']
        exact ⟨plain_z0, ⟨ks, kt⟩, ky⟩
theorem seq_ok : ∀ (ps : List Nd), GoodL ps → ∀ (L : List Sta) (a : Nat), a < L.length → (at_ L a).free = [] → SeqOk ps L a (seqF ps L a)
  | [], _, L, a, ha, h0 => by
    rw [seqF]
    refine ⟨by simp [cntL], ha, h0, fun _ _ _ => rfl, ⟨rfl, rfl⟩, fun e => ?_, .inl rfl⟩
    unfold SeqL
    rw [at_join _ _ _ _ ha, if_pos rfl, h0]; rfl
  | p :: r, hg, L, a, ha, h0 => by
    unfold GoodL at hg
    exact seq_ok_cons (lay_ok p hg.1) (seq_ok r hg.2) L a ha h0
theorem alt_ok : ∀ (ps : List Nd), GoodL ps → ∀ (L : List Sta) (n : Nat), n + 1 < L.length → AltOk ps L n (altF ps L n)
  | [], _, L, n, ha => by
    rw [altF]
    exact ⟨by simp [cntL], fun _ _ _ => rfl, ⟨rfl, rfl⟩, by simp [entries], by unfold AltL; trivial⟩
  | p :: r, hg, L, n, ha => by
    unfold GoodL at hg
    exact alt_ok_cons (lay_ok p hg.1) (alt_ok r hg.2) L n ha
end

/-- how many edges without a class there are -/
def edges (L : List Sta) : Nat := (L.map (fun s => s.free.length)).sum

theorem edges_append (L K : List Sta) : edges (L ++ K) = edges L + edges K := by simp [edges]

theorem free_le : ∀ {L : List Sta} {i : Nat} (h : i < L.length), (L[i]).free.length ≤ edges L
  | x :: r, 0, _ => by simp [edges]
  | x :: r, i + 1, h => by
    have := free_le (L := r) (i := i) (by simpa using h)
    simp only [edges, List.map_cons, List.sum_cons] at *
    simp only [List.getElem_cons_succ]
    omega

theorem edges_join_le : ∀ (L : List Sta) (i : Nat) (ts : List Int), edges (joinF L i ts) ≤ edges L + ts.length
  | [], i, ts => by simp [joinF, edges]
  | x :: r, 0, ts => by simp [joinF, edges]; omega
  | x :: r, i + 1, ts => by
    have := edges_join_le r i ts
    simp only [edges, joinF, List.modify_succ_cons, List.map_cons, List.sum_cons] at *
    omega

mutual
theorem edges_lay : ∀ (x : Nd) (L : List Sta), edges (layF x L) + 2 ≤ edges L + 6 * cnt x
  | .mk op cls ps, L => by
    rw [layF]
    have h0 : edges ((L ++ [z0]) ++ [z0]) = edges L := by simp [edges_append]; rfl
    simp only [cnt]
    split
    · have : edges ((L ++ [⟨[], true, cls⟩]) ++ [z0]) = edges L := by simp [edges_append]; rfl
      omega
    · split
      · have := edges_join_le ((L ++ [z0]) ++ [z0]) L.length [(L.length : Int) + 1]
        simp only [List.length_singleton] at this
        omega
      · split
        · have h1 := edges_join_le (seqF ps ((L ++ [z0]) ++ [z0]) L.length).1 (seqF ps ((L ++ [z0]) ++ [z0]) L.length).2 [(L.length : Int) + 1]
          have h2 := edges_seq ps ((L ++ [z0]) ++ [z0]) L.length
          simp only [List.length_singleton] at h1
          omega
        · split
          · have := edges_alt ps ((L ++ [z0]) ++ [z0]) L.length
            omega
          · have := edges_one op ps ((L ++ [z0]) ++ [z0]) L.length
            omega
theorem edges_seq : ∀ (ps : List Nd) (L : List Sta) (a : Nat), edges (seqF ps L a).1 ≤ edges L + 6 * cntL ps
  | [], L, a => by rw [seqF]; simp [cntL]
  | p :: r, L, a => by
    rw [seqF]
    have h1 := edges_seq r (joinF (layF p L) a [(L.length : Int)]) (L.length + 1)
    have h2 := edges_join_le (layF p L) a [(L.length : Int)]
    have h3 := edges_lay p L
    simp only [List.length_singleton, cntL] at *
    omega
theorem edges_alt : ∀ (ps : List Nd) (L : List Sta) (n : Nat), edges (altF ps L n) ≤ edges L + 6 * cntL ps
  | [], L, n => by rw [altF]; simp [cntL]
  | p :: r, L, n => by
    rw [altF]
    have h1 := edges_alt r (joinF (joinF (layF p L) n [(L.length : Int)]) (L.length + 1) [(n : Int) + 1]) n
    have h2 := edges_join_le (joinF (layF p L) n [(L.length : Int)]) (L.length + 1) [(n : Int) + 1]
    have h3 := edges_join_le (layF p L) n [(L.length : Int)]
    have h4 := edges_lay p L
    simp only [List.length_singleton, cntL] at *
    omega
theorem edges_one : ∀ (op : Int) (ps : List Nd) (L : List Sta) (n : Nat), edges (oneF op ps L n) ≤ edges L + 6 * cntL ps + 2
  | op, [], L, n => by rw [oneF]; omega
  | op, p :: r, L, n => by
    rw [oneF]
    have h1 := edges_lay p L
    have h2 := edges_join_le (layF p L) n [(L.length : Int), (n : Int) + 1]
    have h3 := edges_join_le (joinF (layF p L) n [(L.length : Int), (n : Int) + 1]) (L.length + 1) [(n : Int) + 1]
    have h4 := edges_join_le (joinF (joinF (layF p L) n [(L.length : Int), (n : Int) + 1]) (L.length + 1) [(n : Int) + 1]) (L.length + 1) [(L.length : Int)]
    simp only [List.length_singleton, List.length_cons, List.length_nil, cntL] at *
    split <;> omega
end

theorem seqF_snoc : ∀ (l : List Nd) (p : Nd) (L : List Sta) (a : Nat), seqF (l ++ [p]) L a = (joinF (layF p (seqF l L a).1) (seqF l L a).2 [((seqF l L a).1.length : Int)], (seqF l L a).1.length + 1)
  | [], p, L, a => by simp [seqF]
  | x :: r, p, L, a => by
    rw [List.cons_append, seqF, seqF]
    exact seqF_snoc r p _ _

theorem altF_snoc : ∀ (l : List Nd) (p : Nd) (L : List Sta) (n : Nat), altF (l ++ [p]) L n = joinF (joinF (layF p (altF l L n)) n [((altF l L n).length : Int)]) ((altF l L n).length + 1) [(n : Int) + 1]
  | [], p, L, n => by simp [altF]
  | x :: r, p, L, n => by
    rw [List.cons_append, altF, altF]
    exact altF_snoc r p _ _

theorem cntL_append : ∀ (l k : List Nd), cntL (l ++ k) = cntL l + cntL k
  | [], k => by simp [cntL]
  | x :: r, k => by simp only [List.cons_append, cntL]; rw [cntL_append r k]; omega

theorem cntL_take {ps : List Nd} {k : Nat} (h : k < ps.length) : cntL (ps.take (k + 1)) = cntL (ps.take k) + cnt ps[k] := by
  rw [List.take_succ_eq_append_getElem h, cntL_append]; simp [cntL]

theorem cntL_take_le (ps : List Nd) (k : Nat) : cntL (ps.take k) ≤ cntL ps := by
  conv => rhs; rw [← List.take_append_drop k ps]
  rw [cntL_append]; omega

theorem GoodL_take : ∀ {ps : List Nd}, GoodL ps → ∀ k, GoodL (ps.take k)
  | [], _, k => by simp [GoodL]
  | x :: r, h, 0 => by simp [GoodL]
  | x :: r, h, k + 1 => by
    simp only [List.take_succ_cons, GoodL] at *
    exact ⟨h.1, GoodL_take h.2 k⟩
end Go.Proofs.Ythmaokjhncokdaa

/-
  A machine in memory; states are added and joined. No condition beyond what each theorem names.
-/
set_option linter.unusedVariables false
set_option linter.unusedSimpArgs false
namespace Go.Proofs.Ythmaokjhncokdaa
open Go.RowKit

/-- a state, and its two slices as they lie -/
structure Laid where
  s : Sta
  fv : Value
  tv : Value

def laidE (x : Laid) (row : List Value) : Prop := row = [x.fv, .bool x.s.set, x.tv]

/-- no list of states to go to lies in the block of another one, or in that of classes -/
def Apart (Ls : List Laid) : Prop :=
  (∀ i j (hi : i < Ls.length) (hj : j < Ls.length), i ≠ j → ∀ k, Ls[i].fv.ownBlock = some k → Ls[j].fv.ownBlock ≠ some k) ∧
  (∀ x ∈ Ls, ∀ y ∈ Ls, ∀ k, x.fv.ownBlock = some k → y.tv.ownBlock ≠ some k)

/-- a machine that is being laid -/
def Mach (base : Nat) (w : World) (m : Nat) (L : List Sta) (first last : Int) : Prop :=
  ∃ (lv : Value) (Ls : List Laid), base ≤ m ∧ w.heap[m]? = some (.cells #[lv, .int .i64 first, .int .i64 last] 135) ∧ Ls.map (·.s) = L ∧ OwnL laidE 165 3 base w lv Ls ∧
    (∀ x ∈ Ls, OwnL intE 3 1 base w x.fv x.s.free ∧ OwnL intE 3 1 base w x.tv x.s.takes) ∧ Apart Ls

theorem laidE.cells {base : Nat} {w : World} {x : Laid} (h : OwnL intE 3 1 base w x.fv x.s.free) (ht : OwnL intE 3 1 base w x.tv x.s.takes) : [x.fv, .bool x.s.set, x.tv].length = 3 ∧ ∀ u ∈ [x.fv, .bool x.s.set, x.tv], u.oneCell' = true := by
  obtain ⟨p, c, hf⟩ := h.form
  obtain ⟨q, d, hd⟩ := ht.form
  refine ⟨rfl, fun u hu => ?_⟩
  simp at hu
  rcases hu with rfl | rfl | rfl
  · rw [hf]; rfl
  · rfl
  · rw [hd]; rfl

theorem grown_ne {w w' : World} {base sz : Nat} {α : Type} {E : α → List Value → Prop} {T : TypeId} {v : Value} {xs : List α} {r : Option Nat} (h : OwnL E T sz base w v xs) (hg : w.grownBy w' r) (hn : ∀ k, r = some k → v.ownBlock ≠ some k) : OwnL E T sz base w' v xs :=
  h.fr (Fr.grown (F := fun k => r = some k) hg (fun _ h => h)) (fun k hk he => hn k he hk)

/-- own lists of unlike types lie apart -/
theorem OwnL.apart {α β : Type} {E : α → List Value → Prop} {F : β → List Value → Prop} {T U : TypeId} {sz sy base base' : Nat} {w : World} {v u : Value} {xs : List α} {ys : List β} (h : OwnL E T sz base w v xs) (k : OwnL F U sy base' w u ys) (hne : T ≠ U) : ∀ g, v.ownBlock = some g → u.ownBlock ≠ some g := by
  obtain ⟨_, ⟨-, h⟩, -⟩ := h
  obtain ⟨_, ⟨-, k⟩, -⟩ := k
  intro g hg hu
  rcases h with ⟨rfl, -⟩ | ⟨g1, c1, cur1, rfl, -, h1, -⟩
  · cases hg
  · rcases k with ⟨rfl, -⟩ | ⟨g2, c2, cur2, rfl, -, h2, -⟩
    · cases hu
    · simp only [Value.ownBlock, Option.some.injEq] at hg hu
      subst hg hu
      rw [h1] at h2
      cases h2
      exact hne rfl

theorem OwnL.based {α : Type} {E : α → List Value → Prop} {T : TypeId} {sz B base : Nat} {w : World} {v : Value} {xs : List α} (h : OwnL E T sz B w v xs) (hb : base ≤ B) : OwnL E T sz base w v xs := by
  obtain ⟨rows, ⟨h1, h2⟩, h3⟩ := h
  refine ⟨rows, ⟨h1, ?_⟩, h3⟩
  rcases h2 with h2 | ⟨g, cap, cur, rfl, hg, h4⟩
  · exact .inl h2
  · exact .inr ⟨g, cap, cur, rfl, Nat.le_trans hb hg, h4⟩

/-- a block of another type is no own list's -/
theorem OwnL.notAt {α : Type} {E : α → List Value → Prop} {T U : TypeId} {sz base m : Nat} {w : World} {v : Value} {xs : List α} {cs : Array Value} (h : OwnL E T sz base w v xs) (hb : w.heap[m]? = some (.cells cs U)) (hne : T ≠ U) : v.ownBlock ≠ some m := by
  obtain ⟨_, ⟨-, h⟩, -⟩ := h
  intro hm
  rcases h with ⟨rfl, -⟩ | ⟨g1, c1, cur1, rfl, -, h1, -⟩
  · cases hm
  · simp only [Value.ownBlock, Option.some.injEq] at hm
    subst hm
    rw [h1] at hb
    cases hb
    exact hne rfl

/-- blocks that hold expressions are as they were -/
def KeepN (w w' : World) : Prop := ∀ (k : Nat) (cur : Array Value), w.heap[k]? = some (.cells cur 52) → w'.heap[k]? = some (.cells cur 52)

theorem KeepN.refl (w : World) : KeepN w w := fun _ _ h => h
theorem KeepN.trans {a b c : World} (h : KeepN a b) (g : KeepN b c) : KeepN a c := fun k cur hk => g k cur (h k cur hk)
theorem KeepN.of_below {w w' : World} (h : Below w.heap.size w w') : KeepN w w' := fun k cur hk => (h.block k (at_lt hk)).trans hk
theorem KeepN.of_fr {F : Nat → Prop} {w w' : World} (h : Fr F w w') (hn : ∀ k (cur : Array Value), w.heap[k]? = some (.cells cur 52) → ¬ F k) : KeepN w w' := fun k cur hk => (h.block k (at_lt hk) (hn k cur hk)).trans hk
theorem KeepN.of_own {α : Type} {E : α → List Value → Prop} {T : TypeId} {sz base : Nat} {w w' : World} {v u : Value} {xs : List α} (h : OwnL E T sz base w v xs) (hne : T ≠ 52) (hf : Fr (fun k => u.ownBlock = some k) w w') (hu : u = v) : KeepN w w' :=
  KeepN.of_fr hf fun k cur hk he => h.notAt hk hne (by rw [← hu]; exact he)
theorem KeepN.of_at {w w' : World} {m : Nat} {cs : Array Value} {T : TypeId} (h : w.heap[m]? = some (.cells cs T)) (hne : T ≠ 52) (hf : Fr (fun k => k = m) w w') : KeepN w w' :=
  KeepN.of_fr hf fun k cur hk he => by
    have he : k = m := he
    rw [he, h] at hk
    cases hk
    exact hne rfl

theorem ownL_ints {base : Nat} {T : TypeId} {w : World} {v : Value} {xs : List Int} (h : w.ownsRow base T 1 v xs.length (xs.map (Value.int .i64))) : OwnL intE T 1 base w v xs := by
  refine ⟨xs.map fun x => [.int .i64 x], ?_, by simp, fun r hr => ?_, fun i hi => ⟨_, by simp [hi], rfl⟩⟩
  · have : (xs.map fun x => [Value.int .i64 x]).flatten = xs.map (Value.int .i64) := by
      clear h
      induction xs with
      | nil => rfl
      | cons x r ih => simp [ih]
    rw [this]; exact h
  · obtain ⟨x, -, rfl⟩ := List.mem_map.1 hr
    simp [Value.oneCell']
end Go.Proofs.Ythmaokjhncokdaa

/-
  join: a state goes to others without a class. No condition beyond what each theorem names.
-/
set_option linter.unusedVariables false
set_option linter.unusedSimpArgs false
namespace Go.Proofs.Ythmaokjhncokdaa
open Go.RowKit

set_option maxRecDepth 100000 in
set_option maxHeartbeats 4000000 in
theorem join_any (base : Nat) (w : World) (m : Nat) (L : List Sta) (first last : Int) (i : Nat) (tv : Value) (ts : List Int) (hi : i < L.length) (hL : L.length ≤ 1000000) (hm : Mach base w m L first last) (ht : Ints w tv ts) (hlen : (L[i]).free.length + ts.length ≤ 1000000) :
    Calls Try.prog 99 #[.pointer (some ⟨m, 0, none⟩), .int .i64 i, tv] w fun e w' => e = .returned (.tuple #[]) ∧ Mach base w' m (joinF L i ts) first last ∧ Below base w w' ∧ KeepN w w' := by
  obtain ⟨lv, Ls, hbm, hbx, hmap, hown, hall, hap⟩ := hm
  have hlen2 : Ls.length = L.length := by rw [← hmap, List.length_map]
  obtain ⟨pl, cl, hlv⟩ := hown.form
  subst hlv
  rw [hlen2] at hbx hown
  have hil : i < Ls.length := by omega
  obtain ⟨hfv, htv⟩ := hall Ls[i] (List.getElem_mem hil)
  obtain ⟨g, cap, cur, row, hve, hg, hheap, hrow, hrl, hrc, hE, hcsz, hst⟩ := hown.store (by omega) (k := i) hil
  rw [hlen2] at hve
  injection hve with e1 e2 e3
  subst e1 e3
  have hE' : row = [Ls[i].fv, .bool Ls[i].s.set, Ls[i].tv] := hE
  subst hE'
  have hfree : Ls[i].s = L[i] := by simp [← hmap]
  obtain ⟨pf, cf, hfe⟩ := hfv.form
  have y0 := hrow 0 _ rfl
  simp only [Nat.add_zero] at y0
  rw [hfe] at y0
  have HBX := Lib.hid hbx
  have HY0 := Lib.hid y0
  have HT := Lib.hid ht
  have j0 : (0 : Int) ≤ i := by omega
  have j1 : (i : Int) < L.length := by omega
  obtain ⟨pt0, ct0, ht0, -⟩ := ht.get
  subst ht0
  have HFV := Lib.hid (show OwnL intE 3 1 base w (.slice pf Ls[i].s.free.length cf) Ls[i].s.free by rw [← hfe]; exact hfv)
  have HLEN := Lib.hid (show Ls[i].s.free.length + ts.length ≤ 1000000 by rw [hfree]; exact hlen)
  have HST := Lib.hid hst
  have HH := Lib.hid hheap
  have HALL := Lib.hid hall
  have HAP := Lib.hid hap
  have HMAP := Lib.hid hmap
  have HFE := Lib.hid hfe
  have HOWN := Lib.hid hown
  have hfit : i * 3 + 1 ≤ cur.size := by omega
  have HS0 := Lib.hid (cells3 hbx).1
  have hbw : base ≤ w.heap.size := by have := at_lt hbx; omega
  clear hmap hown hall hap hbx hst hheap hrow hrl hrc hE hcsz e2 hfv htv hfe hfree y0 ht hlen
  go_enter Try.func99, Try.ntmps99
  go_upto_region 0 with fail
  refine wp_region_plan (fun W => W.cell? ⟨m, 0, none⟩ = some (.slice (some ⟨g, 0, none⟩) L.length cl)) (.reads [0, 1, 2, 3, 4, 5, 6, 7, 8, 9, 10, 11, 13] (.one 12 (.one 14 (.reads [15, 16] (.one 17 .done))))) 23 (by kernel_rfl) (by kernel_rfl) rfl (fun _ _ _ _ _ h => h) HS0.out ?_
  apply plan_reads
  · intro W hW
    repeat (refine wpRead_step (fun K hK => ?_); go_simp; refine hK _ ?_; clear hK K)
    exact wpRead_nil rfl
  refine plan_one rfl ?_
  have y0 : w.drew.cell? ⟨g, i * 3, none⟩ = some (.slice pf Ls[i].s.free.length cf) := HY0.out
  go_wp2_with fail
  refine Then.mk HS0.out ?_
  refine plan_one rfl ?_
  refine wpList_append_ints rfl (.tmp 18) (.tmp 19) rfl (.slice pf Ls[i].s.free.length cf) Ls[i].s.free rfl (base := base) HFV.out _ ts rfl HT.out.readL HLEN.out hbw ?_
  intro p1 c1 w1 hown1 hg1 hlie1
  have hne1 := HFV.out.notAt HBX.out (by decide)
  have hneg := HFV.out.notAt HH.out (by decide)
  have HFR1 := Lib.hid (show Fr (fun k => (Value.slice pf Ls[i].s.free.length cf).ownBlock = some k) w w1 from ((Fr.refl _ w).drewN 1 : Fr _ w w.drew).trans (Fr.grown (F := fun k => (Value.slice pf Ls[i].s.free.length cf).ownBlock = some k) hg1 (fun k h => h)) (fun _ _ h => h))
  have HM1 := Lib.hid ((HFR1.out.block m (at_lt HBX.out) hne1).trans HBX.out)
  have HH1 := Lib.hid ((HFR1.out.block g (at_lt HH.out) hneg).trans HH.out)
  have HOW1 := Lib.hid hown1
  have HLIE1 := Lib.hid hlie1
  clear hown1 hg1 hlie1 hne1 hneg y0
  go_wp2_with fail
  refine Then.mk (cells3 HM1.out).1 ?_
  apply plan_reads
  · intro W hW
    repeat (refine wpRead_step (fun K hK => ?_); go_simp; refine hK _ ?_; clear hK K)
    exact wpRead_nil rfl
  refine plan_one rfl ?_
  refine wpList_store_row rfl (.tmp 22) (.tmp 20) 46 rfl g (i * 3) rfl (.slice p1 (Ls[i].s.free.length + ts.length) c1) rfl cur _ (by kernel_rfl) HH1.out hfit (by simp [Value.cells, Value.oneCell']) ?_
  refine abs_list fun W2 hW2 => ?_
  have HFR2 := Lib.hid (show Fr (fun k => k = g) w1 W2 by rw [hW2]; exact Fr.setRow (F := fun k => k = g) _ rfl _)
  have HG2 := Lib.hid (show W2.heap[g]? = some (.cells (splice cur.toList (i * 3) [.slice p1 (Ls[i].s.free.length + ts.length) c1]).toArray 165) by rw [hW2]; exact setRow_heap _ g _ _ _ (0, 0) HH1.out)
  have hmg : m ≠ g := fun h => by
    have h1 := HM1.out
    rw [h, HH1.out] at h1
    cases h1
  have HM2 := Lib.hid ((HFR2.out.block m (at_lt HM1.out) hmg).trans HM1.out)
  clear hW2 hmg
  go_wp2_with fail
  refine Then.mk (cells3 HM2.out).1 ?_
  refine plan_done ?_
  go_wp2_with fail
  go_end0
  have hset : (Ls.set i ⟨⟨Ls[i].s.free ++ ts, Ls[i].s.set, Ls[i].s.takes⟩, .slice p1 (Ls[i].s.free.length + ts.length) c1, Ls[i].tv⟩).map (·.s) = joinF L i ts := by
    have hs : L[i] = Ls[i].s := by simp [← HMAP.out]
    rw [List.map_set, HMAP.out]
    unfold joinF
    refine List.ext_getElem (by simp) fun j h1 h2 => ?_
    rw [List.getElem_set, List.getElem_modify]
    split
    · rename_i h; subst h; rw [hs]
    · rfl
  have hkeep : KeepN w W2 := (KeepN.of_own HFV.out (by decide) HFR1.out rfl).trans (KeepN.of_at HH1.out (by decide) HFR2.out)
  refine ⟨rfl, ⟨.slice (some ⟨g, 0, none⟩) L.length cl, _, hbm, HM2.out, hset, ?_, ?_, ?_⟩, ?_, hkeep⟩
  · have h := HST.out 0 [.slice p1 (Ls[i].s.free.length + ts.length) c1] (by simp) (by simp [Value.oneCell']) ⟨⟨Ls[i].s.free ++ ts, Ls[i].s.set, Ls[i].s.takes⟩, .slice p1 (Ls[i].s.free.length + ts.length) c1, Ls[i].tv⟩ rfl W2 HG2.out
    exact h
  · intro x hx
    obtain ⟨j, hj, rfl⟩ := List.getElem_of_mem hx
    rw [List.length_set] at hj
    rw [List.getElem_set]
    split
    · rename_i h
      subst h
      refine ⟨HOW1.out.fr HFR2.out (fun q hq he => HOW1.out.notAt HH1.out (by decide) (by rw [hq]; exact congrArg some he)), ?_⟩
      have h1 : OwnL intE 3 1 base w1 Ls[i].tv Ls[i].s.takes := (HALL.out _ (List.getElem_mem hil)).2.fr HFR1.out (fun q hq he => HAP.out.2 _ (List.getElem_mem hil) _ (List.getElem_mem hil) q (by rw [HFE.out]; exact he) hq)
      exact h1.fr HFR2.out (fun q hq he => h1.notAt HH1.out (by decide) (by rw [hq]; exact congrArg some he))
    · rename_i h
      have h1 : OwnL intE 3 1 base w1 Ls[j].fv Ls[j].s.free := (HALL.out _ (List.getElem_mem hj)).1.fr HFR1.out (fun q hq he => HAP.out.1 i j hil hj h q (by rw [HFE.out]; exact he) hq)
      have h2 : OwnL intE 3 1 base w1 Ls[j].tv Ls[j].s.takes := (HALL.out _ (List.getElem_mem hj)).2.fr HFR1.out (fun q hq he => HAP.out.2 _ (List.getElem_mem hil) _ (List.getElem_mem hj) q (by rw [HFE.out]; exact he) hq)
      exact ⟨h1.fr HFR2.out (fun q hq he => h1.notAt HH1.out (by decide) (by rw [hq]; exact congrArg some he)), h2.fr HFR2.out (fun q hq he => h2.notAt HH1.out (by decide) (by rw [hq]; exact congrArg some he))⟩
  · have hnew : ∀ q, (Value.slice p1 (Ls[i].s.free.length + ts.length) c1).ownBlock = some q → Ls[i].fv.ownBlock = some q ∨ w.heap.size ≤ q := fun q hq => by
      rcases HLIE1.out with h | h
      · exact .inl (by rw [HFE.out, ← h]; exact hq)
      · rw [hq] at h
        injection h with h
        exact .inr (by rw [h]; exact Nat.le_refl _)
    refine ⟨fun a b ha hb hab q hq hq2 => ?_, fun x hx y hy q hq hq2 => ?_⟩
    · rw [List.length_set] at ha hb
      rw [List.getElem_set] at hq hq2
      split at hq
      · rename_i h
        subst h
        rw [if_neg hab] at hq2
        rcases hnew q hq with h | h
        · exact HAP.out.1 i b hil hb hab q h hq2
        · have := ((HALL.out _ (List.getElem_mem hb)).1.lt q hq2).2; omega
      · rename_i h
        split at hq2
        · rename_i h'
          subst h'
          rcases hnew q hq2 with h3 | h3
          · exact HAP.out.1 i a hil ha h q h3 hq
          · have := ((HALL.out _ (List.getElem_mem ha)).1.lt q hq).2; omega
        · exact HAP.out.1 a b ha hb hab q hq hq2
    · have hy2 : ∃ y' ∈ Ls, y'.tv = y.tv := by
        rcases List.mem_or_eq_of_mem_set hy with h | h
        · exact ⟨y, h, rfl⟩
        · exact ⟨Ls[i], List.getElem_mem hil, by rw [h]⟩
      obtain ⟨y', hy', hyt⟩ := hy2
      rw [← hyt] at hq2
      rcases List.mem_or_eq_of_mem_set hx with h | h
      · exact HAP.out.2 x h y' hy' q hq hq2
      · rw [h] at hq
        rcases hnew q hq with h3 | h3
        · exact HAP.out.2 _ (List.getElem_mem hil) y' hy' q h3 hq2
        · have := ((HALL.out _ hy').2.lt q hq2).2; omega
  · have h1 : Below base w w1 := HFR1.out.below hbw (fun q hq => (HFV.out.lt q hq).1)
    exact h1.trans (HFR2.out.below (Nat.le_trans hbw h1.size) (fun q hq => by have h : q = g := hq; omega))
end Go.Proofs.Ythmaokjhncokdaa

/-
  add: a new state. No condition beyond what each theorem names.
-/
set_option linter.unusedVariables false
set_option linter.unusedSimpArgs false
namespace Go.Proofs.Ythmaokjhncokdaa
open Go.RowKit

theorem infoState : (Try.prog.info? 165).map (fun i => (i.zero, i.size, i.bytes)) = some (some (.agg #[.slice none 0 0, .bool false, .slice none 0 0]), 3, 56) := by kernel_rfl

theorem Mach.below {base m : Nat} {w w' : World} {L : List Sta} {f l : Int} (h : Mach base w m L f l) (hb : Below w.heap.size w w') : Mach base w' m L f l := by
  obtain ⟨lv, Ls, h1, h2, h3, h4, h5, h6⟩ := h
  exact ⟨lv, Ls, h1, (hb.block m (at_lt h2)).trans h2, h3, h4.below hb (Nat.le_refl _), fun x hx => ⟨(h5 x hx).1.below hb (Nat.le_refl _), (h5 x hx).2.below hb (Nat.le_refl _)⟩, h6⟩

section
variable {ops : Array Oper} {rest : List Oper} {o : Oper} {a : Act} {w : World} {Q : Exit → Act → World → Prop} {base : Nat}
theorem wpList_append_states {E : Laid → List Value → Prop} (hgd : o.guard = none) (s x : Operand) (ho : o.op = .call { callee := .builtin .append, args := #[s, x], argTypes := #[133, 133] })
    (v : Value) (xs : List Laid) (hs : a.eval s = v) (hown : OwnL E 165 3 base w v xs) (xv : Value) (ns : List Laid) (hx : a.eval x = xv) (hr : ReadL E 3 w xv ns) (hlen : xs.length + ns.length ≤ 1000000) (hbase : base ≤ w.heap.size)
    (h : ∀ p c w', OwnL E 165 3 base w' (.slice p (xs.length + ns.length) c) (xs ++ ns) → w.grownBy w' v.ownBlock → ((Value.slice p (xs.length + ns.length) c).ownBlock = v.ownBlock ∨ (Value.slice p (xs.length + ns.length) c).ownBlock = some w.heap.size) → wpList Try.prog ops Q rest (a.put o.dst (.slice p (xs.length + ns.length) c)) w') : wpList Try.prog ops Q (o :: rest) a w := by
  obtain ⟨i0, hi, hz0, hz1, hz2⟩ := info_parts infoState
  exact wpList_append_L hgd s x 133 ho i0 _ 56 Try.underlying133 hi hz0 hz1 hz2 rfl (by decide) v xs hs hown xv ns hx hr (by unfold maxLen; omega) (by omega) hbase h
end
set_option maxRecDepth 100000 in
set_option maxHeartbeats 4000000 in
theorem add_any (base : Nat) (w0 w : World) (m : Nat) (L : List Sta) (first last : Int) (set : Bool) (tv : Value) (takes : List Int) (hL : L.length + 1 ≤ 1000000) (hm : Mach base w0 m L first last) (hb : Below w0.heap.size w0 w) (ht : OwnL intE 3 1 w0.heap.size w tv takes) :
    Calls Try.prog 98 #[.pointer (some ⟨m, 0, none⟩), .agg #[.slice none 0 0, .bool set, tv]] w fun e w' => e = .returned (.int .i64 L.length) ∧ Mach base w' m (L ++ [⟨[], set, takes⟩]) first last ∧ Below base w w' ∧ KeepN w w' := by
  obtain ⟨lv, Ls, hbm, hbx0, hmap, hown0, hall0, hap⟩ := hm
  have hlen2 : Ls.length = L.length := by rw [← hmap, List.length_map]
  have hbx := (hb.block m (at_lt hbx0)).trans hbx0
  have hown := hown0.below hb (Nat.le_refl _)
  have hall : ∀ x ∈ Ls, OwnL intE 3 1 base w x.fv x.s.free ∧ OwnL intE 3 1 base w x.tv x.s.takes := fun x hx => ⟨(hall0 x hx).1.below hb (Nat.le_refl _), (hall0 x hx).2.below hb (Nat.le_refl _)⟩
  have hold : ∀ x ∈ Ls, ∀ k, x.fv.ownBlock = some k → k < w0.heap.size := fun x hx k hk => ((hall0 x hx).1.lt k hk).2
  obtain ⟨pl, cl, hlv⟩ := hown.form
  subst hlv
  rw [hlen2] at hbx hown
  obtain ⟨pt, ct, htv⟩ := ht.form
  have hbw0 : base ≤ w0.heap.size := by have := at_lt hbx0; omega
  have hbw : base ≤ w.heap.size := by have := at_lt hbx; omega
  have HT := Lib.hid ht
  have HBX := Lib.hid hbx
  have HOWN := Lib.hid hown
  have HALL := Lib.hid hall
  have HOLD := Lib.hid hold
  have HAP := Lib.hid hap
  have HMAP := Lib.hid hmap
  have HTV := Lib.hid htv
  have HBW0 := Lib.hid hbw0
  clear hbx0 hmap hown0 hall0 hap hbx hown ht hb htv hall hold hbw0
  go_enter Try.func98, Try.ntmps98
  go_upto_region 1 with fail
  refine abs_wp fun W hW => ?_
  obtain ⟨B, hB⟩ : ∃ B, B = w.heap.size := ⟨_, rfl⟩
  have hs : W.heap[B]? = some (.cells #[.slice none 0 0, .bool set, tv] 165) := by rw [hW, hB]; exact heap_alloc_new _ _
  have hbe : Below w.heap.size w W := by rw [hW]; exact below_alloc1 _ _
  rw [← hB]
  have HBE := Lib.hid hbe
  have HS := Lib.hid hs
  have HM := Lib.hid ((hbe.block m (at_lt HBX.out)).trans HBX.out)
  have HMB := Lib.hid (show w.heap.size ≤ B by rw [hB]; exact Nat.le_refl _)
  clear hW hs hbe hB
  refine wp_region_fin 10 (fun W => W.heap[m]? = some (.cells #[.slice pl L.length cl, .int .i64 first, .int .i64 last] 135) ∧ W.heap[B]? = some (.cells #[.slice none 0 0, .bool set, tv] 165)) (.reads [0, 1, 2, 3, 4, 5] (.one 6 (.one 7 (.one 8 (.one 9 (.last 10)))))) 21 (by kernel_rfl) (by kernel_rfl) rfl (fun _ _ _ _ _ h => h) ⟨HM.out, HS.out⟩ ?_
  apply plan_reads
  · intro W' hW'
    obtain ⟨s0, s1, s2⟩ := cells3 hW'.2
    obtain ⟨m0, -, -⟩ := cells3 hW'.1
    repeat (refine wpRead_step (fun K hK => ?_); go_simp; refine hK _ ?_; clear hK K)
    exact wpRead_nil rfl
  refine abs_plan fun W0 hW0 => ?_
  have HS0 := Lib.hid (show W0.heap[B]? = some (.cells #[.slice none 0 0, .bool set, tv] 165) by rw [hW0]; exact HS.out)
  have HM0 := Lib.hid (show W0.heap[m]? = some (.cells #[.slice pl L.length cl, .int .i64 first, .int .i64 last] 135) by rw [hW0]; exact HM.out)
  have HB0 := Lib.hid (show Below w.heap.size w W0 by rw [hW0]; exact HBE.out.drew)
  clear hW0
  refine plan_one rfl ?_
  have ha := below_alloc1 W0 (.cells #[.slice none 0 0, .bool set, tv] 165)
  have HN0 := Lib.hid (ReadL.one (E := laidE) W0 165 _ _ (laidE.cells (base := base) (x := ⟨⟨[], set, takes⟩, .slice none 0 0, tv⟩) (OwnL.nil w) (OwnL.based HT.out HBW0.out)) rfl)
  go_wp2_with fail
  refine Then.mk ⟨(ha.block m (at_lt HM0.out)).trans HM0.out, (ha.block B (at_lt HS0.out)).trans HS0.out⟩ ?_
  refine abs_plan fun W1 hW1 => ?_
  have HA1 := Lib.hid (show Below W0.heap.size W0 W1 by rw [hW1]; exact ha)
  have HS1 := Lib.hid ((HA1.out.block B (at_lt HS0.out)).trans HS0.out)
  have HM1 := Lib.hid ((HA1.out.block m (at_lt HM0.out)).trans HM0.out)
  have HB1 := Lib.hid (HB0.out.trans (HA1.out.mono HB0.out.size))
  have HNEW := Lib.hid (show ReadL laidE 3 W1 (.slice (some ⟨W0.heap.size, 0, none⟩) 1 1) [⟨⟨[], set, takes⟩, .slice none 0 0, tv⟩] by rw [hW1]; exact HN0.out)
  clear hW1 ha HN0
  refine plan_one rfl ?_
  refine wpList_append_states rfl (.tmp 9) (.tmp 11) rfl (.slice pl L.length cl) Ls rfl (HOWN.out.below HB1.out (Nat.le_refl _)) _ [⟨⟨[], set, takes⟩, .slice none 0 0, tv⟩] rfl HNEW.out (by simp; omega) (Nat.le_trans hbw HB1.out.size) ?_
  intro p1 c1 w4 hown4 hg4 hlie4
  rw [List.length_singleton, hlen2] at hown4 hlie4 ⊢
  have hne4 := HOWN.out.notAt HBX.out (by decide)
  have HFR4 := Lib.hid (show Fr (fun k => (Value.slice pl L.length cl).ownBlock = some k) W1 w4 from Fr.grown (F := fun k => (Value.slice pl L.length cl).ownBlock = some k) hg4 (fun k h => h))
  have HM4 := Lib.hid ((HFR4.out.block m (at_lt HM1.out) hne4).trans HM1.out)
  have HS4 := Lib.hid ((HFR4.out.block B (at_lt HS1.out) (fun hk => Nat.lt_irrefl _ (Nat.lt_of_lt_of_le (HOWN.out.lt B hk).2 HMB.out))).trans HS1.out)
  have HOW4 := Lib.hid hown4
  have HLIE4 := Lib.hid hlie4
  clear hown4 hg4 hlie4 hne4
  go_wp2_with fail
  refine Then.mk ⟨HM4.out, HS4.out⟩ ?_
  refine plan_one rfl ?_
  go_wp2_with fail
  refine Then.mk ⟨HM4.out, HS4.out⟩ ?_
  refine plan_one rfl ?_
  go_wp2_with fail
  refine Then.mk ⟨HM4.out, HS4.out⟩ ?_
  refine plan_last rfl ?_
  refine wpList_store_row rfl (.tmp 14) (.tmp 12) 133 rfl m 0 rfl (.slice p1 (L.length + 1) c1) rfl _ _ (by kernel_rfl) HM4.out (by simp [Value.cells]) (by simp [Value.cells, Value.oneCell']) ?_
  refine abs_list fun W5 hW5 => ?_
  have HFR5 := Lib.hid (show Fr (fun k => k = m) w4 W5 by rw [hW5]; exact Fr.setRow (F := fun k => k = m) _ rfl _)
  have HM5 := Lib.hid (show W5.heap[m]? = some (.cells #[.slice p1 (L.length + 1) c1, .int .i64 first, .int .i64 last] 135) by rw [hW5, setRow_heap _ m _ _ _ (0, 0) HM4.out]; rfl)
  clear hW5
  have x0 := (cells3 HM5.out).1
  have hL1 : ((L.length : Nat) : Int) + 1 - 1 = L.length := by omega
  go_wp2_with fail
  go_ret
  -- an old list of numbers stays
  have stay : ∀ {v : Value} {xs : List Int}, OwnL intE 3 1 base w v xs → OwnL intE 3 1 base W5 v xs := fun {v xs} h => by
    have h1 := h.below HB1.out (Nat.le_refl _)
    have h4 := h1.fr HFR4.out (fun k hk he => (h.apart HOWN.out (by decide)) k hk he)
    exact h4.fr HFR5.out (fun k hk he => h4.notAt HM4.out (by decide) (by rw [hk]; exact congrArg some he))
  refine ⟨rfl, ⟨_, Ls ++ [⟨⟨[], set, takes⟩, .slice none 0 0, tv⟩], hbm, HM5.out, by rw [List.map_append, HMAP.out]; rfl, ?_, ?_, ?_⟩, ?_, ?_⟩
  · exact HOW4.out.fr HFR5.out (fun k hk he => HOW4.out.notAt HM4.out (by decide) (by rw [hk]; exact congrArg some he))
  · intro x hx
    rcases List.mem_append.1 hx with hx | hx
    · exact ⟨stay (HALL.out x hx).1, stay (HALL.out x hx).2⟩
    · rw [List.mem_singleton.1 hx]
      exact ⟨OwnL.nil _, stay (HT.out.based HBW0.out)⟩
  · obtain ⟨a1, a2⟩ := HAP.out
    refine ⟨fun i j hi hj hij k hk hk2 => ?_, fun x hx y hy k hk hk2 => ?_⟩
    · rw [List.length_append, List.length_singleton] at hi hj
      by_cases hil : i < Ls.length
      · rw [List.getElem_append_left hil] at hk
        by_cases hjl : j < Ls.length
        · rw [List.getElem_append_left hjl] at hk2
          exact a1 i j hil hjl hij k hk hk2
        · rw [List.getElem_append_right (by omega)] at hk2
          simp only [List.getElem_singleton] at hk2
          cases hk2
      · rw [List.getElem_append_right (by omega)] at hk
        simp only [List.getElem_singleton] at hk
        cases hk
    · rcases List.mem_append.1 hx with hx | hx
      · rcases List.mem_append.1 hy with hy | hy
        · exact a2 x hx y hy k hk hk2
        · rw [List.mem_singleton.1 hy] at hk2
          have := (HT.out.lt k hk2).1
          have := HOLD.out x hx k hk
          omega
      · rw [List.mem_singleton.1 hx] at hk
        cases hk
  · have h1 : Below base w W1 := HB1.out.mono hbw
    have h4 : Below base W1 w4 := HFR4.out.below (Nat.le_trans hbw h1.size) (fun q hq => (HOWN.out.lt q hq).1)
    exact (h1.trans h4).trans (HFR5.out.below (Nat.le_trans hbw (Nat.le_trans h1.size h4.size)) (fun q hq => by have h : q = m := hq; omega))
  · exact ((KeepN.of_below HB1.out).trans (KeepN.of_own (HOWN.out.below HB1.out (Nat.le_refl _)) (by decide) HFR4.out rfl)).trans (KeepN.of_at HM4.out (by decide) HFR5.out)
end Go.Proofs.Ythmaokjhncokdaa

/-
  lay: an expression is laid down: a set, and nothing. No condition beyond what each theorem names.
-/
set_option linter.unusedVariables false
set_option linter.unusedSimpArgs false
namespace Go.Proofs.Ythmaokjhncokdaa
open Go.RowKit

def LayPost (base : Nat) (w : World) (m : Nat) (x : Nd) (L : List Sta) (first last : Int) (e : Ending) (w' : World) : Prop :=
  e = .returned (.tuple #[.int .i64 L.length, .int .i64 ((L.length : Int) + 1)]) ∧ Mach base w' m (layF x L) first last ∧ Below base w w' ∧ KeepN w w'

def LayAt (x : Nd) : Prop := ∀ (base : Nat) (w : World) (m : Nat) (L : List Sta) (first last : Int) (a b c : Value), NodeF (fun k => k < base) w x a b c → Mach base w m L first last →
  L.length + 2 * cnt x ≤ 100000 → edges L + 6 * cnt x ≤ 100000 →
  Calls Try.prog 76 #[.pointer (some ⟨m, 0, none⟩), .agg #[a, b, c]] w (LayPost base w m x L first last)

theorem Mach.lt {base m : Nat} {w : World} {L : List Sta} {f l : Int} (h : Mach base w m L f l) : base ≤ m ∧ m < w.heap.size := by
  obtain ⟨lv, Ls, h1, h2, h3⟩ := h
  exact ⟨h1, at_lt h2⟩

set_option maxRecDepth 100000 in
set_option maxHeartbeats 4000000 in
theorem lay_set (cls : List Int) : LayAt (.mk 1 cls []) := by
  intro base w m L first last a b c hx hm hL hE
  rw [nodeF_iff] at hx
  obtain ⟨rfl, hcl, -, hcb, -, hps⟩ := hx
  obtain ⟨pc, capc, rfl, hcc, hxc⟩ := hcl.get
  obtain ⟨pp, capp, rfl, hcp, -⟩ := hps.get
  unfold R at hcb
  simp only [cnt, cntL] at hL
  have HCL := Lib.hid hcl
  have HM := Lib.hid hm
  have hbw : base ≤ w.heap.size := by have := hm.lt; omega
  clear hcl hps hxc hm hE
  go_enter Try.func76, Try.ntmps76
  go_upto_region 1 with fail
  refine abs_wp fun W hW => ?_
  obtain ⟨B, hB⟩ : ∃ B, B = w.heap.size := ⟨_, rfl⟩
  have hbox : W.heap[B]? = some (.cells #[.int .i64 1, .slice pc cls.length capc, .slice pp 0 capp] 52) := by rw [hW, hB]; exact heap_alloc_new _ _
  have hbe : Below w.heap.size w W := by rw [hW]; exact below_alloc1 _ _
  rw [← hB]
  have HBE := Lib.hid hbe
  have HBOX := Lib.hid hbox
  have HMW := Lib.hid (HM.out.below hbe)
  obtain ⟨x0, x1, x2⟩ := cells3 hbox
  clear hW hbox hbe hB
  go_wp2_with fail
  refine (clone_ints W _ cls.length (cls.map (Value.int .i64)) (by omega) (by simp) (fun u hu => by obtain ⟨x, -, rfl⟩ := List.mem_map.1 hu; rfl) (HCL.out.to HBE.out (Nat.le_refl _))).mono ?_
  rintro e w1 ⟨v1, rfl, hown, hb1⟩
  have hown' := ownL_ints hown
  obtain ⟨p1, c1, rfl⟩ := hown'.form
  have HOW := Lib.hid hown'
  have HB1 := Lib.hid hb1
  clear hown hown' hb1 x0 x1 x2
  go_wp2_with fail
  refine (add_any base W w1 m L first last true _ cls (by omega) HMW.out HB1.out HOW.out).mono ?_
  rintro e w2 ⟨rfl, hm2, hb2, hk2⟩
  have HM2 := Lib.hid hm2
  have HB2 := Lib.hid hb2
  have HK2 := Lib.hid hk2
  clear hm2 hb2 hk2
  go_wp2_with fail
  refine (add_any base w2 w2 m _ first last false _ [] (by simp; omega) HM2.out (Below.refl _ _) (OwnL.nil _)).mono ?_
  rintro e w3 ⟨rfl, hm3, hb3, hk3⟩
  have HM3 := Lib.hid hm3
  have HB3 := Lib.hid hb3
  have HK3 := Lib.hid hk3
  clear hm3 hb3 hk3
  go_wp2_with fail
  go_ret2
  refine ⟨?_, ?_, ?_, ?_⟩
  · rfl
  · rw [layF, if_pos rfl]; exact HM3.out
  · exact (((HBE.out.mono hbw).trans (HB1.out.mono (Nat.le_trans hbw HBE.out.size))).trans HB2.out).trans HB3.out
  · exact (((KeepN.of_below HBE.out).trans (KeepN.of_below HB1.out)).trans HK2.out).trans HK3.out

set_option maxRecDepth 100000 in
set_option maxHeartbeats 4000000 in
theorem lay_empty (cls : List Int) : LayAt (.mk 0 cls []) := by
  intro base w m L first last a b c hx hm hL hE
  rw [nodeF_iff] at hx
  obtain ⟨rfl, hcl, -, hcb, hpb, hps⟩ := hx
  obtain ⟨pc, capc, rfl, hcc, hxc⟩ := hcl.get
  obtain ⟨pp, capp, rfl, hcp, hxp⟩ := hps.get
  unfold R at hcb hpb
  simp only [cnt, cntL] at hL hE
  have HM := Lib.hid hm
  have HXP := Lib.hid hxp
  have hbw : base ≤ w.heap.size := by have := hm.lt; omega
  clear hcl hps hxc hm hxp
  go_enter Try.func76, Try.ntmps76
  go_upto_region 1 with fail
  refine abs_wp fun W hW => ?_
  obtain ⟨B, hB⟩ : ∃ B, B = w.heap.size := ⟨_, rfl⟩
  have hbox : W.heap[B]? = some (.cells #[.int .i64 0, .slice pc cls.length capc, .slice pp ([] : List Nd).length capp] 52) := by rw [hW, hB]; exact heap_alloc_new _ _
  have hbe : Below w.heap.size w W := by rw [hW]; exact below_alloc1 _ _
  rw [← hB]
  have HBE := Lib.hid hbe
  have HBOX := Lib.hid hbox
  have HMW := Lib.hid (HM.out.below hbe)
  obtain ⟨x0, x1, x2⟩ := cells3 hbox
  clear hW hbox hbe hB
  go_wp2_with fail
  refine (add_any base W W m L first last false _ [] (by omega) HMW.out (Below.refl _ _) (OwnL.nil _)).mono ?_
  rintro e w1 ⟨rfl, hm1, hb1, hk1⟩
  have HM1 := Lib.hid hm1
  have HB1 := Lib.hid hb1
  have HK1 := Lib.hid hk1
  clear hm1 hb1 hk1 x0 x1 x2
  go_wp2_with fail
  refine (add_any base w1 w1 m _ first last false _ [] (by simp; omega) HM1.out (Below.refl _ _) (OwnL.nil _)).mono ?_
  rintro e w2 ⟨rfl, hm2, hb2, hk2⟩
  rw [show (((L ++ [(⟨[], false, []⟩ : Sta)]).length : Nat) : Int) = (L.length : Int) + 1 by simp]
  obtain ⟨L1, hL1⟩ : ∃ L1, L1 = (L ++ [z0]) ++ [z0] := ⟨_, rfl⟩
  have HMw2 := Lib.hid (show Mach base w2 m L1 first last by rw [hL1]; exact hm2)
  have HBw2 := Lib.hid (((HBE.out.mono hbw).trans HB1.out).trans hb2)
  have HKw2 := Lib.hid (((KeepN.of_below HBE.out).trans HK1.out).trans hk2)
  have hlen : L1.length = L.length + 2 := by rw [hL1]; simp
  have hed : edges L1 = edges L := by rw [hL1]; simp [edges_append]; rfl
  have HBOX2 := Lib.hid (hk2 _ _ (HK1.out _ _ HBOX.out))
  have HL1 := Lib.hid hL1
  have HEN := Lib.hid hlen
  have HED := Lib.hid hed
  obtain ⟨x0, x1, x2⟩ := cells3 HBOX2.out
  clear hm2 hb2 hk2 hL1 hlen hed HM1 HB1 HK1 HMW
  have hlen := HEN.out
  have hed := HED.out
  have ha := below_alloc1 w2 (.cells #[.int .i64 ((L.length : Int) + 1)] 3)
  have HTw3 := Lib.hid (show Ints (w2.alloc (.cells #[.int .i64 ((L.length : Int) + 1)] 3)) (.slice (some ⟨w2.heap.size, 0, none⟩) 1 1) [(L.length : Int) + 1] from Raw.of_block (cs := [.int .i64 ((L.length : Int) + 1)]) (heap_alloc_new _ _))
  have HAw3 := Lib.hid ha
  have HIw3 := Lib.hid (show L.length < (L1).length by omega)
  have HFw3 := Lib.hid (show ((L1)[L.length]'HIw3.out).free.length + [(L.length : Int) + 1].length ≤ 1000000 by have := free_le HIw3.out; simp only [List.length_cons, List.length_nil]; omega)
  have HNw3 := Lib.hid (show (L1).length ≤ 1000000 by omega)
  clear ha
  clear hlen hed
  go_wp2_with fail
  refine (join_any base _ m (L1) first last L.length _ [(L.length : Int) + 1] HIw3.out HNw3.out (HMw2.out.below HAw3.out) HTw3.out HFw3.out).mono ?_
  rintro e w3 ⟨rfl, hm', hb', hk'⟩
  have HMw3 := Lib.hid hm'
  have HBw3 := Lib.hid ((HBw2.out.trans (HAw3.out.mono (Nat.le_trans hbw HBw2.out.size))).trans hb')
  have HKw3 := Lib.hid ((HKw2.out.trans (KeepN.of_below HAw3.out)).trans hk')
  clear hm' hb' hk'
  go_wp2_with fail
  go_ret2
  refine ⟨rfl, ?_, HBw3.out, HKw3.out⟩
  rw [layF, if_neg (by omega), if_pos rfl, ← HL1.out]
  exact HMw3.out
end Go.Proofs.Ythmaokjhncokdaa

/-
  lay: one behind the other. No condition beyond what each theorem names.
-/
set_option linter.unusedVariables false
set_option linter.unusedSimpArgs false
namespace Go.Proofs.Ythmaokjhncokdaa
open Go.RowKit

set_option maxRecDepth 100000 in
set_option maxHeartbeats 4000000 in
theorem lay_seq (cls : List Int) (ps : List Nd) (hg : GoodL ps) (ih : ∀ x ∈ ps, LayAt x) : LayAt (.mk 2 cls ps) := by
  intro base w m L first last a b c hx hm hL hE
  rw [nodeF_iff] at hx
  obtain ⟨rfl, hcl, -, hcb, hpb, hps⟩ := hx
  obtain ⟨pc, capc, rfl, hcc, hxc⟩ := hcl.get
  obtain ⟨pp, capp, rfl, hcp, hxp⟩ := hps.get
  unfold R at hcb hpb
  simp only [cnt] at hL hE
  have HM := Lib.hid hm
  have HXP := Lib.hid hxp
  have hbw : base ≤ w.heap.size := by have := hm.lt; omega
  clear hcl hps hxc hm hxp
  go_enter Try.func76, Try.ntmps76
  go_upto_region 1 with fail
  refine abs_wp fun W hW => ?_
  obtain ⟨B, hB⟩ : ∃ B, B = w.heap.size := ⟨_, rfl⟩
  have hbox : W.heap[B]? = some (.cells #[.int .i64 2, .slice pc cls.length capc, .slice pp (ps : List Nd).length capp] 52) := by rw [hW, hB]; exact heap_alloc_new _ _
  have hbe : Below w.heap.size w W := by rw [hW]; exact below_alloc1 _ _
  rw [← hB]
  have HBE := Lib.hid hbe
  have HBOX := Lib.hid hbox
  have HMW := Lib.hid (HM.out.below hbe)
  obtain ⟨x0, x1, x2⟩ := cells3 hbox
  clear hW hbox hbe hB
  go_wp2_with fail
  refine (add_any base W W m L first last false _ [] (by omega) HMW.out (Below.refl _ _) (OwnL.nil _)).mono ?_
  rintro e w1 ⟨rfl, hm1, hb1, hk1⟩
  have HM1 := Lib.hid hm1
  have HB1 := Lib.hid hb1
  have HK1 := Lib.hid hk1
  clear hm1 hb1 hk1 x0 x1 x2
  go_wp2_with fail
  refine (add_any base w1 w1 m _ first last false _ [] (by simp; omega) HM1.out (Below.refl _ _) (OwnL.nil _)).mono ?_
  rintro e w2 ⟨rfl, hm2, hb2, hk2⟩
  rw [show (((L ++ [(⟨[], false, []⟩ : Sta)]).length : Nat) : Int) = (L.length : Int) + 1 by simp]
  obtain ⟨L1, hL1⟩ : ∃ L1, L1 = (L ++ [z0]) ++ [z0] := ⟨_, rfl⟩
  have HMw2 := Lib.hid (show Mach base w2 m L1 first last by rw [hL1]; exact hm2)
  have HBw2 := Lib.hid (((HBE.out.mono hbw).trans HB1.out).trans hb2)
  have HKw2 := Lib.hid (((KeepN.of_below HBE.out).trans HK1.out).trans hk2)
  have hlen : L1.length = L.length + 2 := by rw [hL1]; simp
  have hed : edges L1 = edges L := by rw [hL1]; simp [edges_append]; rfl
  have HBOX2 := Lib.hid (hk2 _ _ (HK1.out _ _ HBOX.out))
  have HL1 := Lib.hid hL1
  have HEN := Lib.hid hlen
  have HED := Lib.hid hed
  obtain ⟨x0, x1, x2⟩ := cells3 HBOX2.out
  clear hm2 hb2 hk2 hL1 hlen hed HM1 HB1 HK1 HMW
  have IH := Lib.hid ih
  have HG := Lib.hid hg
  have HZ := Lib.hid (show (at_ L1 L.length).free = [] by rw [HL1.out, at_two, if_neg (by omega), if_pos rfl]; rfl)
  clear ih hg
  go_wp2_with fail
  go_loopw [9, 54] (fun u i wr => ∃ k : Nat, i = .int .i64 k ∧ k ≤ ps.length ∧ u = .int .i64 (seqF (ps.take k) L1 L.length).2 ∧ Mach base wr m (seqF (ps.take k) L1 L.length).1 first last ∧ Below base w wr ∧ KeepN w wr) (fun _ i _ => ps.length - (intOf i).toNat)
  case atStart => exact ⟨0, rfl, by omega, by simp [seqF], by simp only [List.take_zero, seqF]; exact HMw2.out, HBw2.out, HKw2.out⟩
  case round =>
    obtain ⟨k, rfl, h1, rfl, hmk, hbk, hkk⟩ := hrel
    have hok := seq_ok (ps.take k) (GoodL_take HG.out k) L1 L.length (by rw [HEN.out]; omega) HZ.out
    have hed := edges_seq (ps.take k) L1 L.length
    have hcl := cntL_take_le ps k
    obtain ⟨R, hR⟩ : ∃ R, R = seqF (ps.take k) L1 L.length := ⟨_, rfl⟩
    rw [← hR] at hmk hok hed ⊢
    have hlen := hok.length
    have hlt := hok.lt
    rw [HEN.out] at hlen
    rw [HED.out] at hed
    have HR := Lib.hid hR
    have HMr := Lib.hid hmk
    have HBr := Lib.hid hbk
    have HKr := Lib.hid hkk
    have HLE := Lib.hid hlen
    have HLT := Lib.hid hlt
    have HEE := Lib.hid hed
    have HCL := Lib.hid hcl
    clear hR hmk hbk hkk hok hlen hlt hed hcl
    by_cases hk : k < ps.length
    · obtain ⟨bb, off, rfl, hbl, hbF, hxx⟩ := HXP.out (by omega)
      obtain ⟨x, y, z, c0, c1, c2, hnode⟩ := hxx k hk
      have r0 := cell_below HBr.out hbF c0
      have r1 := cell_below HBr.out hbF c1
      have r2 := cell_below HBr.out hbF c2
      obtain ⟨o0, p0, l0, d0, q0, m0, e0, rfl, rfl, rfl⟩ := (hnode.is).form
      have hbwr : base ≤ wr.heap.size := Nat.le_trans hbw HBr.out.size
      have HD := Lib.hid (show ∀ W', Below wr.heap.size wr W' → Calls Try.prog 76 #[.pointer (some ⟨m, 0, none⟩), .agg #[.int .i64 o0, .slice p0 l0 d0, .slice q0 m0 e0]] W' (LayPost base W' m ps[k] R.1 first last) from fun W' hW' =>
        IH.out ps[k] (List.getElem_mem hk) base W' m R.1 first last _ _ _ (NodeF.fr (Fr.of_belowB (HBr.out.trans (hW'.mono hbwr))) (fun q hq => Nat.not_le_of_lt hq) _ hnode) (HMr.out.below hW')
          (by have := HLE.out; have := cntL_take hk; have := cntL_take_le ps (k + 1); omega) (by have := HEE.out; have := cntL_take hk; have := cntL_take_le ps (k + 1); omega))
      clear hxx c0 c1 c2 hnode
      have hkk : (k : Int) < ps.length := by omega
      have hk0 : (0 : Int) ≤ k := by omega
      go_wp2_with fail
      refine (HD.out _ (below_alloc1 _ _)).mono ?_
      rintro e w3 ⟨rfl, hm3, hb3, hk3⟩
      obtain ⟨L3, hL3⟩ : ∃ L3, L3 = layF ps[k] R.1 := ⟨_, rfl⟩
      rw [← hL3] at hm3
      have hlen3 : L3.length = R.1.length + 2 * cnt ps[k] := by rw [hL3]; exact (lay_ok _ (GoodL_mem HG.out _ (List.getElem_mem hk)) _).length
      have hed3 : edges L3 ≤ edges L + 6 * (cntL ps) := by
        have h1 := edges_lay ps[k] R.1
        rw [← hL3] at h1
        have := HEE.out; have := cntL_take hk; have := cntL_take_le ps (k + 1); omega
      have hlen4 : L3.length ≤ L.length + 2 + 2 * cntL ps := by have := HLE.out; have := cntL_take hk; have := cntL_take_le ps (k + 1); omega
      have hal := below_alloc1 wr (.cells #[.int .i64 o0, .slice p0 l0 d0, .slice q0 m0 e0] 52)
      have HMw3 := Lib.hid hm3
      have HBw3 := Lib.hid ((HBr.out.trans (hal.mono hbwr)).trans hb3)
      have HKw3 := Lib.hid ((HKr.out.trans (KeepN.of_below hal)).trans hk3)
      have HL3 := Lib.hid hL3
      have hltR := HLT.out
      have hRn : (0 : Int) ≤ R.2 := by omega
      have ha := below_alloc1 w3 (.cells #[.int .i64 ((R.1.length : Int))] 3)
      have HTw4 := Lib.hid (show Ints (w3.alloc (.cells #[.int .i64 ((R.1.length : Int))] 3)) (.slice (some ⟨w3.heap.size, 0, none⟩) 1 1) [(R.1.length : Int)] from Raw.of_block (cs := [.int .i64 ((R.1.length : Int))]) (heap_alloc_new _ _))
      have HAw4 := Lib.hid ha
      have HIw4 := Lib.hid (show R.2 < (L3).length by omega)
      have HFw4 := Lib.hid (show ((L3)[R.2]'HIw4.out).free.length + [(R.1.length : Int)].length ≤ 1000000 by have := free_le HIw4.out; simp only [List.length_cons, List.length_nil]; omega)
      have HNw4 := Lib.hid (show (L3).length ≤ 1000000 by omega)
      clear ha
      clear hm3 hb3 hk3 hL3 hlen3 hed3 hlen4 hal hltR r0 r1 r2
      go_wp2_with fail
      refine (join_any base _ m (L3) first last R.2 _ [(R.1.length : Int)] HIw4.out HNw4.out (HMw3.out.below HAw4.out) HTw4.out HFw4.out).mono ?_
      rintro e w4 ⟨rfl, hm', hb', hk'⟩
      have HMw4 := Lib.hid hm'
      have HBw4 := Lib.hid ((HBw3.out.trans (HAw4.out.mono (Nat.le_trans hbw HBw3.out.size))).trans hb')
      have HKw4 := Lib.hid ((HKw3.out.trans (KeepN.of_below HAw4.out)).trans hk')
      clear hm' hb' hk'
      go_wp2_with fail
      go_roundw
      case rel =>
        have hs : seqF (ps.take (k + 1)) L1 L.length = (joinF L3 R.2 [(R.1.length : Int)], R.1.length + 1) := by
          rw [List.take_succ_eq_append_getElem hk, seqF_snoc, ← HR.out, HL3.out]
        exact ⟨k + 1, by go_num, by omega, by rw [hs]; go_num, by rw [hs]; exact HMw4.out, HBw4.out, HKw4.out⟩
      case measure => simp [intOf]; omega
    · have hke : ps.take k = ps := List.take_of_length_le (by omega)
      have hkk : ¬ (k : Int) < ps.length := by omega
      have hltR := HLT.out
      have hlen4 : R.1.length ≤ L.length + 2 + 2 * cntL ps := by have := HLE.out; have := HCL.out; omega
      have hed3 : edges R.1 ≤ edges L + 6 * (cntL ps) := by have := HEE.out; have := HCL.out; omega
      have hRn : (0 : Int) ≤ R.2 := by omega
      have ha := below_alloc1 wr (.cells #[.int .i64 ((L.length : Int) + 1)] 3)
      have HTw4 := Lib.hid (show Ints (wr.alloc (.cells #[.int .i64 ((L.length : Int) + 1)] 3)) (.slice (some ⟨wr.heap.size, 0, none⟩) 1 1) [(L.length : Int) + 1] from Raw.of_block (cs := [.int .i64 ((L.length : Int) + 1)]) (heap_alloc_new _ _))
      have HAw4 := Lib.hid ha
      have HIw4 := Lib.hid (show R.2 < (R.1).length by omega)
      have HFw4 := Lib.hid (show ((R.1)[R.2]'HIw4.out).free.length + [(L.length : Int) + 1].length ≤ 1000000 by have := free_le HIw4.out; simp only [List.length_cons, List.length_nil]; omega)
      have HNw4 := Lib.hid (show (R.1).length ≤ 1000000 by omega)
      clear ha
      have HKE := Lib.hid hke
      clear hltR hlen4 hed3 hke
      go_wp2_with fail
      refine (join_any base _ m (R.1) first last R.2 _ [(L.length : Int) + 1] HIw4.out HNw4.out (HMr.out.below HAw4.out) HTw4.out HFw4.out).mono ?_
      rintro e w4 ⟨rfl, hm', hb', hk'⟩
      have HMw4 := Lib.hid hm'
      have HBw4 := Lib.hid ((HBr.out.trans (HAw4.out.mono (Nat.le_trans hbw HBr.out.size))).trans hb')
      have HKw4 := Lib.hid ((HKr.out.trans (KeepN.of_below HAw4.out)).trans hk')
      clear hm' hb' hk'
      go_wp2_with fail
      go_ret2
      refine ⟨rfl, ?_, HBw4.out, HKw4.out⟩
      have hs : layF (.mk 2 cls ps) L = joinF R.1 R.2 [(L.length : Int) + 1] := by
        rw [layF, if_neg (by omega), if_neg (by omega), if_pos rfl, ← HL1.out, HR.out, HKE.out]
      rw [hs]
      exact HMw4.out
end Go.Proofs.Ythmaokjhncokdaa

/-
  lay: one of them. No condition beyond what each theorem names.
-/
set_option linter.unusedVariables false
set_option linter.unusedSimpArgs false
namespace Go.Proofs.Ythmaokjhncokdaa
open Go.RowKit

set_option maxRecDepth 100000 in
set_option maxHeartbeats 4000000 in
theorem lay_alt (cls : List Int) (ps : List Nd) (hg : GoodL ps) (ih : ∀ x ∈ ps, LayAt x) : LayAt (.mk 3 cls ps) := by
  intro base w m L first last a b c hx hm hL hE
  rw [nodeF_iff] at hx
  obtain ⟨rfl, hcl, -, hcb, hpb, hps⟩ := hx
  obtain ⟨pc, capc, rfl, hcc, hxc⟩ := hcl.get
  obtain ⟨pp, capp, rfl, hcp, hxp⟩ := hps.get
  unfold R at hcb hpb
  simp only [cnt] at hL hE
  have HM := Lib.hid hm
  have HXP := Lib.hid hxp
  have hbw : base ≤ w.heap.size := by have := hm.lt; omega
  clear hcl hps hxc hm hxp
  go_enter Try.func76, Try.ntmps76
  go_upto_region 1 with fail
  refine abs_wp fun W hW => ?_
  obtain ⟨B, hB⟩ : ∃ B, B = w.heap.size := ⟨_, rfl⟩
  have hbox : W.heap[B]? = some (.cells #[.int .i64 3, .slice pc cls.length capc, .slice pp (ps : List Nd).length capp] 52) := by rw [hW, hB]; exact heap_alloc_new _ _
  have hbe : Below w.heap.size w W := by rw [hW]; exact below_alloc1 _ _
  rw [← hB]
  have HBE := Lib.hid hbe
  have HBOX := Lib.hid hbox
  have HMW := Lib.hid (HM.out.below hbe)
  obtain ⟨x0, x1, x2⟩ := cells3 hbox
  clear hW hbox hbe hB
  go_wp2_with fail
  refine (add_any base W W m L first last false _ [] (by omega) HMW.out (Below.refl _ _) (OwnL.nil _)).mono ?_
  rintro e w1 ⟨rfl, hm1, hb1, hk1⟩
  have HM1 := Lib.hid hm1
  have HB1 := Lib.hid hb1
  have HK1 := Lib.hid hk1
  clear hm1 hb1 hk1 x0 x1 x2
  go_wp2_with fail
  refine (add_any base w1 w1 m _ first last false _ [] (by simp; omega) HM1.out (Below.refl _ _) (OwnL.nil _)).mono ?_
  rintro e w2 ⟨rfl, hm2, hb2, hk2⟩
  rw [show (((L ++ [(⟨[], false, []⟩ : Sta)]).length : Nat) : Int) = (L.length : Int) + 1 by simp]
  obtain ⟨L1, hL1⟩ : ∃ L1, L1 = (L ++ [z0]) ++ [z0] := ⟨_, rfl⟩
  have HMw2 := Lib.hid (show Mach base w2 m L1 first last by rw [hL1]; exact hm2)
  have HBw2 := Lib.hid (((HBE.out.mono hbw).trans HB1.out).trans hb2)
  have HKw2 := Lib.hid (((KeepN.of_below HBE.out).trans HK1.out).trans hk2)
  have hlen : L1.length = L.length + 2 := by rw [hL1]; simp
  have hed : edges L1 = edges L := by rw [hL1]; simp [edges_append]; rfl
  have HBOX2 := Lib.hid (hk2 _ _ (HK1.out _ _ HBOX.out))
  have HL1 := Lib.hid hL1
  have HEN := Lib.hid hlen
  have HED := Lib.hid hed
  obtain ⟨x0, x1, x2⟩ := cells3 HBOX2.out
  clear hm2 hb2 hk2 hL1 hlen hed HM1 HB1 HK1 HMW
  have IH := Lib.hid ih
  have HG := Lib.hid hg
  clear ih hg
  go_wp2_with fail
  go_loopw [81] (fun i wr => ∃ k : Nat, i = .int .i64 k ∧ k ≤ ps.length ∧ Mach base wr m (altF (ps.take k) L1 L.length) first last ∧ Below base w wr ∧ KeepN w wr) (fun i _ => ps.length - (intOf i).toNat)
  case atStart => exact ⟨0, rfl, by omega, by simp only [List.take_zero, altF]; exact HMw2.out, HBw2.out, HKw2.out⟩
  case round =>
    obtain ⟨k, rfl, h1, hmk, hbk, hkk⟩ := hrel
    have hok := alt_ok (ps.take k) (GoodL_take HG.out k) L1 L.length (by rw [HEN.out]; omega)
    have hed := edges_alt (ps.take k) L1 L.length
    have hcl := cntL_take_le ps k
    obtain ⟨R, hR⟩ : ∃ R, R = altF (ps.take k) L1 L.length := ⟨_, rfl⟩
    rw [← hR] at hmk hok hed
    have hlen := hok.length
    rw [HEN.out] at hlen
    rw [HED.out] at hed
    have HR := Lib.hid hR
    have HMr := Lib.hid hmk
    have HBr := Lib.hid hbk
    have HKr := Lib.hid hkk
    have HLE := Lib.hid hlen
    have HEE := Lib.hid hed
    have HCL := Lib.hid hcl
    clear hR hmk hbk hkk hok hlen hed hcl
    by_cases hk : k < ps.length
    · obtain ⟨bb, off, rfl, hbl, hbF, hxx⟩ := HXP.out (by omega)
      obtain ⟨x, y, z, c0, c1, c2, hnode⟩ := hxx k hk
      have r0 := cell_below HBr.out hbF c0
      have r1 := cell_below HBr.out hbF c1
      have r2 := cell_below HBr.out hbF c2
      obtain ⟨o0, p0, l0, d0, q0, m0, e0, rfl, rfl, rfl⟩ := (hnode.is).form
      have hbwr : base ≤ wr.heap.size := Nat.le_trans hbw HBr.out.size
      have HD := Lib.hid (show ∀ W', Below wr.heap.size wr W' → Calls Try.prog 76 #[.pointer (some ⟨m, 0, none⟩), .agg #[.int .i64 o0, .slice p0 l0 d0, .slice q0 m0 e0]] W' (LayPost base W' m ps[k] R first last) from fun W' hW' =>
        IH.out ps[k] (List.getElem_mem hk) base W' m R first last _ _ _ (NodeF.fr (Fr.of_belowB (HBr.out.trans (hW'.mono hbwr))) (fun q hq => Nat.not_le_of_lt hq) _ hnode) (HMr.out.below hW')
          (by have := HLE.out; have := cntL_take hk; have := cntL_take_le ps (k + 1); omega) (by have := HEE.out; have := cntL_take hk; have := cntL_take_le ps (k + 1); omega))
      clear hxx c0 c1 c2 hnode
      have hkk : (k : Int) < ps.length := by omega
      have hk0 : (0 : Int) ≤ k := by omega
      go_wp2_with fail
      refine (HD.out _ (below_alloc1 _ _)).mono ?_
      rintro e w3 ⟨rfl, hm3, hb3, hk3⟩
      obtain ⟨L3, hL3⟩ : ∃ L3, L3 = layF ps[k] R := ⟨_, rfl⟩
      rw [← hL3] at hm3
      have hlen3 : L3.length = R.length + 2 * cnt ps[k] := by rw [hL3]; exact (lay_ok _ (GoodL_mem HG.out _ (List.getElem_mem hk)) _).length
      have hcp := cnt_pos ps[k]
      have hed3 : edges L3 + 2 ≤ edges L + 6 * (cntL ps) := by
        have h1 := edges_lay ps[k] R
        rw [← hL3] at h1
        have := HEE.out; have := cntL_take hk; have := cntL_take_le ps (k + 1); omega
      have hlen4 : L3.length ≤ L.length + 2 + 2 * cntL ps := by have := HLE.out; have := cntL_take hk; have := cntL_take_le ps (k + 1); omega
      have hlen5 := HLE.out
      have hal := below_alloc1 wr (.cells #[.int .i64 o0, .slice p0 l0 d0, .slice q0 m0 e0] 52)
      have HMw3 := Lib.hid hm3
      have HBw3 := Lib.hid ((HBr.out.trans (hal.mono hbwr)).trans hb3)
      have HKw3 := Lib.hid ((HKr.out.trans (KeepN.of_below hal)).trans hk3)
      have HL3 := Lib.hid hL3
      obtain ⟨L4, hL4⟩ : ∃ L4, L4 = joinF L3 L.length [(R.length : Int)] := ⟨_, rfl⟩
      have hlen6 : L4.length = L3.length := by rw [hL4, joinF_length]
      have hed4 : edges L4 ≤ edges L3 + 1 := by rw [hL4]; exact edges_join_le _ _ _
      have HL4 := Lib.hid hL4
      have HLE6 := Lib.hid (show R.length + 1 < L4.length by omega)
      have HLE7 := Lib.hid (show L4.length ≤ 1000000 by omega)
      have HLE8 := Lib.hid (show edges L4 ≤ 500000 by omega)
      have ha := below_alloc1 w3 (.cells #[.int .i64 ((R.length : Int))] 3)
      have HTw4 := Lib.hid (show Ints (w3.alloc (.cells #[.int .i64 ((R.length : Int))] 3)) (.slice (some ⟨w3.heap.size, 0, none⟩) 1 1) [(R.length : Int)] from Raw.of_block (cs := [.int .i64 ((R.length : Int))]) (heap_alloc_new _ _))
      have HAw4 := Lib.hid ha
      have HIw4 := Lib.hid (show L.length < (L3).length by omega)
      have HFw4 := Lib.hid (show ((L3)[L.length]'HIw4.out).free.length + [(R.length : Int)].length ≤ 1000000 by have := free_le HIw4.out; simp only [List.length_cons, List.length_nil]; omega)
      have HNw4 := Lib.hid (show (L3).length ≤ 1000000 by omega)
      clear ha
      clear hm3 hb3 hk3 hL3 hlen3 hed3 hlen4 hal r0 r1 r2 hL4 hlen5 hlen6 hed4
      go_wp2_with fail
      refine (join_any base _ m (L3) first last L.length _ [(R.length : Int)] HIw4.out HNw4.out (HMw3.out.below HAw4.out) HTw4.out HFw4.out).mono ?_
      rintro e w4 ⟨rfl, hm', hb', hk'⟩
      have HMw4 := Lib.hid hm'
      have HBw4 := Lib.hid ((HBw3.out.trans (HAw4.out.mono (Nat.le_trans hbw HBw3.out.size))).trans hb')
      have HKw4 := Lib.hid ((HKw3.out.trans (KeepN.of_below HAw4.out)).trans hk')
      clear hm' hb' hk'
      rw [← HL4.out] at HMw4
      have hx6 := HLE6.out
      have hx7 := HLE7.out
      have hx8 := HLE8.out
      have hc1 : ((R.length + 1 : Nat) : Int) = (R.length : Int) + 1 := by omega
      have ha := below_alloc1 w4 (.cells #[.int .i64 ((L.length : Int) + 1)] 3)
      have HTw5 := Lib.hid (show Ints (w4.alloc (.cells #[.int .i64 ((L.length : Int) + 1)] 3)) (.slice (some ⟨w4.heap.size, 0, none⟩) 1 1) [(L.length : Int) + 1] from Raw.of_block (cs := [.int .i64 ((L.length : Int) + 1)]) (heap_alloc_new _ _))
      have HAw5 := Lib.hid ha
      have HIw5 := Lib.hid (show (R.length + 1) < (L4).length by omega)
      have HFw5 := Lib.hid (show ((L4)[(R.length + 1)]'HIw5.out).free.length + [(L.length : Int) + 1].length ≤ 1000000 by have := free_le HIw5.out; simp only [List.length_cons, List.length_nil]; omega)
      have HNw5 := Lib.hid (show (L4).length ≤ 1000000 by omega)
      clear ha
      clear hx6 hx7 hx8
      go_wp2_with fail
      rw [← hc1]
      refine (join_any base _ m (L4) first last (R.length + 1) _ [(L.length : Int) + 1] HIw5.out HNw5.out (HMw4.out.below HAw5.out) HTw5.out HFw5.out).mono ?_
      rintro e w5 ⟨rfl, hm', hb', hk'⟩
      have HMw5 := Lib.hid hm'
      have HBw5 := Lib.hid ((HBw4.out.trans (HAw5.out.mono (Nat.le_trans hbw HBw4.out.size))).trans hb')
      have HKw5 := Lib.hid ((HKw4.out.trans (KeepN.of_below HAw5.out)).trans hk')
      clear hm' hb' hk'
      clear hc1
      go_wp2_with fail
      go_roundw
      case rel =>
        have hs : altF (ps.take (k + 1)) L1 L.length = joinF L4 (R.length + 1) [(L.length : Int) + 1] := by
          rw [List.take_succ_eq_append_getElem hk, altF_snoc, ← HR.out, ← HL3.out, ← HL4.out]
        exact ⟨k + 1, by go_num, by omega, by rw [hs]; exact HMw5.out, HBw5.out, HKw5.out⟩
      case measure => simp [intOf]; omega
    · have hke : ps.take k = ps := List.take_of_length_le (by omega)
      have hkk : ¬ (k : Int) < ps.length := by omega
      have HKE := Lib.hid hke
      clear hke
      go_wp2_with fail
      go_ret2
      refine ⟨rfl, ?_, HBr.out, HKr.out⟩
      have hs : layF (.mk 3 cls ps) L = R := by
        rw [layF, if_neg (by omega), if_neg (by omega), if_neg (by omega), if_pos rfl, ← HL1.out, HR.out, HKE.out]
      rw [hs]
      exact HMr.out
end Go.Proofs.Ythmaokjhncokdaa

/-
  lay: any number of it, or one or none; all. No condition beyond what each theorem names.
-/
set_option linter.unusedVariables false
set_option linter.unusedSimpArgs false
namespace Go.Proofs.Ythmaokjhncokdaa
open Go.RowKit

set_option maxRecDepth 100000 in
set_option maxHeartbeats 4000000 in
theorem lay_star (cls : List Int) (p : Nd) (hg : Good p) (ih : LayAt p) : LayAt (.mk 4 cls [p]) := by
  intro base w m L first last a b c hx hm hL hE
  rw [nodeF_iff] at hx
  obtain ⟨rfl, hcl, -, hcb, hpb, hps⟩ := hx
  obtain ⟨pc, capc, rfl, hcc, hxc⟩ := hcl.get
  obtain ⟨pp, capp, rfl, hcp, hxp⟩ := hps.get
  unfold R at hcb hpb
  simp only [cnt, cntL] at hL hE
  have HM := Lib.hid hm
  have HXP := Lib.hid hxp
  have hbw : base ≤ w.heap.size := by have := hm.lt; omega
  clear hcl hps hxc hm hxp
  go_enter Try.func76, Try.ntmps76
  go_upto_region 1 with fail
  refine abs_wp fun W hW => ?_
  obtain ⟨B, hB⟩ : ∃ B, B = w.heap.size := ⟨_, rfl⟩
  have hbox : W.heap[B]? = some (.cells #[.int .i64 4, .slice pc cls.length capc, .slice pp ([p] : List Nd).length capp] 52) := by rw [hW, hB]; exact heap_alloc_new _ _
  have hbe : Below w.heap.size w W := by rw [hW]; exact below_alloc1 _ _
  rw [← hB]
  have HBE := Lib.hid hbe
  have HBOX := Lib.hid hbox
  have HMW := Lib.hid (HM.out.below hbe)
  obtain ⟨x0, x1, x2⟩ := cells3 hbox
  clear hW hbox hbe hB
  go_wp2_with fail
  refine (add_any base W W m L first last false _ [] (by omega) HMW.out (Below.refl _ _) (OwnL.nil _)).mono ?_
  rintro e w1 ⟨rfl, hm1, hb1, hk1⟩
  have HM1 := Lib.hid hm1
  have HB1 := Lib.hid hb1
  have HK1 := Lib.hid hk1
  clear hm1 hb1 hk1 x0 x1 x2
  go_wp2_with fail
  refine (add_any base w1 w1 m _ first last false _ [] (by simp; omega) HM1.out (Below.refl _ _) (OwnL.nil _)).mono ?_
  rintro e w2 ⟨rfl, hm2, hb2, hk2⟩
  rw [show (((L ++ [(⟨[], false, []⟩ : Sta)]).length : Nat) : Int) = (L.length : Int) + 1 by simp]
  obtain ⟨L1, hL1⟩ : ∃ L1, L1 = (L ++ [z0]) ++ [z0] := ⟨_, rfl⟩
  have HMw2 := Lib.hid (show Mach base w2 m L1 first last by rw [hL1]; exact hm2)
  have HBw2 := Lib.hid (((HBE.out.mono hbw).trans HB1.out).trans hb2)
  have HKw2 := Lib.hid (((KeepN.of_below HBE.out).trans HK1.out).trans hk2)
  have hlen : L1.length = L.length + 2 := by rw [hL1]; simp
  have hed : edges L1 = edges L := by rw [hL1]; simp [edges_append]; rfl
  have HBOX2 := Lib.hid (hk2 _ _ (HK1.out _ _ HBOX.out))
  have HL1 := Lib.hid hL1
  have HEN := Lib.hid hlen
  have HED := Lib.hid hed
  obtain ⟨x0, x1, x2⟩ := cells3 HBOX2.out
  clear hm2 hb2 hk2 hL1 hlen hed HM1 HB1 HK1 HMW
  have IH := Lib.hid ih
  have HG := Lib.hid hg
  clear ih hg
  obtain ⟨bb, off, rfl, hbl, hbF, hxx⟩ := HXP.out (by simp)
  obtain ⟨x, y, z, c0, c1, c2, hnode⟩ := hxx 0 (by simp)
  simp only [Nat.zero_mul, Nat.add_zero] at c0 c1 c2
  have r0 := cell_below HBw2.out hbF c0
  have r1 := cell_below HBw2.out hbF c1
  have r2 := cell_below HBw2.out hbF c2
  obtain ⟨o0, p0, l0, d0, q0, m0, e0, rfl, rfl, rfl⟩ := (hnode.is).form
  have HD := Lib.hid (show Calls Try.prog 76 #[.pointer (some ⟨m, 0, none⟩), .agg #[.int .i64 o0, .slice p0 l0 d0, .slice q0 m0 e0]] w2 (LayPost base w2 m p L1 first last) from
    IH.out base w2 m L1 first last _ _ _ (NodeF.fr (Fr.of_belowB HBw2.out) (fun q hq => Nat.not_le_of_lt hq) _ hnode) HMw2.out (by have := HEN.out; omega) (by have := HED.out; omega))
  clear hxx c0 c1 c2 hnode
  go_wp2_with fail
  refine HD.out.mono ?_
  rintro e w3 ⟨rfl, hm3, hb3, hk3⟩
  obtain ⟨L3, hL3⟩ : ∃ L3, L3 = layF p L1 := ⟨_, rfl⟩
  rw [← hL3] at hm3
  have hlen3 : L3.length = L1.length + 2 * cnt p := by rw [hL3]; exact (lay_ok _ HG.out _).length
  have hcp := cnt_pos p
  have hed3 : edges L3 + 2 ≤ edges L1 + 6 * cnt p := by rw [hL3]; exact edges_lay p L1
  have hlenN := HEN.out
  have hedD := HED.out
  have HMw3 := Lib.hid hm3
  have HBw3 := Lib.hid (HBw2.out.trans hb3)
  have HKw3 := Lib.hid (HKw2.out.trans hk3)
  have HBOX3 := Lib.hid (hk3 _ _ HBOX2.out)
  have HL3 := Lib.hid hL3
  obtain ⟨L4, hL4⟩ : ∃ L4, L4 = joinF L3 L.length [(L1.length : Int), (L.length : Int) + 1] := ⟨_, rfl⟩
  have hlen4 : L4.length = L3.length := by rw [hL4, joinF_length]
  have hed4 : edges L4 ≤ edges L3 + 2 := by rw [hL4]; exact edges_join_le _ _ _
  obtain ⟨L5, hL5⟩ : ∃ L5, L5 = joinF L4 (L1.length + 1) [(L.length : Int) + 1] := ⟨_, rfl⟩
  have hlen5 : L5.length = L4.length := by rw [hL5, joinF_length]
  have hed5 : edges L5 ≤ edges L4 + 1 := by rw [hL5]; exact edges_join_le _ _ _
  have HL4 := Lib.hid hL4
  have HL5 := Lib.hid hL5
  have HX := Lib.hid (show L1.length + 1 < L4.length ∧ L4.length ≤ 1000000 ∧ edges L4 ≤ 500000 ∧ L5.length = L4.length ∧ edges L5 ≤ 500000 by omega)
  have ha := below_alloc1 w3 (.cells #[.int .i64 ((L1.length : Int)), .int .i64 ((L.length : Int) + 1)] 3)
  have HTw4 := Lib.hid (show Ints (w3.alloc (.cells #[.int .i64 ((L1.length : Int)), .int .i64 ((L.length : Int) + 1)] 3)) (.slice (some ⟨w3.heap.size, 0, none⟩) 2 2) [(L1.length : Int), (L.length : Int) + 1] from Raw.of_block (cs := [.int .i64 ((L1.length : Int)), .int .i64 ((L.length : Int) + 1)]) (heap_alloc_new _ _))
  have HAw4 := Lib.hid ha
  have HIw4 := Lib.hid (show L.length < (L3).length by omega)
  have HFw4 := Lib.hid (show ((L3)[L.length]'HIw4.out).free.length + [(L1.length : Int), (L.length : Int) + 1].length ≤ 1000000 by have := free_le HIw4.out; simp only [List.length_cons, List.length_nil]; omega)
  have HNw4 := Lib.hid (show (L3).length ≤ 1000000 by omega)
  clear ha
  clear hm3 hb3 hk3 hL3 hlen3 hed3 hL4 hL5 hlen4 hed4 hlen5 hed5 hlenN hedD r0 r1 r2 x0 x1 x2
  go_wp2_with fail
  refine (join_any base _ m (L3) first last L.length _ [(L1.length : Int), (L.length : Int) + 1] HIw4.out HNw4.out (HMw3.out.below HAw4.out) HTw4.out HFw4.out).mono ?_
  rintro e w4 ⟨rfl, hm', hb', hk'⟩
  have HBOX4 := Lib.hid (hk' _ _ ((HAw4.out.block _ (at_lt HBOX3.out)).trans HBOX3.out))
  have HMw4 := Lib.hid hm'
  have HBw4 := Lib.hid ((HBw3.out.trans (HAw4.out.mono (Nat.le_trans hbw HBw3.out.size))).trans hb')
  have HKw4 := Lib.hid ((HKw3.out.trans (KeepN.of_below HAw4.out)).trans hk')
  clear hm' hb' hk'
  rw [← HL4.out] at HMw4
  obtain ⟨hx1, hx2, hx3, hx4, hx5⟩ := HX.out
  have hc1 : ((L1.length + 1 : Nat) : Int) = (L1.length : Int) + 1 := by omega
  have ha := below_alloc1 w4 (.cells #[.int .i64 ((L.length : Int) + 1)] 3)
  have HTw5 := Lib.hid (show Ints (w4.alloc (.cells #[.int .i64 ((L.length : Int) + 1)] 3)) (.slice (some ⟨w4.heap.size, 0, none⟩) 1 1) [(L.length : Int) + 1] from Raw.of_block (cs := [.int .i64 ((L.length : Int) + 1)]) (heap_alloc_new _ _))
  have HAw5 := Lib.hid ha
  have HIw5 := Lib.hid (show (L1.length + 1) < (L4).length by omega)
  have HFw5 := Lib.hid (show ((L4)[(L1.length + 1)]'HIw5.out).free.length + [(L.length : Int) + 1].length ≤ 1000000 by have := free_le HIw5.out; simp only [List.length_cons, List.length_nil]; omega)
  have HNw5 := Lib.hid (show (L4).length ≤ 1000000 by omega)
  clear ha
  clear hx1 hx2 hx3 hx4 hx5
  go_wp2_with fail
  rw [← hc1]
  refine (join_any base _ m (L4) first last (L1.length + 1) _ [(L.length : Int) + 1] HIw5.out HNw5.out (HMw4.out.below HAw5.out) HTw5.out HFw5.out).mono ?_
  rintro e w5 ⟨rfl, hm', hb', hk'⟩
  have HBOX5 := Lib.hid (hk' _ _ ((HAw5.out.block _ (at_lt HBOX4.out)).trans HBOX4.out))
  have HMw5 := Lib.hid hm'
  have HBw5 := Lib.hid ((HBw4.out.trans (HAw5.out.mono (Nat.le_trans hbw HBw4.out.size))).trans hb')
  have HKw5 := Lib.hid ((HKw4.out.trans (KeepN.of_below HAw5.out)).trans hk')
  clear hm' hb' hk'
  clear hc1
  rw [← HL5.out] at HMw5
  have x0 := (cells3 HBOX5.out).1
  obtain ⟨hx1, hx2, hx3, hx4, hx5⟩ := HX.out
  have hc1 : ((L1.length + 1 : Nat) : Int) = (L1.length : Int) + 1 := by omega
  have ha := below_alloc1 w5 (.cells #[.int .i64 ((L1.length : Int))] 3)
  have HTw6 := Lib.hid (show Ints (w5.alloc (.cells #[.int .i64 ((L1.length : Int))] 3)) (.slice (some ⟨w5.heap.size, 0, none⟩) 1 1) [(L1.length : Int)] from Raw.of_block (cs := [.int .i64 ((L1.length : Int))]) (heap_alloc_new _ _))
  have HAw6 := Lib.hid ha
  have HIw6 := Lib.hid (show (L1.length + 1) < (L5).length by omega)
  have HFw6 := Lib.hid (show ((L5)[(L1.length + 1)]'HIw6.out).free.length + [(L1.length : Int)].length ≤ 1000000 by have := free_le HIw6.out; simp only [List.length_cons, List.length_nil]; omega)
  have HNw6 := Lib.hid (show (L5).length ≤ 1000000 by omega)
  clear ha
  clear hx1 hx2 hx3 hx4 hx5
  go_wp2_with fail
  rw [← hc1]
  refine (join_any base _ m (L5) first last (L1.length + 1) _ [(L1.length : Int)] HIw6.out HNw6.out (HMw5.out.below HAw6.out) HTw6.out HFw6.out).mono ?_
  rintro e w6 ⟨rfl, hm', hb', hk'⟩
  have HMw6 := Lib.hid hm'
  have HBw6 := Lib.hid ((HBw5.out.trans (HAw6.out.mono (Nat.le_trans hbw HBw5.out.size))).trans hb')
  have HKw6 := Lib.hid ((HKw5.out.trans (KeepN.of_below HAw6.out)).trans hk')
  clear hm' hb' hk'
  clear hc1
  go_wp2_with fail
  go_ret2
  refine ⟨rfl, ?_, HBw6.out, HKw6.out⟩
  have hs : layF (.mk 4 cls [p]) L = joinF L5 (L1.length + 1) [(L1.length : Int)] := by
    rw [layF, if_neg (by omega), if_neg (by omega), if_neg (by omega), if_neg (by omega), ← HL1.out, oneF, if_pos rfl, ← HL3.out, ← HL4.out, ← HL5.out]
  rw [hs]
  exact HMw6.out

set_option maxRecDepth 100000 in
set_option maxHeartbeats 4000000 in
theorem lay_opt (cls : List Int) (p : Nd) (hg : Good p) (ih : LayAt p) : LayAt (.mk 5 cls [p]) := by
  intro base w m L first last a b c hx hm hL hE
  rw [nodeF_iff] at hx
  obtain ⟨rfl, hcl, -, hcb, hpb, hps⟩ := hx
  obtain ⟨pc, capc, rfl, hcc, hxc⟩ := hcl.get
  obtain ⟨pp, capp, rfl, hcp, hxp⟩ := hps.get
  unfold R at hcb hpb
  simp only [cnt, cntL] at hL hE
  have HM := Lib.hid hm
  have HXP := Lib.hid hxp
  have hbw : base ≤ w.heap.size := by have := hm.lt; omega
  clear hcl hps hxc hm hxp
  go_enter Try.func76, Try.ntmps76
  go_upto_region 1 with fail
  refine abs_wp fun W hW => ?_
  obtain ⟨B, hB⟩ : ∃ B, B = w.heap.size := ⟨_, rfl⟩
  have hbox : W.heap[B]? = some (.cells #[.int .i64 5, .slice pc cls.length capc, .slice pp ([p] : List Nd).length capp] 52) := by rw [hW, hB]; exact heap_alloc_new _ _
  have hbe : Below w.heap.size w W := by rw [hW]; exact below_alloc1 _ _
  rw [← hB]
  have HBE := Lib.hid hbe
  have HBOX := Lib.hid hbox
  have HMW := Lib.hid (HM.out.below hbe)
  obtain ⟨x0, x1, x2⟩ := cells3 hbox
  clear hW hbox hbe hB
  go_wp2_with fail
  refine (add_any base W W m L first last false _ [] (by omega) HMW.out (Below.refl _ _) (OwnL.nil _)).mono ?_
  rintro e w1 ⟨rfl, hm1, hb1, hk1⟩
  have HM1 := Lib.hid hm1
  have HB1 := Lib.hid hb1
  have HK1 := Lib.hid hk1
  clear hm1 hb1 hk1 x0 x1 x2
  go_wp2_with fail
  refine (add_any base w1 w1 m _ first last false _ [] (by simp; omega) HM1.out (Below.refl _ _) (OwnL.nil _)).mono ?_
  rintro e w2 ⟨rfl, hm2, hb2, hk2⟩
  rw [show (((L ++ [(⟨[], false, []⟩ : Sta)]).length : Nat) : Int) = (L.length : Int) + 1 by simp]
  obtain ⟨L1, hL1⟩ : ∃ L1, L1 = (L ++ [z0]) ++ [z0] := ⟨_, rfl⟩
  have HMw2 := Lib.hid (show Mach base w2 m L1 first last by rw [hL1]; exact hm2)
  have HBw2 := Lib.hid (((HBE.out.mono hbw).trans HB1.out).trans hb2)
  have HKw2 := Lib.hid (((KeepN.of_below HBE.out).trans HK1.out).trans hk2)
  have hlen : L1.length = L.length + 2 := by rw [hL1]; simp
  have hed : edges L1 = edges L := by rw [hL1]; simp [edges_append]; rfl
  have HBOX2 := Lib.hid (hk2 _ _ (HK1.out _ _ HBOX.out))
  have HL1 := Lib.hid hL1
  have HEN := Lib.hid hlen
  have HED := Lib.hid hed
  obtain ⟨x0, x1, x2⟩ := cells3 HBOX2.out
  clear hm2 hb2 hk2 hL1 hlen hed HM1 HB1 HK1 HMW
  have IH := Lib.hid ih
  have HG := Lib.hid hg
  clear ih hg
  obtain ⟨bb, off, rfl, hbl, hbF, hxx⟩ := HXP.out (by simp)
  obtain ⟨x, y, z, c0, c1, c2, hnode⟩ := hxx 0 (by simp)
  simp only [Nat.zero_mul, Nat.add_zero] at c0 c1 c2
  have r0 := cell_below HBw2.out hbF c0
  have r1 := cell_below HBw2.out hbF c1
  have r2 := cell_below HBw2.out hbF c2
  obtain ⟨o0, p0, l0, d0, q0, m0, e0, rfl, rfl, rfl⟩ := (hnode.is).form
  have HD := Lib.hid (show Calls Try.prog 76 #[.pointer (some ⟨m, 0, none⟩), .agg #[.int .i64 o0, .slice p0 l0 d0, .slice q0 m0 e0]] w2 (LayPost base w2 m p L1 first last) from
    IH.out base w2 m L1 first last _ _ _ (NodeF.fr (Fr.of_belowB HBw2.out) (fun q hq => Nat.not_le_of_lt hq) _ hnode) HMw2.out (by have := HEN.out; omega) (by have := HED.out; omega))
  clear hxx c0 c1 c2 hnode
  go_wp2_with fail
  refine HD.out.mono ?_
  rintro e w3 ⟨rfl, hm3, hb3, hk3⟩
  obtain ⟨L3, hL3⟩ : ∃ L3, L3 = layF p L1 := ⟨_, rfl⟩
  rw [← hL3] at hm3
  have hlen3 : L3.length = L1.length + 2 * cnt p := by rw [hL3]; exact (lay_ok _ HG.out _).length
  have hcp := cnt_pos p
  have hed3 : edges L3 + 2 ≤ edges L1 + 6 * cnt p := by rw [hL3]; exact edges_lay p L1
  have hlenN := HEN.out
  have hedD := HED.out
  have HMw3 := Lib.hid hm3
  have HBw3 := Lib.hid (HBw2.out.trans hb3)
  have HKw3 := Lib.hid (HKw2.out.trans hk3)
  have HBOX3 := Lib.hid (hk3 _ _ HBOX2.out)
  have HL3 := Lib.hid hL3
  obtain ⟨L4, hL4⟩ : ∃ L4, L4 = joinF L3 L.length [(L1.length : Int), (L.length : Int) + 1] := ⟨_, rfl⟩
  have hlen4 : L4.length = L3.length := by rw [hL4, joinF_length]
  have hed4 : edges L4 ≤ edges L3 + 2 := by rw [hL4]; exact edges_join_le _ _ _
  obtain ⟨L5, hL5⟩ : ∃ L5, L5 = joinF L4 (L1.length + 1) [(L.length : Int) + 1] := ⟨_, rfl⟩
  have hlen5 : L5.length = L4.length := by rw [hL5, joinF_length]
  have hed5 : edges L5 ≤ edges L4 + 1 := by rw [hL5]; exact edges_join_le _ _ _
  have HL4 := Lib.hid hL4
  have HL5 := Lib.hid hL5
  have HX := Lib.hid (show L1.length + 1 < L4.length ∧ L4.length ≤ 1000000 ∧ edges L4 ≤ 500000 ∧ L5.length = L4.length ∧ edges L5 ≤ 500000 by omega)
  have ha := below_alloc1 w3 (.cells #[.int .i64 ((L1.length : Int)), .int .i64 ((L.length : Int) + 1)] 3)
  have HTw4 := Lib.hid (show Ints (w3.alloc (.cells #[.int .i64 ((L1.length : Int)), .int .i64 ((L.length : Int) + 1)] 3)) (.slice (some ⟨w3.heap.size, 0, none⟩) 2 2) [(L1.length : Int), (L.length : Int) + 1] from Raw.of_block (cs := [.int .i64 ((L1.length : Int)), .int .i64 ((L.length : Int) + 1)]) (heap_alloc_new _ _))
  have HAw4 := Lib.hid ha
  have HIw4 := Lib.hid (show L.length < (L3).length by omega)
  have HFw4 := Lib.hid (show ((L3)[L.length]'HIw4.out).free.length + [(L1.length : Int), (L.length : Int) + 1].length ≤ 1000000 by have := free_le HIw4.out; simp only [List.length_cons, List.length_nil]; omega)
  have HNw4 := Lib.hid (show (L3).length ≤ 1000000 by omega)
  clear ha
  clear hm3 hb3 hk3 hL3 hlen3 hed3 hL4 hL5 hlen4 hed4 hlen5 hed5 hlenN hedD r0 r1 r2 x0 x1 x2
  go_wp2_with fail
  refine (join_any base _ m (L3) first last L.length _ [(L1.length : Int), (L.length : Int) + 1] HIw4.out HNw4.out (HMw3.out.below HAw4.out) HTw4.out HFw4.out).mono ?_
  rintro e w4 ⟨rfl, hm', hb', hk'⟩
  have HBOX4 := Lib.hid (hk' _ _ ((HAw4.out.block _ (at_lt HBOX3.out)).trans HBOX3.out))
  have HMw4 := Lib.hid hm'
  have HBw4 := Lib.hid ((HBw3.out.trans (HAw4.out.mono (Nat.le_trans hbw HBw3.out.size))).trans hb')
  have HKw4 := Lib.hid ((HKw3.out.trans (KeepN.of_below HAw4.out)).trans hk')
  clear hm' hb' hk'
  rw [← HL4.out] at HMw4
  obtain ⟨hx1, hx2, hx3, hx4, hx5⟩ := HX.out
  have hc1 : ((L1.length + 1 : Nat) : Int) = (L1.length : Int) + 1 := by omega
  have ha := below_alloc1 w4 (.cells #[.int .i64 ((L.length : Int) + 1)] 3)
  have HTw5 := Lib.hid (show Ints (w4.alloc (.cells #[.int .i64 ((L.length : Int) + 1)] 3)) (.slice (some ⟨w4.heap.size, 0, none⟩) 1 1) [(L.length : Int) + 1] from Raw.of_block (cs := [.int .i64 ((L.length : Int) + 1)]) (heap_alloc_new _ _))
  have HAw5 := Lib.hid ha
  have HIw5 := Lib.hid (show (L1.length + 1) < (L4).length by omega)
  have HFw5 := Lib.hid (show ((L4)[(L1.length + 1)]'HIw5.out).free.length + [(L.length : Int) + 1].length ≤ 1000000 by have := free_le HIw5.out; simp only [List.length_cons, List.length_nil]; omega)
  have HNw5 := Lib.hid (show (L4).length ≤ 1000000 by omega)
  clear ha
  clear hx1 hx2 hx3 hx4 hx5
  go_wp2_with fail
  rw [← hc1]
  refine (join_any base _ m (L4) first last (L1.length + 1) _ [(L.length : Int) + 1] HIw5.out HNw5.out (HMw4.out.below HAw5.out) HTw5.out HFw5.out).mono ?_
  rintro e w5 ⟨rfl, hm', hb', hk'⟩
  have HBOX5 := Lib.hid (hk' _ _ ((HAw5.out.block _ (at_lt HBOX4.out)).trans HBOX4.out))
  have HMw5 := Lib.hid hm'
  have HBw5 := Lib.hid ((HBw4.out.trans (HAw5.out.mono (Nat.le_trans hbw HBw4.out.size))).trans hb')
  have HKw5 := Lib.hid ((HKw4.out.trans (KeepN.of_below HAw5.out)).trans hk')
  clear hm' hb' hk'
  clear hc1
  rw [← HL5.out] at HMw5
  have x0 := (cells3 HBOX5.out).1
  go_wp2_with fail
  go_ret2
  refine ⟨rfl, ?_, HBw5.out, HKw5.out⟩
  have hs : layF (.mk 5 cls [p]) L = L5 := by
    rw [layF, if_neg (by omega), if_neg (by omega), if_neg (by omega), if_neg (by omega), ← HL1.out, oneF, if_neg (by omega), ← HL3.out, ← HL4.out, ← HL5.out]
  rw [hs]
  exact HMw5.out

theorem lay_any : ∀ (x : Nd), Good x → LayAt x
  | .mk op cls ps, hg => by
    unfold Good at hg
    obtain ⟨hop, hnil, hone, hps⟩ := hg
    have ih : ∀ x ∈ ps, LayAt x := fun x hx => lay_any x (GoodL_mem hps x hx)
    rcases hop with rfl | rfl | rfl | rfl | rfl | rfl
    · rw [hnil (.inl rfl)]; exact lay_empty cls
    · rw [hnil (.inr rfl)]; exact lay_set cls
    · exact lay_seq cls ps hps ih
    · exact lay_alt cls ps hps ih
    · match ps, hone (.inl rfl), hps, ih with
      | [p], _, hps, ih => exact lay_star cls p (GoodL_mem hps p (by simp)) (ih p (by simp))
    · match ps, hone (.inr rfl), hps, ih with
      | [p], _, hps, ih => exact lay_opt cls p (GoodL_mem hps p (by simp)) (ih p (by simp))
  termination_by x => SizeOf.sizeOf x
  decreasing_by
    have := List.sizeOf_lt_of_mem hx
    simp; omega
end Go.Proofs.Ythmaokjhncokdaa

/-
  The paths through a laid expression are its rows. Plain theorems; no program.
-/
set_option linter.unusedVariables false
set_option linter.unusedSimpArgs false
namespace Go.Proofs.Ythmaokjhncokdaa

/-- there is a path -/
def Re (S : List Sta) (t : List Int) (i p j q : Nat) : Prop := ∃ l, Path S t l i p j q

theorem Re.refl {S : List Sta} {t : List Int} (i p : Nat) : Re S t i p i p := ⟨0, .nil i p⟩
theorem Re.trans {S : List Sta} {t : List Int} {i p j q k r : Nat} (h : Re S t i p j q) (g : Re S t j q k r) : Re S t i p k r := by
  obtain ⟨l, h⟩ := h
  obtain ⟨m, g⟩ := g
  exact h.trans g
theorem Re.one {S : List Sta} {t : List Int} {i p j q : Nat} (h : Edge S t i p j q) : Re S t i p j q := ⟨1, .cons h (.nil _ _)⟩
theorem Re.free {S : List Sta} {t : List Int} {i p j : Nat} (h : Free S i j) : Re S t i p j p := Re.one (.inl ⟨h, rfl⟩)

theorem edge_plain {S : List Sta} {t : List Int} {i p j q : Nat} (hp : plain (at_ S i)) (h : Edge S t i p j q) : q = p ∧ (j : Int) ∈ (at_ S i).free := by
  rcases h with ⟨h, rfl⟩ | ⟨-, -, c, -, h⟩
  · exact ⟨rfl, h⟩
  · rw [hp.2] at h; simp at h

theorem Lays_end {S : List Sta} {x : Nd} {n : Nat} (h : Lays S x n) : plain (at_ S (n + 1)) := by
  obtain ⟨op, cls, ps⟩ := x
  unfold Lays at h
  exact h.1

mutual
theorem reach_M {S : List Sta} {t : List Int} : ∀ (x : Nd) (n : Nat), Good x → Lays S x n → ∀ p q, M t x p q → Re S t n p (n + 1) q
  | .mk op cls ps, n, hg, hl, p, q, hm => by
    unfold Good at hg
    obtain ⟨hop, -, hone, hps⟩ := hg
    unfold Lays at hl
    obtain ⟨-, hl⟩ := hl
    by_cases h1 : op = 1
    · subst h1
      rw [if_pos rfl] at hl
      rw [M_1] at hm
      obtain ⟨rfl, c, h2, h3⟩ := hm
      exact Re.one (.inr ⟨rfl, rfl, c, h2, by rw [hl]; exact h3⟩)
    rw [if_neg h1] at hl
    obtain ⟨hpl, hl⟩ := hl
    by_cases h0 : op = 0
    · subst h0
      rw [if_pos rfl] at hl
      rw [M_0] at hm
      subst hm
      exact Re.free (by unfold Free; rw [hl]; simp)
    rw [if_neg h0] at hl
    by_cases h2 : op = 2
    · subst h2
      rw [if_pos rfl] at hl
      rw [M_2] at hm
      exact reach_seq ps n (n + 2) (n + 1) hps hl p q hm
    rw [if_neg h2] at hl
    by_cases h3 : op = 3
    · subst h3
      rw [if_pos rfl] at hl
      rw [M_3] at hm
      exact reach_alt ps (n + 2) (n + 1) n hps hl.2 (by rw [hl.1]; exact fun _ h => h) p q hm
    rw [if_neg h3] at hl
    have h45 : op = 4 ∨ op = 5 := by omega
    match ps, hone h45, hps, hl with
    | [x], _, hps, hl =>
      unfold OneL at hl
      unfold GoodL at hps
      obtain ⟨f1, f2, hx⟩ := hl
      have ih : ∀ p q, M t x p q → Re S t (n + 2) p (n + 3) q := fun p q h => reach_M x (n + 2) hps.1 hx p q h
      have e1 : ∀ p, Re S t n p (n + 2) p := fun p => Re.free (by unfold Free; rw [f1]; simp)
      have e2 : ∀ p, Re S t n p (n + 1) p := fun p => Re.free (by unfold Free; rw [f1]; simp)
      have e3 : ∀ p, Re S t (n + 3) p (n + 1) p := fun p => Re.free (by unfold Free; rw [f2]; split <;> simp)
      rcases h45 with rfl | rfl
      · rw [M_4] at hm
        have e4 : ∀ p, Re S t (n + 3) p (n + 2) p := fun p => Re.free (by unfold Free; rw [f2]; simp)
        have key : ∀ {p q}, Star (Malt t [x]) p q → p = q ∨ Re S t (n + 2) p (n + 3) q := by
          intro p q h
          induction h with
          | refl => exact .inl rfl
          | step _ h2 ih2 =>
            rw [Malt_one] at h2
            rcases ih2 with rfl | h3
            · exact .inr (ih _ _ h2)
            · exact .inr (h3.trans ((e4 _).trans (ih _ _ h2)))
        rcases key hm.2 with rfl | h
        · exact e2 _
        · exact (e1 _).trans (h.trans (e3 _))
      · rw [M_5, Malt_one] at hm
        rcases hm.2 with rfl | h
        · exact e2 _
        · exact (e1 _).trans ((ih _ _ h).trans (e3 _))
theorem reach_seq {S : List Sta} {t : List Int} : ∀ (ps : List Nd) (a s e : Nat), GoodL ps → SeqL S ps a s e → ∀ p q, Mseq t ps p q → Re S t a p e q
  | [], a, s, e, _, hl, p, q, hm => by
    unfold SeqL at hl
    simp only [Mseq] at hm
    subst hm
    exact Re.free (by unfold Free; rw [hl]; simp)
  | x :: r, a, s, e, hg, hl, p, q, hm => by
    unfold GoodL at hg
    unfold SeqL at hl
    simp only [Mseq] at hm
    obtain ⟨c, h1, h2⟩ := hm
    have h3 : Re S t a p s p := Re.free (by unfold Free; rw [hl.1]; simp)
    exact h3.trans ((reach_M x s hg.1 hl.2.1 p c h1).trans (reach_seq r (s + 1) _ e hg.2 hl.2.2 c q h2))
theorem reach_alt {S : List Sta} {t : List Int} : ∀ (ps : List Nd) (s e n : Nat), GoodL ps → AltL S ps s e → (∀ v ∈ entries ps s, v ∈ (at_ S n).free) → ∀ p q, Malt t ps p q → Re S t n p e q
  | [], s, e, n, _, hl, _, p, q, hm => by simp only [Malt] at hm
  | x :: r, s, e, n, hg, hl, hf, p, q, hm => by
    unfold GoodL at hg
    unfold AltL at hl
    simp only [entries] at hf
    simp only [Malt] at hm
    rcases hm with h | h
    · have h3 : Re S t n p s p := Re.free (hf _ (by simp))
      have h4 : Re S t (s + 1) q e q := Re.free (by unfold Free; rw [hl.1]; simp)
      exact h3.trans ((reach_M x s hg.1 hl.2.1 p q h).trans h4)
    · exact reach_alt r _ e n hg.2 hl.2.2 (fun v hv => hf v (by simp [hv])) p q h
end

/-- within a laid expression, and not at its end -/
def Inside (x : Nd) (n j : Nat) : Prop := n ≤ j ∧ j < n + 2 * cnt x ∧ j ≠ n + 1

mutual
theorem leave {S : List Sta} {t : List Int} : ∀ (x : Nd) (n : Nat), Good x → Lays S x n → ∀ (l p j q : Nat), Path S t l n p j q → Inside x n j ∨ ∃ r l', l' < l ∧ M t x p r ∧ Path S t l' (n + 1) r j q
  | .mk op cls ps, n, hg, hl, l, p, j, q, h => by
    have hc : 2 * cnt (.mk op cls ps) = 2 + 2 * cntL ps := by simp only [cnt]; omega
    unfold Inside
    rw [hc]
    unfold Good at hg
    obtain ⟨hop, -, hone, hps⟩ := hg
    unfold Lays at hl
    obtain ⟨-, hl⟩ := hl
    by_cases h1 : op = 1
    · subst h1
      rw [if_pos rfl] at hl
      cases h with
      | nil => exact .inl ⟨by omega, by omega, by omega⟩
      | @cons l10 _ _ j10 q10 _ _ h1 h2 =>
        rcases h1 with ⟨h1, -⟩ | ⟨rfl, rfl, c, h3, h4⟩
        · unfold Free at h1; rw [hl] at h1; simp at h1
        · rw [hl] at h4
          exact .inr ⟨_, _, Nat.lt_succ_self _, (M_1 _ _).2 ⟨rfl, c, h3, h4⟩, h2⟩
    rw [if_neg h1] at hl
    obtain ⟨hpl, hl⟩ := hl
    by_cases h0 : op = 0
    · subst h0
      rw [if_pos rfl] at hl
      cases h with
      | nil => exact .inl ⟨by omega, by omega, by omega⟩
      | @cons l20 _ _ j20 q20 _ _ h1 h2 =>
        obtain ⟨rfl, h3⟩ := edge_plain hpl h1
        rw [hl] at h3
        have e : (j20 : Int) = (n : Int) + 1 := by simpa using h3
        obtain rfl : j20 = n + 1 := by omega
        exact .inr ⟨_, _, Nat.lt_succ_self _, (M_0 _ _).2 rfl, h2⟩
    rw [if_neg h0] at hl
    by_cases h2 : op = 2
    · subst h2
      rw [if_pos rfl] at hl
      rcases leave_seq ps n (n + 2) (n + 1) hps hl hpl l p j q h with h | h | ⟨r, l', h1, h2, h3⟩
      · exact .inl ⟨by omega, by omega, by omega⟩
      · exact .inl ⟨by omega, by omega, by omega⟩
      · exact .inr ⟨r, l', h1, (M_2 _ _).2 h2, h3⟩
    rw [if_neg h2] at hl
    by_cases h3 : op = 3
    · subst h3
      rw [if_pos rfl] at hl
      cases h with
      | nil => exact .inl ⟨by omega, by omega, by omega⟩
      | @cons l30 _ _ j30 q30 _ _ h1 h2 =>
        obtain ⟨rfl, h3⟩ := edge_plain hpl h1
        rw [hl.1] at h3
        rcases leave_alt ps (n + 2) (n + 1) hps hl.2 _ h3 _ _ _ _ h2 with h | ⟨r, l', h1, h2, h3⟩
        · exact .inl ⟨by omega, by omega, by omega⟩
        · exact .inr ⟨r, l', by omega, (M_3 _ _).2 h2, h3⟩
    rw [if_neg h3] at hl
    have h45 : op = 4 ∨ op = 5 := by omega
    match ps, hone h45, hps, hl with
    | [x], _, hps, hl =>
      unfold OneL at hl
      unfold GoodL at hps
      obtain ⟨f1, f2, hx⟩ := hl
      have ih := leave (t := t) x (n + 2) hps.1 hx
      have hb := Lays_end hx
      simp only [cntL] at *
      rcases h45 with rfl | rfl
      · have key : ∀ (l p : Nat), Path S t l (n + 2) p j q → (n ≤ j ∧ j < n + (2 + 2 * (cnt x + 0)) ∧ j ≠ n + 1) ∨ ∃ r l', l' < l ∧ Star (Malt t [x]) p r ∧ Path S t l' (n + 1) r j q := by
          intro l
          induction l using Nat.strongRecOn with
          | ind l ihl =>
            intro p h
            rcases ih l p j q h with ⟨g1, g2, g3⟩ | ⟨r, l', g1, g2, g3⟩
            · exact .inl ⟨by omega, by omega, by omega⟩
            · cases g3 with
              | nil => exact .inl ⟨by omega, by have := cnt_pos x; omega, by omega⟩
              | @cons l40 _ _ j40 q40 _ _ k1 k2 =>
                obtain ⟨rfl, k3⟩ := edge_plain hb k1
                rw [show n + 2 + 1 = n + 3 by omega, f2, if_pos rfl] at k3
                have hs : Star (Malt t [x]) p _ := .step (.refl _) ((Malt_one).2 g2)
                simp only [List.mem_cons, List.not_mem_nil, or_false] at k3
                rcases k3 with k3 | k3
                · obtain rfl : j40 = n + 1 := by omega
                  exact .inr ⟨_, _, by omega, hs, k2⟩
                · obtain rfl : j40 = n + 2 := by omega
                  rcases ihl _ (by omega) _ k2 with h | ⟨r', l'', m1, m2, m3⟩
                  · exact .inl h
                  · exact .inr ⟨r', l'', by omega, hs.trans m2, m3⟩
        cases h with
        | nil => exact .inl ⟨by omega, by omega, by omega⟩
        | @cons l50 _ _ j50 q50 _ _ h1 h2 =>
          obtain ⟨rfl, h3⟩ := edge_plain hpl h1
          rw [f1] at h3
          simp only [List.mem_cons, List.not_mem_nil, or_false] at h3
          rcases h3 with h3 | h3
          · obtain rfl : j50 = n + 2 := by omega
            rcases key _ _ h2 with h | ⟨r, l', m1, m2, m3⟩
            · exact .inl h
            · exact .inr ⟨r, l', by omega, (M_4 _ _).2 ⟨rfl, m2⟩, m3⟩
          · obtain rfl : j50 = n + 1 := by omega
            exact .inr ⟨_, _, Nat.lt_succ_self _, (M_4 _ _).2 ⟨rfl, .refl _⟩, h2⟩
      · cases h with
        | nil => exact .inl ⟨by omega, by omega, by omega⟩
        | @cons l60 _ _ j60 q60 _ _ h1 h2 =>
          obtain ⟨rfl, h3⟩ := edge_plain hpl h1
          rw [f1] at h3
          simp only [List.mem_cons, List.not_mem_nil, or_false] at h3
          rcases h3 with h3 | h3
          · obtain rfl : j60 = n + 2 := by omega
            rcases ih _ _ _ _ h2 with ⟨g1, g2, g3⟩ | ⟨r, l', g1, g2, g3⟩
            · exact .inl ⟨by omega, by omega, by omega⟩
            · cases g3 with
              | nil => exact .inl ⟨by omega, by have := cnt_pos x; omega, by omega⟩
              | @cons l70 _ _ j70 q70 _ _ k1 k2 =>
                obtain ⟨rfl, k3⟩ := edge_plain hb k1
                rw [show n + 2 + 1 = n + 3 by omega, f2, if_neg (by omega)] at k3
                have e : (j70 : Int) = (n : Int) + 1 := by simpa using k3
                obtain rfl : j70 = n + 1 := by omega
                exact .inr ⟨_, _, by omega, (M_5 _ _).2 ⟨rfl, .inr ((Malt_one).2 g2)⟩, k2⟩
          · obtain rfl : j60 = n + 1 := by omega
            exact .inr ⟨_, _, Nat.lt_succ_self _, (M_5 _ _).2 ⟨rfl, .inl rfl⟩, h2⟩
theorem leave_seq {S : List Sta} {t : List Int} : ∀ (ps : List Nd) (a s e : Nat), GoodL ps → SeqL S ps a s e → plain (at_ S a) → ∀ (l p j q : Nat), Path S t l a p j q →
    j = a ∨ (s ≤ j ∧ j < s + 2 * cntL ps) ∨ ∃ r l', l' < l ∧ Mseq t ps p r ∧ Path S t l' e r j q
  | [], a, s, e, _, hl, hpl, l, p, j, q, h => by
    unfold SeqL at hl
    cases h with
    | nil => exact .inl rfl
    | @cons l80 _ _ j80 q80 _ _ h1 h2 =>
      obtain ⟨rfl, h3⟩ := edge_plain hpl h1
      rw [hl] at h3
      have e : (j80 : Int) = (e : Int) := by simpa using h3
      obtain rfl := Int.ofNat.inj e
      exact .inr (.inr ⟨_, _, Nat.lt_succ_self _, by simp [Mseq], h2⟩)
  | x :: r, a, s, e, hg, hl, hpl, l, p, j, q, h => by
    unfold GoodL at hg
    unfold SeqL at hl
    obtain ⟨hf, hx, hr⟩ := hl
    simp only [cntL]
    have hcx := cnt_pos x
    cases h with
    | nil => exact .inl rfl
    | @cons l90 _ _ j90 q90 _ _ h1 h2 =>
      obtain ⟨rfl, h3⟩ := edge_plain hpl h1
      rw [hf] at h3
      have e : (j90 : Int) = (s : Int) := by simpa using h3
      obtain rfl := Int.ofNat.inj e
      rcases leave x _ hg.1 hx _ _ _ _ h2 with ⟨g1, g2, g3⟩ | ⟨r1, l', g1, g2, g3⟩
      · exact .inr (.inl ⟨by omega, by omega⟩)
      · rcases leave_seq r _ _ _ hg.2 hr (Lays_end hx) _ _ _ _ g3 with h | h | ⟨r2, l2, k1, k2, k3⟩
        · exact .inr (.inl ⟨by omega, by omega⟩)
        · exact .inr (.inl ⟨by omega, by omega⟩)
        · exact .inr (.inr ⟨r2, l2, by omega, by simp only [Mseq]; exact ⟨r1, g2, k2⟩, k3⟩)
theorem leave_alt {S : List Sta} {t : List Int} : ∀ (ps : List Nd) (s e : Nat), GoodL ps → AltL S ps s e → ∀ (i : Nat), (i : Int) ∈ entries ps s → ∀ (l p j q : Nat), Path S t l i p j q →
    (s ≤ j ∧ j < s + 2 * cntL ps) ∨ ∃ r l', l' < l ∧ Malt t ps p r ∧ Path S t l' e r j q
  | [], s, e, _, _, i, hi, l, p, j, q, h => by simp [entries] at hi
  | x :: r, s, e, hg, hl, i, hi, l, p, j, q, h => by
    unfold GoodL at hg
    unfold AltL at hl
    obtain ⟨hf, hx, hr⟩ := hl
    simp only [cntL]
    have hcx := cnt_pos x
    simp only [entries, List.mem_cons] at hi
    rcases hi with hi | hi
    · obtain rfl := Int.ofNat.inj hi
      rcases leave x _ hg.1 hx _ _ _ _ h with ⟨g1, g2, g3⟩ | ⟨r1, l', g1, g2, g3⟩
      · exact .inl ⟨by omega, by omega⟩
      · cases g3 with
        | nil => exact .inl ⟨by omega, by omega⟩
        | @cons l100 _ _ j100 q100 _ _ k1 k2 =>
          obtain ⟨rfl, k3⟩ := edge_plain (Lays_end hx) k1
          rw [hf] at k3
          have e : (j100 : Int) = (e : Int) := by simpa using k3
          obtain rfl := Int.ofNat.inj e
          exact .inr ⟨_, _, by omega, by simp only [Malt]; exact .inl g2, k2⟩
    · rcases leave_alt r _ _ hg.2 hr i hi _ _ _ _ h with h | ⟨r2, l2, k1, k2, k3⟩
      · exact .inl ⟨by omega, by omega⟩
      · exact .inr ⟨r2, l2, k1, by simp only [Malt]; exact .inr k2, k3⟩
end

/-- the machine of an expression -/
def mach (x : Nd) : List Sta := layF x []

theorem mach_ok {x : Nd} (h : Good x) : LaidOk x [] (mach x) := lay_ok x h []

/-- from the first state to the last one the paths are the rows -/
theorem mach_iff {x : Nd} (hg : Good x) {t : List Int} {p q : Nat} : Re (mach x) t 0 p 1 q ↔ M t x p q := by
  have k := mach_ok hg
  constructor
  · rintro ⟨l, h⟩
    rcases leave x 0 hg k.lays l p 1 q h with ⟨-, -, h⟩ | ⟨r, l', -, h2, h3⟩
    · exact absurd rfl h
    · cases h3 with
      | nil => exact h2
      | cons h4 h5 =>
        obtain ⟨-, h6⟩ := edge_plain (Lays_end k.lays) h4
        have := k.out
        simp only [List.length_nil] at this h6
        rw [this] at h6
        simp at h6
  · exact reach_M x 0 hg k.lays p q
end Go.Proofs.Ythmaokjhncokdaa

/-
  What a depth-first visit has seen and told; the states of a laid machine. Plain definitions and theorems; no program.
-/
set_option linter.unusedVariables false
set_option linter.unusedSimpArgs false
namespace Go.Proofs.Ythmaokjhncokdaa

/-- a state takes a class, or is the last one -/
def core (S : List Sta) (k : Nat) : Prop := (at_ S k).set = true ∨ k = 1
def FreeStar (S : List Sta) : Nat → Nat → Prop := Star (Free S)

/-- from these states more were seen, and those of them that count were told -/
structure Vis (S : List Sta) (roots : Nat → Prop) (bs : List Bool) (xs : List Int) (bs' : List Bool) (xs' : List Int) : Prop where
  len : bs'.length = bs.length
  grow : ∀ k, tr bs k → tr bs' k
  hit : ∀ r, roots r → tr bs' r
  reach : ∀ k, tr bs' k → ¬ tr bs k → ∃ r, roots r ∧ FreeStar S r k
  closed : ∀ k, tr bs' k → ¬ tr bs k → ∀ j, Free S k j → tr bs' j
  out : ∃ ys, xs' = xs ++ ys ∧ ys.Nodup ∧ ∀ v, v ∈ ys ↔ ∃ k : Nat, v = k ∧ tr bs' k ∧ ¬ tr bs k ∧ core S k

theorem Vis.nil (S : List Sta) (bs : List Bool) (xs : List Int) : Vis S (fun _ => False) bs xs bs xs :=
  ⟨rfl, fun _ h => h, fun _ h => h.elim, fun k h1 h2 => absurd h1 h2, fun k h1 h2 => absurd h1 h2, [], by simp, by simp, fun v => by simp; intro k _ h1 h2; exact absurd h1 h2⟩

theorem Vis.seen {S : List Sta} {bs : List Bool} {xs : List Int} {n : Nat} (h : tr bs n) : Vis S (fun r => r = n) bs xs bs xs :=
  ⟨rfl, fun _ h => h, fun _ e => e ▸ h, fun k h1 h2 => absurd h1 h2, fun k h1 h2 => absurd h1 h2, [], by simp, by simp, fun v => by simp; intro k _ h1 h2; exact absurd h1 h2⟩

theorem Vis.mono {S : List Sta} {R Q : Nat → Prop} {bs bs' : List Bool} {xs xs' : List Int} (h : Vis S R bs xs bs' xs') (hq : ∀ r, R r ↔ Q r) : Vis S Q bs xs bs' xs' :=
  ⟨h.len, h.grow, fun r hr => h.hit r ((hq r).2 hr), fun k h1 h2 => by obtain ⟨r, h3, h4⟩ := h.reach k h1 h2; exact ⟨r, (hq r).1 h3, h4⟩, h.closed, h.out⟩

theorem Vis.trans {S : List Sta} {R Q : Nat → Prop} {b0 b1 b2 : List Bool} {x0 x1 x2 : List Int} (h : Vis S R b0 x0 b1 x1) (g : Vis S Q b1 x1 b2 x2) : Vis S (fun r => R r ∨ Q r) b0 x0 b2 x2 := by
  obtain ⟨ys, y1, y2, y3⟩ := h.out
  obtain ⟨zs, z1, z2, z3⟩ := g.out
  refine ⟨g.len.trans h.len, fun k hk => g.grow k (h.grow k hk), fun r hr => hr.elim (fun hr => g.grow r (h.hit r hr)) (g.hit r), fun k h1 h2 => ?_, fun k h1 h2 j hj => ?_, ys ++ zs, ?_, ?_, fun v => ?_⟩
  · by_cases hk : tr b1 k
    · obtain ⟨r, h3, h4⟩ := h.reach k hk h2; exact ⟨r, .inl h3, h4⟩
    · obtain ⟨r, h3, h4⟩ := g.reach k h1 hk; exact ⟨r, .inr h3, h4⟩
  · by_cases hk : tr b1 k
    · exact g.grow j (h.closed k hk h2 j hj)
    · exact g.closed k h1 hk j hj
  · rw [z1, y1, List.append_assoc]
  · rw [List.nodup_append]
    refine ⟨y2, z2, fun a ha b hb e => ?_⟩
    obtain ⟨k, e1, h1, -, -⟩ := (y3 a).1 ha
    obtain ⟨j, e2, -, h2, -⟩ := (z3 b).1 hb
    have : k = j := by omega
    exact h2 (this ▸ h1)
  · rw [List.mem_append, y3, z3]
    constructor
    · rintro (⟨k, e, h1, h2, h3⟩ | ⟨k, e, h1, h2, h3⟩)
      · exact ⟨k, e, g.grow k h1, h2, h3⟩
      · exact ⟨k, e, h1, fun hk => h2 (h.grow k hk), h3⟩
    · rintro ⟨k, e, h1, h2, h3⟩
      by_cases hk : tr b1 k
      · exact .inl ⟨k, e, hk, h2, h3⟩
      · exact .inr ⟨k, e, h1, hk, h3⟩

theorem tr_set {bs : List Bool} {n k : Nat} (hn : n < bs.length) : tr (bs.set n true) k ↔ tr bs k ∨ k = n := by
  unfold tr
  rw [List.getElem?_set]
  by_cases e : n = k
  · subst e; simp [hn]
  · rw [if_neg e]; simp [Ne.symm e]

open Classical in
/-- a state that was not seen, and all to which it goes -/
theorem Vis.node {S : List Sta} {n : Nat} {bs bs' : List Bool} {xs xs' : List Int} (hn : n < bs.length) (h0 : ¬ tr bs n) (ex : List Int) (hex : ex = if core S n then [(n : Int)] else [])
    (h : Vis S (Free S n) (bs.set n true) (xs ++ ex) bs' xs') : Vis S (fun r => r = n) bs xs bs' xs' := by
  obtain ⟨ys, y1, y2, y3⟩ := h.out
  have hnb : tr bs' n := h.grow n ((tr_set hn).2 (.inr rfl))
  refine ⟨h.len.trans (by simp), fun k hk => h.grow k ((tr_set hn).2 (.inl hk)), fun r e => e ▸ hnb, fun k h1 h2 => ?_, fun k h1 h2 j hj => ?_, ex ++ ys, ?_, ?_, fun v => ?_⟩
  · by_cases hk : k = n
    · subst hk; exact ⟨k, rfl, .refl _⟩
    · obtain ⟨r, h3, h4⟩ := h.reach k h1 (fun h => (tr_set hn).1 h |>.elim h2 hk)
      exact ⟨n, rfl, Star.head h3 h4⟩
  · by_cases hk : k = n
    · subst hk; exact h.hit j hj
    · exact h.closed k h1 (fun h => (tr_set hn).1 h |>.elim h2 hk) j hj
  · rw [y1, List.append_assoc]
  · rw [List.nodup_append]
    refine ⟨by rw [hex]; split <;> simp, y2, fun a ha b hb e => ?_⟩
    rw [hex] at ha
    split at ha
    · obtain ⟨j, e2, -, h2, -⟩ := (y3 b).1 hb
      have ha : a = (n : Int) := by simpa using ha
      have : j = n := by omega
      exact h2 ((tr_set hn).2 (.inr this))
    · simp at ha
  · rw [List.mem_append, y3]
    constructor
    · rintro (h1 | ⟨k, e, h1, h2, h3⟩)
      · rw [hex] at h1
        split at h1
        · have h1 : v = (n : Int) := by simpa using h1
          exact ⟨n, h1, hnb, h0, ‹_›⟩
        · simp at h1
      · exact ⟨k, e, h1, fun hk => h2 ((tr_set hn).2 (.inl hk)), h3⟩
    · rintro ⟨k, e, h1, h2, h3⟩
      by_cases hk : k = n
      · subst hk; left; rw [hex, if_pos h3, e]; simp
      · exact .inr ⟨k, e, h1, fun h => (tr_set hn).1 h |>.elim h2 hk, h3⟩

theorem count_set : ∀ {bs : List Bool} {n : Nat} (hn : n < bs.length), ¬ tr bs n → (bs.set n true).count false + 1 = bs.count false
  | b :: r, 0, _, h => by
    cases b
    · simp
    · exact absurd rfl h
  | b :: r, n + 1, hn, h => by
    have := count_set (bs := r) (n := n) (by simpa using hn) (by simpa [tr] using h)
    simp only [List.set_cons_succ, List.count_cons]
    omega

theorem count_grow : ∀ {bs bs' : List Bool}, bs'.length = bs.length → (∀ k, tr bs k → tr bs' k) → bs'.count false ≤ bs.count false
  | [], bs', h, _ => by have := List.eq_nil_of_length_eq_zero (by simpa using h); subst this; simp
  | b :: r, [], h, _ => by simp at h
  | b :: r, c :: s, h, g => by
    have := count_grow (bs := r) (bs' := s) (by simpa using h) (fun k hk => by simpa [tr] using g (k + 1) (by simpa [tr] using hk))
    simp only [List.count_cons]
    have h0 := g 0
    cases b <;> cases c <;> simp [tr] at h0 ⊢ <;> omega

theorem not_tr {bs : List Bool} {n : Nat} (hn : n < bs.length) (h : bs[n] = false) : ¬ tr bs n := by
  unfold tr; rw [List.getElem?_eq_getElem hn, h]; simp
theorem is_tr {bs : List Bool} {n : Nat} (hn : n < bs.length) (h : bs[n] = true) : tr bs n := by
  unfold tr; rw [List.getElem?_eq_getElem hn, h]

/-- all states to which one goes are there; who takes classes says so, and has one behind it -/
structure Fine (S : List Sta) (N : Nat) : Prop where
  free : ∀ i, ∀ v ∈ (at_ S i).free, 0 ≤ v ∧ v < N
  takes : ∀ i, (at_ S i).takes ≠ [] → (at_ S i).set = true ∧ i + 1 < N

theorem Fine.join {S : List Sta} {N : Nat} (h : Fine S N) (i : Nat) (ts : List Int) (ht : ∀ v ∈ ts, 0 ≤ v ∧ v < N) : Fine (joinF S i ts) N := by
  by_cases hi : i < S.length
  · refine ⟨fun j v hv => ?_, fun j hj => ?_⟩
    · rw [at_join _ _ _ _ hi] at hv
      split at hv
      · rcases List.mem_append.1 hv with hv | hv
        · exact h.free i v hv
        · exact ht v hv
      · exact h.free j v hv
    · rw [at_join _ _ _ _ hi] at hj ⊢
      split
      · rename_i e; rw [if_pos e] at hj; subst e; exact h.takes j hj
      · rename_i e; rw [if_neg e] at hj; exact h.takes j hj
  · have : joinF S i ts = S := by
      unfold joinF
      exact List.modify_eq_self (by omega)
    rw [this]; exact h

theorem Fine.two {L : List Sta} {N : Nat} (h : Fine L N) : Fine ((L ++ [z0]) ++ [z0]) N := by
  refine ⟨fun j v hv => ?_, fun j hj => ?_⟩
  · rw [at_two] at hv
    split at hv
    · exact h.free j v hv
    · split at hv
      · simp [z0] at hv
      · split at hv <;> simp [z0] at hv
  · rw [at_two] at hj ⊢
    split
    · rename_i e; rw [if_pos e] at hj; exact h.takes j hj
    · rename_i e
      rw [if_neg e] at hj
      split at hj
      · simp [z0] at hj
      · split at hj <;> simp [z0] at hj

mutual
theorem lay_fine : ∀ (x : Nd), Good x → ∀ (L : List Sta) (N : Nat), L.length + 2 * cnt x ≤ N → Fine L N → Fine (layF x L) N
  | .mk op cls ps, hg, L, N, hN, h => by
    unfold Good at hg
    obtain ⟨-, -, -, hps⟩ := hg
    simp only [cnt] at hN
    have h2 := h.two
    have hl : ((L ++ [z0]) ++ [z0]).length = L.length + 2 := by simp
    rw [layF]
    split
    · refine ⟨fun j v hv => ?_, fun j hj => ?_⟩
      · rw [at_two] at hv
        split at hv
        · exact h.free j v hv
        · split at hv
          · simp at hv
          · split at hv <;> simp [z0] at hv
      · rw [at_two] at hj ⊢
        split
        · rename_i e; rw [if_pos e] at hj; exact h.takes j hj
        · rename_i e
          rw [if_neg e] at hj
          split
          · rename_i e2; exact ⟨rfl, by omega⟩
          · rename_i e2
            rw [if_neg e2] at hj
            split at hj <;> simp [z0] at hj
    · split
      · exact h2.join _ _ (by simp; omega)
      · split
        · have := seq_fine ps hps ((L ++ [z0]) ++ [z0]) L.length N (by omega) h2 (by omega)
          exact this.join _ _ (by simp; omega)
        · split
          · exact alt_fine ps hps ((L ++ [z0]) ++ [z0]) L.length N (by omega) h2 (by omega)
          · exact one_fine op ps hps ((L ++ [z0]) ++ [z0]) L.length N (by omega) h2 (by omega)
theorem seq_fine : ∀ (ps : List Nd), GoodL ps → ∀ (L : List Sta) (a N : Nat), L.length + 2 * cntL ps ≤ N → Fine L N → 0 < N → Fine (seqF ps L a).1 N
  | [], _, L, a, N, hN, h, _ => by rw [seqF]; exact h
  | p :: r, hg, L, a, N, hN, h, h0 => by
    unfold GoodL at hg
    simp only [cntL] at hN
    have hp := cnt_pos p
    have hl := (lay_ok p hg.1 L).length
    rw [seqF]
    exact seq_fine r hg.2 _ _ N (by rw [joinF_length, hl]; omega) ((lay_fine p hg.1 L N (by omega) h).join _ _ (by simp; omega)) h0
theorem alt_fine : ∀ (ps : List Nd), GoodL ps → ∀ (L : List Sta) (n N : Nat), L.length + 2 * cntL ps ≤ N → Fine L N → n + 1 < N → Fine (altF ps L n) N
  | [], _, L, n, N, hN, h, _ => by rw [altF]; exact h
  | p :: r, hg, L, n, N, hN, h, h0 => by
    unfold GoodL at hg
    simp only [cntL] at hN
    have hp := cnt_pos p
    have hl := (lay_ok p hg.1 L).length
    rw [altF]
    exact alt_fine r hg.2 _ _ N (by rw [joinF_length, joinF_length, hl]; omega) (((lay_fine p hg.1 L N (by omega) h).join _ _ (by simp; omega)).join _ _ (by simp; omega)) h0
theorem one_fine : ∀ (op : Int) (ps : List Nd), GoodL ps → ∀ (L : List Sta) (n N : Nat), L.length + 2 * cntL ps ≤ N → Fine L N → n + 1 < N → Fine (oneF op ps L n) N
  | op, [], _, L, n, N, hN, h, _ => by rw [oneF]; exact h
  | op, p :: r, hg, L, n, N, hN, h, h0 => by
    unfold GoodL at hg
    simp only [cntL] at hN
    have hp := cnt_pos p
    have h1 := (((lay_fine p hg.1 L N (by omega) h).join n [(L.length : Int), (n : Int) + 1] (by simp; omega)).join (L.length + 1) [(n : Int) + 1] (by simp; omega))
    rw [oneF]
    split
    · exact h1.join _ _ (by simp; omega)
    · exact h1
end

theorem mach_fine {x : Nd} (hg : Good x) : Fine (mach x) (2 * cnt x) :=
  lay_fine x hg [] _ (by simp) ⟨fun i v hv => by simp [at_, z0] at hv, fun i h => by simp [at_, z0] at h⟩

theorem mach_len {x : Nd} (hg : Good x) : (mach x).length = 2 * cnt x := by have := (mach_ok hg).length; simpa using this
end Go.Proofs.Ythmaokjhncokdaa

