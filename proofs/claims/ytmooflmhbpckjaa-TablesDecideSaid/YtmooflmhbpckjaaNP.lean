/-
  States of a machine, how an expression is laid down in them, and that the paths through them are its rows. Plain definitions and theorems; no program.
-/
import Derived.Test.YtmooflmhbpckjaaSpec
set_option linter.unusedVariables false
set_option linter.unusedSimpArgs false
namespace Go.Proofs.Ytmooflmhbpckjaa

/-- a state: where it goes without a class; whether it takes one, and which -/
structure Sta where
  free : List Int
  set : Bool
  takes : List Int

def z0 : Sta := ⟨[], false, []⟩

def joinF (L : List Sta) (i : Nat) (ts : List Int) : List Sta := L.modify i (fun s => ⟨s.free ++ ts, s.set, s.takes⟩)

mutual
/-- the states behind an expression that is laid down behind others -/
def layF : Nd → List Sta → List Sta
  | .mk op cls ps, L =>
    if op = 1 then (L ++ [⟨[], true, cls⟩]) ++ [z0]
    else if op = 0 then joinF ((L ++ [z0]) ++ [z0]) L.length [(L.length : Int) + 1]
    else if op = 2 then joinF (seqF ps ((L ++ [z0]) ++ [z0]) L.length).1 (seqF ps ((L ++ [z0]) ++ [z0]) L.length).2 [(L.length : Int) + 1]
    else if op = 3 then altF ps ((L ++ [z0]) ++ [z0]) L.length
    else oneF op ps ((L ++ [z0]) ++ [z0]) L.length
def seqF : List Nd → List Sta → Nat → List Sta × Nat
  | [], L, a => (L, a)
  | p :: r, L, a => seqF r (joinF (layF p L) a [(L.length : Int)]) (L.length + 1)
def altF : List Nd → List Sta → Nat → List Sta
  | [], L, n => L
  | p :: r, L, n => altF r (joinF (joinF (layF p L) n [(L.length : Int)]) (L.length + 1) [(n : Int) + 1]) n
def oneF : Int → List Nd → List Sta → Nat → List Sta
  | op, [], L, n => L
  | op, p :: _, L, n =>
    if op = 4 then joinF (joinF (joinF (layF p L) n [(L.length : Int), (n : Int) + 1]) (L.length + 1) [(n : Int) + 1]) (L.length + 1) [(L.length : Int)]
    else joinF (joinF (layF p L) n [(L.length : Int), (n : Int) + 1]) (L.length + 1) [(n : Int) + 1]
end

mutual
def cnt : Nd → Nat
  | .mk _ _ ps => 1 + cntL ps
def cntL : List Nd → Nat
  | [] => 0
  | x :: r => cnt x + cntL r
end

mutual
/-- an expression of the six kinds, of as many parts as the kind may have -/
def Good : Nd → Prop
  | .mk op cls ps => (op = 0 ∨ op = 1 ∨ op = 2 ∨ op = 3 ∨ op = 4 ∨ op = 5) ∧ (op = 0 ∨ op = 1 → ps = []) ∧ (op = 4 ∨ op = 5 → ps.length = 1) ∧ GoodL ps
def GoodL : List Nd → Prop
  | [] => True
  | x :: r => Good x ∧ GoodL r
end

theorem GoodL_mem : ∀ {l : List Nd}, GoodL l → ∀ x ∈ l, Good x
  | [], _, x, h => by simp at h
  | y :: r, h, x, hx => by
    simp only [GoodL] at h
    rcases List.mem_cons.1 hx with rfl | hx
    · exact h.1
    · exact GoodL_mem h.2 x hx

theorem joinF_length (L : List Sta) (i : Nat) (ts : List Int) : (joinF L i ts).length = L.length := by simp [joinF]

/-- the i-th state; of none there is nothing -/
def at_ (L : List Sta) (i : Nat) : Sta := L.getD i z0

theorem at_join (L : List Sta) (i : Nat) (ts : List Int) (j : Nat) (hi : i < L.length) : at_ (joinF L i ts) j = if j = i then ⟨(at_ L i).free ++ ts, (at_ L i).set, (at_ L i).takes⟩ else at_ L j := by
  unfold at_ joinF
  simp only [List.getD_eq_getElem?_getD, List.getElem?_modify]
  split
  · rename_i h
    subst h
    simp [hi]
  · rename_i h
    rw [if_neg (fun e => h e.symm)]
    simp

theorem at_append (L K : List Sta) (j : Nat) : at_ (L ++ K) j = if j < L.length then at_ L j else at_ K (j - L.length) := by
  unfold at_
  simp only [List.getD_eq_getElem?_getD]
  split
  · rename_i h; rw [List.getElem?_append_left h]
  · rename_i h; rw [List.getElem?_append_right (by omega)]

theorem at_two (L : List Sta) (a b : Sta) (j : Nat) : at_ ((L ++ [a]) ++ [b]) j = if j < L.length then at_ L j else if j = L.length then a else if j = L.length + 1 then b else z0 := by
  rw [at_append, at_append]
  simp only [List.length_append, List.length_singleton]
  by_cases h1 : j < L.length
  · rw [if_pos (by omega), if_pos h1, if_pos h1]
  · by_cases h2 : j = L.length
    · subst h2; simp [at_]
    · rw [if_neg (by omega), if_neg h1, if_neg h2]
      by_cases h3 : j = L.length + 1
      · subst h3; simp [at_]
      · rw [if_neg h3]; unfold at_; simp; rw [List.getElem?_eq_none (by simp; omega)]; rfl

/-- an edge without a class -/
def Free (S : List Sta) (i j : Nat) : Prop := (j : Int) ∈ (at_ S i).free
/-- a state takes the class at a place -/
def Take (S : List Sta) (t : List Int) (i p : Nat) : Prop := ∃ c, t[p]? = some c ∧ c ∈ (at_ S i).takes
def Edge (S : List Sta) (t : List Int) (i p j q : Nat) : Prop := (Free S i j ∧ q = p) ∨ (j = i + 1 ∧ q = p + 1 ∧ Take S t i p)

/-- a path of so many edges from a state at a place to a state at a place -/
inductive Path (S : List Sta) (t : List Int) : Nat → Nat → Nat → Nat → Nat → Prop where
  | nil (i p : Nat) : Path S t 0 i p i p
  | cons {l i p j q k r : Nat} : Edge S t i p j q → Path S t l j q k r → Path S t (l + 1) i p k r

theorem Path.trans {S : List Sta} {t : List Int} {l m i p j q k r : Nat} (h : Path S t l i p j q) (g : Path S t m j q k r) : ∃ n, Path S t n i p k r := by
  induction h with
  | nil => exact ⟨_, g⟩
  | cons h1 _ ih =>
    obtain ⟨n, h⟩ := ih g
    exact ⟨_, .cons h1 h⟩

def entries : List Nd → Nat → List Int
  | [], _ => []
  | p :: r, s => (s : Int) :: entries r (s + 2 * cnt p)

/-- a state that takes no class -/
def plain (s : Sta) : Prop := s.set = false ∧ s.takes = []

mutual
/-- an expression is laid down from a state on -/
def Lays (S : List Sta) : Nd → Nat → Prop
  | .mk op cls ps, n => plain (at_ S (n + 1)) ∧
    if op = 1 then at_ S n = ⟨[], true, cls⟩
    else plain (at_ S n) ∧
      if op = 0 then (at_ S n).free = [(n : Int) + 1]
      else if op = 2 then SeqL S ps n (n + 2) (n + 1)
      else if op = 3 then (at_ S n).free = entries ps (n + 2) ∧ AltL S ps (n + 2) (n + 1)
      else OneL S op ps n
def SeqL (S : List Sta) : List Nd → Nat → Nat → Nat → Prop
  | [], a, s, e => (at_ S a).free = [(e : Int)]
  | p :: r, a, s, e => (at_ S a).free = [(s : Int)] ∧ Lays S p s ∧ SeqL S r (s + 1) (s + 2 * cnt p) e
def AltL (S : List Sta) : List Nd → Nat → Nat → Prop
  | [], s, e => True
  | p :: r, s, e => (at_ S (s + 1)).free = [(e : Int)] ∧ Lays S p s ∧ AltL S r (s + 2 * cnt p) e
def OneL (S : List Sta) : Int → List Nd → Nat → Prop
  | op, [], n => True
  | op, p :: _, n => (at_ S n).free = [(n : Int) + 2, (n : Int) + 1] ∧ (at_ S (n + 3)).free = (if op = 4 then [(n : Int) + 1, (n : Int) + 2] else [(n : Int) + 1]) ∧ Lays S p (n + 2)
end

theorem cnt_pos : ∀ (x : Nd), 0 < cnt x
  | .mk _ _ ps => by simp only [cnt]; omega

/-- two lists of states say the same of these, but for where the second one goes -/
def Alike (S T : List Sta) (n m : Nat) : Prop := ∀ j, n ≤ j → j < m → (j ≠ n + 1 → at_ T j = at_ S j) ∧ (at_ T j).set = (at_ S j).set ∧ (at_ T j).takes = (at_ S j).takes

theorem Alike.plain {S T : List Sta} {n m j : Nat} (h : Alike S T n m) (h1 : n ≤ j) (h2 : j < m) (hp : plain (at_ S j)) : plain (at_ T j) := by
  obtain ⟨-, g1, g2⟩ := h j h1 h2
  exact ⟨g1.trans hp.1, g2.trans hp.2⟩

mutual
theorem Lays_ext {S T : List Sta} : ∀ (x : Nd) (n : Nat), Lays S x n → Alike S T n (n + 2 * cnt x) → Lays T x n
  | .mk op cls ps, n, h, g => by
    unfold Lays at *
    simp only [cnt] at g
    obtain ⟨h1, h2⟩ := h
    refine ⟨g.plain (by omega) (by omega) h1, ?_⟩
    have e : at_ T n = at_ S n := (g n (by omega) (by omega)).1 (by omega)
    split at h2
    · rw [if_pos ‹_›, e]; exact h2
    · rw [if_neg ‹_›]
      obtain ⟨h2, h3⟩ := h2
      refine ⟨e ▸ h2, ?_⟩
      split at h3
      · rw [if_pos ‹_›, e]; exact h3
      · rw [if_neg ‹_›]
        split at h3
        · rw [if_pos ‹_›]
          exact SeqL_ext ps n (n + 2) (n + 1) h3 (by rw [e]) (fun j h1 h2 => (g j (by omega) (by omega)).1 (by omega))
        · rw [if_neg ‹_›]
          split at h3
          · rw [if_pos ‹_›]
            exact ⟨by rw [e]; exact h3.1, AltL_ext ps (n + 2) (n + 1) h3.2 (fun j h1 h2 => (g j (by omega) (by omega)).1 (by omega))⟩
          · rw [if_neg ‹_›]
            exact OneL_ext op ps n h3 (by rw [e]) (fun j h1 h2 => (g j (by omega) (by omega)).1 (by omega))
theorem SeqL_ext {S T : List Sta} : ∀ (ps : List Nd) (a s e : Nat), SeqL S ps a s e → (at_ T a).free = (at_ S a).free → (∀ j, s ≤ j → j < s + 2 * cntL ps → at_ T j = at_ S j) → SeqL T ps a s e
  | [], a, s, e, h, g, _ => by unfold SeqL at *; rw [g]; exact h
  | p :: r, a, s, e, h, g, k => by
    unfold SeqL at *
    simp only [cntL] at k
    have hp := cnt_pos p
    refine ⟨by rw [g]; exact h.1, Lays_ext p s h.2.1 (fun j h1 h2 => ?_), SeqL_ext r _ _ e h.2.2 (by rw [k (s + 1) (by omega) (by omega)]) (fun j h1 h2 => k j (by omega) (by omega))⟩
    have := k j h1 (by omega)
    exact ⟨fun _ => this, by rw [this], by rw [this]⟩
theorem AltL_ext {S T : List Sta} : ∀ (ps : List Nd) (s e : Nat), AltL S ps s e → (∀ j, s ≤ j → j < s + 2 * cntL ps → at_ T j = at_ S j) → AltL T ps s e
  | [], s, e, h, _ => by unfold AltL; trivial
  | p :: r, s, e, h, k => by
    unfold AltL at *
    simp only [cntL] at k
    have hp := cnt_pos p
    refine ⟨by rw [k (s + 1) (by omega) (by omega)]; exact h.1, Lays_ext p s h.2.1 (fun j h1 h2 => ?_), AltL_ext r _ e h.2.2 (fun j h1 h2 => k j (by omega) (by omega))⟩
    have := k j h1 (by omega)
    exact ⟨fun _ => this, by rw [this], by rw [this]⟩
theorem OneL_ext {S T : List Sta} : ∀ (op : Int) (ps : List Nd) (n : Nat), OneL S op ps n → (at_ T n).free = (at_ S n).free → (∀ j, n + 2 ≤ j → j < n + 2 + 2 * cntL ps → at_ T j = at_ S j) → OneL T op ps n
  | op, [], n, h, _, _ => by unfold OneL; trivial
  | op, p :: r, n, h, g, k => by
    unfold OneL at *
    simp only [cntL] at k
    have hp := cnt_pos p
    refine ⟨by rw [g]; exact h.1, by rw [k (n + 3) (by omega) (by omega)]; exact h.2.1, Lays_ext p (n + 2) h.2.2 (fun j h1 h2 => ?_)⟩
    have := k j h1 (by omega)
    exact ⟨fun _ => this, by rw [this], by rw [this]⟩
end

structure LaidOk (x : Nd) (L S : List Sta) : Prop where
  length : S.length = L.length + 2 * cnt x
  keep : ∀ j, j < L.length → at_ S j = at_ L j
  lays : Lays S x L.length
  out : (at_ S (L.length + 1)).free = []

structure SeqOk (ps : List Nd) (L : List Sta) (a : Nat) (R : List Sta × Nat) : Prop where
  length : R.1.length = L.length + 2 * cntL ps
  lt : R.2 < R.1.length
  out : (at_ R.1 R.2).free = []
  keep : ∀ j, j < L.length → j ≠ a → at_ R.1 j = at_ L j
  same : (at_ R.1 a).set = (at_ L a).set ∧ (at_ R.1 a).takes = (at_ L a).takes
  lays : ∀ e : Nat, SeqL (joinF R.1 R.2 [(e : Int)]) ps a L.length e
  new : R.2 = a ∨ L.length ≤ R.2

structure AltOk (ps : List Nd) (L : List Sta) (n : Nat) (S : List Sta) : Prop where
  length : S.length = L.length + 2 * cntL ps
  keep : ∀ j, j < L.length → j ≠ n → at_ S j = at_ L j
  same : (at_ S n).set = (at_ L n).set ∧ (at_ S n).takes = (at_ L n).takes
  free : (at_ S n).free = (at_ L n).free ++ entries ps L.length
  lays : AltL S ps L.length (n + 1)

theorem seq_ok_cons {p : Nd} {r : List Nd} (hp : ∀ L, LaidOk p L (layF p L)) (hr : ∀ (L : List Sta) (a : Nat), a < L.length → (at_ L a).free = [] → SeqOk r L a (seqF r L a))
    (L : List Sta) (a : Nat) (ha : a < L.length) (h0 : (at_ L a).free = []) : SeqOk (p :: r) L a (seqF (p :: r) L a) := by
  have e : seqF (p :: r) L a = seqF r (joinF (layF p L) a [(L.length : Int)]) (L.length + 1) := by rw [seqF]
  rw [e]
  have g := hp L
  generalize layF p L = L1 at *
  have hc := cnt_pos p
  have hlen : (joinF L1 a [(L.length : Int)]).length = L.length + 2 * cnt p := by rw [joinF_length, g.length]
  have haL : a < L1.length := by rw [g.length]; omega
  have hat : ∀ j, at_ (joinF L1 a [(L.length : Int)]) j = if j = a then ⟨(at_ L1 a).free ++ [(L.length : Int)], (at_ L1 a).set, (at_ L1 a).takes⟩ else at_ L1 j := fun j => at_join L1 a _ j haL
  generalize joinF L1 a [(L.length : Int)] = L2 at *
  have k := hr L2 (L.length + 1) (by omega) (by rw [hat, if_neg (by omega)]; exact g.out)
  generalize seqF r L2 (L.length + 1) = R at *
  have hne : a ≠ L.length + 1 := by omega
  have hRa : at_ R.1 a = ⟨[(L.length : Int)], (at_ L a).set, (at_ L a).takes⟩ := by
    rw [k.keep a (by omega) hne, hat, if_pos rfl, g.keep a ha, h0]; rfl
  refine ⟨by rw [k.length, hlen]; simp only [cntL]; omega, k.lt, k.out, fun j hj hja => ?_, by rw [hRa]; exact ⟨rfl, rfl⟩, fun e => ?_, ?_⟩
  · rw [k.keep j (by omega) (by omega), hat, if_neg hja, g.keep j hj]
  · have hn := k.new
    have hj : ∀ j, at_ (joinF R.1 R.2 [(e : Int)]) j = if j = R.2 then ⟨(at_ R.1 R.2).free ++ [(e : Int)], (at_ R.1 R.2).set, (at_ R.1 R.2).takes⟩ else at_ R.1 j := fun j => at_join R.1 R.2 _ j k.lt
    unfold SeqL
    refine ⟨by rw [hj, if_neg (by omega), hRa], Lays_ext p _ g.lays (fun j h1 h2 => ?_), by have := k.lays e; rwa [hlen] at this⟩
    have hs : (at_ (joinF R.1 R.2 [(e : Int)]) j).set = (at_ R.1 j).set ∧ (at_ (joinF R.1 R.2 [(e : Int)]) j).takes = (at_ R.1 j).takes := by
      rw [hj]; split
      · rename_i h; rw [h]; exact ⟨rfl, rfl⟩
      · exact ⟨rfl, rfl⟩
    by_cases hje : j = L.length + 1
    · subst hje
      refine ⟨fun h => absurd rfl h, hs.1.trans (k.same.1.trans ?_), hs.2.trans (k.same.2.trans ?_)⟩ <;> rw [hat, if_neg (by omega)]
    · have : at_ (joinF R.1 R.2 [(e : Int)]) j = at_ L1 j := by
        rw [hj, if_neg (by omega), k.keep j (by omega) hje, hat, if_neg (by omega)]
      exact ⟨fun _ => this, by rw [this], by rw [this]⟩
  · rcases k.new with h | h
    · right; omega
    · right; omega

theorem alt_ok_cons {p : Nd} {r : List Nd} (hp : ∀ L, LaidOk p L (layF p L)) (hr : ∀ (L : List Sta) (n : Nat), n + 1 < L.length → AltOk r L n (altF r L n))
    (L : List Sta) (n : Nat) (ha : n + 1 < L.length) : AltOk (p :: r) L n (altF (p :: r) L n) := by
  have e : altF (p :: r) L n = altF r (joinF (joinF (layF p L) n [(L.length : Int)]) (L.length + 1) [(n : Int) + 1]) n := by rw [altF]
  rw [e]
  have g := hp L
  generalize layF p L = L1 at *
  have hc := cnt_pos p
  have h1 : (joinF L1 n [(L.length : Int)]).length = L1.length := joinF_length _ _ _
  have hlen : (joinF (joinF L1 n [(L.length : Int)]) (L.length + 1) [(n : Int) + 1]).length = L.length + 2 * cnt p := by rw [joinF_length, h1, g.length]
  have hnL : n < L1.length := by rw [g.length]; omega
  have hlL : L.length + 1 < (joinF L1 n [(L.length : Int)]).length := by rw [h1, g.length]; omega
  have hat : ∀ j, at_ (joinF (joinF L1 n [(L.length : Int)]) (L.length + 1) [(n : Int) + 1]) j = if j = L.length + 1 then ⟨[(n : Int) + 1], (at_ L1 j).set, (at_ L1 j).takes⟩ else if j = n then ⟨(at_ L n).free ++ [(L.length : Int)], (at_ L n).set, (at_ L n).takes⟩ else at_ L1 j := by
    intro j
    rw [at_join _ _ _ _ hlL, at_join _ _ _ _ hnL, at_join _ _ _ _ hnL]
    by_cases hj : j = L.length + 1
    · subst hj
      rw [if_pos rfl, if_pos rfl, if_neg (by omega), g.out]; rfl
    · rw [if_neg hj, if_neg hj, g.keep n (by omega)]
  generalize joinF (joinF L1 n [(L.length : Int)]) (L.length + 1) [(n : Int) + 1] = L2 at *
  have k := hr L2 n (by omega)
  generalize altF r L2 n = R at *
  have hn : at_ L2 n = ⟨(at_ L n).free ++ [(L.length : Int)], (at_ L n).set, (at_ L n).takes⟩ := by rw [hat, if_neg (by omega), if_pos rfl]
  refine ⟨by rw [k.length, hlen]; simp only [cntL]; omega, fun j hj hja => ?_, ?_, ?_, ?_⟩
  · rw [k.keep j (by omega) hja, hat, if_neg (by omega), if_neg hja, g.keep j hj]
  · rw [k.same.1, k.same.2, hn]; exact ⟨rfl, rfl⟩
  · rw [k.free, hn, hlen]; simp only [entries, List.append_assoc, List.singleton_append]
  · unfold AltL
    refine ⟨?_, Lays_ext p _ g.lays (fun j h1 h2 => ?_), by have := k.lays; rwa [hlen] at this⟩
    · rw [k.keep _ (by omega) (by omega), hat, if_pos rfl]; rfl
    · have e : at_ R j = at_ L2 j := k.keep j (by omega) (by omega)
      rw [e, hat]
      split
      · rename_i h; exact ⟨fun h' => absurd h h', rfl, rfl⟩
      · rw [if_neg (by omega)]; exact ⟨fun _ => rfl, rfl, rfl⟩

theorem one_ok {p : Nd} (hp : ∀ L, LaidOk p L (layF p L)) (op : Int) (r : List Nd) (L : List Sta) (n : Nat) (hn : L.length = n + 2) (h0 : (at_ L n).free = []) :
    (oneF op (p :: r) L n).length = n + 2 + 2 * cnt p ∧ (∀ j, j < n + 2 → j ≠ n → at_ (oneF op (p :: r) L n) j = at_ L j) ∧ (at_ (oneF op (p :: r) L n) n).set = (at_ L n).set ∧ (at_ (oneF op (p :: r) L n) n).takes = (at_ L n).takes ∧ OneL (oneF op (p :: r) L n) op (p :: r) n := by
  obtain ⟨gl, gk, gy, go⟩ := hp L
  rw [hn] at gl gk gy go
  have hc := cnt_pos p
  have e : ∃ fs : List Int, fs = (if op = 4 then [(n : Int) + 1, (n : Int) + 2] else [(n : Int) + 1]) ∧ (oneF op (p :: r) L n).length = (layF p L).length ∧
      ∀ j, at_ (oneF op (p :: r) L n) j = if j = n + 3 then ⟨fs, (at_ (layF p L) j).set, (at_ (layF p L) j).takes⟩ else if j = n then ⟨[(n : Int) + 2, (n : Int) + 1], (at_ (layF p L) n).set, (at_ (layF p L) n).takes⟩ else at_ (layF p L) j := by
    have gn := gk n (by omega)
    rw [oneF, hn]
    generalize layF p L = L1 at *
    have hnL : n < L1.length := by rw [gl]; omega
    have c1 : ((n + 2 : Nat) : Int) = (n : Int) + 2 := by omega
    rw [c1]
    have a1 : ∀ j, at_ (joinF L1 n [(n : Int) + 2, (n : Int) + 1]) j = if j = n then ⟨[(n : Int) + 2, (n : Int) + 1], (at_ L1 n).set, (at_ L1 n).takes⟩ else at_ L1 j := by
      intro j
      rw [at_join _ _ _ _ hnL, gn, h0]; rfl
    have l1 : (joinF L1 n [(n : Int) + 2, (n : Int) + 1]).length = L1.length := joinF_length _ _ _
    generalize joinF L1 n [(n : Int) + 2, (n : Int) + 1] = L2 at *
    have h3 : n + 2 + 1 < L2.length := by omega
    have a2 : ∀ j, at_ (joinF L2 (n + 2 + 1) [(n : Int) + 1]) j = if j = n + 3 then ⟨[(n : Int) + 1], (at_ L1 (n + 3)).set, (at_ L1 (n + 3)).takes⟩ else at_ L2 j := by
      intro j
      have ha3 : at_ L2 (n + 2 + 1) = at_ L1 (n + 3) := by rw [a1, if_neg (by omega)]
      rw [at_join _ _ _ _ h3, ha3, show (at_ L1 (n + 3)).free = [] from go]; rfl
    have l2 : (joinF L2 (n + 2 + 1) [(n : Int) + 1]).length = L2.length := joinF_length _ _ _
    generalize joinF L2 (n + 2 + 1) [(n : Int) + 1] = L3 at *
    refine ⟨_, rfl, ?_⟩
    by_cases h4 : op = 4
    · rw [if_pos h4, if_pos h4]
      refine ⟨by rw [joinF_length]; omega, fun j => ?_⟩
      have ha3 : at_ L3 (n + 2 + 1) = ⟨[(n : Int) + 1], (at_ L1 (n + 3)).set, (at_ L1 (n + 3)).takes⟩ := by rw [a2, if_pos rfl]
      rw [at_join _ _ _ _ (by omega), ha3, a2, a1]
      by_cases hj : j = n + 3
      · subst hj; rw [if_pos rfl, if_pos rfl]; rfl
      · rw [if_neg hj, if_neg hj, if_neg hj]
    · rw [if_neg h4, if_neg h4]
      refine ⟨by omega, fun j => ?_⟩
      rw [a2, a1]
      by_cases hj : j = n + 3
      · subst hj; rw [if_pos rfl]
      · rw [if_neg hj, if_neg hj]
  obtain ⟨fs, hfs, hl, ha⟩ := e
  have gn := gk n (by omega)
  generalize oneF op (p :: r) L n = S at *
  refine ⟨by rw [hl, gl], fun j h1 h2 => ?_, ?_, ?_, ?_⟩
  · rw [ha, if_neg (by omega), if_neg h2, gk j (by omega)]
  · rw [ha, if_neg (by omega), if_pos rfl, gn]
  · rw [ha, if_neg (by omega), if_pos rfl, gn]
  · unfold OneL
    refine ⟨by rw [ha, if_neg (by omega), if_pos rfl], by rw [ha, if_pos rfl, hfs], Lays_ext p _ gy (fun j h1 h2 => ?_)⟩
    rw [ha]
    split
    · rename_i h; exact ⟨fun h' => absurd h h', rfl, rfl⟩
    · rw [if_neg (by omega)]; exact ⟨fun _ => rfl, rfl, rfl⟩

theorem plain_z0 : plain z0 := ⟨rfl, rfl⟩

mutual
theorem lay_ok : ∀ (x : Nd), Good x → ∀ L, LaidOk x L (layF x L)
  | .mk op cls ps, hg, L => by
    unfold Good at hg
    obtain ⟨hop, hnil, hone, hps⟩ := hg
    have t1 : ∀ j, at_ ((L ++ [z0]) ++ [z0]) j = if j < L.length then at_ L j else z0 := by
      intro j
      rw [at_two]
      split
      · rfl
      · split
        · rfl
        · split <;> rfl
    have l1 : ((L ++ [z0]) ++ [z0]).length = L.length + 2 := by simp
    by_cases h1 : op = 1
    · have e : layF (.mk op cls ps) L = (L ++ [⟨[], true, cls⟩]) ++ [z0] := by rw [layF, if_pos h1]
      rw [e]
      have hn := hnil (.inr h1)
      subst hn
      refine ⟨by simp [cnt, cntL], fun j hj => by rw [at_two, if_pos hj], ?_, by rw [at_two, if_neg (by omega), if_neg (by omega), if_pos rfl]; rfl⟩
      unfold Lays
      rw [if_pos h1, at_two, at_two, if_neg (by omega), if_neg (by omega), if_pos rfl, if_neg (by omega), if_pos rfl]
      exact ⟨plain_z0, rfl⟩
    generalize hL1 : (L ++ [z0]) ++ [z0] = L1 at *
    have tn : at_ L1 L.length = z0 := by rw [t1, if_neg (by omega)]
    have tn1 : at_ L1 (L.length + 1) = z0 := by rw [t1, if_neg (by omega)]
    by_cases h0 : op = 0
    · have e : layF (.mk op cls ps) L = joinF L1 L.length [(L.length : Int) + 1] := by rw [layF, if_neg h1, if_pos h0, hL1]
      rw [e]
      have hn := hnil (.inl h0)
      subst hn
      have ha : ∀ j, at_ (joinF L1 L.length [(L.length : Int) + 1]) j = if j = L.length then ⟨[(L.length : Int) + 1], false, []⟩ else at_ L1 j := by
        intro j; rw [at_join _ _ _ _ (by omega), tn]; rfl
      refine ⟨by rw [joinF_length, l1]; simp [cnt, cntL], fun j hj => by rw [ha, if_neg (by omega), t1, if_pos hj], ?_, by rw [ha, if_neg (by omega), tn1]; rfl⟩
      unfold Lays
      rw [if_neg h1, if_pos h0, ha, if_neg (by omega), tn1, ha, if_pos rfl]
      exact ⟨plain_z0, ⟨rfl, rfl⟩, rfl⟩
    by_cases h2 : op = 2
    · have e : layF (.mk op cls ps) L = joinF (seqF ps L1 L.length).1 (seqF ps L1 L.length).2 [(L.length : Int) + 1] := by rw [layF, if_neg h1, if_neg h0, if_pos h2, hL1]
      rw [e]
      have k := seq_ok ps hps L1 L.length (by omega) (by rw [tn]; rfl)
      generalize seqF ps L1 L.length = R at *
      obtain ⟨kl, klt, ko, kk, ks, ky, kn⟩ := k
      rw [l1] at kl kk ky kn
      have hj : ∀ j, at_ (joinF R.1 R.2 [(L.length : Int) + 1]) j = if j = R.2 then ⟨(at_ R.1 R.2).free ++ [(L.length : Int) + 1], (at_ R.1 R.2).set, (at_ R.1 R.2).takes⟩ else at_ R.1 j := fun j => at_join R.1 R.2 _ j klt
      have hy := ky (L.length + 1)
      rw [show ((L.length + 1 : Nat) : Int) = (L.length : Int) + 1 by omega] at hy
      have h1' : at_ (joinF R.1 R.2 [(L.length : Int) + 1]) (L.length + 1) = z0 := by rw [hj, if_neg (by omega), kk _ (by omega) (by omega), tn1]
      refine ⟨by rw [joinF_length, kl]; simp only [cnt]; omega, fun j hj' => by rw [hj, if_neg (by omega), kk j (by omega) (by omega), t1, if_pos hj'], ?_, by rw [h1']; rfl⟩
      unfold Lays
      rw [if_neg h1, if_neg h0, if_pos h2, h1']
      refine ⟨plain_z0, ?_, hy⟩
      have hs : (at_ (joinF R.1 R.2 [(L.length : Int) + 1]) L.length).set = (at_ R.1 L.length).set ∧ (at_ (joinF R.1 R.2 [(L.length : Int) + 1]) L.length).takes = (at_ R.1 L.length).takes := by
        rw [hj]; split
        · rename_i h; rw [h]; exact ⟨rfl, rfl⟩
        · exact ⟨rfl, rfl⟩
      rw [tn] at ks
      exact ⟨hs.1.trans ks.1, hs.2.trans ks.2⟩
    by_cases h3 : op = 3
    · have e : layF (.mk op cls ps) L = altF ps L1 L.length := by rw [layF, if_neg h1, if_neg h0, if_neg h2, if_pos h3, hL1]
      rw [e]
      have k := alt_ok ps hps L1 L.length (by omega)
      generalize altF ps L1 L.length = R at *
      obtain ⟨kl, kk, ks, kf, ky⟩ := k
      rw [l1] at kl kk ky kf
      rw [tn] at ks kf
      have h1' : at_ R (L.length + 1) = z0 := by rw [kk _ (by omega) (by omega), tn1]
      refine ⟨by rw [kl]; simp only [cnt]; omega, fun j hj' => by rw [kk j (by omega) (by omega), t1, if_pos hj'], ?_, by rw [h1']; rfl⟩
      unfold Lays
      rw [if_neg h1, if_neg h0, if_neg h2, if_pos h3, h1']
      exact ⟨plain_z0, ⟨ks.1, ks.2⟩, by rw [kf]; rfl, ky⟩
    · have e : layF (.mk op cls ps) L = oneF op ps L1 L.length := by rw [layF, if_neg h1, if_neg h0, if_neg h2, if_neg h3, hL1]
      rw [e]
      have h45 : op = 4 ∨ op = 5 := by omega
      match ps, hone h45, hps with
      | [p], _, hps =>
        unfold GoodL at hps
        obtain ⟨kl, kk, ks, kt, ky⟩ := one_ok (lay_ok p hps.1) op [] L1 L.length l1 (by rw [tn]; rfl)
        generalize oneF op [p] L1 L.length = R at *
        rw [tn] at ks kt
        have h1' : at_ R (L.length + 1) = z0 := by rw [kk _ (by omega) (by omega), tn1]
        refine ⟨by rw [kl]; simp only [cnt, cntL]; omega, fun j hj' => by rw [kk j (by omega) (by omega), t1, if_pos hj'], ?_, by rw [h1']; rfl⟩
        unfold Lays
        rw [if_neg h1, if_neg h0, if_neg h2, if_neg h3, h1']
        exact ⟨plain_z0, ⟨ks, kt⟩, ky⟩
theorem seq_ok : ∀ (ps : List Nd), GoodL ps → ∀ (L : List Sta) (a : Nat), a < L.length → (at_ L a).free = [] → SeqOk ps L a (seqF ps L a)
  | [], _, L, a, ha, h0 => by
    rw [seqF]
    refine ⟨by simp [cntL], ha, h0, fun _ _ _ => rfl, ⟨rfl, rfl⟩, fun e => ?_, .inl rfl⟩
    unfold SeqL
    rw [at_join _ _ _ _ ha, if_pos rfl, h0]; rfl
  | p :: r, hg, L, a, ha, h0 => by
    unfold GoodL at hg
    exact seq_ok_cons (lay_ok p hg.1) (seq_ok r hg.2) L a ha h0
theorem alt_ok : ∀ (ps : List Nd), GoodL ps → ∀ (L : List Sta) (n : Nat), n + 1 < L.length → AltOk ps L n (altF ps L n)
  | [], _, L, n, ha => by
    rw [altF]
    exact ⟨by simp [cntL], fun _ _ _ => rfl, ⟨rfl, rfl⟩, by simp [entries], by unfold AltL; trivial⟩
  | p :: r, hg, L, n, ha => by
    unfold GoodL at hg
    exact alt_ok_cons (lay_ok p hg.1) (alt_ok r hg.2) L n ha
end

/-- how many edges without a class there are -/
def edges (L : List Sta) : Nat := (L.map (fun s => s.free.length)).sum

theorem edges_append (L K : List Sta) : edges (L ++ K) = edges L + edges K := by simp [edges]

theorem free_le : ∀ {L : List Sta} {i : Nat} (h : i < L.length), (L[i]).free.length ≤ edges L
  | x :: r, 0, _ => by simp [edges]
  | x :: r, i + 1, h => by
    have := free_le (L := r) (i := i) (by simpa using h)
    simp only [edges, List.map_cons, List.sum_cons] at *
    simp only [List.getElem_cons_succ]
    omega

theorem edges_join_le : ∀ (L : List Sta) (i : Nat) (ts : List Int), edges (joinF L i ts) ≤ edges L + ts.length
  | [], i, ts => by simp [joinF, edges]
  | x :: r, 0, ts => by simp [joinF, edges]; omega
  | x :: r, i + 1, ts => by
    have := edges_join_le r i ts
    simp only [edges, joinF, List.modify_succ_cons, List.map_cons, List.sum_cons] at *
    omega

mutual
theorem edges_lay : ∀ (x : Nd) (L : List Sta), edges (layF x L) + 2 ≤ edges L + 6 * cnt x
  | .mk op cls ps, L => by
    rw [layF]
    have h0 : edges ((L ++ [z0]) ++ [z0]) = edges L := by simp [edges_append]; rfl
    simp only [cnt]
    split
    · have : edges ((L ++ [⟨[], true, cls⟩]) ++ [z0]) = edges L := by simp [edges_append]; rfl
      omega
    · split
      · have := edges_join_le ((L ++ [z0]) ++ [z0]) L.length [(L.length : Int) + 1]
        simp only [List.length_singleton] at this
        omega
      · split
        · have h1 := edges_join_le (seqF ps ((L ++ [z0]) ++ [z0]) L.length).1 (seqF ps ((L ++ [z0]) ++ [z0]) L.length).2 [(L.length : Int) + 1]
          have h2 := edges_seq ps ((L ++ [z0]) ++ [z0]) L.length
          simp only [List.length_singleton] at h1
          omega
        · split
          · have := edges_alt ps ((L ++ [z0]) ++ [z0]) L.length
            omega
          · have := edges_one op ps ((L ++ [z0]) ++ [z0]) L.length
            omega
theorem edges_seq : ∀ (ps : List Nd) (L : List Sta) (a : Nat), edges (seqF ps L a).1 ≤ edges L + 6 * cntL ps
  | [], L, a => by rw [seqF]; simp [cntL]
  | p :: r, L, a => by
    rw [seqF]
    have h1 := edges_seq r (joinF (layF p L) a [(L.length : Int)]) (L.length + 1)
    have h2 := edges_join_le (layF p L) a [(L.length : Int)]
    have h3 := edges_lay p L
    simp only [List.length_singleton, cntL] at *
    omega
theorem edges_alt : ∀ (ps : List Nd) (L : List Sta) (n : Nat), edges (altF ps L n) ≤ edges L + 6 * cntL ps
  | [], L, n => by rw [altF]; simp [cntL]
  | p :: r, L, n => by
    rw [altF]
    have h1 := edges_alt r (joinF (joinF (layF p L) n [(L.length : Int)]) (L.length + 1) [(n : Int) + 1]) n
    have h2 := edges_join_le (joinF (layF p L) n [(L.length : Int)]) (L.length + 1) [(n : Int) + 1]
    have h3 := edges_join_le (layF p L) n [(L.length : Int)]
    have h4 := edges_lay p L
    simp only [List.length_singleton, cntL] at *
    omega
theorem edges_one : ∀ (op : Int) (ps : List Nd) (L : List Sta) (n : Nat), edges (oneF op ps L n) ≤ edges L + 6 * cntL ps + 2
  | op, [], L, n => by rw [oneF]; omega
  | op, p :: r, L, n => by
    rw [oneF]
    have h1 := edges_lay p L
    have h2 := edges_join_le (layF p L) n [(L.length : Int), (n : Int) + 1]
    have h3 := edges_join_le (joinF (layF p L) n [(L.length : Int), (n : Int) + 1]) (L.length + 1) [(n : Int) + 1]
    have h4 := edges_join_le (joinF (joinF (layF p L) n [(L.length : Int), (n : Int) + 1]) (L.length + 1) [(n : Int) + 1]) (L.length + 1) [(L.length : Int)]
    simp only [List.length_singleton, List.length_cons, List.length_nil, cntL] at *
    split <;> omega
end

theorem seqF_snoc : ∀ (l : List Nd) (p : Nd) (L : List Sta) (a : Nat), seqF (l ++ [p]) L a = (joinF (layF p (seqF l L a).1) (seqF l L a).2 [((seqF l L a).1.length : Int)], (seqF l L a).1.length + 1)
  | [], p, L, a => by simp [seqF]
  | x :: r, p, L, a => by
    rw [List.cons_append, seqF, seqF]
    exact seqF_snoc r p _ _

theorem altF_snoc : ∀ (l : List Nd) (p : Nd) (L : List Sta) (n : Nat), altF (l ++ [p]) L n = joinF (joinF (layF p (altF l L n)) n [((altF l L n).length : Int)]) ((altF l L n).length + 1) [(n : Int) + 1]
  | [], p, L, n => by simp [altF]
  | x :: r, p, L, n => by
    rw [List.cons_append, altF, altF]
    exact altF_snoc r p _ _

theorem cntL_append : ∀ (l k : List Nd), cntL (l ++ k) = cntL l + cntL k
  | [], k => by simp [cntL]
  | x :: r, k => by simp only [List.cons_append, cntL]; rw [cntL_append r k]; omega

theorem cntL_take {ps : List Nd} {k : Nat} (h : k < ps.length) : cntL (ps.take (k + 1)) = cntL (ps.take k) + cnt ps[k] := by
  rw [List.take_succ_eq_append_getElem h, cntL_append]; simp [cntL]

theorem cntL_take_le (ps : List Nd) (k : Nat) : cntL (ps.take k) ≤ cntL ps := by
  conv => rhs; rw [← List.take_append_drop k ps]
  rw [cntL_append]; omega

theorem GoodL_take : ∀ {ps : List Nd}, GoodL ps → ∀ k, GoodL (ps.take k)
  | [], _, k => by simp [GoodL]
  | x :: r, h, 0 => by simp [GoodL]
  | x :: r, h, k + 1 => by
    simp only [List.take_succ_cons, GoodL] at *
    exact ⟨h.1, GoodL_take h.2 k⟩
end Go.Proofs.Ytmooflmhbpckjaa
