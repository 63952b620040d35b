/-
  Start, Step, Accepts, Matches. No condition beyond what each theorem names.
-/
import Derived.Test.YtmooflmhbpckjaaNM
set_option linter.unusedVariables false
set_option linter.unusedSimpArgs false
namespace Go.Proofs.Ytmooflmhbpckjaa
open Go.RowKit

theorem rising_ge {cls : List Int} (h : rising cls) : ∀ i (hi : i < cls.length), (i : Int) ≤ cls[i]
  | 0, hi => by have := (h 0 hi).1; omega
  | i + 1, hi => by
    have h1 := rising_ge h i (by omega)
    have h2 := (h (i + 1) hi).2.2 (by omega)
    simp only [Nat.add_sub_cancel] at h2
    omega

theorem rising_len {cls : List Int} (h : rising cls) : cls.length ≤ 24 := by
  rcases Nat.lt_or_ge 24 cls.length with hl | hl
  · have h1 := rising_ge h 24 hl
    have h2 := (h 24 hl).2.1
    omega
  · exact hl

/-- what a state takes is rising -/
def Ris (S : List Sta) : Prop := ∀ i, rising (at_ S i).takes

theorem rising_nil : rising [] := fun i h => by simp at h

theorem Ris.join {S : List Sta} (h : Ris S) (i : Nat) (ts : List Int) : Ris (joinF S i ts) := by
  intro j
  by_cases hi : i < S.length
  · rw [at_join _ _ _ _ hi]
    split
    · exact h i
    · exact h j
  · have : joinF S i ts = S := by
      unfold joinF
      exact List.modify_eq_self (by omega)
    rw [this]; exact h j

theorem Ris.two {L : List Sta} (h : Ris L) (cls : List Int) (b : Bool) (hc : rising cls) : Ris ((L ++ [⟨[], b, cls⟩]) ++ [z0]) := by
  intro j
  rw [at_two]
  split
  · exact h j
  · split
    · exact hc
    · split <;> exact rising_nil

mutual
theorem lay_ris : ∀ (x : Nd) (d : Nat), Wf d x → ∀ (L : List Sta), Ris L → Ris (layF x L)
  | .mk op cls ps, d, hg, L, h => by
    unfold Wf at hg
    obtain ⟨-, -, -, -, -, hr, hps⟩ := hg
    have h2 : Ris ((L ++ [z0]) ++ [z0]) := h.two [] false rising_nil
    rw [layF]
    split
    · exact h.two cls true hr
    · split
      · exact h2.join _ _
      · split
        · exact (seq_ris ps (d + 1) hps _ _ h2).join _ _
        · split
          · exact alt_ris ps (d + 1) hps _ _ h2
          · exact one_ris op ps (d + 1) hps _ _ h2
theorem seq_ris : ∀ (ps : List Nd) (d : Nat), WfL d ps → ∀ (L : List Sta) (a : Nat), Ris L → Ris (seqF ps L a).1
  | [], d, _, L, a, h => by rw [seqF]; exact h
  | p :: r, d, hg, L, a, h => by
    unfold WfL at hg
    rw [seqF]
    exact seq_ris r d hg.2 _ _ ((lay_ris p d hg.1 L h).join _ _)
theorem alt_ris : ∀ (ps : List Nd) (d : Nat), WfL d ps → ∀ (L : List Sta) (n : Nat), Ris L → Ris (altF ps L n)
  | [], d, _, L, n, h => by rw [altF]; exact h
  | p :: r, d, hg, L, n, h => by
    unfold WfL at hg
    rw [altF]
    exact alt_ris r d hg.2 _ _ (((lay_ris p d hg.1 L h).join _ _).join _ _)
theorem one_ris : ∀ (op : Int) (ps : List Nd) (d : Nat), WfL d ps → ∀ (L : List Sta) (n : Nat), Ris L → Ris (oneF op ps L n)
  | op, [], d, _, L, n, h => by rw [oneF]; exact h
  | op, p :: r, d, hg, L, n, h => by
    unfold WfL at hg
    have h1 := (((lay_ris p d hg.1 L h).join n [(L.length : Int), (n : Int) + 1]).join (L.length + 1) [(n : Int) + 1])
    rw [oneF]
    split
    · exact h1.join _ _
    · exact h1
end

/-- a list of states as New lays it -/
structure Laws (S : List Sta) : Prop where
  pos : 1 < S.length
  len : S.length ≤ 1000
  fine : Fine S S.length
  few : ∀ i, (at_ S i).free.length ≤ 100000
  ris : Ris S

theorem mach_laws {x : Nd} (h : RightX x) : Laws (mach x) := by
  have hg := Wf_good x 1 h.1
  have hl := mach_len hg
  have hc := cnt_pos x
  have h2 := h.2
  refine ⟨by omega, by omega, by rw [hl]; exact mach_fine hg, fun i => ?_, lay_ris x 1 h.1 [] (fun i => by simp [at_, z0]; exact rising_nil)⟩
  by_cases hi : i < (mach x).length
  · rw [at_get hi]
    have h3 := free_le hi
    have h4 := edges_lay x []
    have h5 : edges (mach x) + 2 ≤ 6 * cnt x := by
      have h6 : edges ([] : List Sta) = 0 := by simp [edges]
      have h7 : edges (mach x) + 2 ≤ edges [] + 6 * cnt x := h4
      omega
    omega
  · have : at_ (mach x) i = z0 := by unfold at_; simp [List.getElem?_eq_none (Nat.le_of_not_lt hi)]
    rw [this]; simp [z0]

/-- the states behind one class more -/
noncomputable def stepL (S : List Sta) (s : List Int) (c : Int) : List Int := closedL S ((s.filter fun n => (at_ S n.toNat).takes.any fun x => c == x).map (· + 1))

theorem closedL_range {S : List Sta} {l : List Int} {v : Int} (h : v ∈ closedL S l) : 0 ≤ v ∧ v < S.length := by
  obtain ⟨k, rfl, h1, -⟩ := mem_closedL.1 h
  omega

open Classical in
theorem closedL_length (S : List Sta) (l : List Int) : (closedL S l).length ≤ S.length := by
  unfold closedL
  rw [List.length_map]
  exact Nat.le_trans (List.length_filter_le _ _) (by simp)

theorem start_any (w : World) (m : Nat) (S : List Sta) (hM : MachR w m S) (hS : Laws S) :
    Calls Try.prog 55 #[.pointer (some ⟨m, 0, none⟩)] w (ClosedPost w S [0]) := by
  have HM := Lib.hid hM
  have HS := Lib.hid hS
  obtain ⟨pl, cl, m0, mc, m1, m2, mlt, mx⟩ := hM.get
  clear mx m0 m2 hM hS mc
  go_enter Try.func55, Try.ntmps55
  go_wp2_with fail
  have hb := below_alloc1 w (.cells #[.int .i64 0] 3)
  have hl := HS.out.len
  have hp := HS.out.pos
  refine (closed_any _ m S S.length (HM.out.to hb) rfl (by omega) (by omega) HS.out.fine HS.out.few _ [0] (Raw.of_block (cs := [.int .i64 0]) (heap_alloc_new _ _)) (by simp) (by simp; omega)).mono ?_
  rintro e w1 ⟨v, rfl, hown, hb1⟩
  have HOW := Lib.hid (hown.based hb.size)
  have HB := Lib.hid (hb.trans (hb1.mono hb.size))
  clear hown hb hb1 hl hp
  go_wp2_with fail
  go_ret
  exact ⟨_, rfl, HOW.out, HB.out⟩

theorem accepts_any (w : World) (m : Nat) (S : List Sta) (hM : MachR w m S) (v : Value) (s : List Int) (hv : Ints w v s) (hlen : s.length ≤ 1000000) :
    Calls Try.prog 80 #[.pointer (some ⟨m, 0, none⟩), v] w fun e w' => e = .returned (.bool (s.any fun x => 1 == x)) ∧ w = w' := by
  obtain ⟨pl, cl, m0, mc, m1, m2, mlt, mx⟩ := hM.get
  have HC := Lib.hid (contains_ints w v s 1 (by omega) hv)
  generalize s.any (fun x => 1 == x) = b at *
  clear mx m0 m1 hM hv mc
  go_enter Try.func80, Try.ntmps80
  go_wp2_with fail
  refine HC.out.mono ?_
  rintro e w' ⟨rfl, rfl⟩
  go_wp2_with fail
  go_ret
  exact ⟨rfl, rfl⟩

def stepTo (S : List Sta) (s : List Int) (c : Int) : List Int := (s.filter fun n => (at_ S n.toNat).takes.any fun x => c == x).map (· + 1)

theorem stepTo_snoc {S : List Sta} {s : List Int} {c : Int} {k : Nat} (hk : k < s.length) (b : Bool) (hb : ((at_ S s[k].toNat).takes.any fun x => c == x) = b) : stepTo S (s.take (k + 1)) c = stepTo S (s.take k) c ++ (if b then [s[k] + 1] else []) := by
  unfold stepTo
  rw [List.take_succ_eq_append_getElem hk, List.filter_append, List.map_append]
  congr 1
  simp only [List.filter_cons, List.filter_nil, hb]
  cases b <;> simp

theorem stepTo_len (S : List Sta) (s : List Int) (c : Int) : (stepTo S s c).length ≤ s.length := by
  unfold stepTo
  rw [List.length_map]
  exact List.length_filter_le _ _

set_option maxRecDepth 100000 in
set_option maxHeartbeats 4000000 in
theorem step_any (w : World) (m : Nat) (S : List Sta) (hM : MachR w m S) (hS : Laws S) (v : Value) (s : List Int) (c : Int) (hv : Ints w v s) (hlen : s.length ≤ 100000) (hs : ∀ v ∈ s, 0 ≤ v ∧ v < S.length) :
    Calls Try.prog 77 #[.pointer (some ⟨m, 0, none⟩), v, .int .i64 c] w (ClosedPost w S (stepTo S s c)) := by
  have HM := Lib.hid hM
  have HS := Lib.hid hS
  have HSR := Lib.hid hs
  obtain ⟨p, cp, rfl, hc, hx⟩ := hv.get
  have HX := Lib.hid hx
  clear hM hS hv hx hs
  go_enter Try.func77, Try.ntmps77
  go_wp2_with fail
  go_loopw [7, 12] (fun u i wr => ∃ k : Nat, i = .int .i64 k ∧ k ≤ s.length ∧ OwnL intE 3 1 w.heap.size wr u (stepTo S (s.take k) c) ∧ Below w.heap.size w wr) (fun _ i _ => s.length - (intOf i).toNat)
  case atStart => exact ⟨0, rfl, by omega, OwnL.nil _, Below.refl _ _⟩
  case round =>
    obtain ⟨k, rfl, h1, hown, hb⟩ := hrel
    obtain ⟨pu, cu, hu⟩ := hown.form
    subst hu
    have hl := stepTo_len S (s.take k) c
    rw [List.length_take] at hl
    have HOW := Lib.hid hown
    have HB := Lib.hid hb
    have HL := Lib.hid hl
    have hbs := hb.size
    clear hown hl
    by_cases hk : k < s.length
    · obtain ⟨bb, off, rfl, hbl, hxx⟩ := HX.out (by omega)
      have c0 := cell_below hb hbl (hxx k hk)
      obtain ⟨n, hne⟩ : ∃ n, n = s[k] := ⟨_, rfl⟩
      have hnr := HSR.out n (by rw [hne]; exact List.getElem_mem hk)
      obtain ⟨j, rfl⟩ : ∃ j : Nat, n = j := ⟨n.toNat, by omega⟩
      rw [← hne] at c0
      have HNE := Lib.hid hne
      have hjl : j < S.length := by omega
      obtain ⟨pl, cl, m0, mc, -, -, mlt, mx⟩ := HM.out.get
      obtain ⟨bl, offl, rfl, bllt, mx⟩ := mx (by omega)
      obtain ⟨fv, tv, -, -, l2, -, htv⟩ := mx j hjl
      have hat := at_get hjl
      rw [← hat] at htv
      have k0 := cell_below hb mlt m0
      have k2 := cell_below hb bllt l2
      have hris := HS.out.ris j
      have hrl := rising_len hris
      have HCN := Lib.hid (contains_ints wr tv (at_ S j).takes c (by omega) (htv.to hb (Nat.le_refl _)))
      have HSN := Lib.hid (stepTo_snoc (S := S) (c := c) hk _ rfl)
      rw [← hne, Int.toNat_natCast] at HSN
      generalize (at_ S j).takes.any (fun x => c == x) = b at *
      have j0 : (0 : Int) ≤ j := by omega
      have j1 : (j : Int) < S.length := by omega
      have j2 := HS.out.len
      have hkk : (k : Int) < s.length := by omega
      have hk0 : (0 : Int) ≤ k := by omega
      clear hxx hne hnr mx l2 htv hat m0 hris hrl
      go_wp2_with fail
      refine HCN.out.mono ?_
      rintro e w1 ⟨rfl, rfl⟩
      cases b
      · have HREL := Lib.hid (show OwnL intE 3 1 w.heap.size wr (.slice pu (stepTo S (s.take k) c).length cu) (stepTo S (s.take (k + 1)) c) by rw [HSN.out]; simp; exact HOW.out)
        clear hb
        go_wp2_with fail
        go_roundw
        case rel => exact ⟨k + 1, by go_num, by omega, HREL.out, HB.out⟩
        case measure => simp [intOf]; omega
      · have hap := below_alloc1 wr (.cells #[.int .i64 ((j : Int) + 1)] 3)
        have HNEW := Lib.hid (ReadL.one (E := intE) (sz := 1) wr 3 ((j : Int) + 1) [.int .i64 ((j : Int) + 1)] (by simp [Value.oneCell']) rfl)
        have HAP := Lib.hid hap
        clear hb hap
        go_wp2_with (refine wpList_append_ints rfl (.tmp 39) (.tmp 42) rfl (.slice pu (stepTo S (s.take k) c).length cu) (stepTo S (s.take k) c) rfl (base := w.heap.size) (HOW.out.below HAP.out (Nat.le_refl _)) _ [(j : Int) + 1] rfl HNEW.out (by have := HL.out; simp; omega) (Nat.le_trans hbs HAP.out.size) ?_; intro p1 c1 w4 hown4 hg4 hlie4)
        have HREL := Lib.hid (show OwnL intE 3 1 w.heap.size w4 (.slice p1 ((stepTo S (s.take k) c).length + [(j : Int) + 1].length) c1) (stepTo S (s.take (k + 1)) c) ∧ Below w.heap.size w w4 by
          refine ⟨by rw [HSN.out]; exact hown4, ?_⟩
          have h1 := HB.out.trans (HAP.out.mono hbs)
          exact h1.trans ((Fr.grown (F := fun q => (Value.slice pu (stepTo S (s.take k) c).length cu).ownBlock = some q) hg4 (fun q h => h)).below h1.size (fun q hq => (HOW.out.lt q hq).1)))
        clear hown4 hg4 hlie4
        go_wp2_with fail
        go_roundw
        case rel => exact ⟨k + 1, by go_num, by omega, HREL.out.1, HREL.out.2⟩
        case measure => simp [intOf]; omega
    · have hkk : ¬ (k : Int) < s.length := by omega
      have hke : s.take k = s := List.take_of_length_le (by omega)
      have HKE := Lib.hid hke
      clear hke
      go_wp2_with fail
      have hl := HL.out
      rw [HKE.out] at hl ⊢
      have hM1 := HM.out.to hb
      have h2 := HS.out.len
      have h3 := HS.out.pos
      have hi : Ints wr (.slice pu (stepTo S s c).length cu) (stepTo S s c) := by have := HOW.out.read.ints; rwa [HKE.out] at this
      refine (closed_any wr m S S.length hM1 rfl (by omega) (by omega) HS.out.fine HS.out.few _ (stepTo S s c) hi (by omega) ?_).mono ?_
      · intro v hv
        unfold stepTo at hv
        simp only [List.mem_map, List.mem_filter] at hv
        obtain ⟨n, ⟨h4, h5⟩, rfl⟩ := hv
        have h6 := HSR.out n h4
        have h7 : (at_ S n.toNat).takes ≠ [] := fun h => by rw [h] at h5; simp at h5
        have h8 := (HS.out.fine.takes _ h7).2
        omega
      rintro e w1 ⟨v, rfl, hown, hb1⟩
      have HOW1 := Lib.hid (hown.based hbs)
      have HB1 := Lib.hid (hb.trans (hb1.mono hbs))
      clear hown hb1 hl hM1 h2 h3 hi hb
      go_wp2_with fail
      go_ret
      exact ⟨_, rfl, HOW1.out, HB1.out⟩

/-- the states behind a row -/
noncomputable def runL (S : List Sta) (row : List Int) : List Int := row.foldl (fun s c => closedL S (stepTo S s c)) (closedL S [0])

theorem runL_snoc (S : List Sta) (row : List Int) (c : Int) : runL S (row ++ [c]) = closedL S (stepTo S (runL S row) c) := by simp [runL]

theorem runL_closed (S : List Sta) (row : List Int) : ∃ l, runL S row = closedL S l := by
  rcases List.eq_nil_or_concat row with rfl | ⟨r, c, rfl⟩
  · exact ⟨_, rfl⟩
  · exact ⟨_, by rw [List.concat_eq_append, runL_snoc]⟩

theorem runL_range {S : List Sta} {row : List Int} {v : Int} (h : v ∈ runL S row) : 0 ≤ v ∧ v < S.length := by
  obtain ⟨l, e⟩ := runL_closed S row
  rw [e] at h
  exact closedL_range h

theorem runL_length (S : List Sta) (row : List Int) : (runL S row).length ≤ S.length := by
  obtain ⟨l, e⟩ := runL_closed S row
  rw [e]; exact closedL_length S l

end Go.Proofs.Ytmooflmhbpckjaa
