/-
  visit, closed's closure. No condition beyond what each theorem names.
-/
import Derived.Test.YtmooflmhbpckjaaNJ
import Derived.Test.YtmooflmhbpckjaaNK
set_option linter.unusedVariables false
set_option linter.unusedSimpArgs false
namespace Go.Proofs.Ytmooflmhbpckjaa
open Go.RowKit

/-- the variables of closed: what was seen, the machine, what is told, the closure itself -/
structure VS (base sb mb ob vb m g N : Nat) (w : World) (bs : List Bool) (xs : List Int) : Prop where
  sb0 : base ≤ sb
  mb0 : base ≤ mb
  ob0 : base ≤ ob
  vb0 : base ≤ vb
  g0 : base ≤ g
  seen : w.heap[sb]? = some (.cells #[.slice (some ⟨g, 0, none⟩) N N] 61)
  mach : w.heap[mb]? = some (.cells #[.pointer (some ⟨m, 0, none⟩)] 93)
  self : w.heap[vb]? = some (.cells #[.func (.func 84) #[] #[.pointer (some ⟨sb, 0, none⟩), .pointer (some ⟨mb, 0, none⟩), .pointer (some ⟨ob, 0, none⟩), .pointer (some ⟨vb, 0, none⟩)]] 158)
  out : ∃ ov, w.heap[ob]? = some (.cells #[ov] 46) ∧ OwnL intE 3 1 base w ov xs
  row : BRow w g bs
  len : bs.length = N
  room : xs.length + bs.count false ≤ N

section
variable {base sb mb ob vb m g N : Nat} {w w' : World} {bs : List Bool} {xs : List Int}

theorem VS.below (h : VS base sb mb ob vb m g N w bs xs) (hb : Below w.heap.size w w') : VS base sb mb ob vb m g N w' bs xs := by
  obtain ⟨ov, h1, h2⟩ := h.out
  exact ⟨h.sb0, h.mb0, h.ob0, h.vb0, h.g0, (hb.block _ (at_lt h.seen)).trans h.seen, (hb.block _ (at_lt h.mach)).trans h.mach, (hb.block _ (at_lt h.self)).trans h.self,
    ⟨ov, (hb.block _ (at_lt h1)).trans h1, h2.below hb (Nat.le_refl _)⟩, h.row.below hb h.row.lt, h.len, h.room⟩

theorem cell1 {w : World} {B : Nat} {a : Value} {T : TypeId} (hb : w.heap[B]? = some (.cells #[a] T)) : w.cell? ⟨B, 0, none⟩ = some a := by simp [World.cell?, hb]

theorem ne_of {w : World} {a b : Nat} {x y : Array Value} {T U : TypeId} (h1 : w.heap[a]? = some (.cells x T)) (h2 : w.heap[b]? = some (.cells y U)) (hne : T ≠ U) : a ≠ b := fun e => by
  subst e
  rw [h1] at h2
  cases h2
  exact hne rfl

theorem VS.mark (h : VS base sb mb ob vb m g N w bs xs) {n : Nat} (hn : n < bs.length) (h0 : ¬ tr bs n) : VS base sb mb ob vb m g N (w.setCell ⟨g, n, none⟩ (.bool true)) (bs.set n true) xs := by
  obtain ⟨ov, h1, h2⟩ := h.out
  have hf : Fr (fun k => k = g) w (w.setCell ⟨g, n, none⟩ (.bool true)) := Fr.setCell (F := fun k => k = g) w rfl _
  have hr : w.heap[g]? = some (.cells (bs.map Value.bool).toArray 4 (0, 0)) := h.row
  have k1 := count_set hn h0
  have k2 := h.room
  exact ⟨h.sb0, h.mb0, h.ob0, h.vb0, h.g0, (hf.block _ (at_lt h.seen) (ne_of h.seen hr (by decide))).trans h.seen, (hf.block _ (at_lt h.mach) (ne_of h.mach hr (by decide))).trans h.mach, (hf.block _ (at_lt h.self) (ne_of h.self hr (by decide))).trans h.self,
    ⟨ov, (hf.block _ (at_lt h1) (ne_of h1 hr (by decide))).trans h1, h2.fr hf (fun k hk he => h2.notAt hr (by decide) (by rw [hk]; exact congrArg some he))⟩, h.row.set n true, by rw [List.length_set]; exact h.len, by omega⟩

/-- the list that is told was appended to, and its variable stored -/
theorem VS.told (h : VS base sb mb ob vb m g N w bs xs) {ov : Value} (ho : w.heap[ob]? = some (.cells #[ov] 46)) (hov : OwnL intE 3 1 base w ov xs) {w1 w2 : World} {u : Value} {ys : List Int} (hbw : base ≤ w.heap.size)
    (hf : Fr (fun k => ov.ownBlock = some k) w w1) (hu : OwnL intE 3 1 base w1 u ys) (h2 : w2.heap[ob]? = some (.cells #[u] 46)) (hf2 : Fr (fun k => k = ob) w1 w2) (hy : ys.length + bs.count false ≤ N) :
    VS base sb mb ob vb m g N w2 bs ys ∧ Below base w w2 := by
  have hr : w.heap[g]? = some (.cells (bs.map Value.bool).toArray 4 (0, 0)) := h.row
  have keep : ∀ {k : Nat} {cs : Array Value} {T : TypeId}, w.heap[k]? = some (.cells cs T) → T ≠ 3 → T ≠ 46 → w2.heap[k]? = some (.cells cs T) := fun {k cs T} hk hi hs =>
    have e1 := (hf.block k (at_lt hk) (hov.notAt hk (Ne.symm hi))).trans hk
    (hf2.block k (at_lt e1) (ne_of hk ho hs)).trans e1
  have ho1 := (hf.block ob (at_lt ho) (hov.notAt ho (by decide))).trans ho
  refine ⟨⟨h.sb0, h.mb0, h.ob0, h.vb0, h.g0, keep h.seen (by decide) (by decide), keep h.mach (by decide) (by decide), keep h.self (by decide) (by decide), ⟨u, h2, hu.fr hf2 (fun k hk he => hu.notAt ho1 (by decide) (by rw [hk]; exact congrArg some he))⟩, keep hr (by decide) (by decide), h.len, hy⟩, ?_⟩
  have b1 : Below base w w1 := hf.below hbw (fun k hk => (hov.lt k hk).1)
  exact b1.trans (hf2.below (Nat.le_trans hbw b1.size) (fun k hk => by have hk : k = ob := hk; have := h.ob0; omega))
end

def VisitPost (base sb mb ob vb m g N : Nat) (S : List Sta) (roots : Nat → Prop) (w : World) (bs : List Bool) (xs : List Int) (e : Ending) (w' : World) : Prop :=
  e = .returned (.tuple #[]) ∧ ∃ bs' xs', VS base sb mb ob vb m g N w' bs' xs' ∧ Vis S roots bs xs bs' xs' ∧ Below base w w'

def VisitAt (w0 : World) (sb mb ob vb m g N : Nat) (S : List Sta) (u : Nat) : Prop := ∀ (w : World) (bs : List Bool) (xs : List Int) (n : Nat), VS w0.heap.size sb mb ob vb m g N w bs xs → Below w0.heap.size w0 w → n < N → bs.count false ≤ u →
  Calls Try.prog 84 #[.int .i64 n, .pointer (some ⟨sb, 0, none⟩), .pointer (some ⟨mb, 0, none⟩), .pointer (some ⟨ob, 0, none⟩), .pointer (some ⟨vb, 0, none⟩)] w (VisitPost w0.heap.size sb mb ob vb m g N S (fun r => r = n) w bs xs)

/-- what a machine's state reads as, by its cells -/
theorem MachR.get {w : World} {m : Nat} {S : List Sta} (h : MachR w m S) : ∃ p c, w.cell? ⟨m, 0, none⟩ = some (.slice p S.length c) ∧ S.length ≤ c ∧ w.cell? ⟨m, 1, none⟩ = some (.int .i64 0) ∧ w.cell? ⟨m, 2, none⟩ = some (.int .i64 1) ∧ m < w.heap.size ∧
    (0 < S.length → ∃ b off, p = some ⟨b, off, none⟩ ∧ b < w.heap.size ∧ ∀ i (hi : i < S.length), ∃ fv tv, w.cell? ⟨b, off + i * 3, none⟩ = some fv ∧ w.cell? ⟨b, off + i * 3 + 1, none⟩ = some (.bool S[i].set) ∧ w.cell? ⟨b, off + i * 3 + 2, none⟩ = some tv ∧ Ints w fv S[i].free ∧ Ints w tv S[i].takes) := by
  obtain ⟨lv, h1, h2⟩ := h
  obtain ⟨p, c, rfl, h3, h4⟩ := h2.get (by omega)
  obtain ⟨c0, c1, c2⟩ := cells3 h1
  refine ⟨p, c, c0, h3, c1, c2, at_lt h1, fun h0 => ?_⟩
  obtain ⟨b, off, rfl, h5, h6⟩ := h4 h0
  refine ⟨b, off, rfl, h5, fun i hi => ?_⟩
  obtain ⟨row, h7, fv, tv, rfl, h8, h9⟩ := h6 i hi
  exact ⟨fv, tv, h7 0 _ rfl, h7 1 _ rfl, h7 2 _ rfl, h8, h9⟩

theorem at_get {S : List Sta} {i : Nat} (h : i < S.length) : at_ S i = S[i] := by simp [at_, h]
set_option maxRecDepth 100000 in
set_option maxHeartbeats 4000000 in
theorem visit_step (w0 : World) (sb mb ob vb m g N : Nat) (S : List Sta) (hM : MachR w0 m S) (hN : S.length = N) (hN2 : N ≤ 100000) (hS : Fine S N) (hfl : ∀ i, (at_ S i).free.length ≤ 100000) (u : Nat) (ih : ∀ v, v < u → VisitAt w0 sb mb ob vb m g N S v) : VisitAt w0 sb mb ob vb m g N S u := by
  intro w bs xs n hv hb hn hu
  have IH := Lib.hid ih
  have HV := Lib.hid hv
  have HB := Lib.hid hb
  have HS := Lib.hid hS
  have HNN := Lib.hid hN
  have HFL := Lib.hid (hfl n)
  have hlen := hv.len
  have HLE := Lib.hid hlen
  obtain ⟨ov, hov1, hov2⟩ := hv.out
  have HOV1 := Lib.hid hov1
  have HOV2 := Lib.hid hov2
  obtain ⟨pl, cl, m0, mc, m1, m2, mlt, mx⟩ := hM.get
  rw [hN] at m0 mc
  obtain ⟨bl, offl, rfl, bllt, mx⟩ := mx (by omega)
  obtain ⟨fv, tv, l0, l1, l2, hfv, htv⟩ := mx n (by omega)
  have hat := at_get (S := S) (i := n) (by omega)
  rw [← hat] at l1 hfv htv
  have HFV := Lib.hid hfv
  obtain ⟨pf, cf, rfl, hcf, hxf⟩ := hfv.get
  have HXF := Lib.hid hxf
  -- as they read now
  have k0 := cell_below hb mlt m0
  have k2 := cell_below hb mlt m2
  have kl0 := cell_below hb bllt l0
  have kl1 := cell_below hb bllt l1
  have s0 : w.cell? ⟨sb, 0, none⟩ = some (.slice (some ⟨g, 0, none⟩) N N) := by simp [World.cell?, hv.seen]
  have s1 : w.cell? ⟨mb, 0, none⟩ = some (.pointer (some ⟨m, 0, none⟩)) := by simp [World.cell?, hv.mach]
  have n0 : (0 : Int) ≤ n := by omega
  have n1 : (n : Int) < N := by omega
  have hnb : n < bs.length := by omega
  have hbw : w0.heap.size ≤ w.heap.size := hb.size
  have HBW := Lib.hid hbw
  have c0 := hv.row.cell hnb
  have f0 := hv.row.frozen n
  have HM0 := Lib.hid m0
  have HM2 := Lib.hid m2
  have HL0 := Lib.hid l0
  have HL1 := Lib.hid l1
  clear ih hv hb hS hN hfl hlen hov1 hov2 m0 m1 m2 mx l0 l1 l2 hfv htv hat hxf hM
  cases hbn : bs[n]
  · rw [hbn] at c0
    have HUN := Lib.hid (not_tr hnb hbn)
    have HCS := Lib.hid (count_set hnb (not_tr hnb hbn))
    clear hbn
    go_enter Try.func84, Try.ntmps84
    go_upto_region 2 with fail
    refine abs_wp fun W1 hW1 => ?_
    have HV1 := Lib.hid (show VS w0.heap.size sb mb ob vb m g N W1 (bs.set n true) xs by rw [hW1]; exact HV.out.mark hnb HUN.out)
    have HB1 := Lib.hid (show Below w0.heap.size w W1 by
      rw [hW1]; exact (Fr.setCell (F := fun k => k = g) w rfl _).below HBW.out (fun k hk => by have hk : k = g := hk; have := HV.out.g0; omega))
    clear hW1 c0 f0 k0 k2 kl0 kl1 s0 s1
    have hb1 := HB.out.trans HB1.out
    have HBB1 := Lib.hid hb1
    have HBW1 := Lib.hid hb1.size
    have k0 := cell_below hb1 mlt HM0.out
    have k2 := cell_below hb1 mlt HM2.out
    have kl0 := cell_below hb1 bllt HL0.out
    have kl1 := cell_below hb1 bllt HL1.out
    have s0 : W1.cell? ⟨sb, 0, none⟩ = some (.slice (some ⟨g, 0, none⟩) N N) := by simp [World.cell?, HV1.out.seen]
    have s1 : W1.cell? ⟨mb, 0, none⟩ = some (.pointer (some ⟨m, 0, none⟩)) := by simp [World.cell?, HV1.out.mach]
    have s4 : W1.cell? ⟨vb, 0, none⟩ = some (.func (.func 84) #[] #[.pointer (some ⟨sb, 0, none⟩), .pointer (some ⟨mb, 0, none⟩), .pointer (some ⟨ob, 0, none⟩), .pointer (some ⟨vb, 0, none⟩)]) := by simp [World.cell?, HV1.out.self]
    obtain ⟨ov1, hov1, hov2⟩ := HV1.out.out
    obtain ⟨po, co, rfl⟩ := hov2.form
    have s3 : W1.cell? ⟨ob, 0, none⟩ = some (.slice po xs.length co) := by simp [World.cell?, hov1]
    have HO1 := Lib.hid hov1
    have HO2 := Lib.hid hov2
    have HROOM := Lib.hid HV1.out.room
    have HROOM0 := Lib.hid HV.out.room
    clear hb1 hov1 hov2
    cases hset : (at_ S n).set
    · rw [hset] at kl1
      have HSET := Lib.hid hset
      clear hset
      by_cases h1 : n = 1
      · have h1' : ((n : Int) == 1) = true := by simp; omega
        have HCORE := Lib.hid (show core S n from .inr h1)
        clear h1
        have hap := below_alloc1 W1 (.cells #[.int .i64 n] 3)
        have HNEW := Lib.hid (ReadL.one (E := intE) (sz := 1) W1 3 (n : Int) [.int .i64 n] (by simp [Value.oneCell']) rfl)
        go_upto_region 4 with (refine wpList_append_ints rfl (.tmp 31) (.tmp 33) rfl (.slice po xs.length co) xs rfl (base := w0.heap.size) (HO2.out.below hap (Nat.le_refl _)) _ [(n : Int)] rfl (HNEW.out) (by have := HROOM.out; simp; omega) (Nat.le_trans HBW1.out hap.size) ?_; intro p1 c1 w4 hown4 hg4 hlie4; rw [List.length_singleton] at hown4 ⊢; have HF4 := Lib.hid (((Fr.of_below hap (fun k => (Value.slice po xs.length co).ownBlock = some k)).trans (Fr.grown (F := fun k => (Value.slice po xs.length co).ownBlock = some k) hg4 (fun k h => h)) (fun _ _ h => h))); have HOB4 := Lib.hid ((HF4.out.block ob (at_lt HO1.out) (HO2.out.notAt HO1.out (by decide))).trans HO1.out); have HOW4 := Lib.hid hown4; have z4 := (cell1 HOB4.out); have y4 := fz_at HOB4.out 0; clear hown4 hg4 hlie4)
        refine abs_wp fun W2 hW2 => ?_
        have htold := HV1.out.told HO1.out HO2.out HBW1.out HF4.out HOW4.out (w2 := W2) (by rw [hW2]; have h := blk_set HOB4.out 0 (.slice p1 (xs.length + 1) c1); exact h) (by rw [hW2]; exact Fr.setCell (F := fun k => k = ob) w4 rfl _) (by have h1 := HROOM.out; have h2 := HCS.out; have h3 := HROOM0.out; simp only [List.length_append, List.length_singleton]; omega)
        have HV2 := Lib.hid htold.1
        have HB12 := Lib.hid htold.2
        have hbb2 := HBB1.out.trans htold.2
        have HBB2 := Lib.hid hbb2
        clear hW2 htold z4 y4 s0 s1 s3 s4 k0 k2 kl0 kl1 hap
        have k0 := cell_below hbb2 mlt HM0.out
        have kl0 := cell_below hbb2 bllt HL0.out
        have s1 : W2.cell? ⟨mb, 0, none⟩ = some (.pointer (some ⟨m, 0, none⟩)) := by simp [World.cell?, HV2.out.mach]
        clear hbb2
        go_wp2_with fail
        have HFF := Lib.hid (HS.out.free n)
        have hflb := HFL.out
        have HV2L := Lib.hid (show Vis S (fun r => (r : Int) ∈ (at_ S n).free.take 0) (bs.set n true) (xs ++ [(n : Int)]) (bs.set n true) (xs ++ [(n : Int)]) from (Vis.nil S _ _).mono (fun r => by simp))
        have HCNT := Lib.hid HCS.out
        go_loopw [44] (fun i wr => ∃ (k : Nat) (b2 : List Bool) (x2 : List Int), i = .int .i64 k ∧ k ≤ (at_ S n).free.length ∧ VS w0.heap.size sb mb ob vb m g N wr b2 x2 ∧ Vis S (fun r => (r : Int) ∈ (at_ S n).free.take k) (bs.set n true) (xs ++ [(n : Int)]) b2 x2 ∧ Below w0.heap.size W2 wr) (fun i _ => (at_ S n).free.length - (intOf i).toNat)
        case atStart => exact ⟨0, _, _, rfl, by omega, HV2.out, HV2L.out, Below.refl _ _⟩
        case round =>
          obtain ⟨k, b2, x2, rfl, h1, hvk, hvis, hbk⟩ := hrel
          have s4 : wr.cell? ⟨vb, 0, none⟩ = some (.func (.func 84) #[] #[.pointer (some ⟨sb, 0, none⟩), .pointer (some ⟨mb, 0, none⟩), .pointer (some ⟨ob, 0, none⟩), .pointer (some ⟨vb, 0, none⟩)]) := by simp [World.cell?, hvk.self]
          have HVk := Lib.hid hvk
          have HVIS := Lib.hid hvis
          have HBk := Lib.hid hbk
          have hbr := (HBB2.out).trans hbk
          have HBR := Lib.hid hbr
          clear hvk hvis hbk
          by_cases hk : k < (at_ S n).free.length
          · obtain ⟨bb, off, rfl, hbl, hxx⟩ := HXF.out (by omega)
            have c0 := cell_below hbr hbl (hxx k hk)
            obtain ⟨v, hve⟩ : ∃ v, v = (at_ S n).free[k] := ⟨_, rfl⟩
            have hvr := HFF.out v (by rw [hve]; exact List.getElem_mem hk)
            obtain ⟨j, rfl⟩ : ∃ j : Nat, v = j := ⟨v.toNat, by omega⟩
            rw [← hve] at c0
            have HVE := Lib.hid hve
            have hkk : (k : Int) < (at_ S n).free.length := by omega
            have hk0 : (0 : Int) ≤ k := by omega
            have HCALL := Lib.hid (IH.out (b2.count false) (by have h1 := count_grow HVIS.out.len HVIS.out.grow; have := HCNT.out; omega) wr b2 x2 j HVk.out HBR.out (by omega) (Nat.le_refl _))
            clear hxx hve hvr hbr
            go_wp2_with fail
            refine HCALL.out.mono ?_
            rintro e w3 ⟨rfl, b3, x3, hv3, hvis3, hb3⟩
            have HREL := Lib.hid (show VS w0.heap.size sb mb ob vb m g N w3 b3 x3 ∧ Vis S (fun r => (r : Int) ∈ (at_ S n).free.take (k + 1)) (bs.set n true) (xs ++ [(n : Int)]) b3 x3 ∧ Below w0.heap.size W2 w3 from
              ⟨hv3, (HVIS.out.trans hvis3).mono (fun r => by
                rw [List.take_succ_eq_append_getElem hk, List.mem_append, List.mem_singleton, ← HVE.out]
                constructor
                · rintro (h | h)
                  · exact .inl h
                  · exact .inr (by rw [h])
                · rintro (h | h)
                  · exact .inl h
                  · exact .inr (by omega)), HBk.out.trans hb3⟩)
            clear hv3 hvis3 hb3 s4 c0
            go_wp2_with fail
            go_roundw
            case rel => exact ⟨k + 1, b3, x3, by go_num, by omega, HREL.out.1, HREL.out.2.1, HREL.out.2.2⟩
            case measure => simp [intOf]; omega
          · have hkk : ¬ (k : Int) < (at_ S n).free.length := by omega
            have hke : (at_ S n).free.take k = (at_ S n).free := List.take_of_length_le (by omega)
            have HKE := Lib.hid hke
            clear hke hbr
            go_wp2_with fail
            go_end0
            refine ⟨rfl, b2, x2, HVk.out, Vis.node (by omega) HUN.out [(n : Int)] (by rw [if_pos HCORE.out]) ?_, (HB1.out.trans HB12.out).trans HBk.out⟩
            have h := HVIS.out
            rw [HKE.out] at h
            skip
            exact h
      · have h1' : ((n : Int) == 1) = false := by simp; omega
        have HCORE := Lib.hid (show ¬ core S n from fun h => by
          rcases h with h | h
          · rw [HSET.out] at h; cases h
          · exact h1 h)
        clear h1
        have HV2 := HV1
        have HB12 := Lib.hid (Below.refl w0.heap.size W1)
        have HBB2 := HBB1
        go_wp2_with fail
        have HFF := Lib.hid (HS.out.free n)
        have hflb := HFL.out
        have HV2L := Lib.hid (show Vis S (fun r => (r : Int) ∈ (at_ S n).free.take 0) (bs.set n true) xs (bs.set n true) xs from (Vis.nil S _ _).mono (fun r => by simp))
        have HCNT := Lib.hid HCS.out
        go_loopw [44] (fun i wr => ∃ (k : Nat) (b2 : List Bool) (x2 : List Int), i = .int .i64 k ∧ k ≤ (at_ S n).free.length ∧ VS w0.heap.size sb mb ob vb m g N wr b2 x2 ∧ Vis S (fun r => (r : Int) ∈ (at_ S n).free.take k) (bs.set n true) xs b2 x2 ∧ Below w0.heap.size W1 wr) (fun i _ => (at_ S n).free.length - (intOf i).toNat)
        case atStart => exact ⟨0, _, _, rfl, by omega, HV2.out, HV2L.out, Below.refl _ _⟩
        case round =>
          obtain ⟨k, b2, x2, rfl, h1, hvk, hvis, hbk⟩ := hrel
          have s4 : wr.cell? ⟨vb, 0, none⟩ = some (.func (.func 84) #[] #[.pointer (some ⟨sb, 0, none⟩), .pointer (some ⟨mb, 0, none⟩), .pointer (some ⟨ob, 0, none⟩), .pointer (some ⟨vb, 0, none⟩)]) := by simp [World.cell?, hvk.self]
          have HVk := Lib.hid hvk
          have HVIS := Lib.hid hvis
          have HBk := Lib.hid hbk
          have hbr := (HBB2.out).trans hbk
          have HBR := Lib.hid hbr
          clear hvk hvis hbk
          by_cases hk : k < (at_ S n).free.length
          · obtain ⟨bb, off, rfl, hbl, hxx⟩ := HXF.out (by omega)
            have c0 := cell_below hbr hbl (hxx k hk)
            obtain ⟨v, hve⟩ : ∃ v, v = (at_ S n).free[k] := ⟨_, rfl⟩
            have hvr := HFF.out v (by rw [hve]; exact List.getElem_mem hk)
            obtain ⟨j, rfl⟩ : ∃ j : Nat, v = j := ⟨v.toNat, by omega⟩
            rw [← hve] at c0
            have HVE := Lib.hid hve
            have hkk : (k : Int) < (at_ S n).free.length := by omega
            have hk0 : (0 : Int) ≤ k := by omega
            have HCALL := Lib.hid (IH.out (b2.count false) (by have h1 := count_grow HVIS.out.len HVIS.out.grow; have := HCNT.out; omega) wr b2 x2 j HVk.out HBR.out (by omega) (Nat.le_refl _))
            clear hxx hve hvr hbr
            go_wp2_with fail
            refine HCALL.out.mono ?_
            rintro e w3 ⟨rfl, b3, x3, hv3, hvis3, hb3⟩
            have HREL := Lib.hid (show VS w0.heap.size sb mb ob vb m g N w3 b3 x3 ∧ Vis S (fun r => (r : Int) ∈ (at_ S n).free.take (k + 1)) (bs.set n true) xs b3 x3 ∧ Below w0.heap.size W1 w3 from
              ⟨hv3, (HVIS.out.trans hvis3).mono (fun r => by
                rw [List.take_succ_eq_append_getElem hk, List.mem_append, List.mem_singleton, ← HVE.out]
                constructor
                · rintro (h | h)
                  · exact .inl h
                  · exact .inr (by rw [h])
                · rintro (h | h)
                  · exact .inl h
                  · exact .inr (by omega)), HBk.out.trans hb3⟩)
            clear hv3 hvis3 hb3 s4 c0
            go_wp2_with fail
            go_roundw
            case rel => exact ⟨k + 1, b3, x3, by go_num, by omega, HREL.out.1, HREL.out.2.1, HREL.out.2.2⟩
            case measure => simp [intOf]; omega
          · have hkk : ¬ (k : Int) < (at_ S n).free.length := by omega
            have hke : (at_ S n).free.take k = (at_ S n).free := List.take_of_length_le (by omega)
            have HKE := Lib.hid hke
            clear hke hbr
            go_wp2_with fail
            go_end0
            refine ⟨rfl, b2, x2, HVk.out, Vis.node (by omega) HUN.out [] (by rw [if_neg HCORE.out]) ?_, (HB1.out.trans HB12.out).trans HBk.out⟩
            have h := HVIS.out
            rw [HKE.out] at h
            rw [List.append_nil]
            exact h
    · rw [hset] at kl1
      have HCORE := Lib.hid (show core S n from .inl hset)
      clear hset
      have hap := below_alloc1 W1 (.cells #[.int .i64 n] 3)
      have HNEW := Lib.hid (ReadL.one (E := intE) (sz := 1) W1 3 (n : Int) [.int .i64 n] (by simp [Value.oneCell']) rfl)
      go_upto_region 4 with (refine wpList_append_ints rfl (.tmp 31) (.tmp 33) rfl (.slice po xs.length co) xs rfl (base := w0.heap.size) (HO2.out.below hap (Nat.le_refl _)) _ [(n : Int)] rfl (HNEW.out) (by have := HROOM.out; simp; omega) (Nat.le_trans HBW1.out hap.size) ?_; intro p1 c1 w4 hown4 hg4 hlie4; rw [List.length_singleton] at hown4 ⊢; have HF4 := Lib.hid (((Fr.of_below hap (fun k => (Value.slice po xs.length co).ownBlock = some k)).trans (Fr.grown (F := fun k => (Value.slice po xs.length co).ownBlock = some k) hg4 (fun k h => h)) (fun _ _ h => h))); have HOB4 := Lib.hid ((HF4.out.block ob (at_lt HO1.out) (HO2.out.notAt HO1.out (by decide))).trans HO1.out); have HOW4 := Lib.hid hown4; have z4 := (cell1 HOB4.out); have y4 := fz_at HOB4.out 0; clear hown4 hg4 hlie4)
      refine abs_wp fun W2 hW2 => ?_
      have htold := HV1.out.told HO1.out HO2.out HBW1.out HF4.out HOW4.out (w2 := W2) (by rw [hW2]; have h := blk_set HOB4.out 0 (.slice p1 (xs.length + 1) c1); exact h) (by rw [hW2]; exact Fr.setCell (F := fun k => k = ob) w4 rfl _) (by have h1 := HROOM.out; have h2 := HCS.out; have h3 := HROOM0.out; simp only [List.length_append, List.length_singleton]; omega)
      have HV2 := Lib.hid htold.1
      have HB12 := Lib.hid htold.2
      have hbb2 := HBB1.out.trans htold.2
      have HBB2 := Lib.hid hbb2
      clear hW2 htold z4 y4 s0 s1 s3 s4 k0 k2 kl0 kl1 hap
      have k0 := cell_below hbb2 mlt HM0.out
      have kl0 := cell_below hbb2 bllt HL0.out
      have s1 : W2.cell? ⟨mb, 0, none⟩ = some (.pointer (some ⟨m, 0, none⟩)) := by simp [World.cell?, HV2.out.mach]
      clear hbb2
      go_wp2_with fail
      have HFF := Lib.hid (HS.out.free n)
      have hflb := HFL.out
      have HV2L := Lib.hid (show Vis S (fun r => (r : Int) ∈ (at_ S n).free.take 0) (bs.set n true) (xs ++ [(n : Int)]) (bs.set n true) (xs ++ [(n : Int)]) from (Vis.nil S _ _).mono (fun r => by simp))
      have HCNT := Lib.hid HCS.out
      go_loopw [44] (fun i wr => ∃ (k : Nat) (b2 : List Bool) (x2 : List Int), i = .int .i64 k ∧ k ≤ (at_ S n).free.length ∧ VS w0.heap.size sb mb ob vb m g N wr b2 x2 ∧ Vis S (fun r => (r : Int) ∈ (at_ S n).free.take k) (bs.set n true) (xs ++ [(n : Int)]) b2 x2 ∧ Below w0.heap.size W2 wr) (fun i _ => (at_ S n).free.length - (intOf i).toNat)
      case atStart => exact ⟨0, _, _, rfl, by omega, HV2.out, HV2L.out, Below.refl _ _⟩
      case round =>
        obtain ⟨k, b2, x2, rfl, h1, hvk, hvis, hbk⟩ := hrel
        have s4 : wr.cell? ⟨vb, 0, none⟩ = some (.func (.func 84) #[] #[.pointer (some ⟨sb, 0, none⟩), .pointer (some ⟨mb, 0, none⟩), .pointer (some ⟨ob, 0, none⟩), .pointer (some ⟨vb, 0, none⟩)]) := by simp [World.cell?, hvk.self]
        have HVk := Lib.hid hvk
        have HVIS := Lib.hid hvis
        have HBk := Lib.hid hbk
        have hbr := (HBB2.out).trans hbk
        have HBR := Lib.hid hbr
        clear hvk hvis hbk
        by_cases hk : k < (at_ S n).free.length
        · obtain ⟨bb, off, rfl, hbl, hxx⟩ := HXF.out (by omega)
          have c0 := cell_below hbr hbl (hxx k hk)
          obtain ⟨v, hve⟩ : ∃ v, v = (at_ S n).free[k] := ⟨_, rfl⟩
          have hvr := HFF.out v (by rw [hve]; exact List.getElem_mem hk)
          obtain ⟨j, rfl⟩ : ∃ j : Nat, v = j := ⟨v.toNat, by omega⟩
          rw [← hve] at c0
          have HVE := Lib.hid hve
          have hkk : (k : Int) < (at_ S n).free.length := by omega
          have hk0 : (0 : Int) ≤ k := by omega
          have HCALL := Lib.hid (IH.out (b2.count false) (by have h1 := count_grow HVIS.out.len HVIS.out.grow; have := HCNT.out; omega) wr b2 x2 j HVk.out HBR.out (by omega) (Nat.le_refl _))
          clear hxx hve hvr hbr
          go_wp2_with fail
          refine HCALL.out.mono ?_
          rintro e w3 ⟨rfl, b3, x3, hv3, hvis3, hb3⟩
          have HREL := Lib.hid (show VS w0.heap.size sb mb ob vb m g N w3 b3 x3 ∧ Vis S (fun r => (r : Int) ∈ (at_ S n).free.take (k + 1)) (bs.set n true) (xs ++ [(n : Int)]) b3 x3 ∧ Below w0.heap.size W2 w3 from
            ⟨hv3, (HVIS.out.trans hvis3).mono (fun r => by
              rw [List.take_succ_eq_append_getElem hk, List.mem_append, List.mem_singleton, ← HVE.out]
              constructor
              · rintro (h | h)
                · exact .inl h
                · exact .inr (by rw [h])
              · rintro (h | h)
                · exact .inl h
                · exact .inr (by omega)), HBk.out.trans hb3⟩)
          clear hv3 hvis3 hb3 s4 c0
          go_wp2_with fail
          go_roundw
          case rel => exact ⟨k + 1, b3, x3, by go_num, by omega, HREL.out.1, HREL.out.2.1, HREL.out.2.2⟩
          case measure => simp [intOf]; omega
        · have hkk : ¬ (k : Int) < (at_ S n).free.length := by omega
          have hke : (at_ S n).free.take k = (at_ S n).free := List.take_of_length_le (by omega)
          have HKE := Lib.hid hke
          clear hke hbr
          go_wp2_with fail
          go_end0
          refine ⟨rfl, b2, x2, HVk.out, Vis.node (by omega) HUN.out [(n : Int)] (by rw [if_pos HCORE.out]) ?_, (HB1.out.trans HB12.out).trans HBk.out⟩
          have h := HVIS.out
          rw [HKE.out] at h
          skip
          exact h
  · rw [hbn] at c0
    have HSEEN := Lib.hid (is_tr hnb hbn)
    clear hbn
    go_enter Try.func84, Try.ntmps84
    go_wp2_with fail
    refine bodyPost_ret (results_none rfl _ _ _) rfl ?_
    exact ⟨rfl, bs, xs, HV.out, Vis.seen HSEEN.out, Below.refl _ _⟩
end Go.Proofs.Ytmooflmhbpckjaa
