/-
  NfaSets: a set is one or the other of its classes. No condition beyond what each theorem names.
-/
import Derived.Test.YtodkeiadaodehaaNU
import Derived.Test.YtodkeiadaodehaaNY
set_option linter.unusedVariables false
set_option linter.unusedSimpArgs false
namespace Go.Proofs.Ytodkeiadaodehaa
open Go.RowKit

def bitB (mask : Int) (k : Nat) : Bool := bits .and .i64 (mask / 2 ^ k) 1 == 1

/-- the classes that are taken, up to the k-th one -/
def clsTo (mask : Int) (k : Nat) : List Int := ((List.range k).filter (bitB mask)).map Int.ofNat

theorem clsTo_succ (mask : Int) (k : Nat) : clsTo mask (k + 1) = clsTo mask k ++ (if bitB mask k then [(k : Int)] else []) := by
  unfold clsTo
  rw [List.range_succ, List.filter_append, List.map_append]
  congr 1
  simp only [List.filter_cons, List.filter_nil]
  split <;> simp

theorem clsTo_len (mask : Int) (k : Nat) : (clsTo mask k).length ≤ k := by
  unfold clsTo
  rw [List.length_map]
  exact Nat.le_trans (List.length_filter_le _ _) (by simp)

theorem mem_clsTo {mask : Int} {k : Nat} {c : Int} : c ∈ clsTo mask k ↔ ∃ j : Nat, c = j ∧ j < k ∧ bitB mask j = true := by
  unfold clsTo
  simp only [List.mem_map, List.mem_filter, List.mem_range]
  constructor
  · rintro ⟨j, ⟨h1, h2⟩, rfl⟩; exact ⟨j, rfl, h1, h2⟩
  · rintro ⟨j, rfl, h1, h2⟩; exact ⟨j, ⟨h1, h2⟩, rfl⟩

theorem clsTo_rising (mask : Int) : rising (clsTo mask 24) := by
  intro i hi
  have hm := List.getElem_mem hi
  obtain ⟨j, hj, h1, -⟩ := mem_clsTo.1 hm
  refine ⟨by omega, by omega, fun h0 => ?_⟩
  have hp : (clsTo mask 24).Pairwise (· < ·) := by
    unfold clsTo
    rw [List.pairwise_map]
    refine List.Pairwise.filter _ ?_
    exact (List.pairwise_lt_range (n := 24)).imp (fun h => by simpa using h)
  exact (List.pairwise_iff_getElem.1 hp) (i - 1) i (by omega) hi (by omega)

def partsOf (l : List Int) : List Nd := l.map fun c => .mk 1 [c] []

theorem right_set (mask : Int) : RightX (.mk 1 (clsTo mask 24) []) := by
  refine ⟨?_, by simp [cnt, cntL]⟩
  unfold Wf
  exact ⟨by omega, by omega, by simp, by simp, by simp, clsTo_rising mask, by simp [WfL]⟩

theorem cntL_parts : ∀ (l : List Int), cntL (partsOf l) = l.length
  | [] => by simp [partsOf, cntL]
  | c :: r => by
    have := cntL_parts r
    simp only [partsOf, List.map_cons, cntL, cnt, List.length_cons] at *
    omega

theorem right_alts (mask : Int) : RightX (.mk 3 [] (partsOf (clsTo mask 24))) := by
  refine ⟨?_, by simp only [cnt, cntL_parts]; have := clsTo_len mask 24; omega⟩
  unfold Wf
  refine ⟨by omega, by omega, by simp, by simp, by simp, rising_nil, ?_⟩
  rw [WfL_iff]
  intro x hx
  obtain ⟨c, hc, rfl⟩ := List.mem_map.1 hx
  obtain ⟨j, rfl, h1, -⟩ := mem_clsTo.1 hc
  unfold Wf
  exact ⟨by omega, by omega, by simp, by simp, by simp, rising_one _ (by omega) (by omega), by simp [WfL]⟩

theorem fit_set {cls row : List Int} : fitB (.mk 1 cls []) row = true ↔ ∃ c, row = [c] ∧ c ∈ cls := by
  rw [fitB_iff, M_1]
  unfold one
  constructor
  · rintro ⟨h1, c, h2, h3⟩
    match row, h1, h2 with
    | [d], _, h2 =>
      simp at h2
      exact ⟨c, by rw [h2], h3⟩
  · rintro ⟨c, rfl, h⟩
    exact ⟨rfl, c, rfl, h⟩

theorem fit_alts {cls row : List Int} : fitB (.mk 3 [] (partsOf cls)) row = true ↔ ∃ c, row = [c] ∧ c ∈ cls := by
  rw [fitB_iff, M_3, Malt_mem]
  constructor
  · rintro ⟨x, hx, h⟩
    obtain ⟨c, hc, rfl⟩ := List.mem_map.1 hx
    obtain ⟨d, h1, h2⟩ := fit_set.1 (fitB_iff.2 h)
    exact ⟨d, h1, by rw [List.mem_singleton.1 h2]; exact hc⟩
  · rintro ⟨c, h1, h2⟩
    exact ⟨.mk 1 [c] [], List.mem_map.2 ⟨c, h2, rfl⟩, fitB_iff.1 (fit_set.2 ⟨c, h1, by simp⟩)⟩

theorem set_any2 (w : World) (c : Int) : Calls Try.prog 20 #[.int .i64 c] w fun e w' =>
    ∃ g, e = .returned (.agg #[.int .i64 1, .slice (some ⟨g, 0, none⟩) 1 1, .slice none 0 0]) ∧ NodeF (fun k => w.heap.size ≤ k) w' (.mk 1 [c] []) (.int .i64 1) (.slice (some ⟨g, 0, none⟩) 1 1) (.slice none 0 0) ∧ Below w.heap.size w w' := by
  go_enter Try.func20, Try.ntmps20
  go_wp2
  refine bodyPost_ret (v := .agg #[.int .i64 1, .slice (some ⟨w.heap.size + 1, 0, none⟩) 1 1, .slice none 0 0]) (by simp [results, Try.results20, go_sem]) rfl ⟨_, rfl, ?_, ?_⟩
  · rw [nodeF_iff]
    refine ⟨rfl, ⟨some ⟨w.heap.size + 1, 0, none⟩, 1, rfl, by simp, fun _ => ⟨_, _, rfl, fun j u hu => ?_⟩⟩, (fun _ k hk => by simp [Value.ownBlock] at hk; omega), by unfold R; simp, by unfold R; simp, [], ⟨by simp, none, 0, rfl, by simp, fun h => by simp at h⟩, (fun _ k hk => by cases hk), rfl, fun i h => by simp at h⟩
    match j, hu with
    | 0, hu =>
      simp at hu
      subst hu
      simp
    | j + 1, hu => simp at hu
  · exact (((Below.refl _ _).alloc (Nat.le_refl _) _).alloc (by simp) _)

/-- what the loop holds: a set with its classes, and their parts -/
structure SV (b0 O A : Nat) (w : World) (mask : Int) (k : Nat) : Prop where
  ex : ∃ ov pv : Value, w.heap[O]? = some (.cells #[.int .i64 1, ov, .slice none 0 0] 25) ∧ w.heap[A]? = some (.cells #[.int .i64 3, .slice none 0 0, pv] 25) ∧ OwnL intE 3 1 b0 w ov (clsTo mask k) ∧
    OwnL (nodeE (fun q => b0 ≤ q ∧ q < w.heap.size ∧ pv.ownBlock ≠ some q ∧ ov.ownBlock ≠ some q) w) 25 3 b0 w pv (partsOf (clsTo mask k))

theorem alloc2'' (w : World) (o1 o2 : Obj) (W : World) (hW : W = (w.alloc o1).alloc o2) : Below w.heap.size w W ∧ W.heap[w.heap.size]? = some o1 ∧ W.heap[w.heap.size + 1]? = some o2 := by
  have s1 : (w.alloc o1).heap.size = w.heap.size + 1 := by simp
  have b1 := below_alloc1 w o1
  have b2 := below_alloc1 (w.alloc o1) o2
  subst hW
  refine ⟨b1.trans (b2.mono (by omega)), ?_, ?_⟩
  · rw [b2.block _ (by omega)]; exact heap_alloc_new _ _
  · rw [← s1]; exact heap_alloc_new _ _

set_option maxRecDepth 100000 in
set_option maxHeartbeats 16000000 in
theorem sets_law (w : World) (mask : Int) (v : Value) (t : List Int) (hv : Ints w v t) (hn : t.length ≤ 9223372036854775807) :
    Calls Try.prog 6 #[.int .i64 mask, v] w (Says true w) := by
  obtain ⟨pt, ct, rfl, hct, hxt⟩ := hv.get
  have HV := Lib.hid hv
  clear hv hxt
  go_enter Try.func6, Try.ntmps6
  go_wp2_with fail
  refine (shown_any w).mono ?_
  rintro e w1 ⟨rfl, hb1⟩
  have HB1 := Lib.hid hb1
  clear hb1
  obtain ⟨row, hrow⟩ : ∃ row, row = t.take 5 := ⟨_, rfl⟩
  have hrl : row.length = min t.length 5 := by rw [hrow, List.length_take, Nat.min_comm]
  go_upto_region 2 with fail
  go_cut [1] (fun rv wx => Ints w rv row ∧ wx = w1)
  case first =>
    cases pt with
    | none =>
      have h0 : t = [] := by
        obtain ⟨p', c', he, -, hx⟩ := HV.out
        injection he with he1 he2 he3
        subst he1
        cases t with
        | nil => rfl
        | cons x r => obtain ⟨b, off, e, -⟩ := hx (by simp); cases e
      subst h0
      have HI := Lib.hid (show Ints w (.slice none 0 ct) row by rw [hrow]; exact HV.out)
      clear hrow hrl
      go_wp2_with fail
      go_meet
      case rel => exact ⟨HI.out, rfl⟩
    | some ad =>
      by_cases h40 : t.length ≤ 5
      · have h41 : ¬ (5 : Int) < t.length := by omega
        have HI := Lib.hid (show Ints w (.slice (some ad) (min (t.length : Int) 5).toNat ct) row by rw [hrow, List.take_of_length_le h40, show (min (t.length : Int) 5).toNat = t.length by omega]; exact HV.out)
        clear hrow hrl
        go_wp2_with fail
        go_meet
        case rel => exact ⟨HI.out, rfl⟩
      · have h41 : (5 : Int) < t.length := by omega
        have HI := Lib.hid (show Ints w (.slice (some ad) (min (t.length : Int) 5).toNat ct) row by rw [hrow, show (min (t.length : Int) 5).toNat = 5 by omega]; exact HV.out.take (by omega))
        clear hrow hrl
        go_wp2_with fail
        go_meet
        case rel => exact ⟨HI.out, rfl⟩
  case rest =>
    obtain ⟨hi, rfl⟩ := hcut
    obtain ⟨pr, cr, rfl, hcr, hxr⟩ := hi.get
    have hr40 : row.length ≤ 5 := by omega
    have HI := Lib.hid hi
    have HXR := Lib.hid hxr
    clear hi hxr hrow hrl
    go_upto_region 5 with fail
    refine abs_wp fun W hW => ?_
    obtain ⟨a0, a1, a2⟩ := alloc2'' wc _ _ W hW
    obtain ⟨O, hO⟩ : ∃ O, O = wc.heap.size := ⟨_, rfl⟩
    have HSV := Lib.hid (show SV W.heap.size O (O + 1) W mask 0 from ⟨_, _, by rw [hO]; exact a1, by rw [hO]; exact a2, OwnL.nil _, OwnL.nil _⟩)
    have HBW := Lib.hid (HB1.out.trans (a0.mono HB1.out.size))
    have HOS := Lib.hid (show O + 1 < W.heap.size from by rw [hO]; exact at_lt a2)
    have HOW := Lib.hid (show w.heap.size ≤ O by rw [hO]; exact HB1.out.size)
    rw [← hO]
    clear hW a0 a1 a2 hO
    go_wp2_with fail
    go_loopw [8] (fun i wr => ∃ k : Nat, i = .int .i64 k ∧ k ≤ 24 ∧ SV W.heap.size O (O + 1) wr mask k ∧ Below O W wr) (fun i _ => 24 - (intOf i).toNat)
    case atStart => exact ⟨0, rfl, by omega, HSV.out, Below.refl _ _⟩
    case round =>
      obtain ⟨k, rfl, h1, hsv, hb⟩ := hrel
      obtain ⟨ov, pv, hbo, hba, hov, hpv⟩ := hsv.ex
      obtain ⟨po, co, rfl⟩ := hov.form
      obtain ⟨pq, cq, rfl⟩ := hpv.form
      have hll : (partsOf (clsTo mask k)).length = (clsTo mask k).length := by simp [partsOf]
      rw [hll] at hba hpv
      obtain ⟨n, hn2⟩ : ∃ n, n = (clsTo mask k).length := ⟨_, rfl⟩
      have hnk : n ≤ k := by rw [hn2]; exact clsTo_len mask k
      rw [← hn2] at hba hpv hbo hov hll
      have HBO := Lib.hid hbo
      have HBA := Lib.hid hba
      have HOV := Lib.hid hov
      have HPV := Lib.hid hpv
      have HLL := Lib.hid hll
      have HNN := Lib.hid hn2
      have HB := Lib.hid hb
      have hWs := hb.size
      have HSZW := Lib.hid hWs
      clear hsv hbo hba hov hpv hll hn2 hb
      by_cases hk : k < 24
      · have hkk : (k : Int) < 24 := by omega
        have hk0 : (0 : Int) ≤ k := by omega
        have HSU := Lib.hid (clsTo_succ mask k)
        cases hbit : bitB mask k
        · have hbt : (bits BinOp.and IntKind.i64 (mask / 2 ^ k) 1 == 1) = false := hbit
          have HREL := Lib.hid (show SV W.heap.size O (O + 1) wr mask (k + 1) from by
            have e : clsTo mask (k + 1) = clsTo mask k := by rw [HSU.out, hbit]; simp
            refine ⟨.slice po n co, .slice pq n cq, HBO.out, HBA.out, ?_, ?_⟩
            · rw [e]; exact HOV.out
            · rw [e]; exact HPV.out)
          clear hbit
          go_wp2_with fail
          go_roundw
          case rel => exact ⟨k + 1, by go_num, by omega, HREL.out, HB.out⟩
          case measure => simp [intOf]; omega
        · have hbt : (bits BinOp.and IntKind.i64 (mask / 2 ^ k) 1 == 1) = true := hbit
          have HSU1 := Lib.hid (show clsTo mask (k + 1) = clsTo mask k ++ [(k : Int)] by rw [HSU.out, hbit]; simp)
          clear hbit
          obtain ⟨x0, x1, x2⟩ := cells3 HBO.out
          have hap := below_alloc1 wr (.cells #[.int .i64 k] 3)
          have HNW := Lib.hid (ReadL.one (E := intE) (sz := 1) wr 3 (k : Int) [.int .i64 k] (by simp [Value.oneCell']) rfl)
          have HAP := Lib.hid hap
          clear hap
          go_upto_region 10 with (refine wpList_append_ints rfl (.tmp 31) (.tmp 33) rfl (.slice po n co) (clsTo mask k) rfl (base := W.heap.size) (HOV.out.below HAP.out (Nat.le_refl _)) _ [(k : Int)] rfl HNW.out (by rw [← HNN.out]; simp; omega) (Nat.le_trans HSZW.out HAP.out.size) ?_; intro p1 c1 w4 hown4 hg4 hlie4; have hl4 : (clsTo mask k).length + [(k : Int)].length = n + 1 := (by rw [← HNN.out]; rfl); rw [hl4] at hown4 hlie4 ⊢; have HF4 := Lib.hid ((Fr.of_below HAP.out (fun q => (Value.slice po n co).ownBlock = some q)).trans (Fr.grown (F := fun q => (Value.slice po n co).ownBlock = some q) hg4 (fun q h => h)) (fun _ _ h => h)); have HO4 := Lib.hid ((HF4.out.block O (at_lt HBO.out) (HOV.out.notAt HBO.out (by decide))).trans HBO.out); have HA4 := Lib.hid ((HF4.out.block (O + 1) (at_lt HBA.out) (HOV.out.notAt HBA.out (by decide))).trans HBA.out); have HOW4 := Lib.hid hown4; have HLI4 := Lib.hid hlie4; have z1 := (cells3 HO4.out).2.1; have y1 := fz_at HO4.out 1; clear hown4 hg4 hlie4 hl4)
          refine abs_wp fun W5 hW5 => ?_
          have HFR5 := Lib.hid (show Fr (fun q => q = O) w4 W5 by rw [hW5]; exact Fr.setCell (F := fun q => q = O) w4 rfl _)
          have HO5 := Lib.hid (show W5.heap[O]? = some (.cells #[.int .i64 1, .slice p1 (n + 1) c1, .slice none 0 0] 25) by rw [hW5]; have h := blk_set HO4.out 1 (.slice p1 (n + 1) c1); exact h)
          have HA5 := Lib.hid ((HFR5.out.block (O + 1) (at_lt HA4.out) (by omega)).trans HA4.out)
          have HOV5 := Lib.hid (HOW4.out.fr HFR5.out (fun q hq he => HOW4.out.notAt HO4.out (by decide) (by rw [hq]; exact congrArg some he)))
          have HB4 := Lib.hid (show Below O wr w4 from HF4.out.below (by have := at_lt HBO.out; omega) (fun q hq => by have := (HOV.out.lt q hq).1; have := HOS.out; omega))
          have HB5 := Lib.hid (show Below O W W5 from (HB.out.trans HB4.out).trans (HFR5.out.below (by have := at_lt HO4.out; omega) (fun q hq => by have hq : q = O := hq; omega)))
          have HWS5 := Lib.hid (show wr.heap.size ≤ W5.heap.size from Nat.le_trans HF4.out.size HFR5.out.size)
          have HPV5 := Lib.hid (show OwnL (nodeE (fun q => W.heap.size ≤ q ∧ q < wr.heap.size ∧ (Value.slice pq n cq).ownBlock ≠ some q ∧ (Value.slice p1 (n + 1) c1).ownBlock ≠ some q) W5) 25 3 W.heap.size W5 (.slice pq n cq) (partsOf (clsTo mask k)) from by
            have h1 : OwnL (nodeE (fun q => W.heap.size ≤ q ∧ q < wr.heap.size ∧ (Value.slice pq n cq).ownBlock ≠ some q ∧ (Value.slice po n co).ownBlock ≠ some q) wr) 25 3 W.heap.size W5 (.slice pq n cq) (partsOf (clsTo mask k)) :=
              (HPV.out.fr HF4.out (fun q hq he => (HOV.out.apart HPV.out (by decide)) q he hq)).fr HFR5.out (fun q hq he => by have := (HPV.out.lt q hq).1; have := HOS.out; have he : q = O := he; omega)
            refine h1.mono fun x r hx => ?_
            obtain ⟨u0, u1, u2, rfl, hu⟩ := hx
            refine ⟨u0, u1, u2, rfl, NodeF.mono (fun q hq => ?_) _ ((hu.fr HF4.out (fun q hq he => hq.2.2.2 he)).fr HFR5.out (fun q hq he => by have := HOS.out; have he : q = O := he; omega))⟩
            obtain ⟨g1, g2, g3, g4⟩ := hq
            refine ⟨g1, g2, g3, fun he => ?_⟩
            rcases HLI4.out with h | h
            · exact g4 (h ▸ he)
            · rw [he] at h; injection h with h; have := HAP.out.size; omega)
          clear hW5 z1 y1 x0 x1 x2
          have HSS := Lib.hid (show ∀ W', Below W5.heap.size W5 W' → W'.heap[O + 1]? = some (.cells #[.int .i64 3, .slice none 0 0, .slice pq n cq] 25) from fun W' h => (h.block _ (at_lt HA5.out)).trans HA5.out)
          refine wp_region_fin 7 (fun W' => W'.heap[O + 1]? = some (.cells #[.int .i64 3, .slice none 0 0, .slice pq n cq] 25)) (.reads [0, 1, 2] (.one 3 (.one 4 (.one 5 (.one 6 (.last 7)))))) 94 (by kernel_rfl) (by kernel_rfl) rfl (fun _ _ _ _ _ h => h) (HSS.out _ (Below.refl _ _).drew) ?_
          apply plan_reads
          · intro W' hW'
            obtain ⟨s0, s1, s2⟩ := cells3 hW'
            repeat (refine wpRead_step (fun K hK => ?_); go_simp; refine hK _ ?_; clear hK K)
            exact wpRead_nil rfl
          refine abs_plan fun W0 hW0 => ?_
          have HB0 := Lib.hid (show Below W5.heap.size W5 W0 by rw [hW0]; exact (Below.refl _ _).drew)
          clear hW0
          refine plan_one rfl ?_
          go_wp2_with fail
          refine (set_any2 W0 k).mono ?_
          rintro e W1 ⟨g, rfl, hnt, hb1⟩
          have HB1' := Lib.hid (HB0.out.trans (hb1.mono HB0.out.size))
          have HNT := Lib.hid hnt
          have HB01 := Lib.hid hb1.size
          clear hnt hb1
          go_wp2_with fail
          refine Then.mk (HSS.out _ HB1'.out) ?_
          refine plan_one rfl ?_
          have ha := below_alloc1 W1 (.cells #[.int .i64 1, .slice (some ⟨g, 0, none⟩) 1 1, .slice none 0 0] 25)
          go_wp2_with fail
          refine Then.mk (HSS.out _ (HB1'.out.trans (ha.mono HB1'.out.size))) ?_
          refine abs_plan fun W2 hW2 => ?_
          have HBN := Lib.hid (show Below W1.heap.size W1 W2 by rw [hW2]; exact ha)
          have HSZ2 := Lib.hid (show W1.heap.size < W2.heap.size by rw [hW2]; simp)
          have HB2 := Lib.hid (HB1'.out.trans (HBN.out.mono HB1'.out.size))
          have HG := Lib.hid (show ∀ q, (W0.heap.size ≤ q ∧ q < W1.heap.size) → (W.heap.size ≤ q ∧ q < W1.heap.size ∧ (Value.slice pq n cq).ownBlock ≠ some q ∧ (Value.slice p1 (n + 1) c1).ownBlock ≠ some q) from fun q hq => by
            have h1 := HWS5.out
            have h2 := HB0.out.size
            have h3 := HSZW.out
            exact ⟨by omega, hq.2, (fun he => by have h3 := (HPV.out.lt q he).2; omega), (fun he => by have h3 := (HOV5.out.lt q he).2; omega)⟩)
          have HNF2 := Lib.hid ((NodeF.mono HG.out _ HNT.out.lt).below HBN.out (Nat.le_refl _))
          have HNEW := Lib.hid (show ReadL (nodeE (fun q => W.heap.size ≤ q ∧ q < W1.heap.size ∧ (Value.slice pq n cq).ownBlock ≠ some q ∧ (Value.slice p1 (n + 1) c1).ownBlock ≠ some q) W2) 3 W2 (.slice (some ⟨W1.heap.size, 0, none⟩) 1 1) [.mk 1 [(k : Int)] []] by
            have h := HNF2.out
            rw [hW2] at h ⊢
            exact ReadL.one W1 _ _ _ ⟨rfl, fun u hu => by simp at hu; rcases hu with rfl | rfl | rfl <;> rfl⟩ ⟨_, _, _, rfl, h⟩)
          have HOLD := Lib.hid (show OwnL (nodeE (fun q => W.heap.size ≤ q ∧ q < W1.heap.size ∧ (Value.slice pq n cq).ownBlock ≠ some q ∧ (Value.slice p1 (n + 1) c1).ownBlock ≠ some q) W2) 25 3 W.heap.size W2 (.slice pq n cq) (partsOf (clsTo mask k)) from (HPV5.out.below HB2.out (Nat.le_refl _)).mono (fun x r hx => by
            obtain ⟨u0, u1, u2, rfl, hu⟩ := hx
            exact ⟨u0, u1, u2, rfl, NodeF.mono (fun q hq => by
              have h0 := HWS5.out
              have h2 := HB1'.out.size
              obtain ⟨g1, g2, g3, g4⟩ := hq
              exact ⟨g1, by omega, g3, g4⟩) _ (hu.below HB2.out (Nat.le_refl _))⟩))
          have HA2 := Lib.hid (HSS.out _ HB2.out)
          have HO2 := Lib.hid ((HB2.out.block O (at_lt HO5.out)).trans HO5.out)
          have HOV2 := Lib.hid (HOV5.out.below HB2.out (Nat.le_refl _))
          clear hW2 ha
          refine plan_one rfl ?_
          refine wpList_append_nodes rfl (.tmp 37) (.tmp 40) rfl (.slice pq n cq) (partsOf (clsTo mask k)) rfl HOLD.out (.slice (some ⟨W1.heap.size, 0, none⟩) 1 1) [.mk 1 [(k : Int)] []] rfl HNEW.out (by rw [HLL.out]; unfold R; simp; omega) (by have h0 := HWS5.out; have h2 := HB2.out.size; omega) ?_
          intro p6 c6 w6 hown6 hg6 hlie6
          have hl6 : (partsOf (clsTo mask k)).length + [(Nd.mk 1 [(k : Int)] [])].length = n + 1 := (by rw [HLL.out]; rfl)
          rw [hl6] at hown6 hlie6 ⊢
          have HF6 := Lib.hid (Fr.grown (F := fun q => (Value.slice pq n cq).ownBlock = some q) hg6 (fun q h => h))
          have HPA := Lib.hid (show ∀ q, (Value.slice pq n cq).ownBlock = some q → q ≠ O ∧ q ≠ O + 1 from fun q hq => by have := (HPV.out.lt q hq).1; have := HOS.out; omega)
          have HA6 := Lib.hid ((HF6.out.block (O + 1) (at_lt HA2.out) (fun he => (HPA.out _ he).2 rfl)).trans HA2.out)
          have HO6 := Lib.hid ((HF6.out.block O (at_lt HO2.out) (fun he => (HPA.out _ he).1 rfl)).trans HO2.out)
          have HOV6 := Lib.hid (HOV2.out.fr HF6.out (fun q hq he => (HOV2.out.apart HOLD.out (by decide)) q hq he))
          have HPV6 := Lib.hid (show OwnL (nodeE (fun q => W.heap.size ≤ q ∧ q < w6.heap.size ∧ (Value.slice p6 (n + 1) c6).ownBlock ≠ some q ∧ (Value.slice p1 (n + 1) c1).ownBlock ≠ some q) w6) 25 3 W.heap.size w6 (.slice p6 (n + 1) c6) (partsOf (clsTo mask (k + 1))) from by
            have e : partsOf (clsTo mask (k + 1)) = partsOf (clsTo mask k) ++ [.mk 1 [(k : Int)] []] := by rw [HSU1.out]; simp [partsOf]
            rw [e]
            refine hown6.mono fun x r hx => ?_
            obtain ⟨u0, u1, u2, rfl, hu⟩ := hx
            refine ⟨u0, u1, u2, rfl, NodeF.mono (fun q hq => ?_) _ (hu.fr HF6.out (fun q hq he => hq.2.2.1 he))⟩
            obtain ⟨g1, g2, g3, g4⟩ := hq
            have h5 := HSZ2.out
            have h6 := HF6.out.size
            refine ⟨g1, by omega, fun he => ?_, g4⟩
            rcases hlie6 with h7 | h7
            · exact g3 (h7 ▸ he)
            · rw [he] at h7; injection h7 with h7; omega)
          have HPN6 := Lib.hid (show ∀ q, (Value.slice p6 (n + 1) c6).ownBlock = some q → q ≠ O ∧ q ≠ O + 1 from fun q hq => by have := (HPV6.out.lt q hq).1; have := HOS.out; omega)
          have HBB6 := Lib.hid (show Below O W w6 from (HB5.out.trans (HB2.out.mono (by have := at_lt HO5.out; omega))).trans (HF6.out.below (by have := at_lt HO2.out; omega) (fun q hq => by have := (HPV.out.lt q hq).1; have := HOS.out; omega)))
          have z2 := (cells3 HA6.out).2.2
          have y2 := fz_at HA6.out 2
          clear hown6 hg6 hlie6 hl6
          go_wp2_with fail
          refine Then.mk HA6.out ?_
          refine plan_one rfl ?_
          go_wp2_with fail
          refine Then.mk HA6.out ?_
          refine plan_last rfl ?_
          go_wp2_with fail
          have HFR := Lib.hid (Fr.setCell (F := fun q => q = O + 1) w6 (p := ⟨O + 1, 2, none⟩) rfl (.slice p6 (n + 1) c6))
          have HA7 := Lib.hid (blk_set HA6.out 2 (.slice p6 (n + 1) c6))
          clear z2 y2
          go_roundw
          case rel =>
            refine ⟨k + 1, by go_num, by omega, ⟨.slice p1 (n + 1) c1, .slice p6 (n + 1) c6, (HFR.out.block O (at_lt HO6.out) (by omega)).trans HO6.out, HA7.out, ?_, ?_⟩, HBB6.out.trans (HFR.out.below (by have := at_lt HO6.out; omega) (fun q hq => by have hq : q = O + 1 := hq; omega))⟩
            · have h := HOV6.out.fr HFR.out (fun q hq he => HOV6.out.notAt HA6.out (by decide) (by rw [hq]; exact congrArg some he))
              rw [HSU1.out]; exact h
            · refine (HPV6.out.fr HFR.out (fun q hq he => (HPN6.out q hq).2 he)).mono fun x r hx => ?_
              obtain ⟨u0, u1, u2, rfl, hu⟩ := hx
              refine ⟨u0, u1, u2, rfl, NodeF.mono (fun q hq => ?_) _ (hu.fr HFR.out (fun q hq he => by have := HOS.out; have he : q = O + 1 := he; omega))⟩
              obtain ⟨g1, g2, g3, g4⟩ := hq
              exact ⟨g1, Nat.lt_of_lt_of_le g2 HFR.out.size, g3, g4⟩
          case measure => simp [intOf]; omega
      · have hkk : ¬ (k : Int) < 24 := by omega
        have HK24 := Lib.hid (show k = 24 by omega)
        have HBr := Lib.hid (show Below w.heap.size w wr from HBW.out.trans (HB.out.mono HOW.out))
        have HN1 := Lib.hid (show NodeIs wr (.mk 1 (clsTo mask k) []) (.int .i64 1) (.slice po n co) (.slice none 0 0) from by
          rw [nodeIs_iff]
          exact ⟨rfl, HOV.out.read.ints, by rw [← HNN.out]; unfold R; omega, by unfold R; simp, [], ⟨by simp, none, 0, rfl, by simp, fun h => by simp at h⟩, rfl, fun i h => by simp at h⟩)
        have HN2 := Lib.hid (show NodeIs wr (.mk 3 [] (partsOf (clsTo mask k))) (.int .i64 3) (.slice none 0 0) (.slice pq n cq) from by
          rw [nodeIs_iff]
          refine ⟨rfl, Ints.nil _, by unfold R; simp, by rw [HLL.out]; unfold R; omega, ?_⟩
          obtain ⟨rows, g1, g2, g3, g4⟩ := OwnL.rev HPV.out
          exact Nodes.mk (Raw.of_own g1) g2 g3 (fun i hi => by obtain ⟨x, y, z, e1, e2⟩ := g4 i hi; exact ⟨x, y, z, e1, e2.is⟩))
        have HF1 := Lib.hid (fits_any _ wr _ _ _ HN1.out (by rw [HK24.out]; exact right_set mask))
        obtain ⟨x0, x1, x2⟩ := cells3 HBO.out
        go_wp2_with fail
        refine HF1.out.mono ?_
        rintro e w2 ⟨m1, rfl, hm1, hb2⟩
        have HM1 := Lib.hid hm1
        have HB2 := Lib.hid hb2
        have HF2 := Lib.hid (fits_any _ w2 _ _ _ (HN2.out.to hb2 (Nat.le_refl _)) (by rw [HK24.out]; exact right_alts mask))
        have HBA2 := Lib.hid ((hb2.block _ (at_lt HBA.out)).trans HBA.out)
        clear hm1 hb2 x0 x1 x2
        obtain ⟨x0, x1, x2⟩ := cells3 HBA2.out
        go_wp2_with fail
        refine HF2.out.mono ?_
        rintro e w3 ⟨m2, rfl, hm2, hb3⟩
        have HM2 := Lib.hid hm2
        have HM1' := Lib.hid (HM1.out.to hb3)
        have HB3 := Lib.hid (show Below w.heap.size w w3 from HBr.out.trans ((HB2.out.trans (hb3.mono HB2.out.size)).mono HBr.out.size))
        clear hm2 hb3 x0 x1 x2
        have HCALL := Lib.hid (show ∀ (want : Bool), (want = true ↔ ∃ c, row = [c] ∧ c ∈ clsTo mask 24) → (∀ W', Below w3.heap.size w3 W' → Calls Try.prog 16 #[.pointer (some ⟨m1, 0, none⟩), .slice pr row.length cr] W' fun e w' => e = .returned (.bool want) ∧ Below w3.heap.size w3 w') ∧
            (∀ W', Below w3.heap.size w3 W' → Calls Try.prog 16 #[.pointer (some ⟨m2, 0, none⟩), .slice pr row.length cr] W' fun e w' => e = .returned (.bool want) ∧ Below w3.heap.size w3 w') from fun want hw => by
          have e1 : fitB (.mk 1 (clsTo mask k) []) row = want := by rw [Bool.eq_iff_iff, fit_set, hw, HK24.out]
          have e2 : fitB (.mk 3 [] (partsOf (clsTo mask k))) row = want := by rw [Bool.eq_iff_iff, fit_alts, hw, HK24.out]
          refine ⟨fun W' hb => ?_, fun W' hb => ?_⟩
          · refine (fit_any W' m1 _ (by rw [HK24.out]; exact right_set mask) (HM1'.out.to hb) (.slice pr row.length cr) row (HI.out.to (HB3.out.trans (hb.mono HB3.out.size)) (Nat.le_refl _)) (by omega)).mono fun e w' ⟨h1, h2⟩ => ⟨by rw [← e1]; exact h1, hb.trans (h2.mono hb.size)⟩
          · refine (fit_any W' m2 _ (by rw [HK24.out]; exact right_alts mask) (HM2.out.to hb) (.slice pr row.length cr) row (HI.out.to (HB3.out.trans (hb.mono HB3.out.size)) (Nat.le_refl _)) (by omega)).mono fun e w' ⟨h1, h2⟩ => ⟨by rw [← e2]; exact h1, hb.trans (h2.mono hb.size)⟩)
        by_cases hr1 : row.length = 1
        · obtain ⟨bb, off, rfl, hbl, hxx⟩ := HXR.out (by omega)
          have c0 := cell_below HB3.out hbl (hxx 0 (by omega))
          simp only [Nat.add_zero] at c0
          obtain ⟨r, hr⟩ : ∃ r, r = row[0] := ⟨_, rfl⟩
          have HROW := Lib.hid (show row = [r] from by
            match row, hr1, hr with
            | [x], _, hr => rw [hr]; rfl)
          rw [← hr] at c0
          have hr2 : ((row.length : Int) == 1) = true := by simp [hr1]
          have hr3 : (0 : Int) < row.length := by omega
          clear hxx hr hr1
          by_cases hr0 : r < 0
          · have hr0' : ¬ 0 ≤ r := by omega
            obtain ⟨H1, H2⟩ := HCALL.out false ⟨(fun h => by cases h), fun ⟨c, h1, h2⟩ => by
              rw [HROW.out] at h1
              obtain ⟨j, h3, -⟩ := mem_clsTo.1 h2
              injection h1 with h1
              omega⟩
            have G1 := Lib.hid H1
            have G2 := Lib.hid H2
            clear H1 H2
            go_wp2_with fail
            refine (G1.out w3 (Below.refl _ _)).mono ?_
            rintro e v1 ⟨rfl, hv1⟩
            have HV1 := Lib.hid hv1
            clear hv1
            go_wp2_with fail
            refine (G2.out v1 HV1.out).mono ?_
            rintro e v2 ⟨rfl, hv2⟩
            have HV2 := Lib.hid (HB3.out.trans (hv2.mono HB3.out.size))
            clear hv2
            go_wp2_with fail
            go_ret
            exact ⟨rfl, HV2.out⟩
          · have hr0' : 0 ≤ r := by omega
            by_cases hr24 : r < 24
            · obtain ⟨j, rfl⟩ : ∃ j : Nat, r = j := ⟨r.toNat, by omega⟩
              have hj : j < 24 := by omega
              have hand : bits BinOp.and IntKind.i64 (j : Int) 31 = j := (show ∀ j : Fin 24, bits BinOp.and IntKind.i64 ((j : Nat) : Int) 31 = ((j : Nat) : Int) by decide) ⟨j, hj⟩
              obtain ⟨H1, H2⟩ := HCALL.out (bitB mask j) ⟨fun h => ⟨j, HROW.out, mem_clsTo.2 ⟨j, rfl, hj, h⟩⟩, fun ⟨c, h1, h2⟩ => by
                rw [HROW.out] at h1
                obtain ⟨i, h3, h4, h5⟩ := mem_clsTo.1 h2
                injection h1 with h1
                have : i = j := by omega
                rw [← this]; exact h5⟩
              cases hbit : bitB mask j
              · have hbt : (bits BinOp.and IntKind.i64 (mask / 2 ^ j) 1 == 1) = false := hbit
                rw [hbit] at H1 H2
                have G1 := Lib.hid H1
                have G2 := Lib.hid H2
                clear H1 H2 hbit
                go_wp2_with fail
                refine (G1.out w3 (Below.refl _ _)).mono ?_
                rintro e v1 ⟨rfl, hv1⟩
                have HV1 := Lib.hid hv1
                clear hv1
                go_wp2_with fail
                refine (G2.out v1 HV1.out).mono ?_
                rintro e v2 ⟨rfl, hv2⟩
                have HV2 := Lib.hid (HB3.out.trans (hv2.mono HB3.out.size))
                clear hv2
                go_wp2_with fail
                go_ret
                exact ⟨rfl, HV2.out⟩
              · have hbt : (bits BinOp.and IntKind.i64 (mask / 2 ^ j) 1 == 1) = true := hbit
                rw [hbit] at H1 H2
                have G1 := Lib.hid H1
                have G2 := Lib.hid H2
                clear H1 H2 hbit
                go_wp2_with fail
                refine (G1.out w3 (Below.refl _ _)).mono ?_
                rintro e v1 ⟨rfl, hv1⟩
                have HV1 := Lib.hid hv1
                clear hv1
                go_wp2_with fail
                refine (G2.out v1 HV1.out).mono ?_
                rintro e v2 ⟨rfl, hv2⟩
                have HV2 := Lib.hid (HB3.out.trans (hv2.mono HB3.out.size))
                clear hv2
                go_wp2_with fail
                go_ret
                exact ⟨rfl, HV2.out⟩
            · obtain ⟨H1, H2⟩ := HCALL.out false ⟨(fun h => by cases h), fun ⟨c, h1, h2⟩ => by
                rw [HROW.out] at h1
                obtain ⟨j, h3, h4, -⟩ := mem_clsTo.1 h2
                injection h1 with h1
                omega⟩
              have G1 := Lib.hid H1
              have G2 := Lib.hid H2
              clear H1 H2
              go_wp2_with fail
              refine (G1.out w3 (Below.refl _ _)).mono ?_
              rintro e v1 ⟨rfl, hv1⟩
              have HV1 := Lib.hid hv1
              clear hv1
              go_wp2_with fail
              refine (G2.out v1 HV1.out).mono ?_
              rintro e v2 ⟨rfl, hv2⟩
              have HV2 := Lib.hid (HB3.out.trans (hv2.mono HB3.out.size))
              clear hv2
              go_wp2_with fail
              go_ret
              exact ⟨rfl, HV2.out⟩
        · have hr2 : ((row.length : Int) == 1) = false := by simp; omega
          obtain ⟨H1, H2⟩ := HCALL.out false ⟨(fun h => by cases h), fun ⟨c, h1, h2⟩ => by rw [h1] at hr1; exact absurd rfl hr1⟩
          have G1 := Lib.hid H1
          have G2 := Lib.hid H2
          clear H1 H2 hr1
          go_wp2_with fail
          refine (G1.out w3 (Below.refl _ _)).mono ?_
          rintro e v1 ⟨rfl, hv1⟩
          have HV1 := Lib.hid hv1
          clear hv1
          go_wp2_with fail
          refine (G2.out v1 HV1.out).mono ?_
          rintro e v2 ⟨rfl, hv2⟩
          have HV2 := Lib.hid (HB3.out.trans (hv2.mono HB3.out.size))
          clear hv2
          go_wp2_with fail
          go_ret
          exact ⟨rfl, HV2.out⟩
end Go.Proofs.Ytodkeiadaodehaa
