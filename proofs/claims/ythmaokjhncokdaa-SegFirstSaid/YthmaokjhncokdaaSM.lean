import Derived.Test.YthmaokjhncokdaaSL
/-
  SegAll: rules that all say the same say it of all places where one fits, and break is said of the others. No condition beyond what each theorem names.
-/
set_option linter.unusedVariables false
set_option linter.unusedSimpArgs false
namespace Go.Proofs.Ythmaokjhncokdaa
open Go.RowKit Classical

theorem lefts_all (rs : List Rl) (b : Bool) (n : Nat) : compC n (rs.map (brkR b)) = compC n rs := compC_of (lefts_brk b rs) (rights_brk b rs)
theorem map_snoc {rs : List Rl} {k : Nat} {r : Rl} (hr : rs[k]? = some r) (f : Rl → Rl) : (rs.take (k + 1)).map f = (rs.take k).map f ++ [f r] := by rw [take_snoc hr, List.map_append]; rfl
theorem map_len {rs : List Rl} {k m : Nat} (hm : m = rs.length) (hk : k ≤ m) (f : Rl → Rl) : ((rs.take k).map f).length = k := by rw [List.length_map, List.length_take]; omega
/-- two lists of one's own, apart -/
def Sep (G : Nat) (u v : Value) : Prop := u.ownBlock ≠ some (G + 1) ∧ v.ownBlock ≠ some G ∧ ∀ j, u.ownBlock = some j → v.ownBlock ≠ some j
structure AllAt (w wc : World) (B G nn cc2 m cq : Nat) (pc2 pq : Option Addr) (rs : List Rl) (f g : Rl → Rl) (k : Nat) (W : World) (u v : Value) : Prop where
  one : RS (RuleIs wc) wc.heap.size G (.slice pc2 nn cc2) W u ((rs.take k).map f)
  two : RS (RuleIs wc) wc.heap.size (G + 1) (.slice pc2 nn cc2) W v ((rs.take k).map g)
  sep : Sep G u v
  below : Below w.heap.size w W
  belowc : Below wc.heap.size wc W

set_option maxRecDepth 100000 in
set_option maxHeartbeats 16000000 in
theorem all_law (w : World) (pc : Option Addr) (nc cc : Nat) (hcc : nc ≤ cc) (hpc : 0 < nc → ∃ a, pc = some a) (rv : Value) (rs0 : List Rl) (hr : Rules w rv rs0) (hl : rs0.length ≤ 9223372036854775807) (v : Value) (t : List Int) (hv : Ints w v t) (hn : t.length ≤ 9223372036854775807) :
    Calls Try.prog 12 #[.agg #[.slice pc nc cc, rv], v] w (Says true w) := by
  obtain ⟨pr, cr, rfl, -, -⟩ := hr.get
  have HR := Lib.hid hr
  have HPC := Lib.hid hpc
  have HL := Lib.hid hl
  obtain ⟨pt, ct, rfl, hct, -⟩ := hv.get
  have HV := Lib.hid hv
  obtain ⟨m0, hm0⟩ : ∃ m0, m0 = rs0.length := ⟨_, rfl⟩
  rw [← hm0]
  have HM0 := Lib.hid hm0
  clear hr hpc hl hm0 hv
  go_enter Try.func12, Try.ntmps12
  go_upto_region 1 with fail
  refine abs_wp fun W hW => ?_
  obtain ⟨B, hB⟩ : ∃ B, B = w.heap.size := ⟨_, rfl⟩
  have hbx : W.heap[B]? = some (.cells #[.slice pc nc cc, .slice pr m0 cr] 25) := by rw [hW, hB]; exact heap_alloc_new _ _
  have hbe : Below w.heap.size w W := by rw [hW]; exact below_alloc1 _ _
  rw [← hB]
  have HBE := Lib.hid hbe
  have HBX := Lib.hid hbx
  have HBB := Lib.hid hB
  clear hW hbx hbe hB
  go_wp2_with fail
  refine (shown10 W).mono ?_
  rintro e w1 ⟨rfl, hb1⟩
  have HB1 := Lib.hid (HBE.out.trans (hb1.mono HBE.out.size))
  have HBX1 := Lib.hid ((hb1.block _ (at_lt HBX.out)).trans HBX.out)
  clear hb1
  obtain ⟨x0, x1⟩ := cells2 HBX1.out
  have HFW := Lib.hid (few10_any w w1 HB1.out pc nc cc hcc HPC.out (.slice pr m0 cr) rs0 (by have h := HR.out; rwa [← HM0.out] at h) HL.out)
  obtain ⟨rs, hrs⟩ : ∃ rs, rs = few9L rs0 := ⟨_, rfl⟩
  have hr8 : rs.length ≤ 8 := by rw [hrs]; exact few9_length _
  have HRS := Lib.hid hrs
  clear hrs
  go_wp2_with fail
  refine HFW.out.mono ?_
  rintro e w2 ⟨pc2, cc2, pv, rfl, hown, hb2⟩
  rw [← HRS.out] at hown
  obtain ⟨nn, hnn⟩ : ∃ nn, nn = min nc 30 := ⟨_, rfl⟩
  rw [← hnn]
  obtain ⟨pq, cq, hpv⟩ := hown.form
  subst hpv
  obtain ⟨m, hm⟩ : ∃ m, m = rs.length := ⟨_, rfl⟩
  rw [← hm] at hr8 hown ⊢
  have HM := Lib.hid hm
  have HOWN := Lib.hid hown
  have HNN := Lib.hid (show nn ≤ 30 by omega)
  have HBX2 := Lib.hid ((hb2.block _ (at_lt HBX1.out)).trans HBX1.out)
  have HB2 := Lib.hid (HB1.out.trans (hb2.mono HB1.out.size))
  have HS1 := Lib.hid (at_lt HBX1.out)
  clear hm hnn hown hb2 x0 x1 HFW
  go_wp2_with (refine stop_at (.store 25 (.tmp 2) (.tmp 25)) rfl ?_)
  refine ⟨?_⟩
  refine wpList_store_obj rfl (.tmp 2) (.tmp 25) 25 rfl B rfl [.slice pc2 nn cc2, .slice pq m cq] rfl _ _ HBX2.out (by kernel_rfl) rfl (by simp [Value.oneCell']) ?_
  intro w3 hb3 hf3
  have HB3 := Lib.hid (show Below w.heap.size w w3 from HB2.out.trans (hf3.below HB2.out.size (fun j hj => by have hj : j = B := hj; have := HBB.out; omega)))
  have HRU := Lib.hid (show Rules w3 (.slice pq m cq) rs from rules_of_read ((HOWN.out.fr hf3 (fun j hj he => by have he : j = B := he; have h1 := (HOWN.out.lt j hj).1; have h2 := HS1.out; omega)).read.monoE (fun x r hr => hr.to HB3.out (Nat.le_refl _))))
  have HBX3 := Lib.hid (show w3.heap[B]? = some (.cells #[.slice pc2 nn cc2, .slice pq m cq] 25) from hb3)
  clear hb3 hf3
  obtain ⟨row, hrow⟩ : ∃ row, row = t.take 30 := ⟨_, rfl⟩
  have hrl : row.length = min t.length 30 := by rw [hrow, List.length_take, Nat.min_comm]
  go_upto_region 3 with fail
  change Code.wp Try.prog _ _ { tmps := _, defers := _ } _
  go_cut [1] (fun rv wx => Ints w rv row ∧ wx = w3)
  case first =>
    as_aux_lemma =>
      cases pt with
      | none =>
        have h0 : t = [] := by
          obtain ⟨p', c', he, -, hx⟩ := HV.out
          injection he with he1 he2 he3
          subst he1
          cases t with
          | nil => rfl
          | cons x r => obtain ⟨b, off, e, -⟩ := hx (by simp); cases e
        subst h0
        have HI := Lib.hid (show Ints w (.slice none 0 ct) row by rw [hrow]; exact HV.out)
        clear hrow hrl
        go_wp2_with fail
        go_meet
        case rel => exact ⟨HI.out, rfl⟩
      | some ad =>
        by_cases h40 : t.length ≤ 30
        · have h41 : ¬ (30 : Int) < t.length := by omega
          have HI := Lib.hid (show Ints w (.slice (some ad) (min (t.length : Int) 30).toNat ct) row by rw [hrow, List.take_of_length_le h40, show (min (t.length : Int) 30).toNat = t.length by omega]; exact HV.out)
          clear hrow hrl
          go_wp2_with fail
          go_meet
          case rel => exact ⟨HI.out, rfl⟩
        · have h41 : (30 : Int) < t.length := by omega
          have HI := Lib.hid (show Ints w (.slice (some ad) (min (t.length : Int) 30).toNat ct) row by rw [hrow, show (min (t.length : Int) 30).toNat = 30 by omega]; exact HV.out.take (by omega))
          clear hrow hrl
          go_wp2_with fail
          go_meet
          case rel => exact ⟨HI.out, rfl⟩
  case rest =>
    obtain ⟨hi, rfl⟩ := hcut
    obtain ⟨ptr, ctr, rfl, hcr, -⟩ := hi.get
    have hr30 : row.length ≤ 30 := by omega
    have HI := Lib.hid hi
    obtain ⟨nr, hnr⟩ : ∃ nr, nr = row.length := ⟨_, rfl⟩
    rw [← hnr] at hr30 hcr ⊢
    have HNR := Lib.hid hnr
    rw [← hnr] at HI
    clear hi hrow hrl hnr
    obtain ⟨x0, x1⟩ := cells2 HBX3.out
    have hxa : ∀ o, (wc.alloc o).cell? ⟨B, 0, none⟩ = some (.slice pc2 nn cc2) := fun o => (World.cell?_alloc_lt _ _ _ (at_lt HBX3.out)).trans x0
    go_upto_region 6 with fail
    refine abs_wp fun w5 hw5 => ?_
    clear hxa
    obtain ⟨a5, g0, g1⟩ := two_allocs wc _ _ w5 hw5
    obtain ⟨G, hG⟩ : ∃ G, G = wc.heap.size := ⟨_, rfl⟩
    rw [← hG] at g0 g1 ⊢
    have HGE := Lib.hid hG
    have HB5 := Lib.hid a5
    have HBX5 := Lib.hid (show w5.heap[B]? = some (.cells #[.slice pc2 nn cc2, .slice pq m cq] 25) from (a5.block _ (at_lt HBX3.out)).trans HBX3.out)
    have HA5 := Lib.hid (show AllAt w wc B G nn cc2 m cq pc2 pq rs (brkR true) (brkR false) 0 w5 (.slice none 0 0) (.slice none 0 0) from
      ⟨⟨g0, OwnL.nil _, by simp [Value.ownBlock]⟩, ⟨g1, OwnL.nil _, by simp [Value.ownBlock]⟩, ⟨by simp [Value.ownBlock], by simp [Value.ownBlock], fun j h => by simp [Value.ownBlock] at h⟩, HB3.out.trans (a5.mono HB3.out.size), a5⟩)
    have HBLT := Lib.hid (show B < wc.heap.size from at_lt HBX3.out)
    obtain ⟨prr, crr, herr, hcrr, hget⟩ := HRU.out.get
    have HGET := Lib.hid (show ∀ i r, rs[i]? = some r → ∃ b off, pq = some ⟨b, off, none⟩ ∧ b < wc.heap.size ∧ ∃ row, cellsAt wc b (off + i * 8) row ∧ RuleIs wc r row from fun i r h => by
      obtain ⟨hi, rfl⟩ := List.getElem?_eq_some_iff.1 h
      obtain ⟨b, off, e, h1, h2⟩ := hget (by omega)
      injection herr with h3
      exact ⟨b, off, h3.trans e, h1, h2 i hi⟩)
    clear hw5 a5 g0 g1 hG x0 x1 hget herr hcrr
    go_wp2_with fail
    go_loopw [8] (fun i wz => ∃ k : Nat, i = .int .i64 k ∧ k ≤ m ∧ ∃ u v, AllAt w wc B G nn cc2 m cq pc2 pq rs (brkR true) (brkR false) k wz u v) (fun i _ => m - (intOf i).toNat)
    case atStart => exact ⟨0, rfl, by omega, _, _, HA5.out⟩
    case round =>
      obtain ⟨k, rfl, hk, u, v, ha⟩ := hrel
      have HA := Lib.hid ha
      obtain ⟨p1, c1, hv1⟩ := ha.one.own.form
      obtain ⟨p2, c2, hv2⟩ := ha.two.own.form
      rw [map_len HM.out hk] at hv1 hv2
      subst hv1 hv2
      have HBXR := Lib.hid (show wr.heap[B]? = some (.cells #[.slice pc2 nn cc2, .slice pq m cq] 25) from (ha.belowc.block _ HBLT.out).trans HBX3.out)
      obtain ⟨x0, x1⟩ := cells2 HBXR.out
      clear ha
      by_cases hkm : k < m
      · have hki : (k : Int) < (m : Int) := by omega
        have hk0 : (0 : Int) ≤ k := by omega
        have hkr : k < rs.length := by rw [← HM.out]; exact hkm
        obtain ⟨r, hrk⟩ : ∃ r, rs[k]? = some r := ⟨_, List.getElem?_eq_getElem hkr⟩
        obtain ⟨bp, op, rfl, hbp, row8, hcell, hri⟩ := HGET.out k r hrk
        have HRK := Lib.hid hrk
        obtain ⟨a1, b1, c1', d1, e1, f1, rfl, hnl, hnr⟩ := hri
        obtain ⟨opx, ppx, lx, c1x, qx, mx, dx, rfl, rfl, rfl⟩ := hnl.form
        obtain ⟨opy, ppy, ly, c1y, qy, my, dy, rfl, rfl, rfl⟩ := hnr.form
        have HNL := Lib.hid hnl
        have HNR2 := Lib.hid hnr
        obtain ⟨bk, hbk⟩ : ∃ bk, bk = r.brk := ⟨_, rfl⟩
        obtain ⟨st, hst⟩ : ∃ st, st = r.start := ⟨_, rfl⟩
        have HST := Lib.hid hst
        rw [← hbk, ← hst] at hcell
        have z0 := cell_below HA.out.belowc hbp (hcell 0 _ rfl)
        have z1 := cell_below HA.out.belowc hbp (hcell 1 _ rfl)
        have z2 := cell_below HA.out.belowc hbp (hcell 2 _ rfl)
        have z3 := cell_below HA.out.belowc hbp (hcell 3 _ rfl)
        have z4 := cell_below HA.out.belowc hbp (hcell 4 _ rfl)
        have z5 := cell_below HA.out.belowc hbp (hcell 5 _ rfl)
        have z6 := cell_below HA.out.belowc hbp (hcell 6 _ rfl)
        have z7 := cell_below HA.out.belowc hbp (hcell 7 _ rfl)
        simp only [Nat.add_zero] at z0
        clear hcell hnl hnr hbk hst hrk hkr hbp
        go_upto_region 10 with fail
        refine abs_wp fun w6 hw6 => ?_
        obtain ⟨X, hX⟩ : ∃ X, X = wr.heap.size := ⟨_, rfl⟩
        rw [← hX]
        have HXE := Lib.hid hX
        have HX6 := Lib.hid (show w6.heap[X]? = some (.cells #[.int .i64 opx, .slice ppx lx c1x, .slice qx mx dx, .int .i64 opy, .slice ppy ly c1y, .slice qy my dy, .bool bk, .bool st] 54) by rw [hw6, hX]; exact heap_alloc_new _ _)
        have HB6 := Lib.hid (show Below wr.heap.size wr w6 by rw [hw6]; exact below_alloc1 _ _)
        clear hw6 hX x0 x1 z0 z1 z2 z3 z4 z5 z6 z7
        obtain ⟨z0, z1, z2, z3, z4, z5, z6, z7⟩ := cells8 HX6.out
        have zf := fz_at HX6.out 6
        go_upto_region 11 with fail
        refine abs_wp fun w7 hw7 => ?_
        have HX7 := Lib.hid (show w7.heap[X]? = some (.cells #[.int .i64 opx, .slice ppx lx c1x, .slice qx mx dx, .int .i64 opy, .slice ppy ly c1y, .slice qy my dy, .bool true, .bool st] 54) by rw [hw7]; exact blk_set HX6.out 6 (.bool true))
        have HB7 := Lib.hid (show Below wr.heap.size wr w7 by rw [hw7]; exact below_set HB6.out X (by have := HXE.out; omega) 6 _)
        have HA7 := Lib.hid (show AllAt w wc B G nn cc2 m cq pc2 (some ⟨bp, op, none⟩) rs (brkR true) (brkR false) k w7 (.slice p1 k c1) (.slice p2 k c2) from ⟨HA.out.one.below HB7.out, HA.out.two.below HB7.out, HA.out.sep, HA.out.below.trans (HB7.out.mono HA.out.below.size), HA.out.belowc.trans (HB7.out.mono HA.out.belowc.size)⟩)
        clear hw7 z0 z1 z2 z3 z4 z5 z6 z7 zf
        obtain ⟨z0, z1, z2, z3, z4, z5, z6, z7⟩ := cells8 HX7.out
        obtain ⟨y0, y1⟩ := cells2 HA7.out.one.out
        have HAL := Lib.hid (below_alloc1 w7 (.cells #[.int .i64 opx, .slice ppx lx c1x, .slice qx mx dx, .int .i64 opy, .slice ppy ly c1y, .slice qy my dy, .bool true, .bool st] 54))
        go_wp2_with (refine stop_at (.call { callee := .builtin .append, args := #[.tmp 51, .tmp 53], argTypes := #[23, 23] }) rfl ?_)
        refine ⟨?_⟩
        refine wpList_append_rules rfl (.tmp 51) (.tmp 53) rfl (.slice p1 k c1) _ k (map_len HM.out hk (brkR true)) rfl (HA7.out.one.own.below HAL.out (Nat.le_refl _)) _ [brkR true r] 1 rfl rfl (ReadL.one w7 _ _ [.int .i64 opx, .slice ppx lx c1x, .slice qx mx dx, .int .i64 opy, .slice ppy ly c1y, .slice qy my dy, .bool true, .bool st] ⟨rfl, by simp [Value.oneCell']⟩ ⟨_, _, _, _, _, _, by rw [HST.out]; rfl, HNL.out, HNR2.out⟩) (by omega) (Nat.le_trans HA7.out.belowc.size HAL.out.size) ?_
        intro p4 c4 w8 hown8 hg8 hlie8
        rw [← map_snoc HRK.out] at hown8
        obtain ⟨hG8, hnx8⟩ := HA7.out.one.put HAL.out hown8 hg8 hlie8
        have HNX8 := Lib.hid hnx8
        obtain ⟨q0, q1⟩ := cells2 hG8
        have qf := fz_at hG8 1
        clear hown8 hg8 hlie8 hG8 hnx8 y0 y1 z0 z1 z2 z3 z4 z5 z6 z7
        go_upto_region 12 with fail
        refine abs_wp fun w9 hw9 => ?_
        rw [← hw9] at HNX8
        have HXG := Lib.hid (show X ≠ G ∧ X ≠ G + 1 ∧ (Value.slice p1 k c1).ownBlock ≠ some X ∧ (Value.slice p2 k c2).ownBlock ≠ some X from by
          have h1 := at_lt HA.out.one.out
          have h2 := at_lt HA.out.two.out
          have h3 := HXE.out
          exact ⟨by omega, by omega, fun he => by have := (HA.out.one.own.lt X he).2; omega, fun he => by have := (HA.out.two.own.lt X he).2; omega⟩)
        have HX9 := Lib.hid ((HNX8.out.fr.block X (at_lt HX7.out) (fun h => by rcases h with h | h; exact HXG.out.1 h; exact HXG.out.2.2.1 h)).trans HX7.out)
        have HT9 := Lib.hid (HA7.out.two.keep HNX8.out.fr (fun h => by rcases h with h | h; omega; exact HA7.out.sep.1 h) (fun j hj h => by rcases h with h | h; exact HA7.out.sep.2.1 (h ▸ hj); exact HA7.out.sep.2.2 j h hj))
        have HB9 := Lib.hid (show Below w.heap.size w w9 ∧ Below wc.heap.size wc w9 from ⟨HA7.out.below.trans (HNX8.out.fr.below HA7.out.below.size (fun j h => by
            have h1 := HB3.out.size
            have h2 := HGE.out
            rcases h with h | h
            · omega
            · have := (HA7.out.one.own.lt j h).1; omega)), HA7.out.belowc.trans (HNX8.out.fr.below HA7.out.belowc.size (fun j h => by
            have h2 := HGE.out
            rcases h with h | h
            · omega
            · exact (HA7.out.one.own.lt j h).1))⟩)
        have HSEP9 := Lib.hid (show Sep G (.slice p4 (k + 1) c4) (.slice p2 k c2) from ⟨HNX8.out.new (G + 1) (at_lt HA7.out.two.out) HA7.out.sep.1, HA7.out.sep.2.1, fun j h1 h2 => HNX8.out.new j (HA7.out.two.own.lt j h2).2 (fun h3 => HA7.out.sep.2.2 j h3 h2) h1⟩)
        have HNP := Lib.hid (show (Value.slice p4 (k + 1) c4).ownBlock ≠ some X from HNX8.out.new X (at_lt HX7.out) HXG.out.2.2.1)
        clear hw9 q0 q1 qf
        obtain ⟨z0, z1, z2, z3, z4, z5, z6, z7⟩ := cells8 HX9.out
        have zf := fz_at HX9.out 6
        go_upto_region 13 with fail
        refine abs_wp fun w10 hw10 => ?_
        have HX10 := Lib.hid (show w10.heap[X]? = some (.cells #[.int .i64 opx, .slice ppx lx c1x, .slice qx mx dx, .int .i64 opy, .slice ppy ly c1y, .slice qy my dy, .bool false, .bool st] 54) by rw [hw10]; exact blk_set HX9.out 6 (.bool false))
        have HF10 := Lib.hid (show Fr (fun j => j = X) w9 w10 by rw [hw10]; exact Fr.setCell (F := fun j => j = X) w9 (p := ⟨X, 6, none⟩) rfl (.bool false))
        have HO10 := Lib.hid (HNX8.out.rs.keep HF10.out (fun h => HXG.out.1 h.symm) (fun j hj h => HNP.out (h ▸ hj)))
        have HT10 := Lib.hid (HT9.out.keep HF10.out (fun h => HXG.out.2.1 h.symm) (fun j hj h => HXG.out.2.2.2 (h ▸ hj)))
        have HXB := Lib.hid (show w.heap.size ≤ X ∧ wc.heap.size ≤ X from by have h1 := HA.out.belowc.size; have h2 := HA.out.below.size; have h3 := HXE.out; omega)
        have HB10 := Lib.hid (show Below w.heap.size w w10 ∧ Below wc.heap.size wc w10 from ⟨HB9.out.1.trans (HF10.out.below HB9.out.1.size (fun j h => by have h : j = X := h; have := HXB.out; omega)), HB9.out.2.trans (HF10.out.below HB9.out.2.size (fun j h => by have h : j = X := h; have := HXB.out; omega))⟩)
        clear hw10 z0 z1 z2 z3 z4 z5 z6 z7 zf
        obtain ⟨z0, z1, z2, z3, z4, z5, z6, z7⟩ := cells8 HX10.out
        obtain ⟨y0, y1⟩ := cells2 HT10.out.out
        have HAL2 := Lib.hid (below_alloc1 w10 (.cells #[.int .i64 opx, .slice ppx lx c1x, .slice qx mx dx, .int .i64 opy, .slice ppy ly c1y, .slice qy my dy, .bool false, .bool st] 54))
        go_wp2_with (refine stop_at (.call { callee := .builtin .append, args := #[.tmp 58, .tmp 60], argTypes := #[23, 23] }) rfl ?_)
        refine ⟨?_⟩
        refine wpList_append_rules rfl (.tmp 58) (.tmp 60) rfl (.slice p2 k c2) _ k (map_len HM.out hk (brkR false)) rfl (HT10.out.own.below HAL2.out (Nat.le_refl _)) _ [brkR false r] 1 rfl rfl (ReadL.one w10 _ _ [.int .i64 opx, .slice ppx lx c1x, .slice qx mx dx, .int .i64 opy, .slice ppy ly c1y, .slice qy my dy, .bool false, .bool st] ⟨rfl, by simp [Value.oneCell']⟩ ⟨_, _, _, _, _, _, by rw [HST.out]; rfl, HNL.out, HNR2.out⟩) (by omega) (Nat.le_trans HB10.out.2.size HAL2.out.size) ?_
        intro p5 c5 w11 hown11 hg11 hlie11
        rw [← map_snoc HRK.out] at hown11
        obtain ⟨hG11, hnx11⟩ := HT10.out.put HAL2.out hown11 hg11 hlie11
        have HNX11 := Lib.hid hnx11
        have HFIN := Lib.hid (show AllAt w wc B G nn cc2 m cq pc2 (some ⟨bp, op, none⟩) rs (brkR true) (brkR false) (k + 1) (w11.setCell ⟨G + 1, 1, none⟩ (.slice p5 (k + 1) c5)) (.slice p4 (k + 1) c4) (.slice p5 (k + 1) c5) from
          ⟨HO10.out.keep hnx11.fr (fun h => by rcases h with h | h; omega; exact HSEP9.out.2.1 h) (fun j hj h => by rcases h with h | h; exact HSEP9.out.1 (h ▸ hj); exact HSEP9.out.2.2 j hj h), hnx11.rs,
            ⟨HSEP9.out.1, hnx11.new G (at_lt HO10.out.out) HSEP9.out.2.1, fun j h1 h2 => hnx11.new j (HO10.out.own.lt j h1).2 (HSEP9.out.2.2 j h1) h2⟩,
            HB10.out.1.trans (hnx11.fr.below HB10.out.1.size (fun j h => by
              have h1 := HB3.out.size
              have h2 := HGE.out
              rcases h with h | h
              · omega
              · have := (HT10.out.own.lt j h).1; omega)), HB10.out.2.trans (hnx11.fr.below HB10.out.2.size (fun j h => by
              have h2 := HGE.out
              rcases h with h | h
              · omega
              · exact (HT10.out.own.lt j h).1))⟩)
        obtain ⟨q0, q1⟩ := cells2 hG11
        have qf := fz_at hG11 1
        clear hown11 hg11 hlie11 hG11 hnx11 y0 y1 z0 z1 z2 z3 z4 z5 z6 z7
        go_wp2_with fail
        go_roundw
        case rel => exact ⟨k + 1, by go_num, by omega, _, _, HFIN.out⟩
        case measure => simp [intOf]; omega
      · have hki : ¬ (k : Int) < (m : Int) := by omega
        obtain rfl : m = k := by omega
        have HTK := Lib.hid (show rs.take m = rs from by rw [HM.out, List.take_length])
        have HRY := Lib.hid (show Rules wr (.slice p1 m c1) (rs.map (brkR true)) from by
          have h := HA.out.one.own
          rw [HTK.out] at h
          exact rules_of_read (h.read.monoE (fun x r hr => hr.to HA.out.belowc (Nat.le_refl _))))
        have HRN := Lib.hid (show Rules wr (.slice p2 m c2) (rs.map (brkR false)) from by
          have h := HA.out.two.own
          rw [HTK.out] at h
          exact rules_of_read (h.read.monoE (fun x r hr => hr.to HA.out.belowc (Nat.le_refl _))))
        have HRR := Lib.hid (HRU.out.to HA.out.belowc (Nat.le_refl _))
        have HBG := Lib.hid (And.intro HA.out.one.out HA.out.two.out)
        have HBW := Lib.hid HA.out.below
        obtain ⟨co, hco⟩ : ∃ co, co = compC nn rs := ⟨_, rfl⟩
        have HCO := Lib.hid hco
        have HC1 := Lib.hid ((compile_any wr pc2 nn cc2 (.slice p1 m c1) _ HRY.out (by rw [List.length_map]; have := HM.out; omega)).mono fun e w' h => CompPost.two h)
        clear hco
        obtain ⟨y0, y1⟩ := cells2 HBG.out.1
        go_wp2_with fail
        refine HC1.out.mono ?_
        rintro e v1 ⟨hb1, q1, rfl, hcase1⟩
        rw [lefts_all, ← HCO.out] at hcase1 ⊢
        have HCA1 := Lib.hid hcase1
        have HV1 := Lib.hid hb1
        clear hb1 hcase1 x0 x1 y0 y1 HC1
        obtain ⟨x0, x1⟩ := cells2 ((HV1.out.block _ (at_lt HBG.out.2)).trans HBG.out.2)
        have HC2 := Lib.hid ((compile_any v1 pc2 nn cc2 (.slice p2 m c2) _ (HRN.out.to HV1.out (Nat.le_refl _)) (by rw [List.length_map]; have := HM.out; omega)).mono fun e w' h => CompPost.two h)
        go_wp2_with fail
        refine HC2.out.mono ?_
        rintro e v2 ⟨hb2, q2, rfl, hcase2⟩
        rw [lefts_all, ← HCO.out] at hcase2 ⊢
        have HCA2 := Lib.hid hcase2
        have HV2 := Lib.hid (HV1.out.trans (hb2.mono HV1.out.size))
        have HD2 := Lib.hid hb2
        clear hb2 hcase2 x0 x1 HC2
        obtain ⟨x0, x1⟩ := cells2 ((HV2.out.block _ (at_lt HBXR.out)).trans HBXR.out)
        have HC3 := Lib.hid ((compile_any v2 pc2 nn cc2 (.slice pq m cq) _ (HRR.out.to HV2.out (Nat.le_refl _)) (by have := HM.out; omega)).mono fun e w' h => CompPost.two h)
        go_wp2_with fail
        refine HC3.out.mono ?_
        rintro e v3 ⟨hb3, q3, rfl, hcase3⟩
        rw [← HCO.out] at hcase3 ⊢
        have HV3 := Lib.hid (HV2.out.trans (hb3.mono HV2.out.size))
        have HD3 := Lib.hid hb3
        have HWF := Lib.hid (HBW.out.trans (HV3.out.mono HBW.out.size))
        clear hb3 x0 x1 HC3
        rcases hcase3 with ⟨rfl, T3, rfl, ht3⟩ | ⟨hne, rfl⟩
        · have HT3 := Lib.hid ht3
          obtain ⟨T1, hq1, ht1⟩ : ∃ T, q1 = some ⟨T, 0, none⟩ ∧ TabsOf v1 T nn (rs.map (brkR true)) := by
            rcases HCA1.out with ⟨-, h⟩ | ⟨h, -⟩
            · exact h
            · exact (h rfl).elim
          obtain ⟨T2, hq2, ht2⟩ : ∃ T, q2 = some ⟨T, 0, none⟩ ∧ TabsOf v2 T nn (rs.map (brkR false)) := by
            rcases HCA2.out with ⟨-, h⟩ | ⟨h, -⟩
            · exact h
            · exact (h rfl).elim
          subst hq1 hq2
          have HT1 := Lib.hid (ht1.to (HD2.out.trans (HD3.out.mono HD2.out.size)))
          have HT2 := Lib.hid (ht2.to HD3.out)
          have HI3 := Lib.hid (HI.out.to HWF.out (Nat.le_refl _))
          clear ht1 ht2 ht3
          have HB1 := Lib.hid (boundaries_any v3 T1 nn _ HT1.out (.slice ptr nr ctr) row HI3.out (by have := HNR.out; omega))
          go_wp2_with fail
          refine HB1.out.mono ?_
          rintro e u1 ⟨hu1, hr1⟩
          have HR1 := Lib.hid hr1
          have HU1 := Lib.hid hu1
          have HB2' := Lib.hid (boundaries_any u1 T2 nn _ (HT2.out.to hu1) (.slice ptr nr ctr) row (HI3.out.to hu1 (Nat.le_refl _)) (by have := HNR.out; omega))
          by_cases hro : RowOk nn row
          · obtain ⟨va, rfl, hva⟩ : ∃ v, e = .returned (.tuple #[v, .int .i64 0]) ∧ Bools u1 v (segL (rs.map (brkR true)) row) := by
              rcases hr1 with ⟨-, h⟩ | ⟨h, -⟩
              · exact h
              · exact (h hro).elim
            have HRO := Lib.hid hro
            obtain ⟨pa, ca, rfl, hca, -⟩ := hva.get
            have HVA := Lib.hid hva
            rw [segL_length, ← HNR.out] at hca HVA ⊢
            clear hr1 hu1 hva hro
            go_wp2_with fail
            refine HB2'.out.mono ?_
            rintro e u2 ⟨hu2, hr2⟩
            have HU2 := Lib.hid (HU1.out.trans (hu2.mono HU1.out.size))
            obtain ⟨vb, rfl, hvb⟩ : ∃ v, e = .returned (.tuple #[v, .int .i64 0]) ∧ Bools u2 v (segL (rs.map (brkR false)) row) := by
              rcases hr2 with ⟨-, h⟩ | ⟨h, -⟩
              · exact h
              · exact (h HRO.out).elim
            obtain ⟨pb, cb, rfl, hcb, -⟩ := hvb.get
            have HVB := Lib.hid hvb
            have HVA2 := Lib.hid (Bools.to hu2 (Nat.le_refl _) HVA.out)
            have HB3' := Lib.hid (boundaries_any u2 T3 nn _ (HT3.out.to HU2.out) (.slice ptr nr ctr) row (HI3.out.to HU2.out (Nat.le_refl _)) (by have := HNR.out; omega))
            rw [segL_length, ← HNR.out] at hcb HVB ⊢
            clear hr2 hu2 hvb
            go_wp2_with fail
            refine HB3'.out.mono ?_
            rintro e u3 ⟨hu3, hr3⟩
            have HU3 := Lib.hid (HU2.out.trans (hu3.mono HU2.out.size))
            obtain ⟨vc, rfl, hvc⟩ : ∃ v, e = .returned (.tuple #[v, .int .i64 0]) ∧ Bools u3 v (segL rs row) := by
              rcases hr3 with ⟨-, h⟩ | ⟨h, -⟩
              · exact h
              · exact (h HRO.out).elim
            have hva3 := Bools.to hu3 (Nat.le_refl _) HVA2.out
            have hvb3 := Bools.to hu3 (Nat.le_refl _) HVB.out
            obtain ⟨pc9, cc9, rfl, hcc9, hgc⟩ := hvc.get
            obtain ⟨pa', ca', ea, -, hga⟩ := hva3.get
            obtain ⟨pb', cb', eb, -, hgb⟩ := hvb3.get
            injection ea with ea1 ea2 ea3
            injection eb with eb1 eb2 eb3
            subst ea1 eb1
            have HCEL := Lib.hid (show ∀ W, Below u3.heap.size u3 W → ∀ k : Nat, k < nr + 1 → (∃ b o, pa = some ⟨b, o, none⟩ ∧ W.cell? ⟨b, o + k, none⟩ = some (.bool (segAt (rs.map (brkR true)) row k))) ∧ (∃ b o, pb = some ⟨b, o, none⟩ ∧ W.cell? ⟨b, o + k, none⟩ = some (.bool (segAt (rs.map (brkR false)) row k))) ∧ (∃ b o, pc9 = some ⟨b, o, none⟩ ∧ W.cell? ⟨b, o + k, none⟩ = some (.bool (segAt rs row k))) from fun W hW k hk => by
              obtain ⟨b1, o1, e1, h1, g1⟩ := hga (by rw [segL_length]; omega)
              obtain ⟨b2, o2, e2, h2, g2⟩ := hgb (by rw [segL_length]; omega)
              obtain ⟨b3, o3, e3, h3, g3⟩ := hgc (by rw [segL_length]; omega)
              have l1 : k < (segL (rs.map (brkR true)) row).length := by rw [segL_length, ← HNR.out]; exact hk
              have l2 : k < (segL (rs.map (brkR false)) row).length := by rw [segL_length, ← HNR.out]; exact hk
              have l3 : k < (segL rs row).length := by rw [segL_length, ← HNR.out]; exact hk
              have j1 := cell_below hW h1 (g1 k l1)
              have j2 := cell_below hW h2 (g2 k l2)
              have j3 := cell_below hW h3 (g3 k l3)
              rw [segL_get] at j1 j2 j3
              exact ⟨⟨b1, o1, e1, j1⟩, ⟨b2, o2, e2, j2⟩, ⟨b3, o3, e3, j3⟩⟩)
            rw [segL_length, ← HNR.out] at hcc9 ⊢
            have hn2 : ((nr : Int) + 1 == (nr : Int) + 1) = true := by simp
            clear hr3 hu3 hvc hva3 hvb3 hga hgb hgc ea2 ea3 eb2 eb3
            go_upto_region 24 with fail
            go_wp2_with fail
            go_loopw [22] (fun i wz => ∃ k : Nat, i = .int .i64 k ∧ k ≤ nr + 1 ∧ Below u3.heap.size u3 wz) (fun i _ => nr + 1 - (intOf i).toNat)
            case atStart => exact ⟨0, rfl, by omega, Below.refl _ _⟩
            case round =>
              obtain ⟨k, rfl, hk, hb⟩ := hrel
              have HB := Lib.hid hb
              by_cases hkn : k < nr + 1
              · have hki : (k : Int) < (nr : Int) + 1 := by omega
                have hk0 : (0 : Int) ≤ k := by omega
                obtain ⟨⟨b1, o1, rfl, d1⟩, ⟨b2, o2, rfl, d2⟩, ⟨b3, o3, rfl, d3⟩⟩ := HCEL.out wr hb k hkn
                clear hb
                have HYES := Lib.hid (fun (h : 0 < row.length) => seg_yes (rs := rs) h k)
                have HNO := Lib.hid (fun (h : segAt (rs.map (brkR false)) row k = true) => seg_no h)
                generalize segAt (rs.map (brkR true)) row k = sa at *
                generalize segAt (rs.map (brkR false)) row k = sb at *
                generalize segAt rs row k = sc at *
                by_cases hn0 : 0 < nr
                · have hn0i : (0 : Int) < (nr : Int) := by omega
                  obtain rfl : sa = true := HYES.out (by rw [← HNR.out]; exact hn0)
                  cases sb
                  · go_wp2_with fail
                    go_roundw
                    case rel => exact ⟨k + 1, by go_num, by omega, HB.out⟩
                    case measure => simp [intOf]; omega
                  · obtain rfl : sc = true := HNO.out rfl
                    go_wp2_with fail
                    go_roundw
                    case rel => exact ⟨k + 1, by go_num, by omega, HB.out⟩
                    case measure => simp [intOf]; omega
                · have hn0i : ¬ (0 : Int) < (nr : Int) := by omega
                  cases sb
                  · go_wp2_with fail
                    go_roundw
                    case rel => exact ⟨k + 1, by go_num, by omega, HB.out⟩
                    case measure => simp [intOf]; omega
                  · obtain rfl : sc = true := HNO.out rfl
                    go_wp2_with fail
                    go_roundw
                    case rel => exact ⟨k + 1, by go_num, by omega, HB.out⟩
                    case measure => simp [intOf]; omega
              · have hki : ¬ (k : Int) < (nr : Int) + 1 := by omega
                clear hb
                go_wp2_with fail
                go_ret
                exact ⟨rfl, HWF.out.trans ((HU3.out.trans (HB.out.mono HU3.out.size)).mono HWF.out.size)⟩
          · obtain rfl : e = .returned (.tuple #[.slice none 0 0, .int .i64 1]) := by
              rcases hr1 with ⟨h, -⟩ | ⟨-, h⟩
              · exact (hro h).elim
              · exact h
            have HRO := Lib.hid hro
            clear hr1 hu1 hro
            go_wp2_with fail
            refine HB2'.out.mono ?_
            rintro e u2 ⟨hu2, hr2⟩
            have HU2 := Lib.hid (HU1.out.trans (hu2.mono HU1.out.size))
            obtain rfl : e = .returned (.tuple #[.slice none 0 0, .int .i64 1]) := by
              rcases hr2 with ⟨h, -⟩ | ⟨-, h⟩
              · exact (HRO.out h).elim
              · exact h
            have HB3' := Lib.hid (boundaries_any u2 T3 nn _ (HT3.out.to HU2.out) (.slice ptr nr ctr) row (HI3.out.to HU2.out (Nat.le_refl _)) (by have := HNR.out; omega))
            clear hr2 hu2
            go_wp2_with fail
            refine HB3'.out.mono ?_
            rintro e u3 ⟨hu3, hr3⟩
            have HU3 := Lib.hid (HU2.out.trans (hu3.mono HU2.out.size))
            obtain rfl : e = .returned (.tuple #[.slice none 0 0, .int .i64 1]) := by
              rcases hr3 with ⟨h, -⟩ | ⟨-, h⟩
              · exact (HRO.out h).elim
              · exact h
            clear hr3 hu3
            go_wp2_with fail
            go_loopw [22] (fun i wz => i = .int .i64 0 ∧ wz = u3) (fun _ _ => 0)
            case atStart => exact ⟨rfl, rfl⟩
            case round =>
              obtain ⟨rfl, rfl⟩ := hrel
              go_wp2_with fail
              go_ret
              exact ⟨rfl, HWF.out.trans (HU3.out.mono HWF.out.size)⟩
        · obtain rfl : q1 = none := by
            rcases HCA1.out with ⟨h, -⟩ | ⟨-, h⟩
            · exact (hne h).elim
            · exact h
          have hcc : (co == co) = true := by simp
          go_wp2_with fail
          go_ret
          exact ⟨rfl, HWF.out⟩
end Go.Proofs.Ythmaokjhncokdaa

