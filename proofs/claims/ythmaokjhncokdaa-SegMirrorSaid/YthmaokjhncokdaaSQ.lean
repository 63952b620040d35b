import Derived.Test.YthmaokjhncokdaaSM
import Derived.Test.YthmaokjhncokdaaSP
import Derived.Test.YthmaokjhncokdaaBN
/-
  SegMirror: rules turned round say the same of texts turned round. No condition beyond what each theorem names.
-/
set_option linter.unusedVariables false
set_option linter.unusedSimpArgs false
namespace Go.Proofs.Ythmaokjhncokdaa
open Go.RowKit Classical

/-- where the turned sides lie -/
def FMir (base G : Nat) (W : World) (u v : Value) (j : Nat) : Prop := base ≤ j ∧ j < W.heap.size ∧ j ≠ G ∧ j ≠ G + 1 ∧ u.ownBlock ≠ some j ∧ v.ownBlock ≠ some j
structure MirAt (w wc : World) (G nn cc2 : Nat) (pc2 : Option Addr) (rs : List Rl) (k : Nat) (W : World) (u v : Value) : Prop where
  one : RS (RuleIs wc) wc.heap.size (G + 1) (.slice pc2 nn cc2) W u ((rs.take k).map plainR)
  two : RS (ruleF (FMir wc.heap.size G W u v) W) wc.heap.size G (.slice pc2 nn cc2) W v ((rs.take k).map mirR)
  sep : u.ownBlock ≠ some G ∧ v.ownBlock ≠ some (G + 1) ∧ ∀ j, u.ownBlock = some j → v.ownBlock ≠ some j
  below : Below w.heap.size w W
  belowc : Below wc.heap.size wc W
theorem RS.monoE {E E' : Rl → List Value → Prop} {base G : Nat} {cs : Value} {W : World} {pv : Value} {xs : List Rl} (h : RS E base G cs W pv xs) (he : ∀ x r, E x r → E' x r) : RS E' base G cs W pv xs := ⟨h.out, h.own.mono he, h.apart⟩
theorem MirAt.keep {w wc : World} {G nn cc2 : Nat} {pc2 : Option Addr} {rs : List Rl} {k : Nat} {W W' : World} {u v : Value} (h : MirAt w wc G nn cc2 pc2 rs k W u v) (hb : Below W.heap.size W W') : MirAt w wc G nn cc2 pc2 rs k W' u v :=
  ⟨h.one.below hb, (h.two.below hb).monoE (fun x r hr => (hr.below hb (Nat.le_refl _)).mono (fun j ⟨a, b, c, d, e, f⟩ => ⟨a, Nat.lt_of_lt_of_le b hb.size, c, d, e, f⟩)), h.sep, h.below.trans (hb.mono h.below.size), h.belowc.trans (hb.mono h.belowc.size)⟩
/-- the plain one has grown -/
theorem MirAt.first {w wc : World} {G nn cc2 : Nat} {pc2 : Option Addr} {rs : List Rl} {k : Nat} {W W' : World} {u v u' : Value} {ys : List Rl} (h : MirAt w wc G nn cc2 pc2 rs k W u v) (hG : w.heap.size ≤ wc.heap.size ∧ wc.heap.size ≤ G) (hn : RSNext (RuleIs wc) wc.heap.size (G + 1) (.slice pc2 nn cc2) W u W' u' ys) :
    RS (ruleF (FMir wc.heap.size G W' u' v) W') wc.heap.size G (.slice pc2 nn cc2) W' v ((rs.take k).map mirR) ∧ (u'.ownBlock ≠ some G ∧ v.ownBlock ≠ some (G + 1) ∧ ∀ j, u'.ownBlock = some j → v.ownBlock ≠ some j) ∧ Below w.heap.size w W' ∧ Below wc.heap.size wc W' := by
  have hb : ∀ j, (j = G + 1 ∨ u.ownBlock = some j) → wc.heap.size ≤ j := fun j hj => by
    rcases hj with hj | hj
    · omega
    · exact (h.one.own.lt j hj).1
  have hs2 : v.ownBlock ≠ some (G + 1) := h.sep.2.1
  refine ⟨?_, ⟨hn.new G (at_lt h.two.out) h.sep.1, hs2, fun j h1 h2 => hn.new j (h.two.own.lt j h2).2 (fun h3 => h.sep.2.2 j h3 h2) h1⟩, h.below.trans (hn.fr.below h.below.size (fun j hj => by have := hb j hj; omega)), h.belowc.trans (hn.fr.below h.belowc.size hb)⟩
  refine (h.two.keep hn.fr (fun hh => by rcases hh with hh | hh; omega; exact h.sep.1 hh) (fun j hj hh => by rcases hh with hh | hh; exact hs2 (hh ▸ hj); exact h.sep.2.2 j hh hj)).monoE (fun x r hr => ?_)
  refine (hr.fr hn.fr (fun j hj hh => ?_)).mono (fun j ⟨a, b, c, d, e, f⟩ => ⟨a, Nat.lt_of_lt_of_le b hn.fr.size, c, d, hn.new j b e, f⟩)
  obtain ⟨a, b, c, d, e, f⟩ := hj
  rcases hh with hh | hh
  · exact d hh
  · exact e hh
/-- the turned one has grown -/
theorem MirAt.second {w wc : World} {G nn cc2 : Nat} {pc2 : Option Addr} {rs : List Rl} {k k' : Nat} {W Wa W' : World} {u v v' : Value} (h2 : RS (ruleF (FMir wc.heap.size G W u v) W) wc.heap.size G (.slice pc2 nn cc2) W v ((rs.take k).map mirR)) (hsep : u.ownBlock ≠ some G ∧ v.ownBlock ≠ some (G + 1) ∧ ∀ j, u.ownBlock = some j → v.ownBlock ≠ some j) (hbe : Below w.heap.size w W) (hbc : Below wc.heap.size wc W) (hG : w.heap.size ≤ wc.heap.size ∧ wc.heap.size ≤ G)
    (h1 : RS (RuleIs wc) wc.heap.size (G + 1) (.slice pc2 nn cc2) W u ((rs.take k').map plainR)) (ha : Below W.heap.size W Wa) (hn : RSNext (ruleF (FMir wc.heap.size G Wa u v) Wa) wc.heap.size G (.slice pc2 nn cc2) W v W' v' ((rs.take k').map mirR))
    (hfa : Fr (fun j => j = G ∨ v.ownBlock = some j ∨ Wa.heap.size ≤ j) Wa W') (hnew : ∀ j, j < Wa.heap.size → v.ownBlock ≠ some j → v'.ownBlock ≠ some j) : MirAt w wc G nn cc2 pc2 rs k' W' u v' := by
  have hb : ∀ j, (j = G ∨ v.ownBlock = some j) → wc.heap.size ≤ j := fun j hj => by
    rcases hj with hj | hj
    · omega
    · exact (h2.own.lt j hj).1
  refine ⟨h1.keep hn.fr (fun hh => by rcases hh with hh | hh; omega; exact hsep.2.1 hh) (fun j hj hh => by rcases hh with hh | hh; exact hsep.1 (hh ▸ hj); exact hsep.2.2 j hj hh), ?_, ⟨hsep.1, hn.new (G + 1) (at_lt h1.out) hsep.2.1, fun j g2 g3 => hn.new j (h1.own.lt j g2).2 (hsep.2.2 j g2) g3⟩, hbe.trans (hn.fr.below hbe.size (fun j hj => by have := hb j hj; omega)), hbc.trans (hn.fr.below hbc.size hb)⟩
  refine hn.rs.monoE (fun x r hr => ?_)
  refine (hr.fr hfa (fun j hj hh => ?_)).mono (fun j ⟨a, b, c, d, e, f⟩ => ⟨a, Nat.lt_of_lt_of_le b hfa.size, c, d, e, hnew j b f⟩)
  obtain ⟨a, b, c, d, e, f⟩ := hj
  rcases hh with hh | hh | hh
  · exact c hh
  · exact f hh
  · omega

set_option maxRecDepth 100000 in
set_option maxHeartbeats 16000000 in
theorem mirror_law (w : World) (pc : Option Addr) (nc cc : Nat) (hcc : nc ≤ cc) (hpc : 0 < nc → ∃ a, pc = some a) (rv : Value) (rs0 : List Rl) (hr : Rules w rv rs0) (hl : rs0.length ≤ 9223372036854775807) (v : Value) (t : List Int) (hv : Ints w v t) (hn : t.length ≤ 9223372036854775807) :
    Calls Try.prog 11 #[.agg #[.slice pc nc cc, rv], v] w (Says true w) := by
  obtain ⟨pr, cr, rfl, -, -⟩ := hr.get
  have HR := Lib.hid hr
  have HPC := Lib.hid hpc
  have HL := Lib.hid hl
  obtain ⟨pt, ct, rfl, hct, -⟩ := hv.get
  have HV := Lib.hid hv
  obtain ⟨m0, hm0⟩ : ∃ m0, m0 = rs0.length := ⟨_, rfl⟩
  rw [← hm0]
  have HM0 := Lib.hid hm0
  clear hr hpc hl hm0 hv
  go_enter Try.func11, Try.ntmps11
  go_upto_region 1 with fail
  refine abs_wp fun W hW => ?_
  obtain ⟨B, hB⟩ : ∃ B, B = w.heap.size := ⟨_, rfl⟩
  have hbx : W.heap[B]? = some (.cells #[.slice pc nc cc, .slice pr m0 cr] 25) := by rw [hW, hB]; exact heap_alloc_new _ _
  have hbe : Below w.heap.size w W := by rw [hW]; exact below_alloc1 _ _
  rw [← hB]
  have HBE := Lib.hid hbe
  have HBX := Lib.hid hbx
  have HBB := Lib.hid hB
  clear hW hbx hbe hB
  go_wp2_with fail
  refine (shown10 W).mono ?_
  rintro e w1 ⟨rfl, hb1⟩
  have HB1 := Lib.hid (HBE.out.trans (hb1.mono HBE.out.size))
  have HBX1 := Lib.hid ((hb1.block _ (at_lt HBX.out)).trans HBX.out)
  clear hb1
  obtain ⟨x0, x1⟩ := cells2 HBX1.out
  have HFW := Lib.hid (few10_any w w1 HB1.out pc nc cc hcc HPC.out (.slice pr m0 cr) rs0 (by have h := HR.out; rwa [← HM0.out] at h) HL.out)
  obtain ⟨rs, hrs⟩ : ∃ rs, rs = few9L rs0 := ⟨_, rfl⟩
  have hr8 : rs.length ≤ 8 := by rw [hrs]; exact few9_length _
  have HRS := Lib.hid hrs
  clear hrs
  go_wp2_with fail
  refine HFW.out.mono ?_
  rintro e w2 ⟨pc2, cc2, pv, rfl, hown, hb2⟩
  rw [← HRS.out] at hown
  obtain ⟨nn, hnn⟩ : ∃ nn, nn = min nc 30 := ⟨_, rfl⟩
  rw [← hnn]
  obtain ⟨pq, cq, hpv⟩ := hown.form
  subst hpv
  obtain ⟨m, hm⟩ : ∃ m, m = rs.length := ⟨_, rfl⟩
  rw [← hm] at hr8 hown ⊢
  have HM := Lib.hid hm
  have HOWN := Lib.hid hown
  have HNN := Lib.hid (show nn ≤ 30 by omega)
  have HBX2 := Lib.hid ((hb2.block _ (at_lt HBX1.out)).trans HBX1.out)
  have HB2 := Lib.hid (HB1.out.trans (hb2.mono HB1.out.size))
  have HS1 := Lib.hid (at_lt HBX1.out)
  clear hm hnn hown hb2 x0 x1 HFW
  go_wp2_with (refine stop_at (.store 25 (.tmp 2) (.tmp 23)) rfl ?_)
  refine ⟨?_⟩
  refine wpList_store_obj rfl (.tmp 2) (.tmp 23) 25 rfl B rfl [.slice pc2 nn cc2, .slice pq m cq] rfl _ _ HBX2.out (by kernel_rfl) rfl (by simp [Value.oneCell']) ?_
  intro w3 hb3 hf3
  have HB3 := Lib.hid (show Below w.heap.size w w3 from HB2.out.trans (hf3.below HB2.out.size (fun j hj => by have hj : j = B := hj; have := HBB.out; omega)))
  have HRU := Lib.hid (show Rules w3 (.slice pq m cq) rs from rules_of_read ((HOWN.out.fr hf3 (fun j hj he => by have he : j = B := he; have h1 := (HOWN.out.lt j hj).1; have h2 := HS1.out; omega)).read.monoE (fun x r hr => hr.to HB3.out (Nat.le_refl _))))
  have HBX3 := Lib.hid (show w3.heap[B]? = some (.cells #[.slice pc2 nn cc2, .slice pq m cq] 25) from hb3)
  clear hb3 hf3
  obtain ⟨row, hrow⟩ : ∃ row, row = t.take 30 := ⟨_, rfl⟩
  have hrl : row.length = min t.length 30 := by rw [hrow, List.length_take, Nat.min_comm]
  go_upto_region 3 with fail
  change Code.wp Try.prog _ _ { tmps := _, defers := _ } _
  go_cut [1] (fun rv wx => Ints w rv row ∧ wx = w3)
  case first =>
    as_aux_lemma =>
      cases pt with
      | none =>
        have h0 : t = [] := by
          obtain ⟨p', c', he, -, hx⟩ := HV.out
          injection he with he1 he2 he3
          subst he1
          cases t with
          | nil => rfl
          | cons x r => obtain ⟨b, off, e, -⟩ := hx (by simp); cases e
        subst h0
        have HI := Lib.hid (show Ints w (.slice none 0 ct) row by rw [hrow]; exact HV.out)
        clear hrow hrl
        go_wp2_with fail
        go_meet
        case rel => exact ⟨HI.out, rfl⟩
      | some ad =>
        by_cases h40 : t.length ≤ 30
        · have h41 : ¬ (30 : Int) < t.length := by omega
          have HI := Lib.hid (show Ints w (.slice (some ad) (min (t.length : Int) 30).toNat ct) row by rw [hrow, List.take_of_length_le h40, show (min (t.length : Int) 30).toNat = t.length by omega]; exact HV.out)
          clear hrow hrl
          go_wp2_with fail
          go_meet
          case rel => exact ⟨HI.out, rfl⟩
        · have h41 : (30 : Int) < t.length := by omega
          have HI := Lib.hid (show Ints w (.slice (some ad) (min (t.length : Int) 30).toNat ct) row by rw [hrow, show (min (t.length : Int) 30).toNat = 30 by omega]; exact HV.out.take (by omega))
          clear hrow hrl
          go_wp2_with fail
          go_meet
          case rel => exact ⟨HI.out, rfl⟩
  case rest =>
    obtain ⟨hi, rfl⟩ := hcut
    obtain ⟨ptr, ctr, rfl, hcr, -⟩ := hi.get
    have hr30 : row.length ≤ 30 := by omega
    have HI := Lib.hid hi
    obtain ⟨nr, hnr⟩ : ∃ nr, nr = row.length := ⟨_, rfl⟩
    rw [← hnr] at hr30 hcr ⊢
    have HNR := Lib.hid hnr
    rw [← hnr] at HI
    clear hi hrow hrl hnr
    obtain ⟨x0, x1⟩ := cells2 HBX3.out
    have hxa : ∀ o, (wc.alloc o).cell? ⟨B, 0, none⟩ = some (.slice pc2 nn cc2) := fun o => (World.cell?_alloc_lt _ _ _ (at_lt HBX3.out)).trans x0
    go_upto_region 6 with fail
    refine abs_wp fun w5 hw5 => ?_
    clear hxa
    obtain ⟨a5, g0, g1⟩ := two_allocs wc _ _ w5 hw5
    obtain ⟨G, hG⟩ : ∃ G, G = wc.heap.size := ⟨_, rfl⟩
    rw [← hG] at g0 g1 ⊢
    have HGE := Lib.hid hG
    have HA5 := Lib.hid (show MirAt w wc G nn cc2 pc2 rs 0 w5 (.slice none 0 0) (.slice none 0 0) from
      ⟨⟨g1, OwnL.nil _, by simp [Value.ownBlock]⟩, ⟨g0, OwnL.nil _, by simp [Value.ownBlock]⟩, ⟨by simp [Value.ownBlock], by simp [Value.ownBlock], fun j h => by simp [Value.ownBlock] at h⟩, HB3.out.trans (a5.mono HB3.out.size), a5⟩)
    have HGG := Lib.hid (show w.heap.size ≤ wc.heap.size ∧ wc.heap.size ≤ G from ⟨HB3.out.size, by omega⟩)
    have HBLT := Lib.hid (show B < wc.heap.size from at_lt HBX3.out)
    obtain ⟨prr, crr, herr, hcrr, hget⟩ := HRU.out.get
    have HGET := Lib.hid (show ∀ i r, rs[i]? = some r → ∃ b off, pq = some ⟨b, off, none⟩ ∧ b < wc.heap.size ∧ ∃ row, cellsAt wc b (off + i * 8) row ∧ RuleIs wc r row from fun i r h => by
      obtain ⟨hi, rfl⟩ := List.getElem?_eq_some_iff.1 h
      obtain ⟨b, off, e, h1, h2⟩ := hget (by omega)
      injection herr with h3
      exact ⟨b, off, h3.trans e, h1, h2 i hi⟩)
    clear hw5 a5 g0 g1 hG x0 x1 hget herr hcrr
    go_wp2_with fail
    go_loopw [8] (fun i wz => ∃ k : Nat, i = .int .i64 k ∧ k ≤ m ∧ ∃ u v, MirAt w wc G nn cc2 pc2 rs k wz u v) (fun i _ => m - (intOf i).toNat)
    case atStart => exact ⟨0, rfl, by omega, _, _, HA5.out⟩
    case round =>
      obtain ⟨k, rfl, hk, u, v, ha⟩ := hrel
      have HA := Lib.hid ha
      obtain ⟨p1, c1, hv1⟩ := ha.one.own.form
      obtain ⟨p2, c2, hv2⟩ := ha.two.own.form
      rw [map_len HM.out hk] at hv1 hv2
      subst hv1 hv2
      have HBXR := Lib.hid (show wr.heap[B]? = some (.cells #[.slice pc2 nn cc2, .slice pq m cq] 25) from (ha.belowc.block _ HBLT.out).trans HBX3.out)
      obtain ⟨x0, x1⟩ := cells2 HBXR.out
      clear ha
      by_cases hkm : k < m
      · have hki : (k : Int) < (m : Int) := by omega
        have hk0 : (0 : Int) ≤ k := by omega
        have hkr : k < rs.length := by rw [← HM.out]; exact hkm
        obtain ⟨r, hrk⟩ : ∃ r, rs[k]? = some r := ⟨_, List.getElem?_eq_getElem hkr⟩
        obtain ⟨bp, op, rfl, hbp, row8, hcell, hri⟩ := HGET.out k r hrk
        have HRK := Lib.hid hrk
        obtain ⟨a1, b1, c1', d1, e1, f1, rfl, hnl, hnr⟩ := hri
        obtain ⟨opx, ppx, lx, c1x, qx, mx, dx, rfl, rfl, rfl⟩ := hnl.form
        obtain ⟨opy, ppy, ly, c1y, qy, my, dy, rfl, rfl, rfl⟩ := hnr.form
        have HNL := Lib.hid hnl
        have HNR2 := Lib.hid hnr
        obtain ⟨bk, hbk⟩ : ∃ bk, bk = r.brk := ⟨_, rfl⟩
        obtain ⟨st, hst⟩ : ∃ st, st = r.start := ⟨_, rfl⟩
        have HBK := Lib.hid hbk
        rw [← hbk, ← hst] at hcell
        have z0 := cell_below HA.out.belowc hbp (hcell 0 _ rfl)
        have z1 := cell_below HA.out.belowc hbp (hcell 1 _ rfl)
        have z2 := cell_below HA.out.belowc hbp (hcell 2 _ rfl)
        have z3 := cell_below HA.out.belowc hbp (hcell 3 _ rfl)
        have z4 := cell_below HA.out.belowc hbp (hcell 4 _ rfl)
        have z5 := cell_below HA.out.belowc hbp (hcell 5 _ rfl)
        have z6 := cell_below HA.out.belowc hbp (hcell 6 _ rfl)
        have z7 := cell_below HA.out.belowc hbp (hcell 7 _ rfl)
        simp only [Nat.add_zero] at z0
        clear hcell hnl hnr hbk hst hrk hkr hbp
        go_upto_region 10 with fail
        refine abs_wp fun w6 hw6 => ?_
        obtain ⟨X, hX⟩ : ∃ X, X = wr.heap.size := ⟨_, rfl⟩
        rw [← hX]
        have HXE := Lib.hid hX
        have HX6 := Lib.hid (show w6.heap[X]? = some (.cells #[.int .i64 opx, .slice ppx lx c1x, .slice qx mx dx, .int .i64 opy, .slice ppy ly c1y, .slice qy my dy, .bool bk, .bool st] 54) by rw [hw6, hX]; exact heap_alloc_new _ _)
        have HB6 := Lib.hid (show Below wr.heap.size wr w6 by rw [hw6]; exact below_alloc1 _ _)
        clear hw6 hX x0 x1 z0 z1 z2 z3 z4 z5 z6 z7
        obtain ⟨z0, z1, z2, z3, z4, z5, z6, z7⟩ := cells8 HX6.out
        have zf := fz_at HX6.out 7
        go_upto_region 11 with fail
        refine abs_wp fun w7 hw7 => ?_
        have HX7 := Lib.hid (show w7.heap[X]? = some (.cells #[.int .i64 opx, .slice ppx lx c1x, .slice qx mx dx, .int .i64 opy, .slice ppy ly c1y, .slice qy my dy, .bool bk, .bool false] 54) by rw [hw7]; exact blk_set HX6.out 7 (.bool false))
        have HB7 := Lib.hid (show Below wr.heap.size wr w7 by rw [hw7]; exact below_set HB6.out X (by have := HXE.out; omega) 7 _)
        have HA7 := Lib.hid (HA.out.keep HB7.out)
        clear hw7 z0 z1 z2 z3 z4 z5 z6 z7 zf
        obtain ⟨z0, z1, z2, z3, z4, z5, z6, z7⟩ := cells8 HX7.out
        obtain ⟨y0, y1⟩ := cells2 HA7.out.one.out
        have HAL := Lib.hid (below_alloc1 w7 (.cells #[.int .i64 opx, .slice ppx lx c1x, .slice qx mx dx, .int .i64 opy, .slice ppy ly c1y, .slice qy my dy, .bool bk, .bool false] 54))
        go_wp2_with (refine stop_at (.call { callee := .builtin .append, args := #[.tmp 49, .tmp 51], argTypes := #[23, 23] }) rfl ?_)
        refine ⟨?_⟩
        refine wpList_append_rules rfl (.tmp 49) (.tmp 51) rfl (.slice p1 k c1) _ k (map_len HM.out hk plainR) rfl (HA7.out.one.own.below HAL.out (Nat.le_refl _)) _ [plainR r] 1 rfl rfl (ReadL.one w7 _ _ [.int .i64 opx, .slice ppx lx c1x, .slice qx mx dx, .int .i64 opy, .slice ppy ly c1y, .slice qy my dy, .bool bk, .bool false] ⟨rfl, by simp [Value.oneCell']⟩ ⟨_, _, _, _, _, _, by rw [HBK.out]; rfl, HNL.out, HNR2.out⟩) (by omega) (Nat.le_trans HA7.out.belowc.size HAL.out.size) ?_
        intro p4 c4 w8 hown8 hg8 hlie8
        rw [← map_snoc HRK.out] at hown8
        obtain ⟨hG8, hnx8⟩ := HA7.out.one.put HAL.out hown8 hg8 hlie8
        have HNX8 := Lib.hid hnx8
        obtain ⟨q0, q1⟩ := cells2 hG8
        have qf := fz_at hG8 1
        clear hown8 hg8 hlie8 hG8 hnx8 y0 y1 z0 z1 z2 z3 z4 z5 z6 z7
        go_upto_region 12 with fail
        refine abs_wp fun w9 hw9 => ?_
        rw [← hw9] at HNX8
        have hfst := HA7.out.first HGG.out HNX8.out
        have HXG := Lib.hid (show X ≠ G ∧ X ≠ G + 1 ∧ (Value.slice p1 k c1).ownBlock ≠ some X ∧ (Value.slice p2 k c2).ownBlock ≠ some X from by
          have h1 := at_lt HA.out.one.out
          have h2 := at_lt HA.out.two.out
          have h3 := HXE.out
          exact ⟨by omega, by omega, fun he => by have := (HA.out.one.own.lt X he).2; omega, fun he => by have := (HA.out.two.own.lt X he).2; omega⟩)
        have HX9 := Lib.hid ((HNX8.out.fr.block X (at_lt HX7.out) (fun h => by rcases h with h | h; exact HXG.out.2.1 h; exact HXG.out.2.2.1 h)).trans HX7.out)
        have HF9 := Lib.hid hfst
        clear hw9 q0 q1 qf hfst
        have HS9 := Lib.hid (show w9.heap[X]? = some (.cells #[.int .i64 opx, .slice ppx lx c1x, .slice qx mx dx, .int .i64 opy, .slice ppy ly c1y, .slice qy my dy, .bool bk, .bool false] 54) ∧ w9.heap[G]? = some (.cells #[.slice pc2 nn cc2, .slice p2 k c2] 25) from ⟨HX9.out, HF9.out.1.out⟩)
        refine wp_region_fin 14 (fun W => W.heap[X]? = some (.cells #[.int .i64 opx, .slice ppx lx c1x, .slice qx mx dx, .int .i64 opy, .slice ppy ly c1y, .slice qy my dy, .bool bk, .bool false] 54) ∧ W.heap[G]? = some (.cells #[.slice pc2 nn cc2, .slice p2 k c2] 25)) (.reads [0, 1, 2, 3, 5, 6, 8, 9] (.one 4 (.one 7 (.reads [10] (.one 11 (.one 12 (.reads [13] (.last 14)))))))) 154 (by kernel_rfl) (by kernel_rfl) rfl (fun _ _ _ _ _ h => h) HS9.out ?_
        apply plan_readsW
        · intro W hW
          obtain ⟨z0, z1, z2, z3, z4, z5, z6, z7⟩ := cells8 hW.1
          obtain ⟨y0, y1⟩ := cells2 hW.2
          clear hW
          iterate 8 (refine WR_step (fun K hK => ?_); go_simp; refine hK.out _ ?_; clear hK K)
          exact WR_nil rfl
        refine abs_plan fun W0 hW0 => ?_
        have HZ0 := Lib.hid (show Below w9.heap.size w9 W0 by rw [hW0]; exact (Below.refl _ _).drew)
        clear hW0
        have HR1 := Lib.hid (rrev_any r.right W0 _ _ _ ((HNR2.out.to HF9.out.2.2.2 (Nat.le_refl _)).to HZ0.out (Nat.le_refl _)))
        refine plan_one rfl ?_
        go_wp2_with fail
        refine HR1.out.mono ?_
        rintro e W1 ⟨a9, b9, c9, rfl, hn1, hb1⟩
        obtain ⟨o1, g1, l1, k1, h1, m1, n1, rfl, rfl, rfl⟩ := hn1.is.form
        have HN1 := Lib.hid hn1
        have HY1 := Lib.hid hb1
        have HZ1 := Lib.hid (HZ0.out.trans (hb1.mono HZ0.out.size))
        clear hn1 hb1 HR1
        go_wp2_with fail
        refine Then.mk ⟨(HZ1.out.block _ (at_lt HS9.out.1)).trans HS9.out.1, (HZ1.out.block _ (at_lt HS9.out.2)).trans HS9.out.2⟩ ?_
        have HR2 := Lib.hid (rrev_any r.left W1 _ _ _ ((HNL.out.to HF9.out.2.2.2 (Nat.le_refl _)).to HZ1.out (Nat.le_refl _)))
        refine plan_one rfl ?_
        go_wp2_with fail
        refine HR2.out.mono ?_
        rintro e W2 ⟨a8, b8, c8, rfl, hn2, hb2⟩
        obtain ⟨o2, g2, l2, k2, h2, m2, n2, rfl, rfl, rfl⟩ := hn2.is.form
        have HN2 := Lib.hid hn2
        have HY2 := Lib.hid hb2
        have HZ2 := Lib.hid (HZ1.out.trans (hb2.mono HZ1.out.size))
        clear hn2 hb2 HR2
        go_wp2_with fail
        refine Then.mk ⟨(HZ2.out.block _ (at_lt HS9.out.1)).trans HS9.out.1, (HZ2.out.block _ (at_lt HS9.out.2)).trans HS9.out.2⟩ ?_
        apply plan_readsW
        · intro W hW
          clear hW
          iterate 1 (refine WR_step (fun K hK => ?_); go_simp; refine hK.out _ ?_; clear hK K)
          exact WR_nil rfl
        refine plan_one rfl ?_
        go_wp2_with fail
        have HAL3 := Lib.hid (below_alloc1 W2 (.cells #[.int .i64 o1, .slice g1 l1 k1, .slice h1 m1 n1, .int .i64 o2, .slice g2 l2 k2, .slice h2 m2 n2, .bool bk, .bool false] 54))
        have HZ3 := Lib.hid (HZ2.out.trans (HAL3.out.mono HZ2.out.size))
        refine Then.mk ⟨(HZ3.out.block _ (at_lt HS9.out.1)).trans HS9.out.1, (HZ3.out.block _ (at_lt HS9.out.2)).trans HS9.out.2⟩ ?_
        have HU := Lib.hid (show (Value.slice p4 (k + 1) c4).ownBlock ≠ some G ∧ (Value.slice p2 k c2).ownBlock ≠ some (G + 1) ∧ ∀ j, (Value.slice p4 (k + 1) c4).ownBlock = some j → (Value.slice p2 k c2).ownBlock ≠ some j from HF9.out.2.1)
        have HLT := Lib.hid (show (∀ j, (Value.slice p4 (k + 1) c4).ownBlock = some j → j < w9.heap.size) ∧ (∀ j, (Value.slice p2 k c2).ownBlock = some j → j < w9.heap.size) ∧ G + 1 < w9.heap.size from ⟨fun j hj => (HNX8.out.rs.own.lt j hj).2, fun j hj => (HF9.out.1.own.lt j hj).2, at_lt HNX8.out.rs.out⟩)
        have HBC2 := Lib.hid (HF9.out.2.2.2.trans (HZ2.out.mono HF9.out.2.2.2.size))
        have HBE2 := Lib.hid (HF9.out.2.2.1.trans (HZ2.out.mono HF9.out.2.2.1.size))
        have HTW2 := Lib.hid (show RS (ruleF (FMir wc.heap.size G W2 (.slice p4 (k + 1) c4) (.slice p2 k c2)) W2) wc.heap.size G (.slice pc2 nn cc2) W2 (.slice p2 k c2) ((rs.take k).map mirR) from
          (HF9.out.1.below HZ2.out).monoE (fun x r hr => (hr.below HZ2.out (Nat.le_refl _)).mono (fun j ⟨a, b, c, d, e, f⟩ => ⟨a, Nat.lt_of_lt_of_le b HZ2.out.size, c, d, e, f⟩)))
        obtain ⟨W3, hW3⟩ : ∃ W3, W3 = W2.alloc (.cells #[.int .i64 o1, .slice g1 l1 k1, .slice h1 m1 n1, .int .i64 o2, .slice g2 l2 k2, .slice h2 m2 n2, .bool bk, .bool false] 54) := ⟨_, rfl⟩
        have HE3 := Lib.hid (show ∀ x r, ruleF (FMir wc.heap.size G W2 (.slice p4 (k + 1) c4) (.slice p2 k c2)) W2 x r → ruleF (FMir wc.heap.size G W3 (.slice p4 (k + 1) c4) (.slice p2 k c2)) W3 x r from fun x r hr => by
          have hb3 : Below W2.heap.size W2 W3 := by rw [hW3]; exact HAL3.out
          exact (hr.below hb3 (Nat.le_refl _)).mono (fun j ⟨a, b, c, d, e, f⟩ => ⟨a, Nat.lt_of_lt_of_le b hb3.size, c, d, e, f⟩))
        have HROW3 := Lib.hid (show ruleF (FMir wc.heap.size G W3 (.slice p4 (k + 1) c4) (.slice p2 k c2)) W3 (mirR r) [.int .i64 o1, .slice g1 l1 k1, .slice h1 m1 n1, .int .i64 o2, .slice g2 l2 k2, .slice h2 m2 n2, .bool bk, .bool false] from by
          have hb3 : Below W2.heap.size W2 W3 := by rw [hW3]; exact HAL3.out
          have hs3 := hb3.size
          have key : ∀ j, w9.heap.size ≤ j → j < W3.heap.size → FMir wc.heap.size G W3 (.slice p4 (k + 1) c4) (.slice p2 k c2) j := fun j h1 h2 => ⟨by have := HF9.out.2.2.2.size; omega, h2, by have := HLT.out.2.2; omega, by have := HLT.out.2.2; omega, fun h => by have := HLT.out.1 j h; omega, fun h => by have := HLT.out.2.1 j h; omega⟩
          refine ⟨_, _, _, _, _, _, by rw [HBK.out]; rfl, ?_, ?_⟩
          · have h12 : Below W1.heap.size W1 W3 := HY2.out.trans (hb3.mono HY2.out.size)
            refine NodeF.mono (fun j hj => key j ?_ ?_) _ (NodeF.below h12 (Nat.le_refl _) _ (NodeF.lt _ HN1.out))
            · have := HZ0.out.size; have := hj.1; omega
            · have := h12.size; have := hj.2; omega
          · refine NodeF.mono (fun j hj => key j ?_ ?_) _ (NodeF.below hb3 (Nat.le_refl _) _ (NodeF.lt _ HN2.out))
            · have := HZ1.out.size; have := hj.1; omega
            · have := hj.2; omega)
        have HB3' := Lib.hid (show Below W2.heap.size W2 W3 from by rw [hW3]; exact HAL3.out)
        have HLST := Lib.hid (show ReadL (ruleF (FMir wc.heap.size G W3 (.slice p4 (k + 1) c4) (.slice p2 k c2)) W3) 8 W3 (.slice (some ⟨W2.heap.size, 0, none⟩) 1 1) [mirR r] from by
          have h := ReadL.one (E := ruleF (FMir wc.heap.size G W3 (.slice p4 (k + 1) c4) (.slice p2 k c2)) W3) W2 54 (mirR r) [.int .i64 o1, .slice g1 l1 k1, .slice h1 m1 n1, .int .i64 o2, .slice g2 l2 k2, .slice h2 m2 n2, .bool bk, .bool false] ⟨rfl, by simp [Value.oneCell']⟩ HROW3.out
          rw [hW3] at h ⊢
          exact h)
        rw [← hW3]
        clear hW3
        have HT3 := Lib.hid (HTW2.out.monoE HE3.out)
        refine plan_one rfl ?_
        refine wpList_append_rules rfl (.tmp 55) (.tmp 65) rfl (.slice p2 k c2) _ k (map_len HM.out hk mirR) rfl (HT3.out.own.below HB3'.out (Nat.le_refl _)) _ [mirR r] 1 rfl rfl HLST.out (by omega) (Nat.le_trans HBC2.out.size HB3'.out.size) ?_
        intro p5 c5 W4 hown4 hg4 hlie4
        rw [← map_snoc HRK.out] at hown4
        obtain ⟨hG4, hnx4⟩ := HT3.out.put HB3'.out hown4 hg4 hlie4
        have HNX4 := Lib.hid hnx4
        have HF4 := Lib.hid (show Fr (fun j => (Value.slice p2 k c2).ownBlock = some j) W3 W4 from Fr.grown (F := fun j => (Value.slice p2 k c2).ownBlock = some j) hg4 (fun k h => h))
        have HX4 := Lib.hid (show W4.heap[X]? = _ from (HF4.out.block X (by have := at_lt HS9.out.1; have := HZ2.out.size; have := HB3'.out.size; omega) HXG.out.2.2.2).trans ((HB3'.out.block X (by have := at_lt HS9.out.1; have := HZ2.out.size; omega)).trans ((HZ2.out.block _ (at_lt HS9.out.1)).trans HS9.out.1)))
        have HNW := Lib.hid (show ∀ j, j < W3.heap.size → (Value.slice p2 k c2).ownBlock ≠ some j → (Value.slice p5 (k + 1) c5).ownBlock ≠ some j from fun j h1 h2 he => by
          rcases hlie4 with h | h
          · exact h2 (h ▸ he)
          · rw [he] at h; injection h with h; omega)
        have HFA := Lib.hid (show Fr (fun j => j = G ∨ (Value.slice p2 k c2).ownBlock = some j ∨ W3.heap.size ≤ j) W3 (W4.setCell ⟨G, 1, none⟩ (.slice p5 (k + 1) c5)) from
          (HF4.out.mono (G := fun j => j = G ∨ (Value.slice p2 k c2).ownBlock = some j ∨ W3.heap.size ≤ j) (fun k _ h => .inr (.inl h))).trans ((Fr.setCell (F := fun j => j = G) W4 (p := ⟨G, 1, none⟩) rfl (.slice p5 (k + 1) c5)).mono (G := fun j => j = G ∨ (Value.slice p2 k c2).ownBlock = some j ∨ W3.heap.size ≤ j) (fun k _ h => .inl h)) (fun _ _ h => h))
        have HFIN := Lib.hid (MirAt.second (k := k) (k' := k + 1) HTW2.out HU.out HBE2.out HBC2.out HGG.out (HNX8.out.rs.below HZ2.out) HB3'.out HNX4.out HFA.out HNW.out)
        obtain ⟨q0, q1⟩ := cells2 hG4
        have qf := fz_at hG4 1
        have HG4 := Lib.hid hG4
        clear hown4 hg4 hlie4 hG4 hnx4
        refine Then.mk ⟨HX4.out, HG4.out⟩ ?_
        apply plan_readsW
        · intro W hW
          clear hW
          iterate 1 (refine WR_step (fun K hK => ?_); go_simp; refine hK.out _ ?_; clear hK K)
          exact WR_nil rfl
        refine plan_last rfl ?_
        go_wp2_with fail
        exact ⟨⟨k + 1, by go_num, by omega, _, _, HFIN.out⟩, by simp [intOf]; omega⟩
      · have hki : ¬ (k : Int) < (m : Int) := by omega
        obtain rfl : m = k := by omega
        have HTK := Lib.hid (show rs.take m = rs from by rw [HM.out, List.take_length])
        have HRP := Lib.hid (show Rules wr (.slice p1 m c1) (rs.map plainR) from by
          have h := HA.out.one.own
          rw [HTK.out] at h
          exact rules_of_read (h.read.monoE (fun x r hr => hr.to HA.out.belowc (Nat.le_refl _))))
        have HRM := Lib.hid (show Rules wr (.slice p2 m c2) (rs.map mirR) from by
          have h := HA.out.two.own
          rw [HTK.out] at h
          exact rules_read h.read)
        have HBG := Lib.hid (And.intro HA.out.one.out HA.out.two.out)
        have HBW := Lib.hid HA.out.below
        obtain ⟨co, hco⟩ : ∃ co, co = compC nn (rs.map plainR) := ⟨_, rfl⟩
        have HCO := Lib.hid hco
        have HC1 := Lib.hid ((compile_any wr pc2 nn cc2 (.slice p1 m c1) _ HRP.out (by rw [List.length_map]; have := HM.out; omega)).mono fun e w' h => CompPost.two h)
        clear hco
        obtain ⟨y0, y1⟩ := cells2 HBG.out.1
        go_wp2_with fail
        refine HC1.out.mono ?_
        rintro e v1 ⟨hb1, q1, rfl, hcase1⟩
        rw [← HCO.out] at hcase1 ⊢
        have HCA1 := Lib.hid hcase1
        have HV1 := Lib.hid hb1
        clear hb1 hcase1 x0 x1 y0 y1 HC1
        obtain ⟨x0, x1⟩ := cells2 ((HV1.out.block _ (at_lt HBG.out.2)).trans HBG.out.2)
        have HC2 := Lib.hid ((compile_any v1 pc2 nn cc2 (.slice p2 m c2) _ (HRM.out.to HV1.out (Nat.le_refl _)) (by rw [List.length_map]; have := HM.out; omega)).mono fun e w' h => CompPost.two h)
        go_wp2_with fail
        refine HC2.out.mono ?_
        rintro e v2 ⟨hb2, q2, rfl, hcase2⟩
        rw [← compC_mir, ← HCO.out] at hcase2 ⊢
        have HV2 := Lib.hid (HV1.out.trans (hb2.mono HV1.out.size))
        have HD2 := Lib.hid hb2
        have HWF := Lib.hid (HBW.out.trans (HV2.out.mono HBW.out.size))
        clear hb2 x0 x1 HC2
        rcases hcase2 with ⟨rfl, T2, rfl, ht2⟩ | ⟨hne, rfl⟩
        · obtain ⟨T1, hq1, ht1⟩ : ∃ T, q1 = some ⟨T, 0, none⟩ ∧ TabsOf v1 T nn (rs.map plainR) := by
            rcases HCA1.out with ⟨-, h⟩ | ⟨h, -⟩
            · exact h
            · exact (h rfl).elim
          subst hq1
          have HT1 := Lib.hid (ht1.to HD2.out)
          have HT2 := Lib.hid ht2
          have HI2 := Lib.hid (HI.out.to HWF.out (Nat.le_refl _))
          obtain ⟨ptr', ctr', her, -, hxr⟩ := HI2.out.get
          injection her with her1 her2 her3
          subst her1 her3
          have HXR := Lib.hid (show ∀ W, Below v2.heap.size v2 W → ∀ i : Nat, i < nr → ∃ b off x, ptr = some ⟨b, off, none⟩ ∧ row[i]? = some x ∧ W.cell? ⟨b, off + i, none⟩ = some (.int .i64 x) from fun W hW i hi => by
            obtain ⟨b, off, e, hbl, hx⟩ := hxr (by rw [← HNR.out]; omega)
            have hil : i < row.length := by rw [← HNR.out]; exact hi
            exact ⟨b, off, row[i], e, List.getElem?_eq_getElem hil, cell_below hW hbl (hx i hil)⟩)
          clear ht1 ht2 hxr her2
          go_wp2_with fail
          go_loopw [14, 15] (fun u i wz => ∃ j : Nat, i = .int .i64 ((nr : Int) - 1 - j) ∧ j ≤ nr ∧ OwnL intE 3 1 v2.heap.size wz u (row.reverse.take j) ∧ Below v2.heap.size v2 wz) (fun _ i _ => (intOf i + 1).toNat)
          case atStart => exact ⟨0, by simp, by omega, OwnL.nil _, Below.refl _ _⟩
          case round =>
            obtain ⟨j, rfl, hj, hown, hb⟩ := hrel
            have HOWN2 := Lib.hid hown
            have HBJ := Lib.hid hb
            obtain ⟨pj, cj, rfl⟩ := hown.form
            have hjl : (row.reverse.take j).length = j := by rw [List.length_take, List.length_reverse, ← HNR.out]; omega
            rw [hjl] at HOWN2 ⊢
            clear hown hb
            by_cases hjn : j < nr
            · obtain ⟨i, hi⟩ : ∃ i, i = nr - 1 - j := ⟨_, rfl⟩
              have hii : (nr : Int) - 1 - j = (i : Nat) := by omega
              have hi0 : (0 : Int) ≤ i := by omega
              have hin : (i : Int) < (nr : Int) := by omega
              rw [hii]
              obtain ⟨b, off, x, rfl, hx, d0⟩ := HXR.out wr HBJ.out i (by omega)
              have HXE := Lib.hid (show row.reverse.take (j + 1) = row.reverse.take j ++ [x] from by
                have hl : j < row.reverse.length := by rw [List.length_reverse, ← HNR.out]; exact hjn
                rw [List.take_succ_eq_append_getElem hl, List.getElem_reverse]
                have hil : i < row.length := by rw [← HNR.out]; omega
                rw [List.getElem?_eq_getElem hil] at hx
                have e : row.length - 1 - j = i := by rw [← HNR.out]; exact hi.symm
                simp only [e]
                rw [Option.some.inj hx])
              have hnext : (i : Int) - 1 = (nr : Int) - 1 - ((j + 1 : Nat) : Int) := by omega
              have HNXT := Lib.hid hnext
              clear hx hi hii hnext
              have HAL := Lib.hid (below_alloc1 wr (.cells #[.int .i64 x] 3))
              go_wp2_with (refine stop_at (.call { callee := .builtin .append, args := #[.tmp 105, .tmp 110], argTypes := #[46, 46] }) rfl ?_)
              refine ⟨?_⟩
              have hj20 : j ≤ 30 := by omega
              refine wpList_append_intsN rfl (.tmp 105) (.tmp 110) rfl (.slice pj j cj) (row.reverse.take j) j hjl rfl (base := v2.heap.size) (HOWN2.out.below HAL.out (Nat.le_refl _)) _ [x] 1 rfl rfl (ReadL.one (E := intE) wr _ x [.int .i64 x] ⟨rfl, by simp [Value.oneCell']⟩ rfl) (by omega) (Nat.le_trans HBJ.out.size HAL.out.size) ?_
              intro p6 c6 w6 hown6 hg6 hlie6
              rw [← HXE.out] at hown6
              have HO6 := Lib.hid hown6
              have HB6 := Lib.hid (show Below v2.heap.size v2 w6 from (HBJ.out.trans (HAL.out.mono HBJ.out.size)).trans ((Fr.grown (F := fun q => (Value.slice pj j cj).ownBlock = some q) hg6 (fun k h => h)).below (Nat.le_trans HBJ.out.size HAL.out.size) (fun q hq => (HOWN2.out.lt q hq).1)))
              clear hown6 hg6 hlie6 d0
              go_wp2_with fail
              go_roundw
              case rel => exact ⟨j + 1, by rw [HNXT.out], by omega, HO6.out, HB6.out⟩
              case measure => (simp [intOf]; try omega)
            · have hjj : j = nr := by omega
              have HREV := Lib.hid (show Ints wr (.slice pj nr cj) row.reverse from by
                have h := HOWN2.out.read.ints
                rw [hjj, List.take_of_length_le (by rw [List.length_reverse, ← HNR.out]; exact Nat.le_refl _)] at h
                exact h)
              have hii : (nr : Int) - 1 - j = -1 := by omega
              rw [hii, hjj]
              have HT1r := Lib.hid (HT1.out.to HBJ.out)
              have HT2r := Lib.hid (HT2.out.to HBJ.out)
              have HWR := Lib.hid (HWF.out.trans (HBJ.out.mono HWF.out.size))
              have HB1 := Lib.hid (boundaries_any wr T1 nn _ HT1r.out (.slice ptr nr ctr) row (HI2.out.to HBJ.out (Nat.le_refl _)) (by have := HNR.out; omega))
              clear hii hjl
              go_wp2_with fail
              refine HB1.out.mono ?_
              rintro e u1 ⟨hu1, hr1⟩
              have HU1 := Lib.hid hu1
              have HB2' := Lib.hid (boundaries_any u1 T2 nn _ (HT2r.out.to hu1) (.slice pj nr cj) row.reverse (HREV.out.to hu1 (Nat.le_refl _)) (by rw [List.length_reverse]; have := HNR.out; omega))
              by_cases hro : RowOk nn row
              · obtain ⟨va, rfl, hva⟩ : ∃ v, e = .returned (.tuple #[v, .int .i64 0]) ∧ Bools u1 v (segL (rs.map plainR) row) := by
                  rcases hr1 with ⟨-, h⟩ | ⟨h, -⟩
                  · exact h
                  · exact (h hro).elim
                have HRO := Lib.hid hro
                obtain ⟨pa, ca, rfl, hca, -⟩ := hva.get
                have HVA := Lib.hid hva
                rw [segL_length, ← HNR.out] at hca HVA ⊢
                clear hr1 hu1 hva hro
                go_wp2_with fail
                refine HB2'.out.mono ?_
                rintro e u2 ⟨hu2, hr2⟩
                have HU2 := Lib.hid (HU1.out.trans (hu2.mono HU1.out.size))
                obtain ⟨vb, rfl, hvb⟩ : ∃ v, e = .returned (.tuple #[v, .int .i64 0]) ∧ Bools u2 v (segL (rs.map mirR) row.reverse) := by
                  rcases hr2 with ⟨-, h⟩ | ⟨h, -⟩
                  · exact h
                  · exact (h (rowOk_rev HRO.out)).elim
                have hva2 := Bools.to hu2 (Nat.le_refl _) HVA.out
                obtain ⟨pb, cb, rfl, hcb, hgb⟩ := hvb.get
                obtain ⟨pa', ca', ea, -, hga⟩ := hva2.get
                injection ea with ea1 ea2 ea3
                subst ea1
                have HCEL := Lib.hid (show ∀ W, Below u2.heap.size u2 W → ∀ k : Nat, k < nr + 1 → (∃ b o, pa = some ⟨b, o, none⟩ ∧ W.cell? ⟨b, o + k, none⟩ = some (.bool (segAt (rs.map plainR) row k))) ∧ (∃ b o, pb = some ⟨b, o, none⟩ ∧ W.cell? ⟨b, o + k, none⟩ = some (.bool (segAt (rs.map mirR) row.reverse k))) from fun W hW k hk => by
                  obtain ⟨b1, o1, e1, h1, g1⟩ := hga (by rw [segL_length]; omega)
                  obtain ⟨b2, o2, e2, h2, g2⟩ := hgb (by rw [segL_length]; omega)
                  have l1 : k < (segL (rs.map plainR) row).length := by rw [segL_length, ← HNR.out]; exact hk
                  have l2 : k < (segL (rs.map mirR) row.reverse).length := by rw [segL_length, List.length_reverse, ← HNR.out]; exact hk
                  have j1 := cell_below hW h1 (g1 k l1)
                  have j2 := cell_below hW h2 (g2 k l2)
                  rw [segL_get] at j1 j2
                  exact ⟨⟨b1, o1, e1, j1⟩, ⟨b2, o2, e2, j2⟩⟩)
                rw [segL_length, List.length_reverse, ← HNR.out] at hcb ⊢
                have hn2 : ((nr : Int) + 1 == (nr : Int) + 1) = true := by simp
                clear hr2 hu2 hvb hva2 hga hgb ea2 ea3
                go_wp2_with fail
                go_loopw [20] (fun i wz => ∃ k : Nat, i = .int .i64 k ∧ k ≤ nr + 1 ∧ Below u2.heap.size u2 wz) (fun i _ => nr + 1 - (intOf i).toNat)
                case atStart => exact ⟨0, rfl, by omega, Below.refl _ _⟩
                case round =>
                  obtain ⟨k, rfl, hk, hb⟩ := hrel
                  have HB := Lib.hid hb
                  by_cases hkn : k < nr + 1
                  · have hki : (k : Int) < (nr : Int) + 1 := by omega
                    have hk0 : (0 : Int) ≤ k := by omega
                    obtain ⟨q, hq⟩ : ∃ q, q = nr - k := ⟨_, rfl⟩
                    obtain ⟨⟨b1, o1, rfl, d1⟩, -⟩ := HCEL.out wr hb k hkn
                    obtain ⟨-, ⟨b2, o2, rfl, d2⟩⟩ := HCEL.out wr hb q (by omega)
                    have hs : segAt (rs.map mirR) row.reverse q = segAt (rs.map plainR) row k := by
                      rw [hq, HNR.out]
                      exact seg_mir rs row (by rw [← HNR.out]; omega)
                    rw [hs] at d2
                    generalize segAt (rs.map plainR) row k = sa at *
                    have hq0 : (0 : Int) ≤ q := by omega
                    have hq1 : (q : Int) < (nr : Int) + 1 := by omega
                    have hw1 : IntKind.i64.wrap ((nr : Int) + 1 - 1) = (nr : Nat) := by
                      rw [show (nr : Int) + 1 - 1 = (nr : Nat) by omega]
                      exact IntWalk.i64_in _ (by omega)
                    have hw2 : IntKind.i64.wrap ((nr : Int) - k) = (q : Nat) := by
                      rw [show (nr : Int) - k = (q : Nat) by omega]
                      exact IntWalk.i64_in _ (by omega)
                    have hne1 : (sa != sa) = false := by cases sa <;> rfl
                    clear hb hs hq
                    go_upto_region 29 with fail
                    go_quiet (fail)
                    go_wp2_with fail
                    exact ⟨⟨k + 1, by go_num, by omega, ⟨HB.out.os, HB.out.tape, HB.out.output, HB.out.size, HB.out.block⟩⟩, by simp [intOf]; omega⟩
                  · have hki : ¬ (k : Int) < (nr : Int) + 1 := by omega
                    clear hb
                    go_wp2_with fail
                    go_ret
                    exact ⟨rfl, HWR.out.trans ((HU2.out.trans (HB.out.mono HU2.out.size)).mono HWR.out.size)⟩
              · obtain rfl : e = .returned (.tuple #[.slice none 0 0, .int .i64 1]) := by
                  rcases hr1 with ⟨h, -⟩ | ⟨-, h⟩
                  · exact (hro h).elim
                  · exact h
                have HRO := Lib.hid hro
                clear hr1 hu1 hro
                go_wp2_with fail
                refine HB2'.out.mono ?_
                rintro e u2 ⟨hu2, hr2⟩
                have HU2 := Lib.hid (HU1.out.trans (hu2.mono HU1.out.size))
                obtain rfl : e = .returned (.tuple #[.slice none 0 0, .int .i64 1]) := by
                  rcases hr2 with ⟨h, -⟩ | ⟨-, h⟩
                  · exact (HRO.out (rowOk_of_rev h)).elim
                  · exact h
                clear hr2 hu2
                go_wp2_with fail
                go_loopw [20] (fun i wz => i = .int .i64 0 ∧ wz = u2) (fun _ _ => 0)
                case atStart => exact ⟨rfl, rfl⟩
                case round =>
                  obtain ⟨rfl, rfl⟩ := hrel
                  go_wp2_with fail
                  go_ret
                  exact ⟨rfl, HWR.out.trans (HU2.out.mono HWR.out.size)⟩
        · obtain rfl : q1 = none := by
            rcases HCA1.out with ⟨h, -⟩ | ⟨-, h⟩
            · exact (hne h).elim
            · exact h
          have hcc : (co == co) = true := by simp
          go_wp2_with fail
          go_ret
          exact ⟨rfl, HWF.out⟩
end Go.Proofs.Ythmaokjhncokdaa

