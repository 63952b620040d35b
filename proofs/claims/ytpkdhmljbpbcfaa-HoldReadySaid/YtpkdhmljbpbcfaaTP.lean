/-
  HoldOrder ends true. No condition beyond what each theorem names.
-/
import Derived.Test.YtpkdhmljbpbcfaaTO
set_option linter.unusedVariables false
set_option linter.unusedSimpArgs false
namespace Go.Proofs.Ytpkdhmljbpbcfaa
open Go.RowKit

/-- All: a list in a new block -/
theorem all_n {w0 w : World} {Ks : Nat → Prop} {bh : Nat} {room : Int} {xs : List OpV} (h : Has w0 w Ks bh room xs) : Calls Try.prog 18 #[.pointer (some ⟨bh, 0, none⟩)] w fun e w' => ∃ v', e = .returned v' ∧ Below w.heap.size w w' ∧
    (∀ k, v'.ownBlock = some k → w.heap.size ≤ k ∧ k < w'.heap.size) ∧ Mine w' (fun k => v'.ownBlock = some k) v' xs := by
  obtain ⟨F, v, h2, h3, h4⟩ := h.some
  refine (all_any w F bh room v xs h.len h2).mono fun e w' ⟨v', he, hr, hb⟩ => ⟨v', he, hb, fun k hk => ?_, ownsRow_base hr, fun k hk => hk⟩
  rcases hr.2 with ⟨rfl, -⟩ | ⟨g, cap, cur, rfl, h5, h6, -⟩
  · simp [Value.ownBlock] at hk
  · simp only [Value.ownBlock, Option.some.injEq] at hk
    subst hk
    exact ⟨h5, (Array.getElem?_eq_some_iff.1 h6).1⟩

/-- what HoldOrder's first loop has made -/
def OrdAt (w wx : World) (bn ba bb : Nat) (a : Int) (u : Value) (k : Nat) (Ks : Nat → Prop) (ys us : List OpV) : Prop :=
  Two w wx Ks ba 40 ys bb 40 [] ∧ Ks bn ∧ wx.cell? ⟨bn, 0, none⟩ = some (.int .i64 a) ∧ Mine wx (fun b => Ks b ∧ bn < b) u us ∧ us.length = ys.length ∧ (∀ p, p ∈ us ↔ p ∈ ys) ∧ ys.length ≤ k ∧ ∃ ad cap, u = .slice ad us.length cap

theorem OrdAt.kept {w wx wy : World} {bn ba bb : Nat} {a : Int} {u : Value} {k j : Nat} {Ks : Nat → Prop} {ys us : List OpV} (h : OrdAt w wx bn ba bb a u k Ks ys us) (h2 : Two w wy Ks ba 40 ys bb 40 []) (hk : ∀ b, Ks b → wy.heap[b]? = wx.heap[b]?) (hj : k ≤ j) : OrdAt w wy bn ba bb a u j Ks ys us := by
  obtain ⟨h1, h3, h4, h5, h6, h7, h8, h9⟩ := h
  exact ⟨h2, h3, kept_cell hk h3 h4, h5.kept (fun b hb => hk b hb.1) (fun _ h => h), h6, h7, by omega, h9⟩

theorem ord_add {w wx wy : World} {bn ba bb : Nat} {a : Int} {u : Value} {k : Nat} {Ks : Nat → Prop} {ys us : List OpV} {o : OpV} (h : OrdAt w wx bn ba bb a u k Ks ys us) (h2 : Two w wy Ks ba 40 (addTo 40 ys o) bb 40 []) (hk : ∀ b, Ks b → wy.heap[b]? = wx.heap[b]?)
    (hany : ys.any (sameId o.author o.seq) = true) : OrdAt w wy bn ba bb a u (k + 1) Ks ys us := by
  have e : addTo 40 ys o = ys := by simp [addTo, hany]
  rw [e] at h2
  exact h.kept h2 hk (by omega)

theorem ord_new {w : World} {bn : Nat} {Ks : Nat → Prop} {u u' : Value} {us : List OpV} {m : Nat} {wx wy : World} {ba bb : Nat} {ys : List OpV} {a : Int} (hbn : bn = w.heap.size) (h2 : Two w wx Ks ba 40 ys bb 40 []) (hg : Grew wx wy u u' us m) (hu : ∀ k, u.ownBlock = some k → Ks k ∧ bn < k) (hKb : Ks bn)
    (hc : wx.cell? ⟨bn, 0, none⟩ = some (.int .i64 a)) :
    ∃ Ls : Nat → Prop, (∀ k, Ks k → Ls k) ∧ Two w wy Ls ba 40 ys bb 40 [] ∧ Mine wy (fun b => Ls b ∧ bn < b) u' us ∧ Ls bn ∧ wy.cell? ⟨bn, 0, none⟩ = some (.int .i64 a) := by
  have hsz := h2.fst.ks bn hKb
  refine ⟨fun k => Ks k ∨ u'.ownBlock = some k, fun k h => .inl h, h2.writ (fun k => u.ownBlock = some k) (fun k hk => (hu k hk).1) hg.fr (fun k hk => by have := (hu k hk).2; omega) (fun k hk => ?_), hg.mine.kept (fun _ _ => rfl) (fun k hk => ⟨.inr hk, ?_⟩), .inl hKb, ?_⟩
  · rcases hk with hk | hk
    · exact .inl hk
    · rcases hg.lies k hk with h | h
      · exact .inl (hu k h).1
      · exact .inr h
  · rcases hg.lies k hk with h | h
    · exact (hu k h).2
    · omega
  · exact hg.fr.cell (p := ⟨bn, 0, none⟩) (fun e => by have := (hu bn e).2; omega) hc

set_option maxRecDepth 100000 in
set_option maxHeartbeats 4000000 in
theorem order_any (w : World) (v : Value) (xs : List OpV) (a : Int) (hn : xs.length ≤ 9223372036854775807) (hv : Rd w v xs) : Calls Try.prog 7 #[v, .int .i64 a] w (Says true w) := by
  obtain ⟨ad, cap, rfl, hx⟩ := hv
  have HX := Lib.hid hx
  clear hx
  obtain ⟨n, hlen⟩ : ∃ n, n = xs.length := ⟨_, rfl⟩
  rw [← hlen] at hn ⊢
  have HL := Lib.hid hlen
  clear hlen
  go_enter Try.func7, Try.ntmps7
  go_upto_region 1 with fail
  refine abs_wp fun W hW0 => ?_
  have hW : W = w.alloc (.cells #[.int .i64 a] 3) := hW0
  clear hW0
  have hBW : Below w.heap.size w W := by rw [hW]; exact (Below.refl _ _).alloc (Nat.le_refl _) _
  have hcn : W.cell? ⟨w.heap.size, 0, none⟩ = some (.int .i64 a) := by
    rw [hW]
    unfold World.cell?
    rw [show (w.alloc (.cells #[.int .i64 a] 3)).heap[w.heap.size]? = _ from heap_alloc_new _ _]
    rfl
  have hlt := World.block_lt_of_cell? W _ hcn
  obtain ⟨bn, hbn⟩ : ∃ bn, bn = w.heap.size := ⟨_, rfl⟩
  rw [← hbn] at hcn hlt ⊢
  have HBN := Lib.hid hbn
  have HCN := Lib.hid hcn
  have HBW := Lib.hid hBW
  clear hW hcn hBW hbn
  go_wp2_with fail
  refine (shown_any W).mono ?_
  rintro e w1 ⟨rfl, hb1⟩
  go_wp2_with fail
  refine (new_h (HBW.out.trans (hb1.mono HBW.out.size)) 40 (by decide) (by decide)).mono ?_
  rintro e w2 ⟨rfl, hb2, hh2⟩
  have hh := hh2 (fun k => k = bn) (fun k h => by have := hb1.size; omega)
  clear hh2
  have hc2 : w2.cell? ⟨bn, 0, none⟩ = some (.int .i64 a) := cell_at hb2 (by have := hb1.size; omega) (cell_at hb1 hlt HCN.out)
  clear HCN
  generalize w1.heap.size = ba at *
  go_wp2_with fail
  refine (two_new hh 40 (by decide) (by decide)).mono ?_
  rintro e w3 ⟨rfl, hb3, ht3⟩
  have hc3 : w3.cell? ⟨bn, 0, none⟩ = some (.int .i64 a) := cell_at hb3 (hh.ks _ rfl) hc2
  generalize w2.heap.size = bb at *
  have H0 := Lib.hid (show OrdAt w w3 bn ba bb a (.slice none 0 0) 0 (fun k => k = bn) [] [] from ⟨ht3, rfl, hc3, ⟨World.ownsRow_nil _ _ _ _, fun k hk => by simp [Value.ownBlock] at hk⟩, rfl, fun p => Iff.rfl, Nat.le_refl _, none, 0, rfl⟩)
  clear hh hb1 hb2 hb3 ht3 hc2 hc3 hlt
  go_upto_block 0 with fail
  go_cut [8, 9] (fun u _ wx => ∃ (ys us : List OpV) (Ks : Nat → Prop), OrdAt w wx bn ba bb a u 40 Ks ys us)
  case first =>
    go_wp2_with fail
    go_loopw [8, 9] (fun u i wr => ∃ (k : Nat) (ys us : List OpV) (Ks : Nat → Prop), i = .int .i64 k ∧ k ≤ n ∧ k ≤ 40 ∧ OrdAt w wr bn ba bb a u k Ks ys us) (fun _ i _ => n - (intOf i).toNat)
    case atStart => exact ⟨0, [], [], _, rfl, by omega, by omega, H0.out⟩
    case round =>
      obtain ⟨k, ys, us, Ks, rfl, h1, h2, hO⟩ := hrel
      obtain ⟨ad8, cap8, rfl⟩ := hO.2.2.2.2.2.2.2
      have HO := Lib.hid hO
      clear hO
      by_cases hk : k < n
      · by_cases hk6 : k < 40
        · have hkx : k < xs.length := by have := HL.out; omega
          obtain ⟨b, off, rfl, hx⟩ := HX.out (by omega)
          have ho := hx k hkx
          have hlt := opAt_lt ho
          have HOP := Lib.hid ho
          have hyk := HO.out.2.2.2.2.2.2.1
          have HUY := Lib.hid HO.out.2.2.2.2.1
          have hu40 : us.length ≤ 40 := by have := HUY.out; omega
          obtain ⟨L1, hL1, hhL, hback⟩ := HO.out.1.on
          have HB := Lib.hid hback
          have b0 := HO.out.1.fst.below
          have hhas := fun x (hx : ys.any (sameId (xs[k]).author (xs[k]).seq) = x) => has_e (hhL.to (Below.refl _ _).drew) (xs[k]).author (xs[k]).seq hx
          obtain ⟨k0, k1, k2, k3, k4, k5, k6⟩ := opAt_below b0 hlt ho
          generalize xs[k] = o at *
          have HH := Lib.hid hhas
          clear hx ho hback hhas hhL
          cases hany : ys.any (sameId o.author o.seq)
          · have HA := Lib.hid hany
            clear hany
            go_wp2_with fail
            go_still_tail 12, (by kernel_rfl)
            change wpList _ _ _ _ _ wr.drew
            go_wp2_with fail
            refine (HH.out _ HA.out).mono ?_
            intro e w4 he
            have H4 := Lib.hid (HO.out.kept (HB.out w4 ys he.has he.kept) (fun b hb => he.kept b (hL1 b hb)) (Nat.le_refl k))
            obtain ⟨rfl, -, -, -⟩ := he
            clear k0 k1 k2 k3 k4 k5 k6 HH HB HO hL1
            obtain ⟨m1, m2, m3, m4, m5, m6, m7, -⟩ := H4.out
            have hb4 := m1.fst.below
            obtain ⟨k0, k1, k2, k3, k4, k5, k6⟩ := opAt_below hb4 hlt HOP.out
            have hT := m1
            have hM := m4
            have M6 := Lib.hid m6
            have HT := Lib.hid hT
            have HM := Lib.hid hM
            have HC := Lib.hid m3
            have HKB := Lib.hid m2
            clear m1 m2 m3 m4 m5 m6 m7 hT hM
            go_upto_region 11 with fail
            have hnew : ∀ w5 : World, w5 = w4.alloc (opObj o) → ∀ v' w', Grew w5 w' (.slice ad8 us.length cap8) v' (us ++ [o]) (us.length + 1) → ∃ Ls : Nat → Prop, (∀ k, Ks k → Ls k) ∧ Two w w' Ls ba 40 ys bb 40 [] ∧ Mine w' (fun b => Ls b ∧ bn < b) v' (us ++ [o]) ∧ Ls bn ∧ w'.cell? ⟨bn, 0, none⟩ = some (.int .i64 a) := by
              intro w5 hw5 v' w' hg
              have hb5 : Below w4.heap.size w4 w5 := by rw [hw5]; exact (Below.refl _ _).alloc (Nat.le_refl _) _
              exact ord_new HBN.out (HT.out.to hb5 (fun k hk => .inl hk)) hg (fun k hk => HM.out.2 k hk) HKB.out (cell_at hb5 (HT.out.fst.ks _ HKB.out) HC.out)
            have hmine5 : Mine (w4.alloc (opObj o)) (fun b => Ks b ∧ bn < b) (.slice ad8 us.length cap8) us := HM.out.kept (fun b hb => ((Below.refl w4.heap.size w4).alloc (Nat.le_refl _) (opObj o)).block b (HT.out.fst.ks b hb.1)) (fun _ h => h)
            have hop5 : 0 < [o].length → ∃ b off, (⟨w4.heap.size, 0, none⟩ : Addr) = ⟨b, off, none⟩ ∧ ∀ j (h : j < [o].length), opAt (w4.alloc (opObj o)) b (off + j * 7) [o][j] := fun _ => ⟨w4.heap.size, 0, rfl, fun j hj => by
              obtain rfl : j = 0 := by simpa using hj
              exact opAt_heap (heap_alloc_new _ _)⟩
            have hlen5 : us.length + [o].length ≤ 1000000 := by simp; omega
            have HN := Lib.hid hnew
            have HM5 := Lib.hid hmine5
            have HO5 := Lib.hid hop5
            clear hnew hmine5 hop5
            go_wp2_with (at_builtin; refine wpList_append_ops rfl (.tmp 47) (.tmp 52) rfl (.slice ad8 us.length cap8) us rfl HM5.out ⟨w4.heap.size, 0, none⟩ 1 1 [o] rfl rfl HO5.out hlen5 (us.length + 1) rfl ?_)
            intro v' w' hg
            obtain ⟨L2, hL2, hT2, hM2, hB2, hC2⟩ := HN.out _ rfl v' w' hg
            obtain ⟨ad9, cap9, rfl⟩ := hg.form
            have hb5 := hT2.fst.below
            clear k0 k1 k2 k3 k4 k5 k6 HM5 HO5
            obtain ⟨k0, k1, k2, k3, k4, k5, k6⟩ := opAt_below hb5 hlt HOP.out
            obtain ⟨L3, hL3, hh3, hback3⟩ := hT2.on
            have hr40 : ¬ (40 : Int) ≤ ys.length := by omega
            have eadd : addTo 40 ys o = ins ys (pos o.author o.seq ys) o := by simp [addTo, HA.out, hr40]
            have hadd := Lib.hid (add_e hh3 (by omega) o rfl (show addErr 40 ys o = 0 by simp [addErr, HA.out, hr40]))
            have HB3 := Lib.hid hback3
            have hfin : ∀ w6, Two w w6 L2 ba 40 (addTo 40 ys o) bb 40 [] → (∀ b, L2 b → w6.heap[b]? = w'.heap[b]?) → OrdAt w w6 bn ba bb a (.slice ad9 (us.length + 1) cap9) (k + 1) L2 (addTo 40 ys o) (us ++ [o]) := by
              intro w6 h6 hk6
              have hpl := pos_le o.author o.seq ys
              refine ⟨h6, hB2, kept_cell hk6 hB2 hC2, hM2.kept (fun b hb => hk6 b hb.1) (fun _ h => h), ?_, fun p => ?_, ?_, ad9, cap9, by simp⟩
              · rw [eadd]; simp [ins]; have := HUY.out; omega
              · rw [eadd, mem_ins, List.mem_append, M6.out p]; simp
              · rw [eadd]; simp [ins]; omega
            have HF := Lib.hid hfin
            clear hback3 hh3 hT2 hM2 hB2 hC2 hr40 eadd hfin hg HN HT HM
            go_wp2_with fail
            refine hadd.out.mono ?_
            intro e w6 he
            have H6 := Lib.hid (HF.out w6 (HB3.out w6 _ he.has he.kept) (fun b hb => he.kept b (hL3 b hb)))
            obtain ⟨rfl, -, -, -⟩ := he
            go_wp2_with fail
            go_roundw
            case rel => exact ⟨k + 1, _, _, _, by go_num, by omega, by omega, H6.out⟩
            case measure => simp [intOf]; omega
          · have HA := Lib.hid hany
            clear hany
            go_wp2_with fail
            go_still_tail 12, (by kernel_rfl)
            change wpList _ _ _ _ _ wr.drew
            go_wp2_with fail
            refine (HH.out _ HA.out).mono ?_
            intro e w4 he
            have H4 := Lib.hid (HO.out.kept (HB.out w4 ys he.has he.kept) (fun b hb => he.kept b (hL1 b hb)) (Nat.le_refl k))
            obtain ⟨rfl, -, -, -⟩ := he
            clear k0 k1 k2 k3 k4 k5 k6 HH HB HO hL1
            have hb4 := H4.out.1.fst.below
            obtain ⟨k0, k1, k2, k3, k4, k5, k6⟩ := opAt_below hb4 hlt HOP.out
            obtain ⟨L2, hL2, hh2, hback2⟩ := H4.out.1.on
            have hlen := hh2.len
            have hadd := Lib.hid (add_e hh2 (by omega) o rfl (show addErr 40 ys o = 0 by simp [addErr, HA.out]))
            have HB2 := Lib.hid hback2
            clear hback2 hh2
            go_wp2_with fail
            refine hadd.out.mono ?_
            intro e w5 he
            have H5 := Lib.hid (ord_add H4.out (HB2.out w5 _ he.has he.kept) (fun b hb => he.kept b (hL2 b hb)) HA.out)
            obtain ⟨rfl, -, -, -⟩ := he
            go_wp2_with fail
            go_roundw
            case rel => exact ⟨k + 1, ys, us, Ks, by go_num, by omega, by omega, H5.out⟩
            case measure => simp [intOf]; omega
        · go_wp2_with fail
          go_meet
          exact ⟨ys, us, Ks, HO.out.kept HO.out.1 (fun _ _ => rfl) h2⟩
      · go_wp2_with fail
        go_meet
        exact ⟨ys, us, Ks, HO.out.kept HO.out.1 (fun _ _ => rfl) h2⟩
  case rest =>
    clear H0
    obtain ⟨ys, us, Ks, hT, hKb, hc, hM, hul, hmem, hyl, ad8, cap8, rfl⟩ := hcut
    have HYS := Lib.hid hT.fst.sorted
    obtain ⟨ad8', cap8', heq, hux⟩ := hM.rdk
    obtain ⟨rfl, -, rfl⟩ : ad8 = ad8' ∧ True ∧ cap8 = cap8' := by simpa using heq
    have HUX := Lib.hid hux
    have HT := Lib.hid hT
    have HC := Lib.hid hc
    have HUL := Lib.hid hul
    have HMEM := Lib.hid hmem
    have HKB := Lib.hid hKb
    have hu40 : us.length ≤ 40 := by omega
    clear heq hux hT hc hul hmem hM hKb
    go_wp2_with fail
    go_loopw [10] (fun i wr => ∃ (i' : Int) (j : Nat) (zs : List OpV), i = .int .i64 i' ∧ i' + 1 = j ∧ j ≤ us.length ∧ Two w wr Ks ba 40 ys bb 40 zs ∧ (∀ p, p ∈ zs ↔ p ∈ us.drop j) ∧ ∀ b, Ks b → wr.heap[b]? = wc.heap[b]?) (fun i _ => (intOf i + 1).toNat)
    case atStart => exact ⟨_, us.length, [], rfl, by omega, Nat.le_refl _, HT.out, fun p => by simp, fun _ _ => rfl⟩
    case round =>
      clear HT
      obtain ⟨i', j, zs, rfl, hij, hj, hT, hmz, hkp⟩ := hrel
      have HT := Lib.hid hT
      have HMZ := Lib.hid hmz
      have HKP := Lib.hid hkp
      clear hT hmz hkp
      by_cases hj0 : 0 < j
      · obtain ⟨j', rfl⟩ : ∃ j', j = j' + 1 := ⟨j - 1, by omega⟩
        obtain rfl : i' = (j' : Int) := by omega
        have hju : j' < us.length := by omega
        obtain ⟨b, off, rfl, hKb, hx⟩ := HUX.out (by omega)
        have ho := kept_op HKP.out hKb.1 (hx j' hju)
        have hlt := opAt_lt ho
        have hsub : ∀ p, p ∈ zs → p ∈ ys := fun p hp => (HMEM.out p).1 (List.mem_of_mem_drop ((HMZ.out p).1 hp))
        have hoy : us[j'] ∈ ys := (HMEM.out _).1 (List.getElem_mem _)
        obtain ⟨g1, g2, g3, g4⟩ := add_back (room := 40) HYS.out (by omega) HT.out.swap.fst.sorted hsub hoy
        have hzl := sub_le HYS.out HT.out.swap.fst.sorted hsub
        obtain ⟨L1, hL1, hh1, hback⟩ := HT.out.swap.on
        have hadd := Lib.hid (add_e hh1 (by omega) us[j'] rfl g1)
        have hmz : ∀ p, p ∈ addTo 40 zs us[j'] ↔ p ∈ us.drop j' := by
          intro p
          rw [g3 p, HMZ.out p, List.drop_eq_getElem_cons hju, List.mem_cons, or_comm]
        have HB := Lib.hid hback
        have HM2 := Lib.hid hmz
        obtain ⟨k0, k1, k2, k3, k4, k5, k6⟩ := ho
        clear hx hKb hsub hoy g1 g2 g3 g4 hback hh1 hmz
        generalize addTo 40 zs us[j'] = vs at *
        generalize us[j'] = o at *
        go_wp2_with fail
        refine hadd.out.mono ?_
        intro e w4 he
        have H4 := Lib.hid (HB.out w4 _ he.has he.kept).swap
        have HK4 := Lib.hid (fun b (hb : Ks b) => (he.kept b (hL1 b hb)).trans (HKP.out b hb))
        obtain ⟨rfl, -, -, -⟩ := he
        go_wp2_with fail
        go_roundw
        case rel => exact ⟨_, j', vs, rfl, by omega, by omega, H4.out, HM2.out, HK4.out⟩
        case measure => simp [intOf]
      · obtain rfl : j = 0 := by omega
        obtain rfl : i' = -1 := by omega
        have hzy : zs = ys := sorted_ext HT.out.swap.fst.sorted HYS.out fun p => by
          rw [HMZ.out p, List.drop_zero, HMEM.out p]
        subst hzy
        have hc := kept_cell HKP.out HKB.out HC.out
        go_wp2_with fail
        refine (all_n HT.out.fst).mono ?_
        rintro e w4 ⟨v1, rfl, hb4, hn1, hm1⟩
        have hT4 := HT.out.to hb4 (Ls := Ks) (fun k hk => .inl hk)
        have hc4 := cell_at hb4 (HT.out.fst.ks _ HKB.out) hc
        obtain ⟨ad1, cap1, rfl, -⟩ := hm1.rd
        have hr1 := hm1.rd
        clear hc
        go_wp2_with fail
        refine (all_n hT4.swap.fst).mono ?_
        rintro e w5 ⟨v2, rfl, hb5, hn2, hm2⟩
        have hT5 := hT4.to hb5 (Ls := Ks) (fun k hk => .inl hk)
        have hc5 := cell_at hb5 (hT4.fst.ks _ HKB.out) hc4
        have hr1' := hr1.below hb5 (Nat.le_refl _)
        obtain ⟨ad2, cap2, rfl, -⟩ := hm2.rd
        have hr2 := hm2.rd
        clear hT4 hc4 hr1 hm1 hn1 hb4
        go_wp2_with fail
        refine (same_any w5 _ _ zs zs hr1' hr2 (by omega) (by omega)).mono ?_
        rintro e w6 ⟨rfl, hb6⟩
        rw [decide_eq_true rfl]
        have hT6 := hT5.to hb6 (Ls := Ks) (fun k hk => .inl hk)
        have hc6 := cell_at hb6 (hT5.fst.ks _ HKB.out) hc5
        clear hT5 hc5 hr1' hr2 hm2 hn2 hb5 hb6
        obtain ⟨L1, hL1, hh1, hback1⟩ := hT6.on
        have hd := drop_h hh1 (fun o => decide (o.author ≤ a)) 30 #[.pointer (some ⟨bn, 0, none⟩)] enters30 (fun G hG => authors_to w6 G bn a hc6 (hG bn (hL1 bn HKB.out)))
        obtain ⟨fs, hfs⟩ : ∃ fs, fs = zs.filter (fun o => !(decide (o.author ≤ a))) := ⟨_, rfl⟩
        have hfl : fs.length ≤ zs.length := by rw [hfs]; exact List.length_filter_le _ _
        rw [← hfs] at hd
        obtain ⟨g, hg⟩ : ∃ g : Nat, zs.length = g + fs.length := ⟨zs.length - fs.length, by omega⟩
        rw [show ((zs.length : Int) - fs.length) = g by omega] at hd
        have HD := Lib.hid hd
        have HFS := Lib.hid hfs
        have HG := Lib.hid hg
        have hg40 : g ≤ 40 := by omega
        clear hd hfs hg hh1
        go_wp2_with fail
        refine HD.out.mono ?_
        intro e w7 he
        have hT7 := hback1 w7 _ he.has he.kept
        have hc7 := kept_cell he.kept (hL1 bn HKB.out) hc6
        obtain ⟨rfl, -, -, -⟩ := he
        clear hback1 hc6 HD
        obtain ⟨L2, hL2, hh2, hback2⟩ := hT7.swap.on
        have hd := drop_h hh2 (fun o => decide (o.author ≤ a)) 30 #[.pointer (some ⟨bn, 0, none⟩)] enters30 (fun G hG => authors_to w7 G bn a hc7 (hG bn (hL2 bn HKB.out)))
        rw [← HFS.out, show ((zs.length : Int) - fs.length) = g by have := HG.out; omega] at hd
        have HD := Lib.hid hd
        clear hd hh2
        go_wp2_with fail
        refine HD.out.mono ?_
        intro e w8 he
        have hT8 := (hback2 w8 _ he.has he.kept).swap
        obtain ⟨rfl, -, -, -⟩ := he
        have hgg : ((g : Int) == g) = true := by simp
        clear hback2 hc7 HD
        go_wp2_with fail
        refine (all_n hT8.fst).mono ?_
        rintro e w9 ⟨v1, rfl, hb9, hn1, hm1⟩
        have hT9 := hT8.to hb9 (Ls := Ks) (fun k hk => .inl hk)
        obtain ⟨ad1, cap1, rfl, -⟩ := hm1.rd
        have hr1 := hm1.rd
        go_wp2_with fail
        refine (all_n hT9.swap.fst).mono ?_
        rintro e w10 ⟨v2, rfl, hb10, hn2, hm2⟩
        have hT10 := hT9.to hb10 (Ls := Ks) (fun k hk => .inl hk)
        have hr1' := hr1.below hb10 (Nat.le_refl _)
        obtain ⟨ad2, cap2, rfl, -⟩ := hm2.rd
        have hr2 := hm2.rd
        clear hr1 hm1 hn1 hb9
        go_wp2_with fail
        refine (same_any w10 _ _ fs fs hr1' hr2 (by omega) (by omega)).mono ?_
        rintro e w11 ⟨rfl, hb11⟩
        rw [decide_eq_true rfl]
        have hT11 := hT10.to hb11 (Ls := Ks) (fun k hk => .inl hk)
        go_wp2_with fail
        refine (len_h hT11.fst).mono ?_
        intro e w12 he
        obtain ⟨rfl, hh12, -, -⟩ := he
        have hfin : ((fs.length : Int) == us.length - g) = true := by rw [beq_iff_eq]; have := HUL.out; have := HG.out; omega
        go_wp2_with fail
        go_ret
        exact ⟨rfl, hh12.below⟩
end Go.Proofs.Ytpkdhmljbpbcfaa
