/-
  HoldDrops ends true. No condition beyond what each theorem names.
-/
import Derived.Test.YtpkdhmljbpbcfaaTM
set_option linter.unusedVariables false
set_option linter.unusedSimpArgs false
namespace Go.Proofs.Ytpkdhmljbpbcfaa
open Go.RowKit

set_option maxRecDepth 100000 in
set_option maxHeartbeats 4000000 in
theorem drops_any (w : World) (v : Value) (xs : List OpV) (a : Int) (hn : xs.length ≤ 9223372036854775807) (hv : Rd w v xs) : Calls Try.prog 8 #[v, .int .i64 a] w (Says true w) := by
  obtain ⟨ad, cap, rfl, hx⟩ := hv
  have HX := Lib.hid hx
  clear hx
  obtain ⟨n, hlen⟩ : ∃ n, n = xs.length := ⟨_, rfl⟩
  rw [← hlen] at hn ⊢
  have HL := Lib.hid hlen
  clear hlen
  go_enter Try.func8, Try.ntmps8
  go_upto_region 1 with fail
  refine abs_wp fun W hW0 => ?_
  have hW : W = w.alloc (.cells #[.int .i64 a] 3) := hW0
  clear hW0
  have hBW : Below w.heap.size w W := by rw [hW]; exact (Below.refl _ _).alloc (Nat.le_refl _) _
  have hcn : W.cell? ⟨w.heap.size, 0, none⟩ = some (.int .i64 a) := by
    rw [hW]
    unfold World.cell?
    rw [show (w.alloc (.cells #[.int .i64 a] 3)).heap[w.heap.size]? = _ from heap_alloc_new _ _]
    rfl
  have hlt := World.block_lt_of_cell? W _ hcn
  obtain ⟨bn, hbn⟩ : ∃ bn, bn = w.heap.size := ⟨_, rfl⟩
  rw [← hbn] at hcn hlt ⊢
  have HBN := Lib.hid hbn
  have HCN := Lib.hid hcn
  have HBW := Lib.hid hBW
  clear hW hcn hBW hbn
  go_wp2_with fail
  refine (shown_any W).mono ?_
  rintro e w1 ⟨rfl, hb1⟩
  go_wp2_with fail
  refine (new_h (HBW.out.trans (hb1.mono HBW.out.size)) 40 (by decide) (by decide)).mono ?_
  rintro e w2 ⟨rfl, hb2, hh2⟩
  have hh := hh2 (fun k => k = bn) (fun k h => by have := hb1.size; omega)
  clear hh2
  have hc2 : w2.cell? ⟨bn, 0, none⟩ = some (.int .i64 a) := cell_at hb2 (by have := hb1.size; omega) (cell_at hb1 hlt HCN.out)
  clear HCN
  generalize w1.heap.size = bh at *
  have HH := Lib.hid hh
  have HC := Lib.hid hc2
  clear hh hb1 hb2 hc2 hlt
  go_upto_block 0 with fail
  go_cut [7] (fun _ wx => ∃ ys : List OpV, ys.length ≤ 40 ∧ Has w wx (fun k => k = bn) bh 40 ys ∧ wx.cell? ⟨bn, 0, none⟩ = some (.int .i64 a))
  case first =>
    go_wp2_with fail
    go_loopw [7] (fun i wr => ∃ (k : Nat) (ys : List OpV), i = .int .i64 k ∧ k ≤ n ∧ k ≤ 40 ∧ ys.length ≤ k ∧ Has w wr (fun k => k = bn) bh 40 ys ∧ wr.cell? ⟨bn, 0, none⟩ = some (.int .i64 a)) (fun i _ => n - (intOf i).toNat)
    case atStart => exact ⟨0, [], rfl, by omega, by omega, by simp, HH.out, HC.out⟩
    case round =>
      obtain ⟨k, ys, rfl, h1, h2, hyl, hh, hc⟩ := hrel
      have HK := Lib.hid hh
      have HC2 := Lib.hid hc
      clear hh hc
      by_cases hk : k < n
      · by_cases hk6 : k < 40
        · have hkx : k < xs.length := by have := HL.out; omega
          obtain ⟨b, off, rfl, hx⟩ := HX.out (by omega)
          have ho := hx k hkx
          have hlt := opAt_lt ho
          obtain ⟨k0, k1, k2, k3, k4, k5, k6⟩ := opAt_below HK.out.below hlt ho
          have hal := (addTo_len 40 ys xs[k]).1
          have HA := Lib.hid (add_h HK.out (by omega) xs[k])
          generalize addTo 40 ys xs[k] = zs at *
          generalize addErr 40 ys xs[k] = er at *
          generalize xs[k] = o at *
          clear hx ho hlt
          go_wp2_with fail
          refine HA.out.mono ?_
          intro e w3 he
          have HC3 := Lib.hid (kept_cell he.kept rfl HC2.out)
          obtain ⟨rfl, hh3, -, -⟩ := he
          go_wp2_with fail
          go_roundw
          case rel => exact ⟨k + 1, zs, by go_num, by omega, by omega, by omega, hh3, HC3.out⟩
          case measure => simp [intOf]; omega
        · go_wp2_with fail
          go_meet
          exact ⟨ys, by omega, HK.out, HC2.out⟩
      · go_wp2_with fail
        go_meet
        exact ⟨ys, by omega, HK.out, HC2.out⟩
  case rest =>
    clear HH HC
    obtain ⟨ys, hyl, hh, hc⟩ := hcut
    have HYS := Lib.hid hh.sorted
    go_wp2_with fail
    refine (all_l hh).mono ?_
    rintro e w3 ⟨v1, K1, rfl, hK1, hh3, hm3, hb3⟩
    have hc3 := cell_at hb3 (hh.ks _ rfl) hc
    have hbn1 := hK1 bn rfl
    clear hh hc hb3 hK1
    obtain ⟨ad1, cap1, rfl, -⟩ := hm3.rd
    have hd := drop_h hh3 (fun _ => false) 31 #[] enters31 (fun G _ => none_ops _ G)
    have e0 : (ys.filter fun o => !(fun _ => false) o) = ys := by simp
    rw [e0, Int.sub_self] at hd
    clear e0
    go_wp2_with fail
    refine hd.mono ?_
    intro e w4 he
    have hm4 := he.mine hm3
    have hc4 := kept_cell he.kept hbn1 hc3
    obtain ⟨rfl, hh4, -, -⟩ := he
    clear hd hm3 hc3 hh3
    go_wp2_with fail
    refine (all_l hh4).mono ?_
    rintro e w5 ⟨v2, K2, rfl, hK2, hh5, hm5, hb5⟩
    have hw5 := hh4.mine hb5 hm4
    have hc5 := cell_at hb5 (hh4.ks _ hbn1) hc4
    clear hh4 hm4 hc4 hb5
    obtain ⟨ad2, cap2, rfl, -⟩ := hm5.rd
    go_wp2_with fail
    refine (same_any w5 _ _ ys ys hm5.rd hw5.rd (by omega) (by omega)).mono ?_
    rintro e w6 ⟨rfl, hb6⟩
    have hh6 := (hh5.less hK2).to hb6
    have hw6 := (hh5.less hK2).mine hb6 hw5
    have hc6 := cell_at hb6 (hh5.ks _ (hK2 _ hbn1)) hc5
    rw [decide_eq_true rfl]
    clear hh5 hm5 hw5 hc5 hb6 hK2
    have hd := drop_h hh6 (fun o => o.author == a) 32 #[.pointer (some ⟨bn, 0, none⟩)] enters32 (fun G hG => author_is w6 G bn a hc6 (hG bn hbn1))
    obtain ⟨zs, hzs⟩ : ∃ zs, zs = ys.filter (fun o => !(o.author == a)) := ⟨_, rfl⟩
    rw [← hzs] at hd
    have hzl : zs.length ≤ ys.length := by rw [hzs]; exact List.length_filter_le _ _
    obtain ⟨g, hg⟩ : ∃ g : Nat, ys.length = g + zs.length := ⟨ys.length - zs.length, by omega⟩
    rw [show ((ys.length : Int) - zs.length) = g by omega] at hd
    have HZ := Lib.hid hzs
    have HG := Lib.hid hg
    have hgl : g ≤ 40 := by omega
    clear hzs hg
    go_wp2_with fail
    refine hd.mono ?_
    intro e w7 he
    have hw7 := he.mine hw6
    have hc7 := kept_cell he.kept hbn1 hc6
    obtain ⟨rfl, hh7, -, -⟩ := he
    clear hd hh6 hw6 hc6
    go_wp2_with fail
    refine (all_l hh7).mono ?_
    rintro e w8 ⟨v3, K3, rfl, hK3, hh8, hm8, hb8⟩
    have hw8 := (hh7.mine hb8 hw7).kept (fun _ _ => rfl) hK3
    have hc8 := cell_at hb8 (hh7.ks _ hbn1) hc7
    have hbn3 := hK3 bn hbn1
    clear hh7 hw7 hc7 hb8 hK3 hbn1
    obtain ⟨ad3, cap3, rfl, hzx⟩ := hm8.rd
    obtain ⟨ad1', cap1', heq, hyx⟩ := hw8.rdk
    obtain ⟨rfl, -, rfl⟩ : ad1 = ad1' ∧ True ∧ cap1 = cap1' := by simpa using heq
    have HH8 := Lib.hid hh8
    have HM8 := Lib.hid hm8
    have HW8 := Lib.hid hw8
    have HC8 := Lib.hid hc8
    have HZX := Lib.hid hzx
    have HYX := Lib.hid hyx
    have HB3 := Lib.hid hbn3
    have hb8 : bn < w8.heap.size := hh8.ks _ hbn3
    clear hh8 hm8 hw8 hc8 hzx hyx heq hbn3
    go_wp2_with fail
    go_loopw [12] (fun i wr => ∃ k : Nat, i = .int .i64 k ∧ k ≤ zs.length ∧ Below w8.heap.size w8 wr) (fun i _ => zs.length - (intOf i).toNat)
    case atStart => exact ⟨0, rfl, by omega, Below.refl _ _⟩
    case round =>
      obtain ⟨k, rfl, h1, hbw⟩ := hrel
      have hcb := cell_at hbw hb8 HC8.out
      by_cases hk : k < zs.length
      · obtain ⟨b, off, rfl, hx⟩ := HZX.out (by omega)
        have ho := hx k hk
        have hlt := opAt_lt ho
        have hne : (zs[k].author == a) = false := by
          have h2 : zs[k] ∈ ys.filter (fun o => !(o.author == a)) := by rw [← HZ.out]; exact List.getElem_mem _
          simpa using (List.mem_filter.1 h2).2
        obtain ⟨k0, k1, k2, k3, k4, k5, k6⟩ := opAt_below hbw hlt ho
        generalize zs[k] = o at *
        clear hx ho
        go_wp2
        go_quiet (fail)
        go_wp2
        go_roundw
        case rel => exact ⟨k + 1, by go_num, by omega, below_drewN hbw _⟩
        case measure => simp [intOf]; omega
      · have hg := HG.out
        have e1 : ((zs.length : Int) + g == ys.length) = true := by rw [beq_iff_eq]; omega
        have e2 : ((zs.length : Int) + g != ys.length) = false := by simp [e1, bne]
        have hh9 := HH8.out.to hbw
        have hk9 : ∀ j, K3 j → wr.heap[j]? = w8.heap[j]? := fun j hj => hbw.block j (HH8.out.ks j hj)
        have HH9 := Lib.hid hh9
        have HK9 := Lib.hid hk9
        clear hcb hh9 hk9 hbw hg
        go_wp2_with fail
        clear e1 e2 hk h1
        go_loopw [13] (fun i wx => ∃ k : Nat, i = .int .i64 k ∧ k ≤ ys.length ∧ Has w wx K3 bh 40 zs ∧ ∀ j, K3 j → wx.heap[j]? = w8.heap[j]?) (fun i _ => ys.length - (intOf i).toNat)
        case atStart => exact ⟨0, rfl, by omega, HH9.out, HK9.out⟩
        case round =>
          clear HH9 HK9
          rename_i wx
          obtain ⟨k, rfl, h1, hh, hkp⟩ := hrel
          have HHX := Lib.hid hh
          have HKX := Lib.hid hkp
          clear hh hkp
          have hcx := kept_cell HKX.out HB3.out HC8.out
          by_cases hk : k < ys.length
          · have hany : zs.any (sameId (ys[k].author) (ys[k].seq)) = !(ys[k].author == a) := by
              rw [HZ.out, Bool.eq_iff_iff]
              constructor
              · intro h
                obtain ⟨p, hp, e1, -⟩ := any_same.1 h
                have := (List.mem_filter.1 hp).2
                rw [e1] at this
                exact this
              · intro h
                exact any_same.2 ⟨ys[k], List.mem_filter.2 ⟨List.getElem_mem _, h⟩, rfl, rfl⟩
            obtain ⟨b, off, rfl, hKb, hx⟩ := HYX.out (by omega)
            have ho8 := hx k hk
            have HO8 := Lib.hid ho8
            have HKB := Lib.hid hKb
            have ho := kept_op HKX.out hKb ho8
            have hlt := opAt_lt ho
            clear hx ho8 hKb
            have hhas := has_e (HHX.out.to (Below.refl _ _).drew) (ys[k].author) (ys[k].seq) hany
            obtain ⟨o, hoo⟩ : ∃ o, o = ys[k] := ⟨_, rfl⟩
            rw [← hoo] at hhas ho HO8
            have HHAS := Lib.hid hhas
            have HO := Lib.hid ho
            have HCX := Lib.hid hcx
            clear hoo hhas hany ho hcx
            cases hq : o.author == a
            all_goals
              have hbn : (o.author != a) = !(o.author == a) := rfl
              rw [hq] at HHAS hbn
              simp only [Bool.not_true, Bool.not_false] at HHAS hbn
              go_wp2_with fail
              refine wp_region_plan (fun W => opAt W b (off + k * 7) o ∧ W.cell? ⟨bn, 0, none⟩ = some (.int .i64 a)) (.reads [0, 1, 2, 3, 4, 5, 6, 7, 8, 9, 10, 11, 13, 14, 15, 16, 17, 18, 19, 20] (.one 12 (.reads [21] .done))) 122 (by kernel_rfl) (by kernel_rfl) rfl (fun _ _ _ _ _ h => h) ⟨HO.out, HCX.out⟩ ?_
              apply plan_reads
              · intro W hW
                obtain ⟨⟨k0, k1, k2, k3, k4, k5, k6⟩, hcW⟩ := hW
                repeat (refine wpRead_step (fun K hK => ?_); go_simp; refine hK _ ?_; clear hK K)
                exact wpRead_nil rfl
              refine plan_one rfl ?_
              go_wp2_with fail
              refine HHAS.out.mono ?_
              intro e w4 he
              have ho4 := kept_op he.kept HKB.out HO.out
              have hc4 := kept_cell he.kept HB3.out HCX.out
              have hk4 : ∀ j, K3 j → w4.heap[j]? = w8.heap[j]? := fun j hj => (he.kept j hj).trans (HKX.out j hj)
              obtain ⟨rfl, hh4, -, -⟩ := he
              go_wp2_with fail
              refine Then.mk ⟨ho4, hc4⟩ ?_
              apply plan_reads
              · intro W hW
                repeat (refine wpRead_step (fun K hK => ?_); go_simp; refine hK _ ?_; clear hK K)
                exact wpRead_nil rfl
              refine plan_done ?_
              go_wp2_with fail
              go_roundw
              case rel => exact ⟨k + 1, by go_num, by omega, hh4, hk4⟩
              case measure => simp [intOf]; omega
          · clear hcx
            have HHX2 := Lib.hid HHX.out
            clear HHX
            go_wp2_with fail
            clear hk h1
            go_loopw [14] (fun i wy => ∃ (j : Nat) (us : List OpV), i = .int .i64 j ∧ j ≤ ys.length ∧ Has w wy K3 bh 40 us ∧ (∀ b, K3 b → wy.heap[b]? = w8.heap[b]?) ∧ ∀ p, p ∈ us ↔ p ∈ zs ∨ p ∈ ys.take j) (fun i _ => ys.length - (intOf i).toNat)
            case atStart => exact ⟨0, zs, rfl, by omega, HHX2.out, HKX.out, fun p => by simp⟩
            case round =>
              clear HHX2 HKX
              rename_i wy
              obtain ⟨k, us, rfl, h1, hh, hkp, hmem⟩ := hrel
              have HHX := Lib.hid hh
              have HKX := Lib.hid hkp
              have HMEM := Lib.hid hmem
              clear hh hkp hmem
              by_cases hk : k < ys.length
              · have hback := add_back (room := 40) HYS.out (by omega) HHX.out.sorted (fun p hp => by
                  rcases (HMEM.out p).1 hp with h | h
                  · rw [HZ.out] at h; exact (List.mem_filter.1 h).1
                  · exact List.mem_of_mem_take h) (List.getElem_mem hk)
                have hul := sub_le HYS.out HHX.out.sorted (fun p hp => by
                  rcases (HMEM.out p).1 hp with h | h
                  · rw [HZ.out] at h; exact (List.mem_filter.1 h).1
                  · exact List.mem_of_mem_take h)
                have hadd := Lib.hid (add_e HHX.out (by omega) ys[k] rfl hback.1)
                have hmem2 : ∀ p, p ∈ addTo 40 us ys[k] ↔ p ∈ zs ∨ p ∈ ys.take (k + 1) := by
                  intro p
                  rw [hback.2.2.1 p, HMEM.out p, List.take_succ_eq_append_getElem hk, List.mem_append, or_assoc]
                  simp
                have HM2 := Lib.hid hmem2
                obtain ⟨b, off, rfl, hKb, hx⟩ := HYX.out (by omega)
                have ho := kept_op HKX.out hKb (hx k hk)
                have hlt := opAt_lt ho
                obtain ⟨k0, k1, k2, k3, k4, k5, k6⟩ := ho
                clear hx hKb hmem2 hback
                generalize addTo 40 us ys[k] = vs at *
                generalize ys[k] = o at *
                go_wp2_with fail
                refine hadd.out.mono ?_
                intro e w4 he
                have hk4 : ∀ j, K3 j → w4.heap[j]? = w8.heap[j]? := fun j hj => (he.kept j hj).trans (HKX.out j hj)
                obtain ⟨rfl, hh4, -, -⟩ := he
                go_wp2_with fail
                go_roundw
                case rel => exact ⟨k + 1, vs, by go_num, by omega, hh4, hk4, HM2.out⟩
                case measure => simp [intOf]; omega
              · have hus : us = ys := sorted_ext HHX.out.sorted HYS.out fun p => by
                  rw [HMEM.out p, List.take_of_length_le (by omega), HZ.out]
                  exact ⟨fun h => by
                    rcases h with h | h
                    · exact (List.mem_filter.1 h).1
                    · exact h, fun h => .inr h⟩
                subst hus
                go_wp2_with fail
                refine (all_l HHX.out).mono ?_
                rintro e w9 ⟨v4, K4, rfl, hK4, hh9, hm9, hb9⟩
                have hr9 := ((HW8.out.kept HKX.out (fun _ h => h)).rd).below hb9 (Nat.le_refl _)
                obtain ⟨ad4, cap4, rfl, -⟩ := hm9.rd
                have hr := hm9.rd
                go_wp2_with fail
                refine (same_any w9 _ _ us us hr hr9 (by omega) (by omega)).mono ?_
                rintro e w10 ⟨rfl, hb10⟩
                rw [decide_eq_true rfl]
                go_wp2_with fail
                go_ret
                exact ⟨rfl, hh9.below.trans (hb10.mono hh9.below.size)⟩
end Go.Proofs.Ytpkdhmljbpbcfaa
