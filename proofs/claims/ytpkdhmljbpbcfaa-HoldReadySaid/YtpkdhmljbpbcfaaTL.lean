/-
  HoldFull ends true. No condition beyond what each theorem names.
-/
import Derived.Test.YtpkdhmljbpbcfaaTK
set_option linter.unusedVariables false
set_option linter.unusedSimpArgs false
namespace Go.Proofs.Ytpkdhmljbpbcfaa
open Go.RowKit

theorem filter_split (q : OpV → Bool) (xs : List OpV) : xs.length = (xs.filter q).length + (xs.filter fun o => !q o).length := by
  induction xs with
  | nil => rfl
  | cons o r ih => cases h : q o <;> simp [h] <;> omega

/-- how many of the first k -/
def many (q : OpV → Bool) (xs : List OpV) (k : Nat) : Nat := ((xs.take k).filter q).length
theorem many_succ {q : OpV → Bool} {xs : List OpV} {k : Nat} (h : k < xs.length) : many q xs (k + 1) = many q xs k + if q xs[k] then 1 else 0 := by
  unfold many
  rw [List.take_succ_eq_append_getElem h, List.filter_append, List.length_append]
  cases hq : q xs[k] <;> simp [hq]
theorem many_all {q : OpV → Bool} {xs : List OpV} {k : Nat} (h : xs.length ≤ k) : many q xs k = (xs.filter q).length := by
  unfold many; rw [List.take_of_length_le h]
theorem many_le (q : OpV → Bool) (xs : List OpV) (k : Nat) : many q xs k ≤ xs.length := by
  unfold many
  have := List.length_filter_le q (xs.take k)
  have := List.length_take_le k xs
  simp at *; omega

theorem add_three (room : Int) (ys : List OpV) (o : OpV) (hl : (ys.length : Int) ≤ room) :
    (ys.any (sameId o.author o.seq) = true ∧ addErr room ys o = 0 ∧ (addTo room ys o).length = ys.length) ∨
    (ys.any (sameId o.author o.seq) = false ∧ (ys.length : Int) < room ∧ addErr room ys o = 0 ∧ (addTo room ys o).length = ys.length + 1) ∨
    (ys.any (sameId o.author o.seq) = false ∧ ¬ (ys.length : Int) < room ∧ addErr room ys o = 8 ∧ (addTo room ys o).length = ys.length) := by
  unfold addTo addErr ins
  by_cases h1 : ys.any (sameId o.author o.seq) = true
  · left; simp [h1]
  · have h1' : ys.any (sameId o.author o.seq) = false := by simpa using h1
    right
    by_cases h2 : room ≤ ys.length
    · right; simp [h1', h2]
    · left
      have h3 : ¬ room ≤ ys.length := h2
      have h4 : (ys.length : Int) < room := by omega
      have := pos_le o.author o.seq ys
      simp [h1', h3, h4]
      omega

theorem ownsRow_base {w : World} {b : Nat} {v : Value} {n : Nat} {cs : List Value} (h : w.ownsRow b 30 7 v n cs) : w.ownsRow 0 30 7 v n cs := by
  refine ⟨h.1, ?_⟩
  rcases h.2 with h | ⟨g, cap, cur, h1, -, h2⟩
  · exact .inl h
  · exact .inr ⟨g, cap, cur, h1, Nat.zero_le _, h2⟩

theorem cell_at {w w' : World} {n b o : Nat} {v : Value} (hb : Below n w w') (h : b < n) (hc : w.cell? ⟨b, o, none⟩ = some v) : w'.cell? ⟨b, o, none⟩ = some v := by
  unfold World.cell? at *
  rw [hb.block b h]
  exact hc

set_option maxRecDepth 100000 in
set_option maxHeartbeats 4000000 in
theorem full_any (w : World) (r0 : Int) (v : Value) (xs : List OpV) (nn : Int) (hn : xs.length ≤ 9223372036854775807) (hv : Rd w v xs) : Calls Try.prog 6 #[.int .i64 r0, v, .int .i64 nn] w (Says true w) := by
  obtain ⟨ad, cap, rfl, hx⟩ := hv
  have HX := Lib.hid hx
  clear hx
  obtain ⟨n, hlen⟩ : ∃ n, n = xs.length := ⟨_, rfl⟩
  rw [← hlen] at hn ⊢
  have HL := Lib.hid hlen
  clear hlen
  have hr1 : 0 ≤ (bits .and .i64 r0 65535).tmod 31 ∧ (bits .and .i64 r0 65535).tmod 31 ≤ 30 := by
    have := and16 r0
    have h1 := Int.tmod_nonneg 31 this.1
    have h2 := Int.tmod_lt_of_pos (bits .and .i64 r0 65535) (b := 31) (by decide)
    omega
  have HR := Lib.hid hr1
  clear hr1
  go_enter Try.func6, Try.ntmps6
  go_upto_region 1 with fail
  refine abs_wp fun W hW0 => ?_
  have hW : W = w.alloc (.cells #[.int .i64 nn] 3) := hW0
  clear hW0
  have hBW : Below w.heap.size w W := by rw [hW]; exact (Below.refl _ _).alloc (Nat.le_refl _) _
  have hcn : W.cell? ⟨w.heap.size, 0, none⟩ = some (.int .i64 nn) := by
    rw [hW]
    unfold World.cell?
    rw [show (w.alloc (.cells #[.int .i64 nn] 3)).heap[w.heap.size]? = _ from heap_alloc_new _ _]
    rfl
  have hlt := World.block_lt_of_cell? W _ hcn
  obtain ⟨bn, hbn⟩ : ∃ bn, bn = w.heap.size := ⟨_, rfl⟩
  rw [← hbn] at hcn hlt ⊢
  have HBN := Lib.hid hbn
  have HCN := Lib.hid hcn
  have HBW := Lib.hid hBW
  clear hW hcn hBW hbn
  go_wp2_with fail
  refine (shown_any W).mono ?_
  rintro e w1 ⟨rfl, hb1⟩
  go_wp2_with fail
  refine (new_h (HBW.out.trans (hb1.mono HBW.out.size)) _ HR.out.1 (by have := HR.out.2; omega)).mono ?_
  rintro e w2 ⟨rfl, hb2, hh2⟩
  have hh := hh2 (fun k => k = bn) (fun k h => by have := hb1.size; omega)
  clear hh2
  have hc2 : w2.cell? ⟨bn, 0, none⟩ = some (.int .i64 nn) := cell_at hb2 (by have := hb1.size; omega) (cell_at hb1 hlt HCN.out)
  have hr1 := HR.out.1
  have hr2 := HR.out.2
  clear HR HCN
  generalize (bits .and .i64 r0 65535).tmod 31 = room at *
  generalize w1.heap.size = bh at *
  have HH := Lib.hid hh
  have HC := Lib.hid hc2
  clear hh hb1 hb2 hc2 hlt
  go_wp2_with fail
  go_loopw [9, 10, 11, 12, 13, 14, 15, 16, 17, 18, 19] (fun part _ _ _ _ _ _ _ _ _ _ wr => ∃ (p : Nat) (ys : List OpV), part = .int .i64 p ∧ p ≤ 2 ∧ (ys.length : Int) ≤ room ∧ Has w wr (fun k => k = bn) bh room ys ∧ wr.cell? ⟨bn, 0, none⟩ = some (.int .i64 nn)) (fun part _ _ _ _ _ _ _ _ _ _ _ => 2 - (intOf part).toNat)
  case atStart => exact ⟨0, [], rfl, by omega, by simpa using hr1, HH.out, HC.out⟩
  case round =>
    obtain ⟨p, ys, rfl, hp, hyl, hh, hc⟩ := hrel
    have HH2 := Lib.hid hh
    have HC2 := Lib.hid hc
    clear hh hc
    by_cases hp2 : p < 2
    · go_upto_block 2 with fail
      have hd : decide ((p : Int) < 2) = true := by rw [decide_eq_true_iff]; omega
      rw [hd]
      clear hd
      go_cut [10, 11, 12, 13, 14, 15] (fun _ _ _ _ _ _ wx => ∃ ys : List OpV, (ys.length : Int) ≤ room ∧ Has w wx (fun k => k = bn) bh room ys ∧ wx.cell? ⟨bn, 0, none⟩ = some (.int .i64 nn))
      case first =>
        go_wp2_with fail
        go_loopw [10, 11, 12, 13, 14, 15] (fun i _ _ _ _ _ wr => ∃ (k : Nat) (ys : List OpV), i = .int .i64 k ∧ k ≤ n ∧ k ≤ 60 ∧ (ys.length : Int) ≤ room ∧ Has w wr (fun k => k = bn) bh room ys ∧ wr.cell? ⟨bn, 0, none⟩ = some (.int .i64 nn)) (fun i _ _ _ _ _ _ => n - (intOf i).toNat)
        case atStart => exact ⟨0, ys, rfl, by omega, by omega, hyl, HH2.out, HC2.out⟩
        case round =>
          clear hyl HH2 HC2 ys
          obtain ⟨k, ys, rfl, h1, h2, hyl, hh, hc⟩ := hrel
          have HK := Lib.hid hh
          have HC2 := Lib.hid hc
          clear hh hc
          by_cases hk : k < n
          · by_cases hk6 : k < 60
            · have hkx : k < xs.length := by have := HL.out; omega
              obtain ⟨b, off, rfl, hx⟩ := HX.out (by omega)
              have ho := hx k hkx
              have hlt := opAt_lt ho
              have HO := Lib.hid ho
              clear hx ho
              obtain ⟨o, hoo⟩ : ∃ o, o = xs[k] := ⟨_, rfl⟩
              rw [← hoo] at HO
              clear hoo
              have hkn : (k : Int) < n := by omega
              go_wp2_with fail
              refine (len_h HK.out).mono ?_
              intro e w3 he
              have HC3 := Lib.hid (show w3.cell? ⟨bn, 0, none⟩ = some (.int .i64 nn) by unfold World.cell?; rw [he.kept bn rfl]; exact HC2.out)
              obtain ⟨rfl, hh3, -, -⟩ := he
              have HH3 := Lib.hid hh3
              have b3 := hh3.below
              clear hh3
              obtain ⟨k0, k1, k2, k3, k4, k5, k6⟩ := opAt_below b3 hlt HO.out
              have h3 := add_three room ys o hyl
              rcases h3 with ⟨g1, g2, g3⟩ | ⟨g1, g4, g2, g3⟩ | ⟨g1, g4, g2, g3⟩
              · have HA := Lib.hid (fun (wX : World) (h : Has w wX (fun k => k = bn) bh room ys) => add_e h (by omega) o rfl g2)
                generalize addTo room ys o = zs at *
                have HG := Lib.hid g3
                clear g2 g3
                have hyn : (ys.length : Int) ≤ 30 := by omega
                go_wp2_with fail
                go_still_tail 12, (by kernel_rfl)
                change wpList _ _ _ _ _ w3.drew
                go_wp2_with fail
                refine (has_e (HH3.out.to (Below.refl _ _).drew) o.author o.seq g1).mono ?_
                intro e w4 he
                have HC4 := Lib.hid (show w4.cell? ⟨bn, 0, none⟩ = some (.int .i64 nn) by unfold World.cell?; rw [he.kept bn rfl]; exact HC3.out)
                obtain ⟨rfl, hh4, -, -⟩ := he
                have b4 := hh4.below
                have HH4 := Lib.hid hh4
                clear hh4 k0 k1 k2 k3 k4 k5 k6
                obtain ⟨k0, k1, k2, k3, k4, k5, k6⟩ := opAt_below b4 hlt HO.out
                go_wp2_with fail
                refine (HA.out _ HH4.out).mono ?_
                intro e w5 he
                have HC5 := Lib.hid (show w5.cell? ⟨bn, 0, none⟩ = some (.int .i64 nn) by unfold World.cell?; rw [he.kept bn rfl]; exact HC4.out)
                obtain ⟨rfl, hh5, -, -⟩ := he
                go_wp2_with fail
                refine (len_e hh5 (n := ys.length) (by rw [HG.out]; try omega)).mono ?_
                intro e w6 he
                have HC6 := Lib.hid (show w6.cell? ⟨bn, 0, none⟩ = some (.int .i64 nn) by unfold World.cell?; rw [he.kept bn rfl]; exact HC5.out)
                obtain ⟨rfl, hh6, -, -⟩ := he
                go_wp2_with fail
                refine (room_e hh6 (n := room - (ys.length)) (by rw [HG.out]; try omega)).mono ?_
                intro e w7 he
                have HC7 := Lib.hid (show w7.cell? ⟨bn, 0, none⟩ = some (.int .i64 nn) by unfold World.cell?; rw [he.kept bn rfl]; exact HC6.out)
                obtain ⟨rfl, hh7, -, -⟩ := he
                go_wp2_with fail
                go_roundw
                case rel => exact ⟨k + 1, zs, by go_num, by omega, by omega, by rw [HG.out]; omega, hh7, HC7.out⟩
                case measure => simp [intOf]; omega
              · have HA := Lib.hid (fun (wX : World) (h : Has w wX (fun k => k = bn) bh room ys) => add_e h (by omega) o rfl g2)
                generalize addTo room ys o = zs at *
                have HG := Lib.hid g3
                clear g2 g3
                have hyn : (ys.length : Int) ≤ 30 := by omega
                go_wp2_with fail
                go_still_tail 12, (by kernel_rfl)
                change wpList _ _ _ _ _ w3.drew
                go_wp2_with fail
                refine (has_e (HH3.out.to (Below.refl _ _).drew) o.author o.seq g1).mono ?_
                intro e w4 he
                have HC4 := Lib.hid (show w4.cell? ⟨bn, 0, none⟩ = some (.int .i64 nn) by unfold World.cell?; rw [he.kept bn rfl]; exact HC3.out)
                obtain ⟨rfl, hh4, -, -⟩ := he
                have b4 := hh4.below
                have HH4 := Lib.hid hh4
                clear hh4 k0 k1 k2 k3 k4 k5 k6
                obtain ⟨k0, k1, k2, k3, k4, k5, k6⟩ := opAt_below b4 hlt HO.out
                go_wp2_with fail
                refine (HA.out _ HH4.out).mono ?_
                intro e w5 he
                have HC5 := Lib.hid (show w5.cell? ⟨bn, 0, none⟩ = some (.int .i64 nn) by unfold World.cell?; rw [he.kept bn rfl]; exact HC4.out)
                obtain ⟨rfl, hh5, -, -⟩ := he
                go_wp2_with fail
                refine (len_e hh5 (n := (ys.length : Int) + 1) (by rw [HG.out]; try omega)).mono ?_
                intro e w6 he
                have HC6 := Lib.hid (show w6.cell? ⟨bn, 0, none⟩ = some (.int .i64 nn) by unfold World.cell?; rw [he.kept bn rfl]; exact HC5.out)
                obtain ⟨rfl, hh6, -, -⟩ := he
                go_wp2_with fail
                refine (room_e hh6 (n := room - ((ys.length : Int) + 1)) (by rw [HG.out]; try omega)).mono ?_
                intro e w7 he
                have HC7 := Lib.hid (show w7.cell? ⟨bn, 0, none⟩ = some (.int .i64 nn) by unfold World.cell?; rw [he.kept bn rfl]; exact HC6.out)
                obtain ⟨rfl, hh7, -, -⟩ := he
                go_wp2_with fail
                go_roundw
                case rel => exact ⟨k + 1, zs, by go_num, by omega, by omega, by rw [HG.out]; omega, hh7, HC7.out⟩
                case measure => simp [intOf]; omega
              · have g5 : room ≤ ys.length := by omega
                have HA := Lib.hid (fun (wX : World) (h : Has w wX (fun k => k = bn) bh room ys) => add_e h (by omega) o rfl g2)
                generalize addTo room ys o = zs at *
                have HG := Lib.hid g3
                clear g2 g3
                have hyn : (ys.length : Int) ≤ 30 := by omega
                go_wp2_with fail
                go_still_tail 12, (by kernel_rfl)
                change wpList _ _ _ _ _ w3.drew
                go_wp2_with fail
                refine (has_e (HH3.out.to (Below.refl _ _).drew) o.author o.seq g1).mono ?_
                intro e w4 he
                have HC4 := Lib.hid (show w4.cell? ⟨bn, 0, none⟩ = some (.int .i64 nn) by unfold World.cell?; rw [he.kept bn rfl]; exact HC3.out)
                obtain ⟨rfl, hh4, -, -⟩ := he
                have b4 := hh4.below
                have HH4 := Lib.hid hh4
                clear hh4 k0 k1 k2 k3 k4 k5 k6
                obtain ⟨k0, k1, k2, k3, k4, k5, k6⟩ := opAt_below b4 hlt HO.out
                go_wp2_with fail
                refine (HA.out _ HH4.out).mono ?_
                intro e w5 he
                have HC5 := Lib.hid (show w5.cell? ⟨bn, 0, none⟩ = some (.int .i64 nn) by unfold World.cell?; rw [he.kept bn rfl]; exact HC4.out)
                obtain ⟨rfl, hh5, -, -⟩ := he
                go_wp2_with fail
                refine (len_e hh5 (n := ys.length) (by rw [HG.out]; try omega)).mono ?_
                intro e w6 he
                have HC6 := Lib.hid (show w6.cell? ⟨bn, 0, none⟩ = some (.int .i64 nn) by unfold World.cell?; rw [he.kept bn rfl]; exact HC5.out)
                obtain ⟨rfl, hh6, -, -⟩ := he
                go_wp2_with fail
                refine (room_e hh6 (n := room - (ys.length)) (by rw [HG.out]; try omega)).mono ?_
                intro e w7 he
                have HC7 := Lib.hid (show w7.cell? ⟨bn, 0, none⟩ = some (.int .i64 nn) by unfold World.cell?; rw [he.kept bn rfl]; exact HC6.out)
                obtain ⟨rfl, hh7, -, -⟩ := he
                go_wp2_with fail
                go_roundw
                case rel => exact ⟨k + 1, zs, by go_num, by omega, by omega, by rw [HG.out]; omega, hh7, HC7.out⟩
                case measure => simp [intOf]; omega
            · go_wp2_with fail
              go_meet
              exact ⟨ys, hyl, HK.out, HC2.out⟩
          · go_wp2_with fail
            go_meet
            exact ⟨ys, hyl, HK.out, HC2.out⟩
      case rest =>
        clear hyl HH2 HC2 ys
        obtain ⟨ys, hyl, hh, hc⟩ := hcut
        have hyn : ys.length ≤ 30 := by omega
        go_wp2_with fail
        refine (all_h hh).mono ?_
        rintro e w3 ⟨v', he, hrow, hb3⟩
        have HC3 := Lib.hid (show w3.cell? ⟨bn, 0, none⟩ = some (.int .i64 nn) by unfold World.cell?; rw [he.kept bn rfl]; exact hc)
        obtain ⟨rfl, hh3, -, -⟩ := he
        have hbl : bn < w3.heap.size := hh3.ks _ rfl
        have HH3 := Lib.hid hh3
        obtain ⟨ad, cap2, rfl, hyx⟩ := ownsRow_rd (ownsRow_base hrow)
        have HYX := Lib.hid hyx
        clear hh hc hrow hyx hb3 hh3
        go_wp2_with fail
        go_loopw [17, 18] (fun c i wr => ∃ k : Nat, i = .int .i64 k ∧ k ≤ ys.length ∧ c = .int .i64 (many (fun o => bits .and .i64 o.seq nn != 0) ys k) ∧ Below w3.heap.size w3 wr) (fun _ i _ => ys.length - (intOf i).toNat)
        case atStart => exact ⟨0, rfl, by omega, by simp [many], Below.refl _ _⟩
        case round =>
          obtain ⟨k, rfl, h1, rfl, hbw⟩ := hrel
          by_cases hk : k < ys.length
          · obtain ⟨b, off, rfl, hx⟩ := HYX.out (by omega)
            have ho := hx k hk
            have hlt := opAt_lt ho
            have hm := many_succ (q := fun o => bits .and .i64 o.seq nn != 0) hk
            obtain ⟨o, hoo⟩ : ∃ o, o = ys[k] := ⟨_, rfl⟩
            rw [← hoo] at ho hm
            have HM := Lib.hid hm
            clear hoo hx hm
            have hml := many_le (fun o => bits .and .i64 o.seq nn != 0) ys k
            generalize many (fun o => bits .and .i64 o.seq nn != 0) ys k = c at *
            obtain ⟨k0, k1, k2, k3, k4, k5, k6⟩ := opAt_below hbw hlt ho
            have hcb : wr.cell? ⟨bn, 0, none⟩ = some (.int .i64 nn) := cell_at hbw hbl HC3.out
            clear ho
            cases hq : bits .and .i64 o.seq nn != 0
            all_goals
              rw [hq] at HM
              go_wp2
              go_quiet (fail)
              go_wp2
              go_roundw
              case rel => exact ⟨k + 1, by go_num, by omega, by rw [HM.out]; go_num, below_drewN hbw _⟩
              case measure => simp [intOf]; omega
          · have hcb : wr.cell? ⟨bn, 0, none⟩ = some (.int .i64 nn) := cell_at hbw hbl HC3.out
            have hd := drop_h (HH3.out.to hbw) _ 29 #[.pointer (some ⟨bn, 0, none⟩)] enters29 (fun G hG => seq_bit wr G bn nn hcb (hG bn rfl))
            have hs := filter_split (fun o => bits .and .i64 o.seq nn != 0) ys
            rw [← many_all (show ys.length ≤ k by omega)] at hs
            generalize many (fun o => bits .and .i64 o.seq nn != 0) ys k = c at *
            have hsl := List.length_filter_le (fun o : OpV => !(bits .and .i64 o.seq nn != 0)) ys
            generalize (ys.filter fun o => !(bits .and .i64 o.seq nn != 0)) = zs at *
            rw [show ((ys.length : Int) - zs.length) = c by omega] at hd
            have HD := Lib.hid hd
            have HS := Lib.hid hs
            clear hd hs
            go_wp2_with fail
            refine HD.out.mono ?_
            intro e w4 he
            have HC4 := Lib.hid (show w4.cell? ⟨bn, 0, none⟩ = some (.int .i64 nn) by unfold World.cell?; rw [he.kept bn rfl]; exact hcb)
            obtain ⟨rfl, hh4, -, -⟩ := he
            go_wp2_with fail
            refine (len_e hh4 (n := (ys.length : Int) - c) (by have := HS.out; omega)).mono ?_
            intro e w5 he
            have HC5 := Lib.hid (show w5.cell? ⟨bn, 0, none⟩ = some (.int .i64 nn) by unfold World.cell?; rw [he.kept bn rfl]; exact HC4.out)
            obtain ⟨rfl, hh5, -, -⟩ := he
            have hcl : (c : Int) ≤ ys.length := by have := HS.out; omega
            go_wp2_with fail
            go_roundw
            case rel => exact ⟨p + 1, zs, by go_num, by omega, by omega, hh5, HC5.out⟩
            case measure => simp [intOf]; omega
    · go_wp2_with fail
      refine (len_h HH2.out).mono ?_
      intro e w3 he
      have hc3 : w3.cell? ⟨bn, 0, none⟩ = some (.int .i64 nn) := by unfold World.cell?; rw [he.kept bn rfl]; exact HC2.out
      obtain ⟨rfl, hh3, -, -⟩ := he
      go_wp2_with fail
      have hd := drop_h hh3 (fun _ => true) 16 #[] enters16 (fun G _ => all_ops _ G)
      have e0 : (ys.filter fun o => !(fun _ => true) o) = [] := by simp
      rw [e0] at hd
      simp only [List.length_nil] at hd
      refine hd.mono ?_
      intro e w4 he
      obtain ⟨rfl, hh4, -, -⟩ := he
      have hb : ((ys.length : Int) - (0 : Nat) == ys.length) = true := by simp
      go_wp2_with fail
      refine (len_e hh4 (n := 0) rfl).mono ?_
      intro e w5 he
      obtain ⟨rfl, hh5, -, -⟩ := he
      go_wp2_with fail
      refine (room_e hh5 (n := room) (by simp)).mono ?_
      intro e w6 he
      obtain ⟨rfl, hh6, -, -⟩ := he
      have hb2 : (room == room) = true := by simp
      go_wp2_with fail
      go_ret
      exact ⟨rfl, hh6.below⟩
end Go.Proofs.Ytpkdhmljbpbcfaa
