/-
  HoldReady ends true. No condition beyond what each theorem names.
-/
import Derived.Test.YtpkdhmljbpbcfaaTP
set_option linter.unusedVariables false
set_option linter.unusedSimpArgs false
namespace Go.Proofs.Ytpkdhmljbpbcfaa
open Go.RowKit

/-- the first one from i on that q takes, or -1 -/
def fromI (q : OpV → Bool) (xs : List OpV) (i : Nat) : Int := match (xs.drop i).findIdx? q with | some j => ((i + j : Nat) : Int) | none => -1

theorem fromI_end {q : OpV → Bool} {xs : List OpV} {i : Nat} (h : xs.length ≤ i) : fromI q xs i = -1 := by
  simp [fromI, List.drop_of_length_le h]

theorem fromI_step {q : OpV → Bool} {xs : List OpV} {i : Nat} (h : i < xs.length) : fromI q xs i = if q xs[i] then (i : Int) else fromI q xs (i + 1) := by
  unfold fromI
  rw [List.drop_eq_getElem_cons h, List.findIdx?_cons]
  cases hq : q xs[i]
  · cases hf : (xs.drop (i + 1)).findIdx? q
    · simp [hf]
    · simp [hf]; omega
  · simp

theorem fromI_cases (q : OpV → Bool) (xs : List OpV) : (fromI q xs 0 = -1 ∧ ∀ o ∈ xs, q o = false) ∨ ∃ (m : Nat) (h : m < xs.length), fromI q xs 0 = m ∧ q xs[m] = true ∧ ∀ j (h : j < m), q (xs[j]'(by omega)) = false := by
  unfold fromI
  rw [List.drop_zero]
  cases hf : xs.findIdx? q with
  | none =>
    left
    rw [List.findIdx?_eq_none_iff] at hf
    exact ⟨rfl, hf⟩
  | some j =>
    right
    rw [List.findIdx?_eq_some_iff_getElem] at hf
    obtain ⟨h1, h2, h3⟩ := hf
    exact ⟨j, h1, by simp, h2, fun i hi => by simpa using h3 i hi⟩

/-- how many a hold has, read out of memory -/
def holdLen (w : World) (bh : Nat) : Nat := match w.cell? ⟨bh, 1, none⟩ with | some (.slice _ n _) => n | _ => 0
theorem has_holdLen {w0 w : World} {Ks : Nat → Prop} {bh : Nat} {room : Int} {xs : List OpV} (h : Has w0 w Ks bh room xs) : holdLen w bh = xs.length := by
  obtain ⟨F, v, h2, h3, h4⟩ := h.some
  obtain ⟨ad, cap, rfl⟩ := h2.rd.len
  have : w.cell? ⟨bh, 1, none⟩ = some (.slice ad xs.length cap) := by simp [World.cell?, h2.head]
  simp [holdLen, this]

theorem take_drop_erase (xs : List OpV) (m : Nat) : xs.take m ++ xs.drop (m + 1) = xs.eraseIdx m := by
  rw [List.eraseIdx_eq_take_drop_succ]

theorem Mine.cap {w : World} {Ks : Nat → Prop} {a : Addr} {n c : Nat} {xs : List OpV} (h : Mine w Ks (.slice (some a) n c) xs) : xs.length ≤ c ∧ c ≤ 9223372036854775807 := by
  rcases h.1.2 with ⟨h1, -⟩ | ⟨g, cap, cur, h1, h2, h3, h4, h5, -⟩
  · cases h1
  · cases h1
    unfold maxLen at h5
    exact ⟨h4, by omega⟩

set_option maxRecDepth 100000 in
set_option maxHeartbeats 4000000 in
theorem ready_law (w : World) (v : Value) (xs : List OpV) (every rest : Int) (hn : xs.length ≤ 9223372036854775807) (hv : Rd w v xs) : Calls Try.prog 4 #[v, .int .i64 every, .int .i64 rest] w (Says true w) := by
  obtain ⟨ad, cap, rfl, hx⟩ := hv
  have HX := Lib.hid hx
  clear hx
  obtain ⟨n, hlen⟩ : ∃ n, n = xs.length := ⟨_, rfl⟩
  rw [← hlen] at hn ⊢
  have HL := Lib.hid hlen
  clear hlen
  go_enter Try.func4, Try.ntmps4
  go_upto_region 1 with fail
  refine abs_wp fun W hW0 => ?_
  have hW : W = (w.alloc (.cells #[.int .i64 every] 3)).alloc (.cells #[.int .i64 rest] 3) := hW0
  clear hW0
  have hBW : Below w.heap.size w W := by rw [hW]; exact ((Below.refl _ _).alloc (Nat.le_refl _) _).alloc (by simp) _
  have hce : W.heap[w.heap.size]? = some (.cells #[.int .i64 every] 3) := by
    rw [hW, Below.heap_alloc _ _ _ (by simp)]; exact heap_alloc_new _ _
  have hcr : W.heap[w.heap.size + 1]? = some (.cells #[.int .i64 rest] 3) := by
    rw [hW]
    have := heap_alloc_new (w.alloc (.cells #[.int .i64 every] 3)) (.cells #[.int .i64 rest] 3)
    simpa using this
  have hsz : W.heap.size = w.heap.size + 2 := by rw [hW]; simp
  obtain ⟨be, hbe⟩ : ∃ be, be = w.heap.size := ⟨_, rfl⟩
  rw [← hbe] at hce hcr hsz ⊢
  have HBE := Lib.hid hbe
  have HCE := Lib.hid hce
  have HCR := Lib.hid hcr
  have HBW := Lib.hid hBW
  clear hW hce hcr hBW hbe
  go_wp2_with fail
  refine (shown_any W).mono ?_
  rintro e w1 ⟨rfl, hb1⟩
  go_wp2_with fail
  refine (new_h (HBW.out.trans (hb1.mono HBW.out.size)) 40 (by decide) (by decide)).mono ?_
  rintro e w2 ⟨rfl, hb2, hh2⟩
  have hh := hh2 (fun k => k = be ∨ k = be + 1) (fun k h => by have := hb1.size; omega)
  clear hh2
  have hce : w2.heap[be]? = some (.cells #[.int .i64 every] 3) := by rw [hb2.block _ (by have := hb1.size; omega), hb1.block _ (by omega)]; exact HCE.out
  have hcr : w2.heap[be + 1]? = some (.cells #[.int .i64 rest] 3) := by rw [hb2.block _ (by have := hb1.size; omega), hb1.block _ (by omega)]; exact HCR.out
  clear HCE HCR
  generalize w1.heap.size = bh at *
  have HH := Lib.hid hh
  have HE := Lib.hid hce
  have HR := Lib.hid hcr
  clear hh hb1 hb2 hce hcr hsz
  go_upto_block 0 with fail
  go_cut [9] (fun _ wx => ∃ ys : List OpV, ys.length ≤ 40 ∧ Has w wx (fun k => k = be ∨ k = be + 1) bh 40 ys ∧ wx.heap[be]? = some (.cells #[.int .i64 every] 3) ∧ wx.heap[be + 1]? = some (.cells #[.int .i64 rest] 3))
  case first =>
    go_wp2_with fail
    go_loopw [9] (fun i wr => ∃ (k : Nat) (ys : List OpV), i = .int .i64 k ∧ k ≤ n ∧ k ≤ 40 ∧ ys.length ≤ k ∧ Has w wr (fun k => k = be ∨ k = be + 1) bh 40 ys ∧ wr.heap[be]? = some (.cells #[.int .i64 every] 3) ∧ wr.heap[be + 1]? = some (.cells #[.int .i64 rest] 3)) (fun i _ => n - (intOf i).toNat)
    case atStart => exact ⟨0, [], rfl, by omega, by omega, by simp, HH.out, HE.out, HR.out⟩
    case round =>
      obtain ⟨k, ys, rfl, h1, h2, hyl, hh, hc⟩ := hrel
      have HK := Lib.hid hh
      have HC2 := Lib.hid hc
      clear hh hc
      by_cases hk : k < n
      · by_cases hk6 : k < 40
        · have hkx : k < xs.length := by have := HL.out; omega
          obtain ⟨b, off, rfl, hx⟩ := HX.out (by omega)
          have ho := hx k hkx
          have hlt := opAt_lt ho
          obtain ⟨k0, k1, k2, k3, k4, k5, k6⟩ := opAt_below HK.out.below hlt ho
          have hal := (addTo_len 40 ys xs[k]).1
          have HA := Lib.hid (add_h HK.out (by omega) xs[k])
          generalize addTo 40 ys xs[k] = zs at *
          generalize addErr 40 ys xs[k] = er at *
          generalize xs[k] = o at *
          clear hx ho hlt
          go_wp2_with fail
          refine HA.out.mono ?_
          intro e w3 he
          have HC3 := Lib.hid (show w3.heap[be]? = some (.cells #[.int .i64 every] 3) ∧ w3.heap[be + 1]? = some (.cells #[.int .i64 rest] 3) from ⟨(he.kept be (.inl rfl)).trans HC2.out.1, (he.kept (be + 1) (.inr rfl)).trans HC2.out.2⟩)
          obtain ⟨rfl, hh3, -, -⟩ := he
          go_wp2_with fail
          go_roundw
          case rel => exact ⟨k + 1, zs, by go_num, by omega, by omega, by omega, hh3, HC3.out⟩
          case measure => simp [intOf]; omega
        · go_wp2_with fail
          go_meet
          exact ⟨ys, by omega, HK.out, HC2.out⟩
      · go_wp2_with fail
        go_meet
        exact ⟨ys, by omega, HK.out, HC2.out⟩
  case rest =>
    clear HH HE HR
    obtain ⟨ys, hyl, hh, hce, hcr⟩ := hcut
    have e1 : wc.cell? ⟨be, 0, none⟩ = some (.int .i64 every) := by simp [World.cell?, hce]
    have e2 : wc.frozen? ⟨be, 0, none⟩ = false := by simp [World.frozen?, hce]
    have hbl := hh.ks be (.inl rfl)
    have hbl2 := hh.ks (be + 1) (.inr rfl)
    have h7 := and7 every
    have r7 := and7 rest
    go_upto_region 10 with fail
    refine abs_wp fun w4 hw4' => ?_
    have hw4 : w4 = wc.setCell ⟨be, 0, none⟩ (.int .i64 (1 + bits .and .i64 every 7)) := hw4'
    clear hw4'
    obtain ⟨ev, hev⟩ : ∃ ev, ev = 1 + bits .and .i64 every 7 := ⟨_, rfl⟩
    rw [← hev] at hw4
    have g1 : 1 ≤ ev := by omega
    have g2 : ev ≤ 8 := by omega
    have g3 : (ev == 0) = false := by rw [beq_eq_false_iff_ne]; omega
    have f1 : w4.heap[be]? = some (.cells #[.int .i64 ev] 3) := by rw [hw4, setCell_at hce]; rfl
    have f2 : w4.heap[be + 1]? = some (.cells #[.int .i64 rest] 3) := by rw [hw4, setCell_off _ _ _ (by omega)]; exact hcr
    have hf4 : Fr (fun k => k = be ∨ k = be + 1) wc w4 := by rw [hw4]; exact Fr.setCell (F := fun k => k = be ∨ k = be + 1) wc (p := ⟨be, 0, none⟩) (.inl rfl) _
    have e3 : w4.cell? ⟨be, 0, none⟩ = some (.int .i64 ev) := by simp [World.cell?, f1]
    have e4 : w4.cell? ⟨be + 1, 0, none⟩ = some (.int .i64 rest) := by simp [World.cell?, f2]
    have e5 : w4.frozen? ⟨be + 1, 0, none⟩ = false := by simp [World.frozen?, f2]
    have hb4 : be < w4.heap.size := World.block_lt_of_cell? w4 _ e3
    have hb5 : be + 1 < w4.heap.size := World.block_lt_of_cell? w4 _ e4
    clear hev hw4 e1 e2 hce hcr h7
    go_upto_region 11 with fail
    refine abs_wp fun w5 hw5' => ?_
    have hw5 : w5 = w4.setCell ⟨be + 1, 0, none⟩ (.int .i64 (bits .and .i64 rest 7 % ev)) := hw5'
    clear hw5'
    obtain ⟨rs, hrs⟩ : ∃ rs, rs = bits .and .i64 rest 7 % ev := ⟨_, rfl⟩
    rw [← hrs] at hw5
    have f3 : w5.heap[be]? = some (.cells #[.int .i64 ev] 3) := by rw [hw5, setCell_off _ _ _ (by omega)]; exact f1
    have f4 : w5.heap[be + 1]? = some (.cells #[.int .i64 rs] 3) := by rw [hw5, setCell_at f2]; rfl
    have hf5 : Fr (fun k => k = be ∨ k = be + 1) wc w5 := hf4.trans (by rw [hw5]; exact Fr.setCell (F := fun k => k = be ∨ k = be + 1) w4 (p := ⟨be + 1, 0, none⟩) (.inr rfl) _) (fun _ _ h => h)
    have hh5 := hh.keep (fun k => k = be ∨ k = be + 1) (fun _ h => h) hf5 (fun k hk => by have := HBE.out; omega)
    have HH := Lib.hid hh5
    have HF := Lib.hid (And.intro f3 f4)
    clear hrs hw5 f1 f2 f3 f4 hf4 hf5 hh hh5 e3 e4 e5 hb4 hb5 g3 r7 hbl hbl2
    go_wp2_with fail
    go_loopw [11, 12, 13, 14, 15, 16] (fun _ _ _ _ _ _ wr => ∃ ys : List OpV, ys.length ≤ 40 ∧ Has w wr (fun k => k = be ∨ k = be + 1) bh 40 ys ∧ wr.heap[be]? = some (.cells #[.int .i64 ev] 3) ∧ wr.heap[be + 1]? = some (.cells #[.int .i64 rs] 3)) (fun _ _ _ _ _ _ wr => holdLen wr bh)
    case atStart => exact ⟨ys, hyl, HH.out, HF.out⟩
    case round =>
      clear HH HF hyl ys
      obtain ⟨ys, hyl, hh, hf⟩ := hrel
      have HH := Lib.hid hh
      have HF := Lib.hid hf
      have HLN := Lib.hid (has_holdLen hh)
      clear hh hf
      by_cases hy : 0 < ys.length
      · go_wp2_with fail
        refine (len_h HH.out).mono ?_
        intro e w6 he
        have HF6 := Lib.hid (show w6.heap[be]? = some (.cells #[.int .i64 ev] 3) ∧ w6.heap[be + 1]? = some (.cells #[.int .i64 rs] 3) from ⟨(he.kept be (.inl rfl)).trans HF.out.1, (he.kept (be + 1) (.inr rfl)).trans HF.out.2⟩)
        obtain ⟨rfl, hh6, -, -⟩ := he
        go_wp2_with fail
        refine (all_k hh6).mono ?_
        rintro e w7 ⟨v1, rfl, hh7, hm7, hb7⟩
        have HF7 := Lib.hid (show w7.heap[be]? = some (.cells #[.int .i64 ev] 3) ∧ w7.heap[be + 1]? = some (.cells #[.int .i64 rs] 3) from ⟨(hb7.block _ (hh6.ks be (.inl rfl))).trans HF6.out.1, (hb7.block _ (hh6.ks (be + 1) (.inr rfl))).trans HF6.out.2⟩)
        obtain ⟨ad1, cap1, rfl, hx1⟩ := hm7.rdk
        obtain ⟨b1, off1, rfl, hK1, hx1⟩ := hx1 hy
        have HX1 := Lib.hid hx1
        have HH7 := Lib.hid hh7
        have HM7 := Lib.hid hm7
        have hbl : be < w7.heap.size := hh7.ks be (.inl (.inl rfl))
        have hbl2 : be + 1 < w7.heap.size := hh7.ks (be + 1) (.inl (.inr rfl))
        have hb1 : b1 < w7.heap.size := hh7.ks b1 hK1
        have HDEC := Lib.hid (fun (wz : World) (G : Nat → Prop) (h1 : wz.heap[be]? = some (.cells #[.int .i64 ev] 3)) (h2 : wz.heap[be + 1]? = some (.cells #[.int .i64 rs] 3)) (g1' : ¬ G be) (g2' : ¬ G (be + 1)) =>
          rem_is wz G be (be + 1) ev rs (by simp [World.cell?, h1]) g1' (by simp [World.cell?, h2]) g2' g1 g2)
        clear hh6 hh7 hm7 hx1 hb7 HH HF HF6
        go_wp2_with fail
        go_loopw [12, 13] (fun at_ i wx => ∃ (i' : Int) (j : Nat), i = .int .i64 i' ∧ i' + 1 = j ∧ j ≤ ys.length ∧ at_ = .int .i64 (fromI (rem24 ev rs) ys j) ∧ Below w7.heap.size w7 wx) (fun _ i _ => (intOf i + 1).toNat)
        case atStart => exact ⟨_, ys.length, rfl, by omega, Nat.le_refl _, by rw [fromI_end (Nat.le_refl _)], Below.refl _ _⟩
        case round =>
          obtain ⟨i', j, rfl, hij, hj, rfl, hbx⟩ := hrel
          by_cases hj0 : 0 < j
          · obtain ⟨j', rfl⟩ : ∃ j', j = j' + 1 := ⟨j - 1, by omega⟩
            obtain rfl : i' = (j' : Int) := by omega
            have hju : j' < ys.length := by omega
            have ho := HX1.out j' hju
            have hst := fromI_step (q := rem24 ev rs) hju
            obtain ⟨k0, k1, k2, k3, k4, k5, k6⟩ := opAt_below hbx hb1 ho
            have hdec := HDEC.out wr (fun _ => False) ((hbx.block _ hbl).trans HF7.out.1) ((hbx.block _ hbl2).trans HF7.out.2) (fun h => h) (fun h => h) ys[j'] wr (Fr.refl _ _)
            generalize ys[j'] = o at *
            have HD := Lib.hid hdec
            have HST := Lib.hid hst
            clear hdec hst ho
            cases hq : rem24 ev rs o
            all_goals
              rw [hq] at HD HST
              have HQ := Lib.hid hq
              clear hq
              go_wp2_with fail
              refine HD.out.mono ?_
              rintro e w8 ⟨rfl, hb8⟩
              go_wp2_with fail
              go_roundw
              case rel => exact ⟨_, j', rfl, by omega, by omega, by rw [HST.out]; rfl, hbx.trans (hb8.mono hbx.size)⟩
              case measure => simp [intOf]
          · obtain rfl : j = 0 := by omega
            obtain rfl : i' = -1 := by omega
            have hh8 := HH7.out.to hbx
            have hm8 := HH7.out.mine hbx HM7.out
            have hrdy := ready_h hh8 (rem24 ev rs) 17 #[.pointer (some ⟨be, 0, none⟩), .pointer (some ⟨be + 1, 0, none⟩)] enters17 (fun G hG => HDEC.out wr G ((hbx.block _ hbl).trans HF7.out.1) ((hbx.block _ hbl2).trans HF7.out.2) (hG be (.inl (.inl rfl))) (hG (be + 1) (.inl (.inr rfl))))
            have hf8 : wr.heap[be]? = some (.cells #[.int .i64 ev] 3) ∧ wr.heap[be + 1]? = some (.cells #[.int .i64 rs] 3) := ⟨(hbx.block _ hbl).trans HF7.out.1, (hbx.block _ hbl2).trans HF7.out.2⟩
            have hcs := fromI_cases (rem24 ev rs) ys
            have HM8 := Lib.hid hm8
            have HF8 := Lib.hid hf8
            clear hh8 hm8 hf8
            generalize fromI (rem24 ev rs) ys 0 = at_ at *
            rcases hcs with ⟨rfl, c2⟩ | ⟨m, hm, rfl, c2, c3⟩
            · obtain ⟨r1, r2⟩ := ready_none c2
              rw [r1, r2] at hrdy
              simp only [retOp, zeroOp] at hrdy
              have HR := Lib.hid hrdy
              have heq : ∀ w, (binOp .eql 30 (.agg #[.int .i64 0, .int .i64 0, .int .i64 0, .bool false, .int .i64 0, .int .i64 0, .int .i32 0]) (.agg #[.int .i64 0, .int .i64 0, .int .i64 0, .bool false, .int .i64 0, .int .i64 0, .int .i32 0])).run Try.prog w = .ok (.bool true) w := fun w => (run_eql_op zeroOp zeroOp w).trans (by simp)
              clear hrdy r1 r2 c2
              go_wp2_with fail
              refine HR.out.mono ?_
              intro e w8 he
              have hm9 := he.mine HM8.out
              obtain ⟨rfl, hh9, -, -⟩ := he
              go_wp2_with fail
              refine abs_world fun w9 hw9 => ?_
              have hb9 : Below w8.heap.size w8 w9 := by
                rw [hw9]
                first
                  | exact (Below.refl _ _).alloc (Nat.le_refl _) _
                  | trace_state; sorry
              have hh10 := hh9.to hb9
              have hm10 := hh9.mine hb9 hm9
              clear hw9 hb9 hh9 hm9
              refine (all_n hh10).mono ?_
              rintro e w10 ⟨v2, rfl, hb10, hn2, hm2⟩
              have hr1 := hm10.rd.below hb10 (Nat.le_refl _)
              have hbw := hh10.below.trans (hb10.mono hh10.below.size)
              obtain ⟨ad2, cap2, rfl, -⟩ := hm2.rd
              have hr2 := hm2.rd
              clear hm2 hm10 hh10 hb10 hn2
              go_wp2_with fail
              refine (same_any w10 _ _ ys ys hr2 hr1 (by omega) (by omega)).mono ?_
              rintro e w11 ⟨rfl, hb11⟩
              rw [decide_eq_true rfl]
              go_wp2_with fail
              go_ret
              exact ⟨rfl, hbw.trans (hb11.mono hbw.size)⟩
            · obtain ⟨r1, r2⟩ := ready_some hm c2 c3
              rw [r1, r2] at hrdy
              simp only [retOp] at hrdy
              have HR := Lib.hid hrdy
              have ho1 := HX1.out m hm
              have hop : ∀ (wz : World), wz.heap[b1]? = w7.heap[b1]? → opAt wz b1 (off1 + m * 7) ys[m] := fun wz hz => by
                unfold opAt at *
                simp only [World.cell?, hz] at *
                exact ho1
              have HOP := Lib.hid hop
              obtain ⟨x, hx⟩ : ∃ x, x = ys[m] := ⟨_, rfl⟩
              rw [← hx] at HR HOP
              have HXM := Lib.hid hx
              have hb17 : wr.heap[b1]? = w7.heap[b1]? := hbx.block _ hb1
              have HB17 := Lib.hid hb17
              clear hrdy r1 r2 c2 c3 ho1 hop hx hb17
              go_wp2_with fail
              refine HR.out.mono ?_
              intro e w8 he
              have hm9 := he.mine HM8.out
              have hf9 : w8.heap[be]? = some (.cells #[.int .i64 ev] 3) ∧ w8.heap[be + 1]? = some (.cells #[.int .i64 rs] 3) := ⟨(he.kept be (.inl (.inl rfl))).trans HF8.out.1, (he.kept (be + 1) (.inl (.inr rfl))).trans HF8.out.2⟩
              have hb9 : w8.heap[b1]? = w7.heap[b1]? := (he.kept b1 hK1).trans HB17.out
              obtain ⟨rfl, hh9, -, -⟩ := he
              have HM9 := Lib.hid hm9
              have HF9 := Lib.hid hf9
              have HB9 := Lib.hid hb9
              have HH9 := Lib.hid hh9
              clear hm9 hf9 hb9 hh9 HR HM8 HF8 HB17
              go_upto_region 21 with fail
              refine abs_wp fun w9 hw9' => ?_
              have hw9 : w9 = w8.alloc (opObj x) := hw9'
              clear hw9'
              have hb9 : Below w8.heap.size w8 w9 := by rw [hw9]; exact (Below.refl _ _).alloc (Nat.le_refl _) _
              have hx9 : opAt w9 w8.heap.size 0 x := by refine opAt_heap ?_; rw [hw9]; exact heap_alloc_new _ _
              have hm9 := HH9.out.mine hb9 HM9.out
              have hh9 := HH9.out.to hb9
              have hf9 : w9.heap[be]? = some (.cells #[.int .i64 ev] 3) ∧ w9.heap[be + 1]? = some (.cells #[.int .i64 rs] 3) := ⟨(hb9.block _ (HH9.out.ks be (.inl (.inl rfl)))).trans HF9.out.1, (hb9.block _ (HH9.out.ks (be + 1) (.inl (.inr rfl)))).trans HF9.out.2⟩
              have hb19 : w9.heap[b1]? = w7.heap[b1]? := (hb9.block _ (HH9.out.ks b1 hK1)).trans HB9.out
              have ho19 := HOP.out w9 hb19
              clear hw9
              generalize w8.heap.size = bx at *
              have hcp := hm9.cap
              have HH10 := Lib.hid (hh9.less (Ls := fun k => k = be ∨ k = be + 1) (fun k hk => .inl hk))
              have HM10 := Lib.hid hm9
              have HF10 := Lib.hid hf9
              have HX10 := Lib.hid hx9
              have HO10 := Lib.hid ho19
              have hlx := opAt_lt hx9
              have hlb := opAt_lt ho19
              have hown : ∀ wz : World, Mine (wz.alloc (.cells #[] 30)) (fun k => k = wz.heap.size) (.slice (some ⟨wz.heap.size, 0, none⟩) 0 0) [] := fun wz => ⟨World.ownsRow_made wz #[] 0 (Nat.zero_le _) (by unfold maxLen; omega) rfl, fun k hk => by simpa [Value.ownBlock] using hk.symm⟩
              have hns1 : 0 < (ys.take m).length → ∃ b off, (⟨b1, off1, none⟩ : Addr) = ⟨b, off, none⟩ ∧ ∀ j (h : j < (ys.take m).length), opAt (w9.alloc (.cells #[] 30)).drew b (off + j * 7) (ys.take m)[j] := fun _ => ⟨b1, off1, rfl, fun j hj => by
                have hj' : j < ys.length := by simp at hj; omega
                simp only [List.getElem_take]
                refine opAt_below (((Below.refl w9.heap.size w9).alloc (Nat.le_refl _) _).drew) hlb ?_
                unfold opAt
                simp only [World.cell?, hb19]
                exact HX1.out j hj'⟩
              have HNS1 := Lib.hid hns1
              have HOWN := Lib.hid hown
              clear hown hns1
              have hml : (m : Int) ≤ ys.length := by omega
              have hml2 : (m : Int) + 1 ≤ ys.length := by omega
              have hcp1 := hcp.1
              have hcp2 := hcp.2
              have hm0 : (0 : Int) ≤ m := by omega
              have hm1 : ((m : Int) + 1).toNat = m + 1 := by omega
              have hm2 : IntKind.i64.wrap ((m : Int) + 1) = m + 1 := IntWalk.i64_in _ (by omega)
              have hmc : m ≤ cap1 := by omega
              have hm4 : (0 : Int) ≤ (m : Int) + 1 := by omega
              have hm3 : m + 1 ≤ ys.length := hm
              by_cases hcap : cap1 = m + 1
              · subst hcap
                have hm5 : (m : Int) ≤ (m : Int) + 1 := by omega
                have hlen1 : ys.length = m + 1 := by omega
                have HLEN := Lib.hid hlen1
                clear hlen1
                have hns2 : ∀ wz, Below w9.heap.size w9 wz → 0 < (ys.drop (m + 1)).length → ∃ b off, (⟨b1, off1, none⟩ : Addr) = ⟨b, off, none⟩ ∧ ∀ j (h : j < (ys.drop (m + 1)).length), opAt wz b (off + j * 7) (ys.drop (m + 1))[j] := fun wz hz => fun h0 => by have := HLEN.out; simp at h0; omega
                have HNS2 := Lib.hid hns2
                clear hns2
                go_upto_region 25 with fail
                refine wp_region_plan (fun _ => True) (.reads [1, 2, 3, 5, 6, 7, 8] (.one 0 (.one 4 (.one 9 (.reads [10] .done))))) 112 (by kernel_rfl) (by kernel_rfl) rfl (fun _ _ _ _ _ h => h) trivial ?_
                apply plan_reads
                · intro W hW
                  repeat (refine wpRead_step (fun K hK => ?_); go_simp; refine hK _ ?_; clear hK K)
                  exact wpRead_nil rfl
                refine plan_one rfl ?_
                go_wp2_with fail
                refine Then.mk trivial ?_
                refine plan_one rfl ?_
                have hown9 : Mine (w9.alloc (.cells #[] 30)).drew (fun k => k = w9.heap.size) (.slice (some ⟨w9.heap.size, 0, none⟩) 0 0) [] := HOWN.out w9.drew
                have hb10 : Below w9.heap.size w9 (w9.alloc (.cells #[] 30)).drew := ((Below.refl w9.heap.size w9).alloc (Nat.le_refl _) _).drew
                have hlen1 : ([] : List OpV).length + (ys.take m).length ≤ 1000000 := by simp; omega
                have hlm : (ys.take m).length = m := by simp; omega
                have hns1 := HNS1.out
                refine wpList_append_ops rfl (.tmp 88) (.tmp 91) rfl (.slice (some ⟨w9.heap.size, 0, none⟩) 0 0) [] rfl hown9 ⟨b1, off1, none⟩ m _ (ys.take m) rfl hlm.symm hns1 hlen1 m (by simp) ?_
                intro v2 w11 hg1
                have hb11 : Below w9.heap.size w9 w11 := hb10.trans (hg1.fr.below (by simp) (fun k hk => by simp [Value.ownBlock] at hk; omega))
                obtain ⟨ad2, cap2, rfl⟩ := hg1.form
                have hns2 := HNS2.out w11 hb11
                have hlen2 : ([] ++ ys.take m).length + (ys.drop (m + 1)).length ≤ 1000000 := by simp; omega
                have hlm2 := Lib.hid (show ys.length - 1 = ([] ++ ys.take m).length + 0 by have := HLEN.out; simp; omega)
                have hlm3 := Lib.hid (show 0 = (ys.drop (m + 1)).length by have := HLEN.out; simp; omega)
                have hmine2 := hg1.mine
                have hlie2 := hg1.lies
                go_wp2_with fail
                refine Then.mk trivial ?_
                refine plan_one rfl ?_
                refine wpList_append_ops rfl (.tmp 92) (.tmp 96) rfl (.slice ad2 m cap2) ([] ++ ys.take m) rfl hmine2 _ _ _ (ys.drop (m + 1)) rfl hlm3.out hns2 hlen2 (ys.length - 1) hlm2.out ?_
                intro v3 w12 hg2
                have hb12 : Below w9.heap.size w9 w12 := hb11.trans (hg2.fr.below hb11.size (fun k hk => by
                  rcases hlie2 k hk with h | h
                  · simp [Value.ownBlock] at h; omega
                  · have := hb10.size; omega))
                obtain ⟨ad3, cap3, rfl⟩ := hg2.form
                have hm12 := hg2.mine
                rw [List.nil_append, take_drop_erase] at hm12
                have hel : (ys.eraseIdx m).length = ys.length - 1 := by rw [List.length_eraseIdx]; simp [hm]
                have hr12 := hm12.rd
                have HR12 := Lib.hid hr12
                have HEL := Lib.hid hel
                have HB12 := Lib.hid hb12
                have hx12 := opAt_below hb12 hlx hx9
                have ho12 := opAt_below hb12 hlb ho19
                have HX12 := Lib.hid hx12
                have HO12 := Lib.hid ho12
                clear hown9 hb10 hlen1 hlm hns1 hb11 hns2 hlen2 hlm2 hlm3 hmine2 hlie2 hg1 hg2 hm12 hel hr12 hb12 hx12 ho12 HNS1 HNS2 HOWN hx9 ho19
                go_wp2_with fail
                refine Then.mk trivial ?_
                apply plan_reads
                · intro W hW
                  repeat (refine wpRead_step (fun K hK => ?_); go_simp; refine hK _ ?_; clear hK K)
                  exact wpRead_nil rfl
                refine plan_done ?_
                go_upto_region 26 with fail
                have hneq : ∀ w, (binOp .neq 30 (.agg #[.int .i64 x.ctr, .int .i64 x.author, .int .i64 x.seq, .bool x.ins, .int .i64 x.rctr, .int .i64 x.rauthor, .int .i32 x.rune]) (.agg #[.int .i64 x.ctr, .int .i64 x.author, .int .i64 x.seq, .bool x.ins, .int .i64 x.rctr, .int .i64 x.rauthor, .int .i32 x.rune])).run Try.prog w = .ok (.bool false) w := fun w => (run_neq_op x x w).trans (by simp)
                refine wp_region_plan (fun W => opAt W bx 0 x ∧ opAt W b1 (off1 + m * 7) x) (.reads [0, 1, 2, 3, 4, 5, 6, 7, 9] (.one 8 (.one 10 (.reads [11, 12] .done)))) 112 (by kernel_rfl) (by kernel_rfl) rfl (fun _ _ _ _ _ h => h) ⟨HX12.out, HO12.out⟩ ?_
                apply plan_reads
                · intro W hW
                  obtain ⟨⟨x0, x1, x2, x3, x4, x5, x6⟩, k0, k1, k2, k3, k4, k5, k6⟩ := hW
                  simp only [Nat.zero_add] at x1 x2 x3 x4 x5 x6
                  repeat (refine wpRead_step (fun K hK => ?_); go_simp; refine hK _ ?_; clear hK K)
                  exact wpRead_nil rfl
                refine plan_one rfl ?_
                go_wp2_with fail
                refine (all_n (HH10.out.to (HB12.out.drew))).mono ?_
                rintro e w13 ⟨v4, rfl, hb13, hn13, hm13⟩
                obtain ⟨ad4, cap4, he4, -⟩ := hm13.rd
                rw [HEL.out] at he4
                subst he4
                have hr13 := hm13.rd
                have hr12' := HR12.out.below (B := w12.heap.size) hb13 (Nat.le_refl _)
                have hb9' := HB12.out.drew.trans (hb13.mono HB12.out.size)
                have hsame := same_any w13 _ _ _ _ hr13 hr12' (by rw [HEL.out]; omega) (by rw [HEL.out]; omega)
                rw [decide_eq_true rfl] at hsame
                have HS := Lib.hid hsame
                have HB13 := Lib.hid hb9'
                have hx13 := opAt_below hb13 (Nat.lt_of_lt_of_le hlx HB12.out.size) HX12.out
                have ho13 := opAt_below hb13 (Nat.lt_of_lt_of_le hlb HB12.out.size) HO12.out
                have HX13 := Lib.hid hx13
                have HO13 := Lib.hid ho13
                clear hr13 hr12' hb9' hsame hx13 ho13 hm13 hn13
                go_wp2_with fail
                refine Then.mk ⟨HX13.out, HO13.out⟩ ?_
                refine plan_one rfl ?_
                go_wp2_with fail
                refine HS.out.mono ?_
                rintro e w14 ⟨rfl, hb14⟩
                have hB14 := HB13.out.trans (hb14.mono HB13.out.size)
                go_wp2_with fail
                refine Then.mk ⟨opAt_below hb14 (Nat.lt_of_lt_of_le hlx HB13.out.size) HX13.out, opAt_below hb14 (Nat.lt_of_lt_of_le hlb HB13.out.size) HO13.out⟩ ?_
                apply plan_reads
                · intro W hW
                  repeat (refine wpRead_step (fun K hK => ?_); go_simp; refine hK _ ?_; clear hK K)
                  exact wpRead_nil rfl
                refine plan_done ?_
                go_wp2_with fail
                have hh14 := HH10.out.to hB14
                go_roundw
                case rel => exact ⟨ys.eraseIdx m, by rw [HEL.out]; omega, hh14, (hB14.block _ (HH10.out.ks be (.inl rfl))).trans HF10.out.1, (hB14.block _ (HH10.out.ks (be + 1) (.inr rfl))).trans HF10.out.2⟩
                case measure => rw [has_holdLen hh14, HLN.out, HEL.out]; omega
              · skip
                have hns2 : ∀ wz, Below w9.heap.size w9 wz → 0 < (ys.drop (m + 1)).length → ∃ b off, (⟨b1, off1 + (m + 1) * 7, none⟩ : Addr) = ⟨b, off, none⟩ ∧ ∀ j (h : j < (ys.drop (m + 1)).length), opAt wz b (off + j * 7) (ys.drop (m + 1))[j] := fun wz hz => fun _ => ⟨b1, off1 + (m + 1) * 7, rfl, fun j hj => by
                  have hj' : m + 1 + j < ys.length := by simp at hj; omega
                  simp only [List.getElem_drop]
                  have h2 : wz.heap[b1]? = w7.heap[b1]? := (hz.block b1 hlb).trans hb19
                  have h3 := HX1.out (m + 1 + j) hj'
                  rw [show off1 + (m + 1 + j) * 7 = off1 + (m + 1) * 7 + j * 7 by omega] at h3
                  unfold opAt at *
                  simp only [World.cell?, h2] at *
                  exact h3⟩
                have HNS2 := Lib.hid hns2
                clear hns2
                go_upto_region 25 with fail
                refine wp_region_plan (fun _ => True) (.reads [1, 2, 3, 5, 6, 7, 8] (.one 0 (.one 4 (.one 9 (.reads [10] .done))))) 112 (by kernel_rfl) (by kernel_rfl) rfl (fun _ _ _ _ _ h => h) trivial ?_
                apply plan_reads
                · intro W hW
                  repeat (refine wpRead_step (fun K hK => ?_); go_simp; refine hK _ ?_; clear hK K)
                  exact wpRead_nil rfl
                refine plan_one rfl ?_
                go_wp2_with fail
                refine Then.mk trivial ?_
                refine plan_one rfl ?_
                have hown9 : Mine (w9.alloc (.cells #[] 30)).drew (fun k => k = w9.heap.size) (.slice (some ⟨w9.heap.size, 0, none⟩) 0 0) [] := HOWN.out w9.drew
                have hb10 : Below w9.heap.size w9 (w9.alloc (.cells #[] 30)).drew := ((Below.refl w9.heap.size w9).alloc (Nat.le_refl _) _).drew
                have hlen1 : ([] : List OpV).length + (ys.take m).length ≤ 1000000 := by simp; omega
                have hlm : (ys.take m).length = m := by simp; omega
                have hns1 := HNS1.out
                refine wpList_append_ops rfl (.tmp 88) (.tmp 91) rfl (.slice (some ⟨w9.heap.size, 0, none⟩) 0 0) [] rfl hown9 ⟨b1, off1, none⟩ m _ (ys.take m) rfl hlm.symm hns1 hlen1 m (by simp) ?_
                intro v2 w11 hg1
                have hb11 : Below w9.heap.size w9 w11 := hb10.trans (hg1.fr.below (by simp) (fun k hk => by simp [Value.ownBlock] at hk; omega))
                obtain ⟨ad2, cap2, rfl⟩ := hg1.form
                have hns2 := HNS2.out w11 hb11
                have hlen2 : ([] ++ ys.take m).length + (ys.drop (m + 1)).length ≤ 1000000 := by simp; omega
                have hlm2 := Lib.hid (show ys.length - 1 = ([] ++ ys.take m).length + (ys.length - (m + 1)) by simp; omega)
                have hlm3 := Lib.hid (show ys.length - (m + 1) = (ys.drop (m + 1)).length by simp)
                have hmine2 := hg1.mine
                have hlie2 := hg1.lies
                go_wp2_with fail
                refine Then.mk trivial ?_
                refine plan_one rfl ?_
                refine wpList_append_ops rfl (.tmp 92) (.tmp 96) rfl (.slice ad2 m cap2) ([] ++ ys.take m) rfl hmine2 _ _ _ (ys.drop (m + 1)) rfl hlm3.out hns2 hlen2 (ys.length - 1) hlm2.out ?_
                intro v3 w12 hg2
                have hb12 : Below w9.heap.size w9 w12 := hb11.trans (hg2.fr.below hb11.size (fun k hk => by
                  rcases hlie2 k hk with h | h
                  · simp [Value.ownBlock] at h; omega
                  · have := hb10.size; omega))
                obtain ⟨ad3, cap3, rfl⟩ := hg2.form
                have hm12 := hg2.mine
                rw [List.nil_append, take_drop_erase] at hm12
                have hel : (ys.eraseIdx m).length = ys.length - 1 := by rw [List.length_eraseIdx]; simp [hm]
                have hr12 := hm12.rd
                have HR12 := Lib.hid hr12
                have HEL := Lib.hid hel
                have HB12 := Lib.hid hb12
                have hx12 := opAt_below hb12 hlx hx9
                have ho12 := opAt_below hb12 hlb ho19
                have HX12 := Lib.hid hx12
                have HO12 := Lib.hid ho12
                clear hown9 hb10 hlen1 hlm hns1 hb11 hns2 hlen2 hlm2 hlm3 hmine2 hlie2 hg1 hg2 hm12 hel hr12 hb12 hx12 ho12 HNS1 HNS2 HOWN hx9 ho19
                go_wp2_with fail
                refine Then.mk trivial ?_
                apply plan_reads
                · intro W hW
                  repeat (refine wpRead_step (fun K hK => ?_); go_simp; refine hK _ ?_; clear hK K)
                  exact wpRead_nil rfl
                refine plan_done ?_
                go_upto_region 26 with fail
                have hneq : ∀ w, (binOp .neq 30 (.agg #[.int .i64 x.ctr, .int .i64 x.author, .int .i64 x.seq, .bool x.ins, .int .i64 x.rctr, .int .i64 x.rauthor, .int .i32 x.rune]) (.agg #[.int .i64 x.ctr, .int .i64 x.author, .int .i64 x.seq, .bool x.ins, .int .i64 x.rctr, .int .i64 x.rauthor, .int .i32 x.rune])).run Try.prog w = .ok (.bool false) w := fun w => (run_neq_op x x w).trans (by simp)
                refine wp_region_plan (fun W => opAt W bx 0 x ∧ opAt W b1 (off1 + m * 7) x) (.reads [0, 1, 2, 3, 4, 5, 6, 7, 9] (.one 8 (.one 10 (.reads [11, 12] .done)))) 112 (by kernel_rfl) (by kernel_rfl) rfl (fun _ _ _ _ _ h => h) ⟨HX12.out, HO12.out⟩ ?_
                apply plan_reads
                · intro W hW
                  obtain ⟨⟨x0, x1, x2, x3, x4, x5, x6⟩, k0, k1, k2, k3, k4, k5, k6⟩ := hW
                  simp only [Nat.zero_add] at x1 x2 x3 x4 x5 x6
                  repeat (refine wpRead_step (fun K hK => ?_); go_simp; refine hK _ ?_; clear hK K)
                  exact wpRead_nil rfl
                refine plan_one rfl ?_
                go_wp2_with fail
                refine (all_n (HH10.out.to (HB12.out.drew))).mono ?_
                rintro e w13 ⟨v4, rfl, hb13, hn13, hm13⟩
                obtain ⟨ad4, cap4, he4, -⟩ := hm13.rd
                rw [HEL.out] at he4
                subst he4
                have hr13 := hm13.rd
                have hr12' := HR12.out.below (B := w12.heap.size) hb13 (Nat.le_refl _)
                have hb9' := HB12.out.drew.trans (hb13.mono HB12.out.size)
                have hsame := same_any w13 _ _ _ _ hr13 hr12' (by rw [HEL.out]; omega) (by rw [HEL.out]; omega)
                rw [decide_eq_true rfl] at hsame
                have HS := Lib.hid hsame
                have HB13 := Lib.hid hb9'
                have hx13 := opAt_below hb13 (Nat.lt_of_lt_of_le hlx HB12.out.size) HX12.out
                have ho13 := opAt_below hb13 (Nat.lt_of_lt_of_le hlb HB12.out.size) HO12.out
                have HX13 := Lib.hid hx13
                have HO13 := Lib.hid ho13
                clear hr13 hr12' hb9' hsame hx13 ho13 hm13 hn13
                go_wp2_with fail
                refine Then.mk ⟨HX13.out, HO13.out⟩ ?_
                refine plan_one rfl ?_
                go_wp2_with fail
                refine HS.out.mono ?_
                rintro e w14 ⟨rfl, hb14⟩
                have hB14 := HB13.out.trans (hb14.mono HB13.out.size)
                go_wp2_with fail
                refine Then.mk ⟨opAt_below hb14 (Nat.lt_of_lt_of_le hlx HB13.out.size) HX13.out, opAt_below hb14 (Nat.lt_of_lt_of_le hlb HB13.out.size) HO13.out⟩ ?_
                apply plan_reads
                · intro W hW
                  repeat (refine wpRead_step (fun K hK => ?_); go_simp; refine hK _ ?_; clear hK K)
                  exact wpRead_nil rfl
                refine plan_done ?_
                go_wp2_with fail
                have hh14 := HH10.out.to hB14
                go_roundw
                case rel => exact ⟨ys.eraseIdx m, by rw [HEL.out]; omega, hh14, (hB14.block _ (HH10.out.ks be (.inl rfl))).trans HF10.out.1, (hB14.block _ (HH10.out.ks (be + 1) (.inr rfl))).trans HF10.out.2⟩
                case measure => rw [has_holdLen hh14, HLN.out, HEL.out]; omega
      · go_wp2_with fail
        refine (len_h HH.out).mono ?_
        intro e w6 he
        obtain ⟨rfl, hh6, -, -⟩ := he
        go_wp2_with fail
        go_ret
        exact ⟨rfl, hh6.below⟩
end Go.Proofs.Ytpkdhmljbpbcfaa
