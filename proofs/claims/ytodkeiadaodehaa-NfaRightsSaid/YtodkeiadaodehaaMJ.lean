/-
  Right of the reference, most of the law. No condition beyond what each theorem names.
-/
import Derived.Test.YtodkeiadaodehaaMI
import Derived.Test.YtodkeiadaodehaaNJ
set_option linter.unusedVariables false
set_option linter.unusedSimpArgs false
namespace Go.Proofs.Ytodkeiadaodehaa
open Go.RowKit

theorem rr_step (op : Int) (cls : List Int) (ps : List Nd) (ih : ∀ x ∈ ps, RRAt x) : RRAt (.mk op cls ps) := by
  intro w d a b c hx hd
  by_cases hno : d > 32 ∨ op < 0 ∨ 5 < op
  · exact rr_no op cls ps trivial w d a b c hno hx hd
  · have h2 : d ≤ 32 := by omega
    have h6 : op = 0 ∨ op = 1 ∨ op = 2 ∨ op = 3 ∨ op = 4 ∨ op = 5 := by omega
    clear hno
    rcases h6 with rfl | rfl | rfl | rfl | rfl | rfl
    · exact rr_0 cls ps ih w d a b c h2 hx hd
    · exact rr_1 cls ps ih w d a b c h2 hx hd
    · exact rr_2 cls ps ih w d a b c h2 hx hd
    · exact rr_3 cls ps ih w d a b c h2 hx hd
    · exact rr_4 cls ps ih w d a b c h2 hx hd
    · exact rr_5 cls ps ih w d a b c h2 hx hd

theorem rr_any : ∀ (x : Nd), RRAt x
  | .mk op cls ps => rr_step op cls ps (fun x hx => rr_any x)
  termination_by x => SizeOf.sizeOf x
  decreasing_by
    have := List.sizeOf_lt_of_mem hx
    simp; omega

theorem countTL_bd (M : Int) (hM : M ≤ 1000000) : ∀ (l : List Nd) (a : Int), 1 ≤ a → a ≤ 400 + M → (∀ x ∈ l, 1 ≤ countT x ∧ countT x ≤ M) → a ≤ countTL a l ∧ countTL a l ≤ 400 + M
  | [], a, h1, h2, _ => by rw [countTL]; exact ⟨by omega, h2⟩
  | x :: r, a, h1, h2, h => by
    have hx := h x (by simp)
    rw [countTL]
    split
    · rename_i h3
      rw [IntWalk.wrap64_in _ (by omega)]
      have := countTL_bd M hM r (a + countT x) (by omega) (by omega) (fun y hy => h y (by simp [hy]))
      omega
    · omega

theorem countT_bd : ∀ (x : Nd), depthN x ≤ 1000 → 1 ≤ countT x ∧ countT x ≤ 400 * (depthN x : Int)
  | .mk op cls ps, h => by
    simp only [depthN] at h ⊢
    rw [countT]
    have := countTL_bd (400 * (depthNL ps : Int)) (by omega) ps 1 (by omega) (by omega) (fun y hy => by
      have := List.sizeOf_lt_of_mem hy
      have h1 := depthNL_le hy
      have := countT_bd y (by omega)
      omega)
    omega
  termination_by x => SizeOf.sizeOf x
  decreasing_by (simp; omega)

theorem countTL_le (M : Int) (hM : M ≤ 1000000) : ∀ (l : List Nd) (a : Int), 1 ≤ a → a ≤ 400 + M → (∀ x ∈ l, 1 ≤ countT x ∧ countT x ≤ M) → (∀ x ∈ l, countT x ≤ 400 → countT x = cnt x) → countTL a l ≤ 400 → countTL a l = a + cntL l
  | [], a, h1, h2, _, _, _ => by simp [countTL, cntL]
  | x :: r, a, h1, h2, h, hc, h4 => by
    have hx := h x (by simp)
    rw [countTL] at h4 ⊢
    split at h4
    · rename_i h3
      rw [IntWalk.wrap64_in _ (by omega)] at h4
      have hb := countTL_bd M hM r (a + countT x) (by omega) (by omega) (fun y hy => h y (by simp [hy]))
      have e := countTL_le M hM r (a + countT x) (by omega) (by omega) (fun y hy => h y (by simp [hy])) (fun y hy => hc y (by simp [hy])) h4
      rw [if_pos h3, IntWalk.wrap64_in _ (by omega), e, hc x (by simp) (by omega), cntL]
      omega
    · omega

theorem countT_le : ∀ (x : Nd), depthN x ≤ 1000 → countT x ≤ 400 → countT x = cnt x
  | .mk op cls ps, h, h4 => by
    simp only [depthN] at h
    rw [countT] at h4 ⊢
    rw [countTL_le (400 * (depthNL ps : Int)) (by omega) ps 1 (by omega) (by omega) (fun y hy => by
      have h1 := depthNL_le hy
      have := countT_bd y (by omega)
      omega) (fun y hy h5 => by
      have := List.sizeOf_lt_of_mem hy
      have h1 := depthNL_le hy
      exact countT_le y (by omega) h5) h4, cnt]
    omega
  termination_by x => SizeOf.sizeOf x
  decreasing_by (simp; omega)

theorem rightB_eq (x : Nd) : rightB x = (wfB 1 x && decide (countT x ≤ 400)) := by
  rw [Bool.eq_iff_iff, rightB_iff, Bool.and_eq_true, decide_eq_true_iff, wfB_iff]
  constructor
  · intro h
    exact ⟨h.1, by rw [countT_eq x h.2]; have := h.2; omega⟩
  · intro h
    have h3 := Wf_depth x 1 h.1
    have := countT_le x (by omega) h.2
    exact ⟨h.1, by have := h.2; omega⟩

set_option maxRecDepth 100000 in
set_option maxHeartbeats 8000000 in
theorem Right_any (x : Nd) (w : World) (a b c : Value) (hx : NodeIs w x a b c) :
    Calls Try.prog 23 #[.agg #[a, b, c]] w fun e w' => e = .returned (.bool (rightB x)) ∧ Below w.heap.size w w' := by
  have HD1 := Lib.hid (fun (W : World) (hb : Below w.heap.size w W) => rr_any x W 1 _ _ _ (hx.to hb (Nat.le_refl _)) (by omega))
  have HD2 := Lib.hid (fun (W : World) (hb : Below w.heap.size w W) => count_any x W _ _ _ (hx.to hb (Nat.le_refl _)))
  have HR := Lib.hid (rightB_eq x)
  obtain ⟨op, pp, l, c1, q, m, d, rfl, rfl, rfl⟩ := hx.form
  clear hx
  go_enter Try.func23, Try.ntmps23
  go_upto_region 1 with fail
  refine abs_wp fun W hW => ?_
  obtain ⟨B, hB⟩ : ∃ B, B = w.heap.size := ⟨_, rfl⟩
  have hbx : W.heap[B]? = some (.cells #[.int .i64 op, .slice pp l c1, .slice q m d] 25) := by rw [hW, hB]; exact heap_alloc_new _ _
  have hbw : Below w.heap.size w W := by rw [hW]; exact below_alloc1 _ _
  rw [← hB]
  have HBW := Lib.hid hbw
  have HBX := Lib.hid hbx
  have HD := Lib.hid (HD1.out W hbw)
  obtain ⟨x0, x1, x2⟩ := cells3 hbx
  clear hW hB hbw hbx
  obtain ⟨g, hg⟩ : ∃ g, g = wfB 1 x := ⟨_, rfl⟩
  rw [← hg] at HD HR
  clear hg
  go_wp2_with fail
  refine HD.out.mono ?_
  rintro e w1 ⟨rfl, hb1⟩
  have HB1 := Lib.hid (HBW.out.trans (hb1.mono HBW.out.size))
  have hbx := (hb1.block _ (at_lt HBX.out)).trans HBX.out
  obtain ⟨y0, y1, y2⟩ := cells3 hbx
  clear hbx hb1 x0 x1 x2
  cases g
  · go_wp2_with fail
    go_ret
    exact ⟨ret_val (by rw [HR.out]; rfl), HB1.out⟩
  · have HE := Lib.hid (HD2.out w1 HB1.out)
    obtain ⟨n, hn⟩ : ∃ n, n = countT x := ⟨_, rfl⟩
    rw [← hn] at HE HR
    clear hn
    go_wp2_with fail
    refine HE.out.mono ?_
    rintro e w2 ⟨rfl, hb2⟩
    have HB2 := Lib.hid (HB1.out.trans (hb2.mono HB1.out.size))
    clear hb2 y0 y1 y2
    by_cases hn : n ≤ 400
    · go_wp2_with fail
      go_ret
      exact ⟨ret_val (by rw [HR.out]; simp [hn]), HB2.out⟩
    · go_wp2_with fail
      go_ret
      exact ⟨ret_val (by rw [HR.out]; simp [hn]), HB2.out⟩

/-- an answer that is a Bool -/
def aBool (e : Ending) : Prop := ∃ t, e = .returned (.bool t)

def MostAt (x : Nd) : Prop := ∀ (w : World) (d : Nat) (a b c : Value), NodeIs w x a b c → d ≤ 41 →
    Calls Try.prog 21 #[.agg #[a, b, c], .int .i64 d] w fun e w' => aBool e ∧ Below w.heap.size w w'

set_option maxRecDepth 100000 in
set_option maxHeartbeats 8000000 in
theorem most_step (op : Int) (cls : List Int) (ps : List Nd) (ih : ∀ x ∈ ps, MostAt x) : MostAt (.mk op cls ps) := by
  intro w d a b c hx hd
  have IH := Lib.hid ih
  have HCN := Lib.hid (fun (W : World) (hb : Below w.heap.size w W) => count_any _ W _ _ _ (hx.to hb (Nat.le_refl _)))
  rw [nodeIs_iff] at hx
  obtain ⟨rfl, hcl, hcb, hpb, hps⟩ := hx
  obtain ⟨pc, capc, rfl, hcc, hxc⟩ := hcl.get
  obtain ⟨pp, capp, rfl, hcp, hxp⟩ := hps.get
  unfold R at hcb hpb
  have HXP := Lib.hid hxp
  clear hcl hps hxc hxp ih
  go_enter Try.func21, Try.ntmps21
  go_upto_region 1 with fail
  refine abs_wp fun W hW => ?_
  obtain ⟨B, hB⟩ : ∃ B, B = w.heap.size := ⟨_, rfl⟩
  have hbox : W.heap[B]? = some (.cells #[.int .i64 op, .slice pc cls.length capc, .slice pp ps.length capp] 25) := by rw [hW, hB]; exact heap_alloc_new _ _
  have hBW : Below w.heap.size w W := by rw [hW]; exact below_alloc1 _ _
  rw [← hB]
  have HBW := Lib.hid hBW
  have HBOX := Lib.hid hbox
  have HD0 := Lib.hid (HCN.out W hBW)
  obtain ⟨x0, x1, x2⟩ := cells3 hbox
  clear hW hbox hB hBW
  by_cases hd4 : 40 < d
  · have hd4' : (40 : Int) < d := by omega
    go_wp2_with fail
    go_ret
    exact ⟨⟨true, ret_val rfl⟩, HBW.out⟩
  have hd4' : ¬ (40 : Int) < d := by omega
  obtain ⟨n, hn⟩ : ∃ n, n = countT (.mk op cls ps) := ⟨_, rfl⟩
  rw [← hn] at HD0
  clear hn
  go_wp2_with fail
  refine HD0.out.mono ?_
  rintro e w1 ⟨rfl, hb1⟩
  have HB1 := Lib.hid (HBW.out.trans (hb1.mono HBW.out.size))
  have HBX := Lib.hid ((hb1.block _ (at_lt HBOX.out)).trans HBOX.out)
  clear hb1 x0 x1 x2
  by_cases hn : 500 < n
  · go_wp2_with fail
    go_ret
    exact ⟨⟨true, ret_val rfl⟩, HB1.out⟩
  go_wp2_with fail
  go_loopw [5] (fun i wr => ∃ (k : Nat), i = .int .i64 k ∧ k ≤ ps.length ∧ Below w1.heap.size w1 wr) (fun i _ => ps.length - (intOf i).toNat)
  case atStart => exact ⟨0, rfl, by omega, Below.refl _ _⟩
  case round =>
    obtain ⟨k, rfl, h1, hb⟩ := hrel
    have HBR := Lib.hid hb
    have hbox := (hb.block _ (at_lt HBX.out)).trans HBX.out
    obtain ⟨y0, y1, y2⟩ := cells3 hbox
    have HBWR := Lib.hid (HB1.out.trans (hb.mono HB1.out.size))
    have hbw := HBWR.out
    clear hb hbox
    by_cases hk : k < ps.length
    · obtain ⟨bb, off, rfl, hbl, hxx⟩ := HXP.out (by omega)
      obtain ⟨x, y, z, c0, c1, c2, hnode⟩ := hxx k hk
      have r0 := cell_below hbw hbl c0
      have r1 := cell_below hbw hbl c1
      have r2 := cell_below hbw hbl c2
      have HD := Lib.hid (show Calls Try.prog 21 #[.agg #[x, y, z], .int .i64 ((d : Int) + 1)] wr fun e w' => aBool e ∧ Below wr.heap.size wr w' from by
        have h := IH.out ps[k] (List.getElem_mem hk) wr (d + 1) x y z (hnode.to hbw (Nat.le_refl _)) (by omega)
        rwa [show ((d + 1 : Nat) : Int) = (d : Int) + 1 by omega] at h)
      have hkk : (k : Int) < ps.length := by omega
      have hk0 : (0 : Int) ≤ k := by omega
      clear hxx c0 c1 c2 hnode hbw
      go_wp2_with fail
      refine HD.out.mono ?_
      rintro e w2 ⟨⟨t, rfl⟩, hb2⟩
      have HB2 := Lib.hid (HBR.out.trans (hb2.mono HBR.out.size))
      have HB2W := Lib.hid (HBWR.out.trans (hb2.mono HBWR.out.size))
      clear y0 y1 y2 r0 r1 r2 hb2
      cases t
      · go_wp2_with fail
        go_roundw
        case rel => exact ⟨k + 1, by go_num, by omega, HB2.out⟩
        case measure => simp [intOf]; omega
      · go_wp2_with fail
        go_ret
        exact ⟨⟨true, ret_val rfl⟩, HB2W.out⟩
    · have hkk : ¬ (k : Int) < ps.length := by omega
      go_wp2_with fail
      go_ret
      exact ⟨⟨false, ret_val rfl⟩, HBWR.out⟩

theorem most_any : ∀ (x : Nd), MostAt x
  | .mk op cls ps => most_step op cls ps (fun x hx => most_any x)
  termination_by x => SizeOf.sizeOf x
  decreasing_by
    have := List.sizeOf_lt_of_mem hx
    simp; omega

end Go.Proofs.Ytodkeiadaodehaa
