import Derived.Test.YteamokljlcnicaaEOm
import Derived.Test.YteamokljlcnicaaGA
import Derived.Test.YteamokljlcnicaaKV
import Derived.Test.YteamokljlcnicaaDI
import Derived.Test.YteamokljlcnicaaRows
/-
  dfa: Run of a machine. No condition beyond what each theorem names.
-/
set_option linter.unusedVariables false
set_option linter.unusedSimpArgs false
namespace Go.Proofs.Yteamokljlcnicaa
open Go.RowKit Classical

/-- classes that there are -/
def RowOk (classes : Nat) (row : List Int) : Prop := ∀ c ∈ row, 0 ≤ c ∧ c < classes
/-- a row's classes -/
def natsR (row : List Int) : List Nat := row.map Int.toNat
/-- the state behind the first k -/
def stA (N : List (List Nat)) (row : List Int) (k : Nat) : Nat := runN N 0 (natsR (row.take k))
/-- what Run tells -/
def runsN (N : List (List Nat)) (O : List Nat) (row : List Int) : List Nat := (List.range (row.length + 1)).map fun k => at0 O (stA N row k)

theorem runN_snoc (N : List (List Nat)) : ∀ (t : List Nat) (i c : Nat), runN N i (t ++ [c]) = goN N (runN N i t) c
  | [], _, _ => rfl
  | d :: t, i, c => runN_snoc N t (goN N i d) c
theorem stA_succ {N : List (List Nat)} {row : List Int} {k : Nat} (hk : k < row.length) : stA N row (k + 1) = goN N (stA N row k) (row[k]).toNat := by
  unfold stA natsR
  rw [List.take_succ_eq_append_getElem hk, List.map_append, List.map_cons, List.map_nil, runN_snoc]
theorem stA_lt {β : Type} {N : List (List Nat)} {O : List β} {classes : Nat} (h : OkN N O classes) (h0 : 0 < N.length) {row : List Int} (hr : RowOk classes row) : ∀ k, k ≤ row.length → stA N row k < N.length
  | 0, _ => h0
  | k + 1, hk => by
    rw [stA_succ (by omega)]
    have hc := hr row[k] (List.getElem_mem _)
    exact h.go (stA_lt h h0 hr k (by omega)) (by omega)

theorem made_u64 (n : Nat) : madeCells #[Value.int .u64 0] n = (List.replicate n (Value.int .u64 0)).toArray := by
  apply Array.ext
  · simp [madeCells]
  · intro i h1 h2
    have e : i % 1 = 0 := Nat.mod_one i
    simp [madeCells, e]
theorem make_u64 (t : TypeId) (ht : Try.prog.underlying t = some (.slice 50)) (w : World) (c : Int) (n : Nat) (hc : c = n) (hn : n ≤ 1000001) :
    (Instr.makeSlice t (.int .i64 c) (.int .i64 c)).run Try.prog w = .ok (.slice (some ⟨w.heap.size, 0, none⟩) n n) (w.alloc (.cells (List.replicate n (Value.int .u64 0)).toArray 50)) := by
  subst hc
  obtain ⟨i0, hi, hz0, hz1, hz2⟩ := info_parts infoU64
  have := run_make (P := Try.prog) w t 50 i0 (.int .u64 0) ht hi hz0 .i64 .i64 n n (by omega) (by omega) (by rw [hz2]; omega) (by omega)
  rw [hz1] at this
  simp only [Int.toNat_natCast, Nat.mul_one] at this
  rw [this, show (Value.int .u64 0).cells = #[Value.int .u64 0] from rfl, made_u64]

theorem readU {w : World} {g : Nat} {os : List Nat} {n : Nat} (h : VRow w g 50 (os.map fun (o : Nat) => Value.int .u64 o)) (hn : os.length = n) : ReadL u64E 1 w (.slice (some ⟨g, 0, none⟩) n n) os := by
  subst hn
  refine ReadL.block (cs := os.map fun (o : Nat) => Value.int .u64 o) h os (os.map fun (o : Nat) => [Value.int .u64 o]) ?_ rfl (by simp) (fun r hr => ?_) (fun i hi => ⟨_, by simp [hi], rfl⟩)
  · clear h
    induction os with
    | nil => rfl
    | cons x r ih => simp [ih]
  · obtain ⟨o, -, rfl⟩ := List.mem_map.1 hr
    simp [Value.oneCell']

def RunPost (w : World) (classes : Nat) (N : List (List Nat)) (O : List Nat) (row : List Int) (e : Ending) (w' : World) : Prop := Below w.heap.size w w' ∧
  ((RowOk classes row ∧ ∃ v, e = .returned (.tuple #[v, .int .i64 0]) ∧ ReadL u64E 1 w' v (runsN N O row)) ∨ (¬ RowOk classes row ∧ e = .returned (.tuple #[.slice none 0 0, .int .i64 1])))

set_option maxRecDepth 100000 in
set_option maxHeartbeats 8000000 in
theorem run_m (w : World) (ob classes : Nat) (N : List (List Nat)) (O : List Nat) (hM : MachD w ob classes N O) (hok : OkN N O classes) (h0 : 0 < N.length) (v : Value) (row : List Int) (hv : Ints w v row) (hl : row.length ≤ 1000000) :
    Calls Try.prog 22 #[.pointer (some ⟨ob, 0, none⟩), v] w (RunPost w classes N O row) := by
  obtain ⟨nn, hnn⟩ : ∃ nn, nn = N.length := ⟨_, rfl⟩
  obtain ⟨hol, pn, cn, po, co, m0, m1, m2, hcn, hco, hgn, hgo⟩ := hM.get hnn.symm (by rw [← hok.len, hnn])
  obtain ⟨p, cp, rfl, hcp, hx⟩ := hv.get
  have HN := Lib.hid hnn
  have HGN := Lib.hid hgn
  have HGO := Lib.hid hgo
  have HOK := Lib.hid hok
  have HX := Lib.hid hx
  have HM1 := Lib.hid (And.intro m1 m2)
  rw [← hnn] at h0
  have hmt : ∀ (w : World), (Instr.makeSlice 45 (.int .i64 ((row.length : Int) + 1)) (.int .i64 ((row.length : Int) + 1))).run Try.prog w = .ok (.slice (some ⟨w.heap.size, 0, none⟩) (row.length + 1) (row.length + 1)) (w.alloc (.cells (List.replicate (row.length + 1) (Value.int .u64 0)).toArray 50)) := fun w => make_u64 _ Try.underlying45 w _ _ (by omega) (by omega)
  clear hM hok hgn hgo hnn m1 m2 hv hx
  go_enter Try.func22, Try.ntmps22
  go_wp2_with fail
  go_loop [14] (fun i => ∃ k : Nat, i = .int .i64 k ∧ k ≤ row.length ∧ ∀ c ∈ row.take k, 0 ≤ c ∧ c < classes) (fun i => row.length - (intOf i).toNat)
  case atStart => exact ⟨0, rfl, by omega, by simp⟩
  case round =>
    obtain ⟨k, rfl, hk1, hs⟩ := hrel
    have HS := Lib.hid hs
    clear hs
    by_cases hk : k < row.length
    · obtain ⟨b, off, rfl, hb, hx⟩ := HX.out (by omega)
      obtain ⟨c, hc⟩ : ∃ c, c = row[k] := ⟨_, rfl⟩
      have d0 := hx k hk
      rw [← hc] at d0
      have HC := Lib.hid hc
      have hki : (k : Int) < row.length := by omega
      have hk0 : (0 : Int) ≤ k := by omega
      clear hx hc
      by_cases h1 : c < 0
      · have HNO := Lib.hid (show ¬ RowOk classes row from fun h => by have := (h c (by rw [HC.out]; exact List.getElem_mem hk)).1; omega)
        go_wp2_with fail
        go_ret2
        exact ⟨Below.refl _ _, .inr ⟨HNO.out, rfl⟩⟩
      · by_cases h2 : c < classes
        · have HS2 := Lib.hid (show ∀ c ∈ row.take (k + 1), 0 ≤ c ∧ c < classes from fun x hx => by
            rw [List.take_succ_eq_append_getElem hk] at hx
            rcases List.mem_append.1 hx with hx | hx
            · exact HS.out x hx
            · rw [List.mem_singleton.1 hx, ← HC.out]; omega)
          go_wp2_with fail
          go_round
          case rel => exact ⟨k + 1, by go_num, by omega, HS2.out⟩
          case measure => simp [intOf]; omega
        · have HNO := Lib.hid (show ¬ RowOk classes row from fun h => by have := (h c (by rw [HC.out]; exact List.getElem_mem hk)).2; omega)
          go_wp2_with fail
          go_ret2
          exact ⟨Below.refl _ _, .inr ⟨HNO.out, rfl⟩⟩
    · have hki : ¬ (k : Int) < row.length := by omega
      have HRO := Lib.hid (show RowOk classes row by have := HS.out; rwa [List.take_of_length_le (by omega)] at this)
      go_upto_region 8 with fail
      refine abs_wp fun W hW => ?_
      obtain ⟨g, hg⟩ : ∃ g, g = w.heap.size := ⟨_, rfl⟩
      have hal := below_alloc1 w (.cells (List.replicate (row.length + 1) (Value.int .u64 0)).toArray 50)
      have hW2 : W = w.alloc (.cells (List.replicate (row.length + 1) (Value.int .u64 0)).toArray 50) := by rw [hW]; simp
      have HV1 := Lib.hid (show VRow W g 50 (List.replicate (row.length + 1) (Value.int .u64 0)) by rw [hW2, hg]; exact heap_alloc_new _ _)
      have HB1 := Lib.hid (show Below w.heap.size w W by rw [hW2]; exact hal)
      have hg0 : w.heap.size ≤ g := by omega
      rw [← hg]
      clear hW hW2 hal hg
      have og : ∀ s, s < nn → ∃ b off, po = some ⟨b, off, none⟩ ∧ b < w.heap.size ∧ w.cell? ⟨b, off + s, none⟩ = some (.int .u64 (at0 O s : Nat)) := fun s hs => by
        have hsO : s < O.length := by rw [← HOK.out.len, ← HN.out]; exact hs
        refine HGO.out s (at0 O s) ?_
        unfold at0
        rw [List.getElem?_eq_getElem hsO]
        rfl
      have HOG := Lib.hid og
      obtain ⟨bo, oo, rfl, hbo, e0⟩ := og 0 h0
      obtain ⟨a0, ha0⟩ : ∃ a0, a0 = at0 O 0 := ⟨_, rfl⟩
      rw [← ha0] at e0
      have HA0 := Lib.hid ha0
      have e1 := cell_below HB1.out hbo e0
      have e2 := cell_below HB1.out hol HM1.out.2
      simp only [Nat.add_zero] at e1
      have z0 := HV1.out.cell (i := 0) (u := .int .u64 0) (by simp)
      have z1 := HV1.out.fz 0
      clear og ha0 e0
      go_upto_region 10 with fail
      refine abs_wp fun W2 hW2 => ?_
      have HV2 := Lib.hid (show VRow W2 g 50 ((((List.range (0 + 1)).map fun j => at0 O (stA N row j)).map fun (o : Nat) => Value.int .u64 o) ++ List.replicate (row.length - 0) (.int .u64 0)) by
        have h := HV1.out.set 0 (.int .u64 (a0 : Nat))
        rw [hW2]
        have e : (List.replicate (row.length + 1) (Value.int .u64 0)).set 0 (.int .u64 (a0 : Nat)) = ((((List.range (0 + 1)).map fun j => at0 O (stA N row j)).map fun (o : Nat) => Value.int .u64 o) ++ List.replicate (row.length - 0) (.int .u64 0)) := by
          rw [List.replicate_succ, List.set_cons_zero, HA0.out]
          rfl
        rw [e] at h
        exact h)
      have HB2 := Lib.hid (show Below w.heap.size w W2 by rw [hW2]; exact HB1.out.trans ((Fr.setCell (F := fun k => k = g) W rfl _).below HB1.out.size (fun k (hk : k = g) => by omega)))
      clear hW2 e1 e2 z0 z1
      go_wp2_with fail
      go_loopw [9, 44] (fun st i w1 => ∃ k : Nat, i = .int .i64 k ∧ k ≤ row.length ∧ st = .int .i64 (stA N row k : Nat) ∧ VRow w1 g 50 ((((List.range (k + 1)).map fun j => at0 O (stA N row j)).map fun (o : Nat) => Value.int .u64 o) ++ List.replicate (row.length - k) (.int .u64 0)) ∧ Below w.heap.size w w1) (fun _ i _ => row.length - (intOf i).toNat)
      case atStart => exact ⟨0, rfl, by omega, rfl, HV2.out, HB2.out⟩
      case round =>
        obtain ⟨k2, rfl, hk2, rfl, hv, hb⟩ := hrel
        have HV := Lib.hid hv
        have HB := Lib.hid hb
        clear hv
        by_cases hkk : k2 < row.length
        · obtain ⟨b, off, rfl, hbx, hx⟩ := HX.out (by omega)
          have hcr := HRO.out row[k2] (List.getElem_mem hkk)
          obtain ⟨c, hc⟩ : ∃ c : Nat, row[k2] = c := ⟨(row[k2]).toNat, by omega⟩
          have d0 := cell_below hb hbx (hx k2 hkk)
          rw [hc] at d0 hcr
          have hss := stA_lt HOK.out (by rw [← HN.out]; exact h0) HRO.out k2 hk2
          have hsn := stA_succ (N := N) hkk
          rw [hc, Int.toNat_natCast] at hsn
          obtain ⟨s, hs⟩ : ∃ s, s = stA N row k2 := ⟨_, rfl⟩
          obtain ⟨s2, hs2⟩ : ∃ s2, s2 = stA N row (k2 + 1) := ⟨_, rfl⟩
          have HS := Lib.hid hs
          have HS2 := Lib.hid hs2
          rw [← hs] at hss hsn ⊢
          rw [← hs2] at hsn
          have hc2 : c < classes := by omega
          have hs2l : s2 < nn := by rw [hsn, HN.out]; exact HOK.out.go hss hc2
          obtain ⟨r, hr⟩ : ∃ r, r = N[s] := ⟨_, rfl⟩
          have hrow := HOK.out.row r (by rw [hr]; exact List.getElem_mem hss)
          obtain ⟨bn, on, rv, rfl, hbn, d1, hrv⟩ := HGN.out s r (by rw [hr]; exact List.getElem?_eq_getElem hss)
          obtain ⟨pr, cr, rfl, hcr2, hrc⟩ := hrv.get
          have hrl : (natsI r).length = classes := by unfold natsI; rw [List.length_map]; exact hrow.1
          rw [hrl] at d1 hcr2
          obtain ⟨b2, o2, rfl, hb2l, hrc⟩ := hrc (by rw [hrl]; omega)
          have hcl : c < r.length := by rw [hrow.1]; exact hc2
          have hs2e : s2 = r[c] := by
            have h1 : N[s]? = some r := by rw [hr]; exact List.getElem?_eq_getElem hss
            rw [hsn]
            unfold goN
            rw [h1]
            show at0 r c = _
            unfold at0
            rw [List.getElem?_eq_getElem hcl]
            rfl
          have d3 : w.cell? ⟨b2, o2 + c, none⟩ = some (.int .i64 (s2 : Nat)) := by
            rw [hrc c (by rw [hrl]; exact hc2), hs2e]
            simp [natsI]
          obtain ⟨bo', oo', ho', hbo', d4⟩ := HOG.out s2 hs2l
          injection ho' with ho'
          injection ho' with ho1 ho2
          subst ho1 ho2
          obtain ⟨az, haz⟩ : ∃ az, az = at0 O s2 := ⟨_, rfl⟩
          rw [← haz] at d4
          have HAZ := Lib.hid haz
          have x1 := cell_below hb hbn d1
          have x3 := cell_below hb hb2l d3
          have x4 := cell_below hb hbo' d4
          have x5 := cell_below hb hol HM1.out.1
          have x6 := cell_below hb hol HM1.out.2
          have hsl : s < nn := by rw [HN.out]; exact hss
          have hsi : (s : Int) < nn := by omega
          have hs0 : (0 : Int) ≤ s := by omega
          have hs2i : (s2 : Int) < nn := by omega
          have hs20 : (0 : Int) ≤ s2 := by omega
          have hci : (c : Int) < classes := by omega
          have hc0 : (0 : Int) ≤ c := by omega
          have hki2 : (k2 : Int) < row.length := by omega
          have hki3 : (k2 : Int) + 1 < ((row.length + 1 : Nat) : Int) := by omega
          have hk20 : (0 : Int) ≤ k2 := by omega
          have hk21 : (0 : Int) ≤ (k2 : Int) + 1 := by omega
          have hnt : ((k2 : Int) + 1).toNat = k2 + 1 := by omega
          have hfl : (((List.range (k2 + 1)).map fun j => at0 O (stA N row j)).map fun (o : Nat) => Value.int .u64 o).length = k2 + 1 := by simp
          have z0 := HV.out.cell (i := k2 + 1) (u := .int .u64 0) (by rw [List.getElem?_append_right (by omega), hfl, Nat.sub_self, List.getElem?_replicate, if_pos (by omega)])
          have z1 := HV.out.fz (k2 + 1)
          have HFS := Lib.hid (fill_set (((List.range (k2 + 1)).map fun j => at0 O (stA N row j)).map fun (o : Nat) => Value.int .u64 o) (row.length - k2) (.int .u64 (az : Nat)) (.int .u64 0) hfl (by omega))
          clear hx hc hcr hs hs2 hsn hr hrow hrv hrl hrc hs2e d1 d3 d4 haz hfl hb hcl
          go_upto_region 15 with fail
          refine abs_wp fun W3 hW3 => ?_
          have HV3 := Lib.hid (show VRow W3 g 50 ((((List.range (k2 + 1 + 1)).map fun j => at0 O (stA N row j)).map fun (o : Nat) => Value.int .u64 o) ++ List.replicate (row.length - (k2 + 1)) (.int .u64 0)) by
            have h := HV.out.set (k2 + 1) (.int .u64 (az : Nat))
            rw [HFS.out] at h
            rw [hW3, List.range_succ, List.map_append, List.map_append, show row.length - (k2 + 1) = row.length - k2 - 1 by omega]
            have e : ([k2 + 1].map fun j => at0 O (stA N row j)).map (fun (o : Nat) => Value.int .u64 o) = [Value.int .u64 (az : Nat)] := by rw [HAZ.out, HS2.out]; rfl
            rw [e]
            exact h)
          have HB3 := Lib.hid (show Below w.heap.size w W3 by rw [hW3]; exact HB.out.trans ((Fr.setCell (F := fun k => k = g) wr rfl _).below HB.out.size (fun k (hk : k = g) => by omega)))
          clear hW3 z0 z1 d0 x1 x3 x4 x5 x6
          go_wp2_with fail
          go_roundw
          case rel => exact ⟨k2 + 1, by go_num, by omega, by rw [HS2.out], HV3.out, HB3.out⟩
          case measure => simp [intOf]; omega
        · have hkk2 : ¬ (k2 : Int) < row.length := by omega
          obtain rfl : row.length = k2 := by omega
          have HV9 := Lib.hid (show VRow wr g 50 ((runsN N O row).map fun (o : Nat) => Value.int .u64 o) by
            have := HV.out
            rw [Nat.sub_self, List.replicate_zero, List.append_nil] at this
            exact this)
          have HL9 := Lib.hid (show (runsN N O row).length = row.length + 1 by unfold runsN; simp)
          go_wp2_with fail
          go_ret2
          exact ⟨HB.out, .inl ⟨HRO.out, _, rfl, readU HV9.out HL9.out⟩⟩
end Go.Proofs.Yteamokljlcnicaa

/-
  foolscaplaw08: what must be in any case. No condition beyond what each theorem names.
-/
set_option linter.unusedVariables false
set_option linter.unusedSimpArgs false
namespace Go.Proofs.Yteamokljlcnicaa
open Go.RowKit Classical

theorem set8_any (w : World) (v : Value) (cls : List Int) (hv : Ints w v cls) (hb : cls.length * 8 ≤ R) : Calls Try.prog 21 #[v] w fun e w' =>
    e = .returned (.agg #[.int .i64 1, v, .slice none 0 0]) ∧ NodeIs w' (.mk 1 cls []) (.int .i64 1) v (.slice none 0 0) ∧ Below w.heap.size w w' := by
  obtain ⟨p, c, rfl, -, -⟩ := hv.get
  have HV := Lib.hid hv
  clear hv
  go_enter Try.func21, Try.ntmps21
  go_wp2
  have hbe : Below w.heap.size w (w.alloc (.cells #[.int .i64 1, .slice p cls.length c, .slice none 0 0] 38)) := below_alloc1 _ _
  refine bodyPost_ret (v := .agg #[.int .i64 1, .slice p cls.length c, .slice none 0 0]) (by simp [results, Try.results21, go_sem]) rfl ⟨rfl, ?_, ?_⟩
  · rw [nodeIs_iff]
    exact ⟨rfl, HV.out.to hbe (Nat.le_refl _), hb, by unfold R; simp, [], ⟨by simp, none, 0, rfl, by simp, fun h => by simp at h⟩, rfl, fun i h => by simp at h⟩
  · exact hbe

theorem x0_arg : ArgOk 2 [(x0, false)] := ⟨by omega, by omega, by simp, fun x hx => by
  rw [List.mem_singleton.1 hx]
  exact ⟨x0_right, by simp [x0, insideB, insideL]⟩⟩

set_option maxRecDepth 100000 in
set_option maxHeartbeats 8000000 in
theorem shown8 (w : World) : Calls Try.prog 12 #[] w (Says true w) := by
  go_enter Try.func12, Try.ntmps12
  go_wp2_with fail
  have hal := below_alloc1 w (.cells #[.int .i64 0] 3)
  have HAL := Lib.hid hal
  refine (set8_any _ _ [0] (Raw.of_block (cs := [.int .i64 0]) (heap_alloc_new w _)) (by unfold R; simp)).mono ?_
  rintro e w1 ⟨rfl, hn1, hb1⟩
  have HB1 := Lib.hid (HAL.out.trans (hb1.mono HAL.out.size))
  have HN1 := Lib.hid hn1
  clear hal hn1 hb1
  have hal1 := below_alloc1 w1 (.cells #[.int .i64 1, .slice (some ⟨w.heap.size, 0, none⟩) 1 1, .slice none 0 0, .bool false] 40)
  have HAL1 := Lib.hid hal1
  have HE := Lib.hid (show ReadL (exprE (w1.alloc (.cells #[.int .i64 1, .slice (some ⟨w.heap.size, 0, none⟩) 1 1, .slice none 0 0, .bool false] 40))) 4 (w1.alloc (.cells #[.int .i64 1, .slice (some ⟨w.heap.size, 0, none⟩) 1 1, .slice none 0 0, .bool false] 40)) (.slice (some ⟨w1.heap.size, 0, none⟩) 1 1) [(x0, false)] from
    ReadL.one w1 _ (x0, false) [.int .i64 1, .slice (some ⟨w.heap.size, 0, none⟩) 1 1, .slice none 0 0, .bool false] ⟨rfl, by simp [Value.oneCell']⟩ ⟨_, _, _, rfl, HN1.out.to hal1 (Nat.le_refl _)⟩)
  have HBU := Lib.hid (build_any _ _ [(x0, false)] 2 HE.out (by simp))
  clear hal1
  go_wp2_with fail
  refine HBU.out.mono ?_
  rintro e w2 ⟨hb2, hcase⟩
  have HB2 := Lib.hid (HB1.out.trans ((HAL1.out.trans (hb2.mono HAL1.out.size)).mono HB1.out.size))
  have hcase2 : ∃ ob, e = .returned (.tuple #[.pointer (some ⟨ob, 0, none⟩), .int .i64 0]) ∧ MachD w2 ob 2 [[1, 0], [1, 0]] [0, 1] := by
    rcases hcase with ⟨h, -⟩ | ⟨-, h, -⟩ | ⟨-, ob, N, O, -, h, he, hm⟩
    · exact absurd x0_arg h
    · have := built_det h built_x0
      cases this
    · have h1 := Option.some.inj (built_det h built_x0)
      obtain ⟨h2, h3⟩ := Prod.mk.inj h1
      have h4 : O = [0, 1] := by
        have : O.map some = [0, 1].map some := h3
        exact (List.map_inj_right (fun x y h => Option.some.inj h)).1 this
      rw [h2, h4] at hm
      exact ⟨ob, he, hm⟩
  obtain ⟨ob, rfl, hmd⟩ := hcase2
  have HMD := Lib.hid hmd
  clear hcase hb2 hmd
  have HBU2 := Lib.hid (build_any w2 (.slice none 0 0) [] 0 ⟨[], ⟨none, 0, rfl, by simp, fun h => by simp at h⟩, rfl, by simp, fun i h => by simp at h⟩ (by simp))
  go_wp2_with fail
  refine HBU2.out.mono ?_
  rintro e w3 ⟨hb3, hcase⟩
  have HB3 := Lib.hid (HB2.out.trans (hb3.mono HB2.out.size))
  have HMD3 := Lib.hid (HMD.out.to hb3)
  have hno : ¬ ArgOk 0 ([] : List (Nd × Bool)) := by rintro ⟨h, -⟩; omega
  rcases hcase with ⟨-, rfl⟩ | ⟨h, -⟩ | ⟨h, -⟩
  · obtain ⟨hol, pn, cn, po, co, m0, m1, m2, -, -, hgn, hgo⟩ := HMD3.out.get (nn := 2) rfl rfl
    obtain ⟨bn, on, v0, rfl, -, n0, i0⟩ := hgn 0 _ rfl
    obtain ⟨bn', on', v1, hb, -, n1, i1⟩ := hgn 1 _ rfl
    injection hb with hb
    injection hb with e1 e2
    subst e1 e2
    obtain ⟨bo, oo, rfl, -, o0⟩ := hgo 0 _ rfl
    obtain ⟨bo', oo', hb, -, o1⟩ := hgo 1 _ rfl
    injection hb with hb
    injection hb with e1 e2
    subst e1 e2
    obtain ⟨q0, c0, rfl, -, j0⟩ := i0.get
    obtain ⟨b0, k0, rfl, -, j0⟩ := j0 (by simp [natsI])
    have a0 := j0 0 (by simp [natsI])
    have a1 := j0 1 (by simp [natsI])
    have hok : OkN [[1, 0], [1, 0]] [0, 1] 2 := ⟨rfl, fun r hr => by
      simp at hr
      subst hr
      exact ⟨rfl, fun n hn => by simp at hn; rcases hn with rfl | rfl <;> simp⟩⟩
    have HS1 := Lib.hid (step_m w3 ob 2 _ _ HMD3.out hok 1 0)
    have HS2 := Lib.hid (step_m w3 ob 2 _ _ HMD3.out hok 1 1)
    have HS3 := Lib.hid (step_m w3 ob 2 _ _ HMD3.out hok 5 0)
    have HS4 := Lib.hid (step_m w3 ob 2 _ _ HMD3.out hok 0 (-1))
    rw [show stepI [[1, 0], [1, 0]] 2 1 0 = 1 by decide] at HS1
    rw [show stepI [[1, 0], [1, 0]] 2 1 1 = 0 by decide] at HS2
    rw [show stepI [[1, 0], [1, 0]] 2 5 0 = 0 by decide] at HS3
    rw [show stepI [[1, 0], [1, 0]] 2 0 (-1) = 0 by decide] at HS4
    have hbd : Bd [[1, 0], [1, 0]] [0, 1] := ⟨by simp, by simp, fun r hr => by simp at hr; subst hr; simp⟩
    have HEQ := Lib.hid (equal_m w3 ob ob 2 2 _ _ _ _ HMD3.out HMD3.out hbd hbd)
    rw [show decide (2 = 2 ∧ ([0, 1] : List Nat) = [0, 1] ∧ ([[1, 0], [1, 0]] : List (List Nat)) = [[1, 0], [1, 0]]) = true from decide_eq_true ⟨rfl, rfl, rfl⟩] at HEQ
    simp only [natsI, List.map_cons, List.map_nil, List.getElem_cons_zero, List.getElem_cons_succ, List.length_cons, List.length_nil, Nat.add_zero] at n0 n1 o0 o1 a0 a1
    clear hgn hgo hno hb3 hok hbd i0 i1 j0
    go_wp2_with fail
    refine HS1.out.mono ?_
    rintro e wz ⟨rfl, rfl⟩
    go_wp2_with fail
    refine HS2.out.mono ?_
    rintro e wz ⟨rfl, rfl⟩
    go_wp2_with fail
    refine HS3.out.mono ?_
    rintro e wz ⟨rfl, rfl⟩
    go_wp2_with fail
    refine HS4.out.mono ?_
    rintro e wz ⟨rfl, rfl⟩
    go_wp2_with fail
    refine HEQ.out.mono ?_
    rintro e w9 ⟨rfl, hb9⟩
    have HB9 := Lib.hid (HB3.out.trans (hb9.mono HB3.out.size))
    clear hb9
    go_wp2_with fail
    go_ret
    exact ⟨rfl, HB9.out⟩
  · exact absurd h hno
  · exact absurd h hno
end Go.Proofs.Yteamokljlcnicaa

/-
  DfaBeginnings: what comes later does not matter. No condition beyond what each theorem names.
-/
set_option linter.unusedVariables false
set_option linter.unusedSimpArgs false
namespace Go.Proofs.Yteamokljlcnicaa
open Go.RowKit Classical

theorem OwnL.exprs {base : Nat} {w w' : World} {T : TypeId} {v : Value} {L : List (Nd × Bool)} (h : OwnL (exprE w) T 4 base w' v L) (hb : Below w.heap.size w w') : ReadL (exprE w') 4 w' v L :=
  h.read.monoE (fun x r hr => by
    obtain ⟨a, b, c, rfl, hn⟩ := hr
    exact ⟨a, b, c, rfl, hn.to hb (Nat.le_refl _)⟩)

theorem stA_take (N : List (List Nat)) (row : List Int) {k j : Nat} (h : j ≤ k) : stA N (row.take k) j = stA N row j := by
  unfold stA
  rw [List.take_take, Nat.min_eq_left h]
theorem runs_get {N : List (List Nat)} {O : List Nat} {row : List Int} {k : Nat} (h : k ≤ row.length) : (runsN N O row)[k]? = some (at0 O (stA N row k)) := by
  unfold runsN
  rw [List.getElem?_map, List.getElem?_range (by omega)]
  rfl
theorem runs_length (N : List (List Nat)) (O : List Nat) (row : List Int) : (runsN N O row).length = row.length + 1 := by unfold runsN; simp
theorem stepI_st {β : Type} {N : List (List Nat)} {O : List β} {classes : Nat} (h : OkN N O classes) (h0 : 0 < N.length) {row : List Int} (hr : RowOk classes row) {k : Nat} (hk : k < row.length) : stepI N classes (stA N row k : Nat) row[k] = stA N row (k + 1) := by
  have h1 := stA_lt h h0 hr k (by omega)
  have h2 := hr row[k] (List.getElem_mem hk)
  unfold stepI
  rw [if_pos (by omega), Int.toNat_natCast, stA_succ hk]
theorem RowOk.take {classes : Nat} {row : List Int} (h : RowOk classes row) (k : Nat) : RowOk classes (row.take k) := fun c hc => h c (List.mem_of_mem_take hc)

set_option maxRecDepth 100000 in
set_option maxHeartbeats 8000000 in
theorem beginnings_law (w : World) (n : Int) (v : Value) (l : List (Nd × Bool)) (v2 : Value) (t : List Int) (at_ : Int) (hv : ReadL (exprE w) 4 w v l) (hl : l.length ≤ maxLen) (hv2 : Ints w v2 t) (hn : t.length ≤ 9223372036854775807) :
    Calls Try.prog 11 #[.int .i64 n, v, v2, .int .i64 at_] w (Says true w) := by
  obtain ⟨p, cp, rfl, -, -⟩ := hv.at (by decide) rfl
  obtain ⟨pt, ct, rfl, hct, hxt⟩ := hv2.get
  have HL := Lib.hid hv
  have HV := Lib.hid hv2
  have HLL := Lib.hid hl
  clear hv hv2 hxt hl
  go_enter Try.func11, Try.ntmps11
  go_wp2_with fail
  refine (shown8 w).mono ?_
  rintro e w1 ⟨rfl, hb1⟩
  have HB1 := Lib.hid hb1
  clear hb1
  obtain ⟨row, hrow⟩ : ∃ row, row = t.take 30 := ⟨_, rfl⟩
  have hrl : row.length = min t.length 30 := by rw [hrow, List.length_take, Nat.min_comm]
  go_upto_region 2 with fail
  go_cut [2] (fun rv wx => Ints w rv row ∧ wx = w1)
  case first =>
    cases pt with
    | none =>
      have h0 : t = [] := by
        obtain ⟨p', c', he, -, hx⟩ := HV.out
        injection he with he1 he2 he3
        subst he1
        cases t with
        | nil => rfl
        | cons x r => obtain ⟨b, off, e, -⟩ := hx (by simp); cases e
      subst h0
      have HI := Lib.hid (show Ints w (.slice none 0 ct) row by rw [hrow]; exact HV.out)
      clear hrow hrl
      go_wp2_with fail
      go_meet
      case rel => exact ⟨HI.out, rfl⟩
    | some ad =>
      by_cases h40 : t.length ≤ 30
      · have h41 : ¬ (30 : Int) < t.length := by omega
        have HI := Lib.hid (show Ints w (.slice (some ad) (min (t.length : Int) 30).toNat ct) row by rw [hrow, List.take_of_length_le h40, show (min (t.length : Int) 30).toNat = t.length by omega]; exact HV.out)
        clear hrow hrl
        go_wp2_with fail
        go_meet
        case rel => exact ⟨HI.out, rfl⟩
      · have h41 : (30 : Int) < t.length := by omega
        have HI := Lib.hid (show Ints w (.slice (some ad) (min (t.length : Int) 30).toNat ct) row by rw [hrow, show (min (t.length : Int) 30).toNat = 30 by omega]; exact HV.out.take (by omega))
        clear hrow hrl
        go_wp2_with fail
        go_meet
        case rel => exact ⟨HI.out, rfl⟩
  case rest =>
    obtain ⟨hi, rfl⟩ := hcut
    obtain ⟨pr, cr, rfl, hcr, hxr⟩ := hi.get
    have hr30 : row.length ≤ 30 := by omega
    have HI := Lib.hid hi
    have HXR := Lib.hid hxr
    have HFEW := Lib.hid (few_law wc (.slice p l.length cp) l ((HL.out.below HB1.out (Nat.le_refl _)).monoE (fun x r hr => by
      obtain ⟨a, b, c, rfl, hn⟩ := hr
      exact ⟨a, b, c, rfl, hn.to HB1.out (Nat.le_refl _)⟩)) HLL.out)
    obtain ⟨L, hL⟩ : ∃ L, L = fewL l := ⟨_, rfl⟩
    rw [← hL] at HFEW
    have hL8 : L.length ≤ 8 := by rw [hL]; exact fewL_length l
    clear hi hxr hrow hrl hL
    go_wp2_with fail
    refine HFEW.out.mono ?_
    rintro e w2 ⟨va, vb, rfl, hoa, hob, hb2⟩
    have HB2 := Lib.hid (HB1.out.trans (hb2.mono HB1.out.size))
    have HBU := Lib.hid (build_any w2 va L n (hoa.exprs hb2) (by omega))
    obtain ⟨pa, ca, hva⟩ := hoa.form
    subst hva
    obtain ⟨pb, cb, hvb⟩ := hob.form
    subst hvb
    clear hb2 hoa hob
    go_wp2_with fail
    refine HBU.out.mono ?_
    rintro e w3 ⟨hb3, hcase⟩
    have HB3 := Lib.hid (HB2.out.trans (hb3.mono HB2.out.size))
    clear hb3
    rcases hcase with ⟨-, rfl⟩ | ⟨-, -, rfl⟩ | ⟨hao, ob, N, O, -, hbu, rfl, hmd⟩
    · go_wp2_with fail
      go_ret
      exact ⟨rfl, HB3.out⟩
    · go_wp2_with fail
      go_ret
      exact ⟨rfl, HB3.out⟩
    · obtain ⟨hok, hpos, h400, -⟩ := built_bits (fun e he => (hao.2.2.2 e he).1) hbu
      obtain ⟨cn, hcn⟩ : ∃ cn, cn = n.toNat := ⟨_, rfl⟩
      rw [← hcn] at hmd hok
      have HMD := Lib.hid hmd
      have HOK := Lib.hid hok
      have HPOS := Lib.hid hpos
      have HRUN := Lib.hid (run_m w3 ob cn N O hmd hok hpos _ row (HI.out.to HB3.out (Nat.le_refl _)) (by omega))
      have h400' := h400
      clear hao hbu hmd hok hpos hcn h400
      go_wp2_with fail
      refine HRUN.out.mono ?_
      rintro e w4 ⟨hb4, hcase⟩
      have HB4 := Lib.hid (HB3.out.trans (hb4.mono HB3.out.size))
      have HMD4 := Lib.hid (HMD.out.to hb4)
      clear hb4
      rcases hcase with ⟨hro, vo, rfl, hvo⟩ | ⟨-, rfl⟩
      · obtain ⟨po, co, rfl, hco, hgo⟩ := hvo.at (by decide) (runs_length N O row)
        have HRO := Lib.hid hro
        have HGO := Lib.hid hgo
        have HBIT := Lib.hid (bits_and_le at_ 65535 (by omega))
        clear hro hvo hgo
        obtain ⟨k, hk, hkl⟩ : ∃ k : Nat, (bits .and .i64 at_ 65535).tmod ((row.length : Int) + 1) = k ∧ k ≤ row.length := by
          have h1 : 0 ≤ bits .and .i64 at_ 65535 := HBIT.out.1
          have h2 := Int.tmod_lt_of_pos (bits .and .i64 at_ 65535) (show (0 : Int) < (row.length : Int) + 1 by omega)
          have h3 := Int.tmod_nonneg ((row.length : Int) + 1) h1
          exact ⟨((bits .and .i64 at_ 65535).tmod ((row.length : Int) + 1)).toNat, by omega, by omega⟩
        go_upto_region 11 with fail
        have hki : (k : Int) ≤ row.length := by omega
        have hk0 : (0 : Int) ≤ k := by omega
        have HIT := Lib.hid ((HI.out.to HB4.out (Nat.le_refl _)).take hkl)
        have HTL := Lib.hid (show (row.take k).length = k by rw [List.length_take]; omega)
        have HRUN2 := Lib.hid (run_m w4 ob cn N O HMD4.out HOK.out HPOS.out _ (row.take k) HIT.out (by rw [HTL.out]; omega))
        clear hk HBIT
        go_cut [17, 18] (fun v e wx => e = .int .i64 0 ∧ ReadL u64E 1 wx v (runsN N O (row.take k)) ∧ Below w4.heap.size w4 wx)
        case first =>
          cases pr with
          | none =>
            have hr0 : row.length = 0 := by
              by_cases h : 0 < row.length
              · obtain ⟨b, off, h, -⟩ := HXR.out h
                cases h
              · omega
            have HR0 := Lib.hid hr0
            obtain rfl : k = 0 := by omega
            clear hr0 hki hk0
            go_wp2_with fail
            refine HRUN2.out.mono ?_
            rintro e w5 ⟨hb5, hcase⟩
            rcases hcase with ⟨-, v5, rfl, hv5⟩ | ⟨hno, -⟩
            · have HV5 := Lib.hid hv5
              have HB5 := Lib.hid hb5
              clear hv5 hb5
              go_wp2_with fail
              go_meet
              case rel => exact ⟨rfl, HV5.out, HB5.out⟩
            · exact (hno (HRO.out.take 0)).elim
          | some ad =>
            go_wp2_with fail
            refine HRUN2.out.mono ?_
            rintro e w5 ⟨hb5, hcase⟩
            rcases hcase with ⟨-, v5, rfl, hv5⟩ | ⟨hno, -⟩
            · have HV5 := Lib.hid hv5
              have HB5 := Lib.hid hb5
              clear hv5 hb5
              go_wp2_with fail
              go_meet
              case rel => exact ⟨rfl, HV5.out, HB5.out⟩
            · exact (hno (HRO.out.take k)).elim
        case rest =>
          obtain ⟨rfl, hv5, hb5⟩ := hcut
          obtain ⟨p5, c5, rfl, hc5, hg5⟩ := hv5.at (by decide) (show _ = k + 1 by rw [runs_length, HTL.out])
          have HB5 := Lib.hid hb5
          have HREAD := Lib.hid (show ∀ W, Below wc.heap.size wc W → ∀ j : Nat, j ≤ k → ∃ b off b' off', p5 = some ⟨b, off, none⟩ ∧ po = some ⟨b', off', none⟩ ∧ W.cell? ⟨b, off + j, none⟩ = some (.int .u64 (at0 O (stA N row j) : Nat)) ∧ W.cell? ⟨b', off' + j, none⟩ = some (.int .u64 (at0 O (stA N row j) : Nat)) from fun W hW j hj => by
            have e1 := runs_get (N := N) (O := O) (row := row.take k) (k := j) (by rw [HTL.out]; exact hj)
            rw [stA_take N row hj] at e1
            obtain ⟨b, off, r, rfl, hbl, hc, rfl⟩ := hg5 j _ e1
            obtain ⟨b', off', r', rfl, hbl', hc', rfl⟩ := HGO.out j _ (runs_get (by omega))
            have d1 := hc 0 _ rfl
            have d2 := hc' 0 _ rfl
            simp only [Nat.mul_one, Nat.add_zero] at d1 d2
            exact ⟨b, off, b', off', rfl, rfl, cell_below hW hbl d1, cell_below (hb5.trans (hW.mono hb5.size)) hbl' d2⟩)
          have HREAD2 := Lib.hid (show ∀ W, Below wc.heap.size wc W → ∀ j : Nat, j ≤ row.length → ∃ b' off', po = some ⟨b', off', none⟩ ∧ W.cell? ⟨b', off' + j, none⟩ = some (.int .u64 (at0 O (stA N row j) : Nat)) from fun W hW j hj => by
            obtain ⟨b', off', r', rfl, hbl', hc', rfl⟩ := HGO.out j _ (runs_get hj)
            have d2 := hc' 0 _ rfl
            simp only [Nat.mul_one, Nat.add_zero] at d2
            exact ⟨b', off', rfl, cell_below (hb5.trans (hW.mono hb5.size)) hbl' d2⟩)
          have HROW := Lib.hid (show ∀ W, Below wc.heap.size wc W → ∀ j : Nat, (h : j < row.length) → ∃ b off, pr = some ⟨b, off, none⟩ ∧ W.cell? ⟨b, off + j, none⟩ = some (.int .i64 row[j]) from fun W hW j hj => by
            obtain ⟨b, off, rfl, hb, hx⟩ := HXR.out (by omega)
            exact ⟨b, off, rfl, cell_below ((HB4.out.trans (hb5.mono HB4.out.size)).trans (hW.mono (Nat.le_trans HB4.out.size hb5.size))) hb (hx j hj)⟩)
          have HMDW := Lib.hid (show ∀ W, Below wc.heap.size wc W → MachD W ob cn N O from fun W hW => (HMD4.out.to hb5).to hW)
          have HBW := Lib.hid (show ∀ W, Below wc.heap.size wc W → Below w.heap.size w W from fun W hW => (HB4.out.trans (hb5.mono HB4.out.size)).trans (hW.mono (Nat.le_trans HB4.out.size hb5.size)))
          clear hv5 hb5 hg5 HIT HRUN2 HRUN HFEW HBU
          have hki : (k : Int) ≤ row.length := by omega
          go_wp2_with fail
          go_loopw [19, 20] (fun st i wz => ∃ j : Nat, i = .int .i64 j ∧ j ≤ k ∧ st = .int .i64 (stA N row j : Nat) ∧ Below wc.heap.size wc wz) (fun _ i _ => k - (intOf i).toNat)
          case atStart => exact ⟨0, rfl, by omega, rfl, Below.refl _ _⟩
          case round =>
            obtain ⟨j, rfl, hj, rfl, hb⟩ := hrel
            have HB := Lib.hid hb
            by_cases hjk : j < k
            · obtain ⟨b, off, b', off', rfl, rfl, d1, d2⟩ := HREAD.out _ hb j hj
              obtain ⟨o, ho⟩ : ∃ o, o = at0 O (stA N row j) := ⟨_, rfl⟩
              rw [← ho] at d1 d2
              obtain ⟨s, hs⟩ : ∃ s, s = stA N row j := ⟨_, rfl⟩
              rw [← hs]
              have HS := Lib.hid hs
              have hji : (j : Int) < k := by omega
              have hjr : j < row.length := by omega
              have hjri : (j : Int) < row.length := by omega
              have hji2 : (j : Int) < (k : Int) + 1 := by omega
              have hji3 : (j : Int) < (row.length : Int) + 1 := by omega
              have hj0 : (0 : Int) ≤ j := by omega
              clear hb ho hs
              go_upto_region 18 with fail
              go_quiet (fail)
              go_upto_region 20 with fail
              refine abs_wp fun W2 hW2 => ?_
              have HB2 := Lib.hid (show Below wc.heap.size wc W2 by rw [hW2]; exact ⟨HB.out.os, HB.out.tape, HB.out.output, HB.out.size, HB.out.block⟩)
              clear hW2 d1 d2
              obtain ⟨br, offr, rfl, d3⟩ := HROW.out W2 HB2.out j hjr
              have HSTEP := Lib.hid (step_m W2 ob cn N O (HMDW.out W2 HB2.out) HOK.out (s : Nat) row[j])
              rw [HS.out, stepI_st HOK.out HPOS.out HRO.out hjr, ← HS.out] at HSTEP
              obtain ⟨c, hc⟩ : ∃ c, c = row[j] := ⟨_, rfl⟩
              rw [← hc] at d3 HSTEP
              obtain ⟨s2, hs2⟩ : ∃ s2, s2 = stA N row (j + 1) := ⟨_, rfl⟩
              rw [← hs2] at HSTEP
              have HS2 := Lib.hid hs2
              clear hc hs2
              go_wp2_with fail
              refine HSTEP.out.mono ?_
              rintro e w6 ⟨rfl, rfl⟩
              go_wp2_with fail
              go_round
              case rel => exact ⟨j + 1, by go_num, by omega, by rw [HS2.out], HB2.out⟩
              case measure => simp [intOf]; omega
            · obtain rfl : j = k := by omega
              have hji : ¬ (j : Int) < j := by omega
              clear hb
              go_wp2_with fail
              go_loopw [19, 21] (fun st i wz => ∃ j2 : Nat, i = .int .i64 j2 ∧ j2 ≤ row.length ∧ st = .int .i64 (stA N row j2 : Nat) ∧ Below wc.heap.size wc wz) (fun _ i _ => row.length - (intOf i).toNat)
              case atStart => exact ⟨j, rfl, by omega, rfl, HB.out⟩
              case round =>
                obtain ⟨j2, rfl, hj2, rfl, hb2⟩ := hrel
                have HB2 := Lib.hid hb2
                by_cases hjr : j2 < row.length
                · obtain ⟨br, offr, rfl, d3⟩ := HROW.out _ hb2 j2 hjr
                  have HSTEP := Lib.hid (step_m wr ob cn N O (HMDW.out _ hb2) HOK.out (stA N row j2 : Nat) row[j2])
                  rw [stepI_st HOK.out HPOS.out HRO.out hjr] at HSTEP
                  obtain ⟨nn, hnn⟩ : ∃ nn, nn = N.length := ⟨_, rfl⟩
                  obtain ⟨hol, pn, cn', pm, cm, m0, m1, m2, -, -, -, hgo⟩ := (HMDW.out _ hb2).get hnn.symm (by rw [← HOK.out.len, hnn])
                  have hlt := stA_lt HOK.out HPOS.out HRO.out (j2 + 1) (by omega)
                  obtain ⟨b', off', rfl, d2⟩ := HREAD2.out _ hb2 (j2 + 1) (by omega)
                  obtain ⟨c, hc⟩ : ∃ c, c = row[j2] := ⟨_, rfl⟩
                  rw [← hc] at d3 HSTEP
                  obtain ⟨s, hs⟩ : ∃ s, s = stA N row j2 := ⟨_, rfl⟩
                  rw [← hs] at HSTEP ⊢
                  obtain ⟨s2, hs2⟩ : ∃ s2, s2 = stA N row (j2 + 1) := ⟨_, rfl⟩
                  rw [← hs2] at HSTEP d2 hlt
                  have HS2 := Lib.hid hs2
                  rw [← hnn] at hlt
                  have hsO : s2 < O.length := by rw [← HOK.out.len, ← hnn]; exact hlt
                  obtain ⟨bm, om, rfl, hbm, d1⟩ := hgo s2 (at0 O s2) (by unfold at0; rw [List.getElem?_eq_getElem hsO]; rfl)
                  obtain ⟨o, ho⟩ : ∃ o, o = at0 O s2 := ⟨_, rfl⟩
                  rw [← ho] at d1 d2
                  have hs20 : (0 : Int) ≤ s2 := by omega
                  have hs21 : ¬ (s2 : Int) < 0 := by omega
                  have hs22 : (s2 : Int) < nn := by omega
                  have hs23 : ¬ (nn : Int) ≤ s2 := by omega
                  have hj20 : (0 : Int) ≤ j2 := by omega
                  obtain ⟨jn, hjn⟩ : ∃ jn, jn = j2 + 1 := ⟨_, rfl⟩
                  rw [← hjn] at d2
                  have hj21 : (0 : Int) ≤ jn := by omega
                  have hjri : (j2 : Int) < row.length := by omega
                  have hji3 : (jn : Int) < (row.length : Int) + 1 := by omega
                  have hwr : IntKind.i64.wrap ((j2 : Int) + 1) = (jn : Int) := (IntWalk.i64_in _ (by omega)).trans (by omega)
                  have HJN := Lib.hid hjn
                  clear hjn
                  clear hb2 hgo hc hs hs2 hnn ho m0 m1
                  go_wp2_with fail
                  refine HSTEP.out.mono ?_
                  rintro e w6 ⟨rfl, rfl⟩
                  go_upto_region 25 with fail
                  go_quiet (fail)
                  go_wp2_with fail
                  exact ⟨⟨jn, rfl, by omega, by rw [HS2.out, HJN.out], ⟨HB2.out.os, HB2.out.tape, HB2.out.output, HB2.out.size, HB2.out.block⟩⟩, by have := HJN.out; simp [intOf]; omega⟩
                · have hjri : ¬ (j2 : Int) < row.length := by omega
                  obtain ⟨b, off, b', off', rfl, rfl, d1, d2⟩ := HREAD.out _ hb2 j (by omega)
                  obtain ⟨o, ho⟩ : ∃ o, o = at0 O (stA N row j) := ⟨_, rfl⟩
                  rw [← ho] at d1 d2
                  have hji2 : (j : Int) < (j : Int) + 1 := by omega
                  have hji3 : (j : Int) < (row.length : Int) + 1 := by omega
                  have hj0 : (0 : Int) ≤ j := by omega
                  clear hb2 ho
                  go_upto_region 27 with fail
                  go_quiet (fail)
                  go_wp2_with fail
                  go_ret
                  exact ⟨rfl, HBW.out _ ⟨HB2.out.os, HB2.out.tape, HB2.out.output, HB2.out.size, HB2.out.block⟩⟩
      · go_wp2_with fail
        go_ret
        exact ⟨rfl, HB4.out⟩
end Go.Proofs.Yteamokljlcnicaa

/-
  dfa, plain: languages whose answers are told otherwise; what is built of expressions turned round, of one more that never fits, of the last one twice (DfaTurns, DfaMore). No program, no condition beyond what each theorem names.
-/
set_option linter.unusedVariables false
set_option linter.unusedSimpArgs false
namespace Go.Proofs.Yteamokljlcnicaa
open Classical

section
variable {σ β γ : Type}
theorem hom_glang (l0 : List Nat → Option β) (g : β → γ) (classes : Nat) (hinj : ∀ t u x y, l0 t = some x → l0 u = some y → g x = g y → x = y) : Hom (langAuto l0) (langAuto fun t => (l0 t).map g) classes (fun l t => (l t).map g) where
  start := rfl
  step := fun t _ c _ => rfl
  inj := fun t u _ _ h => by
    funext v
    have h2 := congrFun h v
    have e1 : runA (langAuto l0) (langAuto l0).start t v = l0 (t ++ v) := runLang l0 t l0 v
    have e2 : runA (langAuto l0) (langAuto l0).start u v = l0 (u ++ v) := runLang l0 u l0 v
    simp only [e1, e2] at h2
    rw [e1, e2]
    cases ht : l0 (t ++ v) with
    | none => cases hu : l0 (u ++ v) with
      | none => rfl
      | some y => rw [ht, hu] at h2; cases h2
    | some x => cases hu : l0 (u ++ v) with
      | none => rw [ht, hu] at h2; cases h2
      | some y =>
        rw [ht, hu] at h2
        rw [hinj _ _ _ _ ht hu (Option.some.inj h2)]

theorem place_hom {σ τ : Type} {A : Auto σ} {B : Auto τ} {classes : Nat} {f : σ → τ} (H : Hom A B classes f) {L : List σ} (hL : ∀ x ∈ L, MetA A classes x) {y : σ} (hy : MetA A classes y) : place (L.map f) (f y) = place L y := by
  have h := place_map (f := f) (g := id) (x := y) (l := L) (fun z hz => by
    obtain ⟨t, ht, e1⟩ := hL z hz
    obtain ⟨u, hu, e2⟩ := hy
    constructor
    · intro h
      rw [e1, e2] at h ⊢
      exact H.inj t u ht hu h
    · intro h
      have h : z = y := h
      rw [h])
  rw [h]
  simp

/-- what is built, where the answers are told otherwise, but apart as they were -/
theorem built_g {A : Auto σ} {out : σ → β} (g : β → γ) {classes : Nat} (hinj : ∀ t u x y, langA A out classes A.start t = some x → langA A out classes A.start u = some y → g x = g y → x = y) {r : Option (List (List Nat) × List (Option β))} (h : Built A out classes r) :
    Built A (fun s => g (out s)) classes (r.map fun p => (p.1, p.2.map (Option.map g))) := by
  have hl : langA A (fun s => g (out s)) classes A.start = fun t => (langA A out classes A.start t).map g := lang_map A out g classes A.start
  obtain ⟨l0, hl0⟩ : ∃ l0, l0 = langA A out classes A.start := ⟨_, rfl⟩
  unfold Built at h ⊢
  rw [hl]
  rw [← hl0] at h hinj ⊢
  have H := hom_glang l0 g classes hinj
  obtain ⟨hc, hm⟩ := cl_map H 2000
  have hL : canonL (fun t => (l0 t).map g) classes 2000 = (canonL l0 classes 2000).map (fun l t => (l t).map g) := hc.symm
  have hm' : ∀ x ∈ canonL l0 classes 2000, MetA (langAuto l0) classes x := hm
  have hlen : (canonL (fun t => (l0 t).map g) classes 2000).length = (canonL l0 classes 2000).length := by rw [hL, List.length_map]
  clear hc hm
  generalize 2000 = K at *
  rcases h with ⟨rfl, h⟩ | ⟨h1, h2, rfl⟩
  · exact .inl ⟨rfl, by rw [hlen]; exact h⟩
  · refine .inr ⟨h1, by rw [hlen]; exact h2, ?_⟩
    rw [Option.map_some]
    congr 1
    refine Prod.ext ?_ ?_
    · show canonNext l0 classes K = canonNext _ classes K
      unfold canonNext
      rw [hL]
      unfold nextsOf
      rw [List.map_map]
      refine List.map_congr_left fun s hs => List.map_congr_left fun c hcr => ?_
      have hcc : c < classes := List.mem_range.1 hcr
      exact (place_hom H hm' ((hm' s hs).step hcc)).symm
    · show (canonOut l0 classes K).map (Option.map g) = canonOut _ classes K
      unfold canonOut
      rw [hL, List.map_map, List.map_map]
      rfl
end

/-! ### turned round -/
/-- the first n bits, turned round -/
def turnN (n v : Nat) : Nat := bitsL ((List.range n).map fun k => v.testBit (n - 1 - k))
theorem turn_bits {bs : List Bool} {n : Nat} (h : bs.length = n) : turnN n (bitsL bs) = bitsL bs.reverse := by
  unfold turnN
  congr 1
  refine List.ext_getElem (by simp [h]) fun i h1 h2 => ?_
  have hi : i < n := by simpa using h1
  rw [List.getElem_map, List.getElem_range, bitsL_get bs (n - 1 - i) (by omega), List.getElem_reverse]
  congr 1
  omega
theorem lang_shape {l : List (Nd × Bool)} (hl : ∀ e ∈ l, RightX e.1) {classes : Nat} {t : List Nat} {x : Nat} (h : langA (autoE l) outN classes (autoE l).start t = some x) : ∃ bs : List Bool, bs.length = l.length ∧ x = bitsL bs := by
  have h : (tellsE l classes t).map bitsL = some x := by rw [lang_N hl] at h; exact h
  unfold tellsE at h
  split at h
  · exact ⟨_, by simp, (Option.some.inj h).symm⟩
  · cases h
theorem built_turn {l : List (Nd × Bool)} (hl : ∀ e ∈ l, RightX e.1) {classes : Nat} {r : Option (List (List Nat) × List (Option Nat))} (h : Built (autoE l) outN classes r) :
    Built (autoE l.reverse) outN classes (r.map fun p => (p.1, p.2.map (Option.map (turnN l.length)))) := by
  have h1 := built_g (turnN l.length) (fun t u x y hx hy e => by
    obtain ⟨bs, hb, rfl⟩ := lang_shape hl hx
    obtain ⟨cs, hc, rfl⟩ := lang_shape hl hy
    rw [turn_bits hb, turn_bits hc] at e
    have := bitsL_inj (by simp [hb, hc]) e
    rw [List.reverse_inj.1 this]) h
  refine (built_hom (hom_turn l classes) ?_).1 h1
  rw [lang_map (autoE l) outN (turnN l.length) classes (autoE l).start, lang_N hl, lang_N (fun e he => hl e (List.mem_reverse.1 he))]
  funext t
  show ((tellsE l classes t).map bitsL).map (turnN l.length) = (tellsE l.reverse classes t).map bitsL
  unfold tellsE
  by_cases ht : ∀ c ∈ t, c < classes
  · rw [if_pos ht, if_pos ht]
    simp only [Option.map_some]
    rw [turn_bits (by simp), List.map_reverse]
  · rw [if_neg ht, if_neg ht]
    rfl

/-! ### one bit -/
theorem bit_at (o c : Nat) (ho : o < 2 ^ 64) : bits .and .u64 ((o : Int) / 2 ^ c) 1 = ((if o.testBit c then 1 else 0 : Nat) : Int) := by
  have e : ((o : Int) / 2 ^ c) = ((o / 2 ^ c : Nat) : Int) := by simp
  have hlt : o / 2 ^ c < 2 ^ 64 := Nat.lt_of_le_of_lt (Nat.div_le_self _ _) ho
  have h := u64_and_nat (o / 2 ^ c) 1 (by omega) (by omega)
  rw [e]
  refine h.trans ?_
  rw [Nat.and_one_is_mod, Nat.testBit_eq_decide_div_mod_eq]
  congr 1
  by_cases h2 : o / 2 ^ c % 2 = 1
  · simp [h2]
  · simp [h2]; omega
theorem turn_testBit {n v k : Nat} (hk : k < n) : (turnN n v).testBit k = v.testBit (n - 1 - k) := by
  unfold turnN
  rw [bitsL_get _ k (by simpa using hk), List.getElem_map, List.getElem_range]
theorem turn_lt (n v : Nat) : turnN n v < 2 ^ n := by
  have := bitsL_lt ((List.range n).map fun k => v.testBit (n - 1 - k))
  rw [List.length_map, List.length_range] at this
  exact this
theorem wrap_small (c : Nat) (h : c < 64) : min (IntKind.u64.wrap (c : Int)).toNat 64 = c := by
  have e : (c : Int) % 18446744073709551616 = c := by omega
  have : IntKind.u64.wrap (c : Int) = c := by
    show (if (false && decide ((c : Int) % 18446744073709551616 ≥ 9223372036854775808)) = true then (c : Int) % 18446744073709551616 - 18446744073709551616 else (c : Int) % 18446744073709551616) = c
    rw [e]
    simp
  rw [this]
  omega
/-- a bit, and its own in what is turned round -/
theorem bit_turn (o n c : Nat) (ho : o < 2 ^ n) (hn : n ≤ 64) (hc : c < n) :
    (bits .and .u64 ((o : Int) / 2 ^ c) 1 != bits .and .u64 ((turnN n o : Nat) / 2 ^ min (IntKind.u64.wrap ((n - 1 - c : Nat) : Int)).toNat 64) 1) = false := by
  have h64 : (2 : Nat) ^ n ≤ 2 ^ 64 := Nat.pow_le_pow_right (by omega) hn
  have ht := turn_lt n o
  rw [wrap_small _ (by omega), bit_at o c (by omega), bit_at _ _ (by omega), turn_testBit (by omega), show n - 1 - (n - 1 - c) = c by omega]
  simp
end Go.Proofs.Yteamokljlcnicaa

/-
  dfa, plain: expressions written otherwise (DfaEqual, DfaEither): they are right, and fit the same. No condition beyond what each theorem names.
-/
set_option linter.unusedVariables false
set_option linter.unusedSimpArgs false
namespace Go.Proofs.Yteamokljlcnicaa
open Classical Go.RowKit

mutual
theorem depth_cnt : ∀ x : Nd, depthN x ≤ cnt x
  | .mk op cls ps => by
    have := depth_cntL ps
    simp only [depthN, cnt]
    omega
theorem depth_cntL : ∀ ps : List Nd, depthNL ps ≤ cntL ps
  | [] => by simp [depthNL, cntL]
  | x :: r => by
    have := depth_cnt x
    have := depth_cntL r
    simp only [depthNL, cntL]
    omega
end
theorem small_cnt {x : Nd} (h : RightX x) (hc : countT x ≤ 20) : Small x ∧ cnt x ≤ 20 := by
  have h1 := countT_eq x h.2
  have h2 := depth_cnt x
  exact ⟨⟨h, by omega, by omega⟩, by omega⟩

theorem wf_empty {d : Nat} (hd : d ≤ 30) : Wf d (.mk 0 [] []) := by
  unfold Wf
  exact ⟨by omega, by omega, fun _ => rfl, fun _ => rfl, by omega, rising_nil, by simp only [WfL]⟩
theorem right_alt2 {x y : Nd} (hx : Small x) (hy : Small y) : RightX (.mk 3 [] [x, y]) :=
  ⟨right_two (hx.at (by omega)) (hy.at (by omega)) (by omega) 3 (.inr rfl), by have := hx.cnt; have := hy.cnt; simp only [cnt, cntL]; omega⟩
theorem right_behind {x : Nd} (hx : Small x) : RightX (.mk 2 [] [x, .mk 0 [] []]) :=
  ⟨right_two (hx.at (by omega)) (wf_empty (by omega)) (by omega) 2 (.inl rfl), by have := hx.cnt; simp only [cnt, cntL]; omega⟩
theorem right_more {x : Nd} (hx : Small x) : RightX (.mk 5 [] [.mk 2 [] [x, .mk 4 [] [x]]]) := by
  refine ⟨?_, by have := hx.cnt; simp only [cnt, cntL]; omega⟩
  unfold Wf
  exact ⟨by omega, by omega, fun _ => rfl, by omega, fun _ => rfl, rising_nil, by
    simp only [WfL, and_true]
    exact right_two (hx.at (by omega)) (right_star (hx.at (by omega)) (by omega)) (by omega) 2 (.inl rfl)⟩

theorem argOk_one {n : Int} {l : List (Nd × Bool)} {y : Nd} {b : Bool} (h : ArgOk n l) (hr : RightX y) (hi : insideB n y = true) : ArgOk n [(y, b)] :=
  ⟨h.1, h.2.1, by simp, fun e he => by rw [List.mem_singleton.1 he]; exact ⟨hr, hi⟩⟩

/-- one that fits the same is built to the same -/
theorem built_eq {x y : Nd} {b : Bool} {n : Nat} {m m' : List (List Nat) × List (Option Nat)} (hx : RightX x) (hy : RightX y) (h : ∀ row, fitB x row = fitB y row) (h1 : Built (autoE [(x, b)]) outN n (some m)) (h2 : Built (autoE [(y, b)]) outN n (some m')) : m = m' := by
  refine built_same ?_ h1 h2
  rw [lang_N (fun e he => by rw [List.mem_singleton.1 he]; exact hx), lang_N (fun e he => by rw [List.mem_singleton.1 he]; exact hy), tells_same h]

/-- an argument of one expression -/
theorem one_expr {w : World} {x : Nd} {a b c : Value} (hn : NodeIs w x a b c) (wh : Bool) (T : TypeId) : ReadL (exprE (w.alloc (.cells #[a, b, c, .bool wh] T))) 4 (w.alloc (.cells #[a, b, c, .bool wh] T)) (.slice (some ⟨w.heap.size, 0, none⟩) 1 1) [(x, wh)] := by
  have hn' := hn.to (below_alloc1 w (.cells #[a, b, c, .bool wh] T)) (Nat.le_refl _)
  obtain ⟨op, pp, l, c1, q, m, d, rfl, rfl, rfl⟩ := hn.form
  exact ReadL.one w T (x, wh) [.int .i64 op, .slice pp l c1, .slice q m d, .bool wh] ⟨rfl, by simp [Value.oneCell']⟩ ⟨_, _, _, rfl, hn'⟩

theorem some_pairs {N N2 : List (List Nat)} {O O2 : List Nat} (h : (N, O.map some) = (N2, O2.map some)) : N = N2 ∧ O = O2 := by
  obtain ⟨h1, h2⟩ := Prod.mk.inj h
  exact ⟨h1, (List.map_inj_right (fun x y h => Option.some.inj h)).1 h2⟩
theorem two_allocs (w : World) (o1 o2 : Obj) (W : World) (hW : W = (w.alloc o1).alloc o2) : Below w.heap.size w W ∧ W.heap[w.heap.size]? = some o1 ∧ W.heap[w.heap.size + 1]? = some o2 := by
  have s1 : (w.alloc o1).heap.size = w.heap.size + 1 := by simp
  have b1 := below_alloc1 w o1
  have b2 := below_alloc1 (w.alloc o1) o2
  subst hW
  refine ⟨b1.trans (b2.mono (by omega)), ?_, ?_⟩
  · rw [b2.block _ (by omega)]; exact heap_alloc_new _ _
  · rw [← s1]; exact heap_alloc_new _ _

/-- no expression at all: it fits nothing but the empty row -/
theorem node_none (w : World) : NodeIs w (.mk 0 [] []) (.int .i64 0) (.slice none 0 0) (.slice none 0 0) := by
  rw [nodeIs_iff]
  exact ⟨rfl, Ints.nil _, by unfold R; simp, by unfold R; simp, [], ⟨by simp, none, 0, rfl, by simp, fun h => by simp at h⟩, rfl, fun i h => by simp at h⟩
end Go.Proofs.Yteamokljlcnicaa

/-
  dfa: a machine that was built, as one reads it cell by cell. No condition beyond what each theorem names.
-/
set_option linter.unusedVariables false
set_option linter.unusedSimpArgs false
namespace Go.Proofs.Yteamokljlcnicaa
open Go.RowKit Classical

def rowO (N : List (List Nat)) (i : Nat) : List Nat := N[i]?.getD []
theorem rowO_get {N : List (List Nat)} {i : Nat} (h : i < N.length) : N[i]? = some (rowO N i) := by
  unfold rowO
  rw [List.getElem?_eq_getElem h]
  rfl
theorem at0_get {l : List Nat} {i : Nat} (h : i < l.length) : l[i]? = some (at0 l i) := by
  unfold at0
  rw [List.getElem?_eq_getElem h]
  rfl

/-- the cells of a machine, in each later world -/
def MachV (w : World) (ob classes nn : Nat) (N : List (List Nat)) (O : List Nat) (bN oN cn bO oO co : Nat) : Prop := ∀ W, Below w.heap.size w W →
  W.cell? ⟨ob, 0, none⟩ = some (.int .i64 (classes : Nat)) ∧ W.cell? ⟨ob, 1, none⟩ = some (.slice (some ⟨bN, oN, none⟩) nn cn) ∧ W.cell? ⟨ob, 2, none⟩ = some (.slice (some ⟨bO, oO, none⟩) nn co) ∧
  (∀ i : Nat, i < nn → W.cell? ⟨bO, oO + i, none⟩ = some (.int .u64 (at0 O i : Nat))) ∧
  (∀ i : Nat, i < nn → ∃ b off cr, W.cell? ⟨bN, oN + i, none⟩ = some (.slice (some ⟨b, off, none⟩) classes cr) ∧ classes ≤ cr ∧ ∀ c : Nat, c < classes → W.cell? ⟨b, off + c, none⟩ = some (.int .i64 (at0 (rowO N i) c : Nat)))

theorem MachD.view {w : World} {ob classes nn : Nat} {N : List (List Nat)} {O : List Nat} (h : MachD w ob classes N O) (hok : OkN N O classes) (hn : N.length = nn) (h0 : 0 < nn) (hc : 0 < classes) :
    ∃ bN oN cn bO oO co, nn ≤ cn ∧ nn ≤ co ∧ MachV w ob classes nn N O bN oN cn bO oO co := by
  have hlo : O.length = nn := by rw [← hok.len, hn]
  obtain ⟨hob, pn, cn, po, co, e0, e1, e2, hcn, hco, gN, gO⟩ := h.get hn hlo
  obtain ⟨bN, oN, -, rfl, -, -, -⟩ := gN 0 _ (rowO_get (by omega))
  obtain ⟨bO, oO, rfl, -, -⟩ := gO 0 _ (at0_get (by omega))
  refine ⟨bN, oN, cn, bO, oO, co, hcn, hco, fun W hW => ⟨cell_below hW hob e0, cell_below hW hob e1, cell_below hW hob e2, fun i hi => ?_, fun i hi => ?_⟩⟩
  · obtain ⟨b, off, he, hb, hx⟩ := gO i _ (at0_get (by omega))
    cases he
    exact cell_below hW hb hx
  · obtain ⟨b, off, v, he, hb, hx, hv⟩ := gN i _ (rowO_get (by omega))
    cases he
    have hl : (natsI (rowO N i)).length = classes := by
      unfold natsI
      rw [List.length_map]
      exact (hok.row _ (List.mem_of_getElem? (rowO_get (by omega)))).1
    obtain ⟨p, cr, rfl, hcr, hg⟩ := hv.get
    obtain ⟨b', off', rfl, hb', hx'⟩ := hg (by omega)
    rw [hl] at hx hcr
    refine ⟨b', off', cr, cell_below hW hb hx, hcr, fun c hc2 => ?_⟩
    have := cell_below hW hb' (hx' c (by omega))
    rw [this]
    congr 2
    unfold natsI
    rw [List.getElem_map]
    have h2 := at0_get (l := rowO N i) (i := c) (by unfold natsI at hl; rw [List.length_map] at hl; omega)
    rw [List.getElem?_eq_getElem (by unfold natsI at hl; rw [List.length_map] at hl; omega)] at h2
    rw [Option.some.inj h2]
theorem exprs_to {w w' : World} {v : Value} {L : List (Nd × Bool)} (h : ReadL (exprE w) 4 w v L) (hb : Below w.heap.size w w') : ReadL (exprE w') 4 w' v L :=
  (h.below hb (Nat.le_refl _)).monoE (fun x r hr => by
    obtain ⟨a, b, c, rfl, hn⟩ := hr
    exact ⟨a, b, c, rfl, hn.to hb (Nat.le_refl _)⟩)
theorem bd_of {N : List (List Nat)} {O : List Nat} {classes : Nat} (h : OkN N O classes) (h4 : N.length ≤ 400) (hc : classes ≤ 24) : Bd N O :=
  ⟨by omega, by rw [← h.len]; omega, fun r hr => by rw [(h.row r hr).1]; omega⟩
end Go.Proofs.Yteamokljlcnicaa

/-
  has, or, many of the reference. No condition beyond what each theorem names.
-/
set_option linter.unusedVariables false
set_option linter.unusedSimpArgs false
namespace Go.Proofs.Yteamokljlcnicaa
open Go.RowKit

theorem img_iff {r s : Nat → Nat → Prop} {bs out : List Bool} (h : img r bs out) (hr : ∀ p q, r p q ↔ s p q) : img s bs out :=
  ⟨h.1, fun q => (h.2 q).trans ⟨fun ⟨p, h1, h2⟩ => ⟨p, h1, (hr p q).1 h2⟩, fun ⟨p, h1, h2⟩ => ⟨p, h1, (hr p q).2 h2⟩⟩⟩

theorem img_comp {r s : Nat → Nat → Prop} {bs cur out : List Bool} (h : img r bs cur) (g : img s cur out) : img (fun p q => ∃ m, r p m ∧ s m q) bs out := by
  refine ⟨g.1.trans h.1, fun q => (g.2 q).trans ⟨fun ⟨m, h1, h2⟩ => ?_, fun ⟨p, h1, m, h2, h3⟩ => ⟨m, (h.2 m).2 ⟨p, h1, h2⟩, h3⟩⟩⟩
  obtain ⟨p, h3, h4⟩ := (h.2 m).1 h1
  exact ⟨p, h3, m, h4, h2⟩

theorem img_id (bs : List Bool) : img (fun p q => p = q) bs bs := ⟨rfl, fun q => ⟨fun h => ⟨q, h, rfl⟩, fun ⟨p, h1, h2⟩ => h2 ▸ h1⟩⟩

theorem img_no {r : Nat → Nat → Prop} {bs : List Bool} {n : Nat} (hl : bs.length = n) (h : ∀ p q, ¬ r p q) : img r bs (List.replicate n false) :=
  ⟨by simp [hl], fun q => ⟨fun h1 => absurd h1 (no_places n q), fun ⟨p, _, h2⟩ => absurd h2 (h p q)⟩⟩

theorem img_or {r s : Nat → Nat → Prop} {bs c1 c2 out : List Bool} (h : img r bs c1) (g : img s bs c2) (hl : out.length = c1.length) (ho : ∀ q, tr out q ↔ tr c1 q ∨ tr c2 q) : img (fun p q => r p q ∨ s p q) bs out := by
  refine ⟨hl.trans h.1, fun q => (ho q).trans ?_⟩
  rw [h.2, g.2]
  constructor
  · rintro (⟨p, h1, h2⟩ | ⟨p, h1, h2⟩)
    · exact ⟨p, h1, .inl h2⟩
    · exact ⟨p, h1, .inr h2⟩
  · rintro ⟨p, h1, h2 | h2⟩
    · exact .inl ⟨p, h1, h2⟩
    · exact .inr ⟨p, h1, h2⟩

theorem tr_setB {bs : List Bool} {n k : Nat} {b : Bool} (hn : n < bs.length) : tr (bs.set n b) k ↔ (k = n ∧ b = true) ∨ (k ≠ n ∧ tr bs k) := by
  unfold tr
  rw [List.getElem?_set]
  by_cases e : n = k
  · subst e; simp [hn]
  · rw [if_neg e]; simp [Ne.symm e]

theorem tr_get {bs : List Bool} {k : Nat} (hk : k < bs.length) : tr bs k ↔ bs[k] = true := by
  unfold tr; rw [List.getElem?_eq_getElem hk]; simp

theorem tr_ext {bs cs : List Bool} (hl : bs.length = cs.length) (h : ∀ q, tr bs q ↔ tr cs q) : bs = cs := by
  refine List.ext_getElem hl fun i h1 h2 => ?_
  have := h i
  rw [tr_get h1, tr_get h2] at this
  exact Bool.eq_iff_iff.2 this

theorem BRow.made {w W : World} {n : Nat} (hW : W = w.alloc (.cells (Array.replicate n (Value.bool false)) 4)) : BRow W w.heap.size (List.replicate n false) := by
  unfold BRow
  rw [hW, heap_alloc_new]
  simp

theorem has_any (w : World) (v : Value) (cls : List Int) (c : Int) (hn : cls.length ≤ 1000000000000000000) (hv : Ints w v cls) :
    Calls Try.prog 63 #[v, .int .i64 c] w fun e w' => e = .returned (.bool (decide (c ∈ cls))) ∧ w = w' := by
  obtain ⟨p, cap, rfl, hcap, hx⟩ := hv.get
  have HX := Lib.hid hx
  have HNO := Lib.hid (fun (k : Nat) (h : ∀ j (hj : j < cls.length), j < k → cls[j] ≠ c) (hk : cls.length ≤ k) => show c ∉ cls from fun hm => by
    obtain ⟨j, hj, rfl⟩ := List.getElem_of_mem hm
    exact h j hj (by omega) rfl)
  clear hv hx
  go_enter Try.func63, Try.ntmps63
  go_wp2_with fail
  go_loop [5] (fun i => ∃ k : Nat, i = .int .i64 k ∧ k ≤ cls.length ∧ (∀ j (hj : j < cls.length), j < k → cls[j] ≠ c)) (fun i => cls.length - (intOf i).toNat)
  case atStart => exact ⟨0, rfl, by omega, fun _ _ h => absurd h (Nat.not_lt_zero _)⟩
  case round =>
    obtain ⟨k, rfl, h1, hno⟩ := hrel
    have HN := Lib.hid hno
    by_cases hk : k < cls.length
    · obtain ⟨b, off, rfl, hbl, hy⟩ := HX.out (by omega)
      have y0 := hy k hk
      have HM := Lib.hid (List.getElem_mem hk)
      by_cases hc : cls[k] = c
      · have hc' : (cls[k] == c) = true := by simp [hc]
        have HC := Lib.hid (show c ∈ cls by rw [← hc]; exact HM.out)
        clear hc hno hy
        go_wp2_with fail
        go_ret
        exact ⟨ret_val (by rw [decide_eq_true HC.out]; rfl), rfl⟩
      · have hc' : (cls[k] == c) = false := by simp [hc]
        have HC := Lib.hid hc
        clear hc hno hy
        go_wp2_with fail
        go_round
        case rel => exact ⟨k + 1, by go_num, by omega, fun j hj hjk => by
          by_cases hjk2 : j = k
          · subst hjk2; exact HC.out
          · exact HN.out j hj (by omega)⟩
        case measure => simp [intOf]; omega
    · clear hno
      go_wp2_with fail
      go_ret
      exact ⟨ret_val (by rw [decide_eq_false (HNO.out k HN.out (by omega))]; rfl), rfl⟩

theorem many_any (w : World) (v : Value) (xs : List Bool) (hn : xs.length ≤ 1000000) (hv : Bools w v xs) :
    Calls Try.prog 65 #[v] w fun e w' => e = .returned (.int .i64 (xs.count true : Nat)) ∧ w = w' := by
  obtain ⟨p, cap, rfl, hcap, hx⟩ := hv.get
  have HX := Lib.hid hx
  clear hv hx
  go_enter Try.func65, Try.ntmps65
  go_wp2_with fail
  go_loop [3, 4] (fun n i => ∃ k m : Nat, i = .int .i64 k ∧ k ≤ xs.length ∧ n = .int .i64 m ∧ m = (xs.take k).count true ∧ m ≤ k) (fun _ i => xs.length - (intOf i).toNat)
  case atStart => exact ⟨0, 0, rfl, by omega, rfl, by simp, by omega⟩
  case round =>
    obtain ⟨k, m, rfl, h1, rfl, hm, hmk⟩ := hrel
    have HM := Lib.hid hm
    clear hm
    by_cases hk : k < xs.length
    · obtain ⟨b, off, rfl, hbl, hy⟩ := HX.out (by omega)
      have y0 := hy k hk
      have HSN := Lib.hid (show (xs.take (k + 1)).count true = (xs.take k).count true + (if xs[k] = true then 1 else 0) by
        rw [List.take_succ_eq_append_getElem hk, List.count_append]
        cases xs[k] <;> simp)
      clear hy
      cases hb : xs[k]
      · rw [hb] at y0 HSN
        clear hb
        go_wp2_with fail
        go_round
        case rel => exact ⟨k + 1, m, by go_num, by omega, rfl, by rw [HSN.out, HM.out]; simp, by omega⟩
        case measure => simp [intOf]; omega
      · rw [hb] at y0 HSN
        clear hb
        go_wp2_with fail
        go_round
        case rel => exact ⟨k + 1, m + 1, by go_num, by omega, by go_num, by rw [HSN.out, HM.out]; simp, by omega⟩
        case measure => simp [intOf]; omega
    · have HE := Lib.hid (show xs.take k = xs from List.take_of_length_le (by omega))
      go_wp2_with fail
      go_ret
      exact ⟨ret_int (by rw [HM.out, HE.out]), rfl⟩

def OrPost (w : World) (xs ys : List Bool) (e : Ending) (w' : World) : Prop :=
  ∃ g cs, e = .returned (.slice (some ⟨g, 0, none⟩) xs.length xs.length) ∧ BRow w' g cs ∧ w.heap.size ≤ g ∧ cs.length = xs.length ∧ (∀ q, tr cs q ↔ tr xs q ∨ tr ys q) ∧ Below w.heap.size w w'

set_option maxRecDepth 100000 in
set_option maxHeartbeats 8000000 in
theorem or_any (w : World) (u v : Value) (xs ys : List Bool) (hl : ys.length = xs.length) (hn : xs.length ≤ 1000000) (hu : Bools w u xs) (hv : Bools w v ys) :
    Calls Try.prog 64 #[u, v] w (OrPost w xs ys) := by
  obtain ⟨pu, cu, rfl, hcu, hxu⟩ := hu.get
  obtain ⟨pv, cv, rfl, hcv, hxv⟩ := hv.get
  rw [hl]
  have HXU := Lib.hid hxu
  have HXV := Lib.hid hxv
  have HL := Lib.hid hl
  have hmk := fun w => make_bools 60 Try.underlying60 w (xs.length : Int) xs.length rfl (by omega)
  clear hu hv hxu hxv hl hcv
  go_enter Try.func64, Try.ntmps64
  go_upto_region 2 with fail
  refine abs_wp fun W hW => ?_
  have HR0 := Lib.hid (BRow.made hW)
  have HBW := Lib.hid (show Below w.heap.size w W by rw [hW]; exact below_alloc1 _ _)
  obtain ⟨g, hg⟩ : ∃ g, g = w.heap.size := ⟨_, rfl⟩
  rw [← hg] at HR0 ⊢
  have HG := Lib.hid hg
  clear hW hmk hg
  go_wp2_with fail
  go_loopw [6] (fun i wr => ∃ (k : Nat) (cs : List Bool), i = .int .i64 k ∧ k ≤ xs.length ∧ BRow wr g cs ∧ cs.length = xs.length ∧ (∀ q, tr cs q ↔ q < k ∧ (tr xs q ∨ tr ys q)) ∧ Below w.heap.size w wr) (fun i _ => xs.length - (intOf i).toNat)
  case atStart => exact ⟨0, _, rfl, by omega, HR0.out, by simp, fun q => ⟨fun h => absurd h (no_places _ q), fun h => absurd h.1 (by omega)⟩, HBW.out⟩
  case round =>
    obtain ⟨k, cs, rfl, h1, hr, hcl, htr, hb⟩ := hrel
    have HR := Lib.hid hr
    have HCL := Lib.hid hcl
    have HTR := Lib.hid htr
    have HB := Lib.hid hb
    by_cases hk : k < xs.length
    · obtain ⟨bu, ou, rfl, hbu, hyu⟩ := HXU.out (by omega)
      obtain ⟨bv, ov, rfl, hbv, hyv⟩ := HXV.out (by have := HL.out; omega)
      have y0 := cell_below hb hbu (hyu k hk)
      have z0 := cell_below hb hbv (hyv k (by have := HL.out; omega))
      have c0 := hr.cell (show k < cs.length by omega)
      have f0 := hr.frozen k
      have hkk : (k : Int) < xs.length := by omega
      have hk0 : (0 : Int) ≤ k := by omega
      have HSET := Lib.hid (show ∀ b : Bool, b = (xs[k] || ys[k]'(by have := HL.out; omega)) → BRow (wr.setCell ⟨g, k, none⟩ (.bool b)) g (cs.set k b) ∧ (∀ q, tr (cs.set k b) q ↔ q < k + 1 ∧ (tr xs q ∨ tr ys q)) ∧ Below w.heap.size w (wr.setCell ⟨g, k, none⟩ (.bool b)) from fun b hbe => by
        refine ⟨HR.out.set k b, fun q => ?_, HB.out.trans ((Fr.setCell (F := fun q => q = g) wr rfl _).below HB.out.size (fun q hq => by have hq : q = g := hq; have := HG.out; omega))⟩
        rw [tr_setB (by omega), HTR.out]
        constructor
        · rintro (⟨rfl, h⟩ | ⟨h2, h3, h4⟩)
          · refine ⟨by omega, ?_⟩
            rw [tr_get hk, tr_get (by have := HL.out; omega)]
            rw [hbe, Bool.or_eq_true] at h
            exact h
          · exact ⟨by omega, h4⟩
        · rintro ⟨h2, h3⟩
          by_cases hq : q = k
          · subst hq
            rw [tr_get hk, tr_get (by have := HL.out; omega), ← Bool.or_eq_true, ← hbe] at h3
            exact .inl ⟨rfl, h3⟩
          · exact .inr ⟨hq, by omega, h3⟩)
      generalize xs[k] = bx at *
      generalize ys[k]'(by have := HL.out; omega) = by_ at *
      generalize cs[k]'(by have := HCL.out; omega) = ck at c0
      clear hr hcl htr hb hyu hyv
      cases bx
      · go_wp2_with fail
        go_roundw
        case rel => exact ⟨k + 1, cs.set k by_, by go_num, by omega, (HSET.out by_ (by simp)).1, by rw [List.length_set]; exact HCL.out, (HSET.out by_ (by simp)).2.1, (HSET.out by_ (by simp)).2.2⟩
        case measure => simp [intOf]; omega
      · go_wp2_with fail
        go_roundw
        case rel => exact ⟨k + 1, cs.set k true, by go_num, by omega, (HSET.out true (by simp)).1, by rw [List.length_set]; exact HCL.out, (HSET.out true (by simp)).2.1, (HSET.out true (by simp)).2.2⟩
        case measure => simp [intOf]; omega
    · clear hr hcl htr hb
      have hkk : ¬ (k : Int) < xs.length := by omega
      go_wp2_with fail
      go_ret
      refine ⟨g, cs, rfl, HR.out, by rw [HG.out]; exact Nat.le_refl _, HCL.out, fun q => (HTR.out q).trans ⟨fun h => h.2, fun h => ⟨?_, h⟩⟩, HB.out⟩
      have := HL.out
      rcases h with h | h
      · have := tr_lt h; omega
      · have := tr_lt h; omega
end Go.Proofs.Yteamokljlcnicaa

/-
  Ends of the reference. No condition beyond what each theorem names.
-/
set_option linter.unusedVariables false
set_option linter.unusedSimpArgs false
namespace Go.Proofs.Yteamokljlcnicaa
open Go.RowKit

theorem alloc2' (w : World) (o1 o2 : Obj) (W : World) (hW : W = (w.alloc o1).alloc o2) : Below w.heap.size w W ∧ W.heap[w.heap.size]? = some o1 ∧ W.heap[w.heap.size + 1]? = some o2 := by
  have s1 : (w.alloc o1).heap.size = w.heap.size + 1 := by simp
  have b1 := below_alloc1 w o1
  have b2 := below_alloc1 (w.alloc o1) o2
  subst hW
  refine ⟨b1.trans (b2.mono (by omega)), ?_, ?_⟩
  · rw [b2.block _ (by omega)]; exact heap_alloc_new _ _
  · rw [← s1]; exact heap_alloc_new _ _

def EndsPost (w : World) (t : List Int) (x : Nd) (bs : List Bool) (e : Ending) (w' : World) : Prop := ∃ v out, e = .returned v ∧ Bools w' v out ∧ img (M t x) bs out ∧ Below w.heap.size w w'

def EndsAt (t : List Int) (x : Nd) : Prop := ∀ (w : World) (tv fv a b c : Value) (bs : List Bool), bs.length = t.length + 1 → Ints w tv t → Bools w fv bs → NodeIs w x a b c →
    Calls Try.prog 38 #[.agg #[a, b, c], tv, fv] w (EndsPost w t x bs)

/-- bools copied over a row as long -/
theorem copy_bools (w : World) (g n : Nat) (cs bs : List Bool) (fv : Value) (hr : BRow w g cs) (hn : cs.length = n) (hb : Bools w fv bs) (hl : bs.length = n) (h0n : 0 < n) : ∃ p c, fv = .slice p n c ∧ (Builtin.copy_ #[60, 60] 3 #[.slice (some ⟨g, 0, none⟩) n n, .slice p n c]).run Try.prog w = .ok (goInt n) (w.setRow g (bs.map Value.bool).toArray) := by
  obtain ⟨p, c, rfl, hc, hx⟩ := hb.get
  have hc2 := hl
  rw [hl]
  refine ⟨p, c, rfl, ?_⟩
  have hr' : w.heap[g]? = some (.cells (cs.map Value.bool).toArray 4 (0, 0)) := hr
  have hsp : (splice (cs.map Value.bool).toArray.toList 0 (bs.map Value.bool)).toArray = (bs.map Value.bool).toArray := by
    congr 1
    simp only [splice, List.toList_toArray, List.take_zero, List.nil_append, List.length_map, Nat.zero_add]
    rw [List.drop_of_length_le (by simp; omega), List.append_nil]
  have h := run_copy_rows (P := Try.prog) w 60 60 3 4 1 (some ⟨g, 0, none⟩) p n n n c g 0 (cs.map Value.bool).toArray 4 (bs.map Value.bool) n Try.underlying60 (by kernel_rfl) hr' (by simp [Nat.min_def]) (by simp [hl])
    (fun h0 => by
      obtain ⟨b, off, hp, hlt, hy⟩ := hx (by simp at h0; omega)
      refine ⟨rfl, ⟨b, off, none⟩, hp, fun j v hj => ?_⟩
      have hj' : j < bs.length := by have := (List.getElem?_eq_some_iff.1 hj).1; simpa using this
      have := hy j hj'
      rw [show (⟨b, off, none⟩ : Addr).add j = ⟨b, off + j, none⟩ by unfold Addr.add; split <;> simp_all, this]
      simpa [hj'] using hj)
    (fun hp => by
      subst hp
      obtain ⟨b, off, hp, -⟩ := hx (by omega)
      cases hp) (by simp; omega) (fun v hv => by obtain ⟨b, -, rfl⟩ := List.mem_map.1 hv; rfl)
  rw [hsp] at h
  exact h

theorem BRow.copied {w : World} {g : Nat} {cs : List Bool} (h : BRow w g cs) (bs : List Bool) : BRow (w.setRow g (bs.map Value.bool).toArray) g bs := by
  have h' : w.heap[g]? = some (.cells (cs.map Value.bool).toArray 4 (0, 0)) := h
  exact setRow_heap w g _ _ _ (0, 0) h'

theorem BRow.read {w : World} {g n : Nat} {bs : List Bool} (h : BRow w g bs) (hl : bs.length = n) : Bools w (.slice (some ⟨g, 0, none⟩) n n) bs := by
  subst hl; exact h.bools

set_option maxRecDepth 100000 in
set_option maxHeartbeats 8000000 in
theorem ends_0 (t : List Int) (cls : List Int) (ps : List Nd) (hn : t.length ≤ 1000) : EndsAt t (.mk 0 cls ps) := by
  intro w tv fv a b c bs hl ht hf hx
  rw [nodeIs_iff] at hx
  obtain ⟨rfl, hcl, hcb, hpb, hps⟩ := hx
  obtain ⟨pt, capt, rfl, hct, hxt⟩ := ht.get
  obtain ⟨pf, capf, rfl, hcf, hxf⟩ := hf.get
  obtain ⟨pc, capc, rfl, hcc, -⟩ := hcl.get
  obtain ⟨pp, capp, rfl, hcp, hxp⟩ := hps.get
  rw [hl] at hf hcf ⊢
  have HT := Lib.hid ht
  have HF := Lib.hid hf
  have HXF := Lib.hid hxf
  have HXT := Lib.hid hxt
  have HCL := Lib.hid hcl
  have HCB := Lib.hid hcb
  have HXP := Lib.hid hxp
  have HL := Lib.hid hl
  unfold R at hcb hpb
  have hmk := fun w => make_bools 60 Try.underlying60 w ((t.length : Int) + 1) (t.length + 1) (by omega) (by omega)
  clear hl ht hf hcl hps hxt hxf hxp
  go_enter Try.func38, Try.ntmps38
  go_upto_region 2 with fail
  refine abs_wp fun W hW => ?_
  obtain ⟨a0, a1, a2⟩ := alloc2' w _ _ W hW
  obtain ⟨B, hB⟩ : ∃ B, B = w.heap.size := ⟨_, rfl⟩
  have HBX := Lib.hid (show W.heap[B]? = some (.cells #[.int .i64 0, .slice pc cls.length capc, .slice pp ps.length capp] 38) by rw [hB]; exact a1)
  have HROW := Lib.hid (show BRow W (B + 1) (List.replicate (t.length + 1) false) by unfold BRow; rw [hB, a2]; simp)
  have HBW := Lib.hid a0
  rw [← hB]
  have HBE := Lib.hid hB
  obtain ⟨x0, x1, x2⟩ := cells3 HBX.out
  clear hW hB a0 a1 a2 hmk
  obtain ⟨pf', cf', he, hcopy⟩ := copy_bools W (B + 1) (t.length + 1) _ bs (.slice pf (t.length + 1) capf) HROW.out (by simp) (HF.out.to HBW.out (Nat.le_refl _)) HL.out (by omega)
  injection he with e1 e2 e3
  subst e1 e3
  clear e2
  go_upto_region 30 with fail
  refine abs_wp fun W2 hW2 => ?_
  have HROW2 := Lib.hid (show BRow W2 (B + 1) bs by rw [hW2]; exact HROW.out.copied bs)
  have HFR2 := Lib.hid (show Fr (fun q => q = B + 1) W W2 by rw [hW2]; exact Fr.setRow (F := fun q => q = B + 1) _ rfl _)
  have HBW2 := Lib.hid (show Below w.heap.size w W2 from HBW.out.trans (HFR2.out.below HBW.out.size (fun q hq => by have hq : q = B + 1 := hq; have := HBE.out; omega)))
  have HBX2 := Lib.hid ((HFR2.out.block B (at_lt HBX.out) (by omega)).trans HBX.out)
  clear hW2 hcopy x0 x1 x2
  obtain ⟨x0, x1, x2⟩ := cells3 HBX2.out
  go_wp2_with fail
  go_ret
  exact ⟨_, bs, rfl, HROW2.out.read HL.out, img_iff (img_id bs) (fun p q => (M_0 p q).symm), HBW2.out⟩

set_option maxRecDepth 100000 in
set_option maxHeartbeats 8000000 in
theorem ends_2 (t : List Int) (cls : List Int) (ps : List Nd) (hn : t.length ≤ 1000) (ih : ∀ x ∈ ps, EndsAt t x) : EndsAt t (.mk 2 cls ps) := by
  intro w tv fv a b c bs hl ht hf hx
  have IH := Lib.hid ih
  rw [nodeIs_iff] at hx
  obtain ⟨rfl, hcl, hcb, hpb, hps⟩ := hx
  obtain ⟨pt, capt, rfl, hct, hxt⟩ := ht.get
  obtain ⟨pf, capf, rfl, hcf, hxf⟩ := hf.get
  obtain ⟨pc, capc, rfl, hcc, -⟩ := hcl.get
  obtain ⟨pp, capp, rfl, hcp, hxp⟩ := hps.get
  rw [hl] at hf hcf ⊢
  have HT := Lib.hid ht
  have HF := Lib.hid hf
  have HXF := Lib.hid hxf
  have HXT := Lib.hid hxt
  have HCL := Lib.hid hcl
  have HCB := Lib.hid hcb
  have HXP := Lib.hid hxp
  have HL := Lib.hid hl
  unfold R at hcb hpb
  have hmk := fun w => make_bools 60 Try.underlying60 w ((t.length : Int) + 1) (t.length + 1) (by omega) (by omega)
  clear hl ht hf hcl hps hxt hxf hxp ih
  go_enter Try.func38, Try.ntmps38
  go_upto_region 2 with fail
  refine abs_wp fun W hW => ?_
  obtain ⟨a0, a1, a2⟩ := alloc2' w _ _ W hW
  obtain ⟨B, hB⟩ : ∃ B, B = w.heap.size := ⟨_, rfl⟩
  have HBX := Lib.hid (show W.heap[B]? = some (.cells #[.int .i64 2, .slice pc cls.length capc, .slice pp ps.length capp] 38) by rw [hB]; exact a1)
  have HROW := Lib.hid (show BRow W (B + 1) (List.replicate (t.length + 1) false) by unfold BRow; rw [hB, a2]; simp)
  have HBW := Lib.hid a0
  rw [← hB]
  have HBE := Lib.hid hB
  obtain ⟨x0, x1, x2⟩ := cells3 HBX.out
  clear hW hB a0 a1 a2 hmk
  obtain ⟨pf', cf', he, hcopy⟩ := copy_bools W (B + 1) (t.length + 1) _ bs (.slice pf (t.length + 1) capf) HROW.out (by simp) (HF.out.to HBW.out (Nat.le_refl _)) HL.out (by omega)
  injection he with e1 e2 e3
  subst e1 e3
  clear e2
  go_upto_region 13 with fail
  refine abs_wp fun W2 hW2 => ?_
  have HROW2 := Lib.hid (show BRow W2 (B + 1) bs by rw [hW2]; exact HROW.out.copied bs)
  have HFR2 := Lib.hid (show Fr (fun q => q = B + 1) W W2 by rw [hW2]; exact Fr.setRow (F := fun q => q = B + 1) _ rfl _)
  have HBW2 := Lib.hid (show Below w.heap.size w W2 from HBW.out.trans (HFR2.out.below HBW.out.size (fun q hq => by have hq : q = B + 1 := hq; have := HBE.out; omega)))
  have HBX2 := Lib.hid ((HFR2.out.block B (at_lt HBX.out) (by omega)).trans HBX.out)
  clear hW2 hcopy x0 x1 x2
  obtain ⟨x0, x1, x2⟩ := cells3 HBX2.out
  go_wp2_with fail
  go_loopw [7, 10] (fun u i wr => ∃ (k : Nat) (cur : List Bool), i = .int .i64 k ∧ k ≤ ps.length ∧ Bools wr u cur ∧ img (Mseq t (ps.take k)) bs cur ∧ Below W2.heap.size W2 wr) (fun _ i _ => ps.length - (intOf i).toNat)
  case atStart => exact ⟨0, bs, rfl, by omega, HROW2.out.read HL.out, img_iff (img_id bs) (fun p q => by simp [Mseq]), Below.refl _ _⟩
  case round =>
    obtain ⟨k, cur, rfl, h1, hcur, himg, hb⟩ := hrel
    have HCUR := Lib.hid hcur
    have HIMG := Lib.hid himg
    have HB := Lib.hid hb
    have y2 := cell_below hb (at_lt HBX2.out) x2
    have hbw := HBW2.out.trans (hb.mono HBW2.out.size)
    have HBWR := Lib.hid hbw
    by_cases hk : k < ps.length
    · obtain ⟨bb, off, rfl, hbl, hxx⟩ := HXP.out (by omega)
      obtain ⟨x, y, z, c0, c1, c2, hnode⟩ := hxx k hk
      have r0 := cell_below hbw hbl c0
      have r1 := cell_below hbw hbl c1
      have r2 := cell_below hbw hbl c2
      have HCM := Lib.hid (IH.out ps[k] (List.getElem_mem hk) wr _ _ x y z cur (by rw [himg.1, HL.out]) (HT.out.to hbw (Nat.le_refl _)) hcur (hnode.to hbw (Nat.le_refl _)))
      have HTK := Lib.hid (show ps.take (k + 1) = ps.take k ++ [ps[k]] from List.take_succ_eq_append_getElem hk)
      have j0 : (0 : Int) ≤ k := by omega
      have j1 : (k : Int) < ps.length := by omega
      clear hcur himg hb hxx c0 c1 c2 hnode hbw
      go_wp2_with fail
      refine HCM.out.mono ?_
      rintro e w2 ⟨v2, out2, rfl, hbo, himg2, hb2⟩
      have HBO := Lib.hid hbo
      have HI2 := Lib.hid (show img (Mseq t (ps.take (k + 1))) bs out2 from img_iff (img_comp HIMG.out himg2) (fun p q => by rw [HTK.out, Mseq_append]; simp only [Mseq_one]))
      have HB2 := Lib.hid (HB.out.trans (hb2.mono HB.out.size))
      clear hbo himg2 hb2 y2 r0 r1 r2 HCM
      go_wp2_with fail
      go_roundw
      case rel => exact ⟨k + 1, out2, by go_num, by omega, HBO.out, HI2.out, HB2.out⟩
      case measure => simp [intOf]; omega
    · have HTA := Lib.hid (show ps.take k = ps from List.take_of_length_le (by omega))
      obtain ⟨q1, d1, hq⟩ := hcur.get.imp fun _ h => h.imp fun _ h => h.1
      subst hq
      clear hcur himg hb hbw
      go_wp2_with fail
      go_ret
      exact ⟨_, cur, rfl, HCUR.out, img_iff HIMG.out (fun p q => by rw [HTA.out, M_2]), HBWR.out⟩

set_option maxRecDepth 100000 in
set_option maxHeartbeats 8000000 in
theorem ends_3 (t : List Int) (cls : List Int) (ps : List Nd) (hn : t.length ≤ 1000) (ih : ∀ x ∈ ps, EndsAt t x) : EndsAt t (.mk 3 cls ps) := by
  intro w tv fv a b c bs hl ht hf hx
  have IH := Lib.hid ih
  rw [nodeIs_iff] at hx
  obtain ⟨rfl, hcl, hcb, hpb, hps⟩ := hx
  obtain ⟨pt, capt, rfl, hct, hxt⟩ := ht.get
  obtain ⟨pf, capf, rfl, hcf, hxf⟩ := hf.get
  obtain ⟨pc, capc, rfl, hcc, -⟩ := hcl.get
  obtain ⟨pp, capp, rfl, hcp, hxp⟩ := hps.get
  rw [hl] at hf hcf ⊢
  have HT := Lib.hid ht
  have HF := Lib.hid hf
  have HXF := Lib.hid hxf
  have HXT := Lib.hid hxt
  have HCL := Lib.hid hcl
  have HCB := Lib.hid hcb
  have HXP := Lib.hid hxp
  have HL := Lib.hid hl
  unfold R at hcb hpb
  have hmk := fun w => make_bools 60 Try.underlying60 w ((t.length : Int) + 1) (t.length + 1) (by omega) (by omega)
  clear hl ht hf hcl hps hxt hxf hxp ih
  go_enter Try.func38, Try.ntmps38
  go_upto_region 2 with fail
  refine abs_wp fun W hW => ?_
  obtain ⟨a0, a1, a2⟩ := alloc2' w _ _ W hW
  obtain ⟨B, hB⟩ : ∃ B, B = w.heap.size := ⟨_, rfl⟩
  have HBX := Lib.hid (show W.heap[B]? = some (.cells #[.int .i64 3, .slice pc cls.length capc, .slice pp ps.length capp] 38) by rw [hB]; exact a1)
  have HROW := Lib.hid (show BRow W (B + 1) (List.replicate (t.length + 1) false) by unfold BRow; rw [hB, a2]; simp)
  have HBW := Lib.hid a0
  rw [← hB]
  have HBE := Lib.hid hB
  obtain ⟨x0, x1, x2⟩ := cells3 HBX.out
  clear hW hB a0 a1 a2 hmk
  go_wp2_with fail
  go_loopw [7, 11] (fun u i wr => ∃ (k : Nat) (cur : List Bool), i = .int .i64 k ∧ k ≤ ps.length ∧ Bools wr u cur ∧ img (Malt t (ps.take k)) bs cur ∧ Below W.heap.size W wr) (fun _ i _ => ps.length - (intOf i).toNat)
  case atStart => exact ⟨0, _, rfl, by omega, HROW.out.read (by simp), img_no HL.out (fun p q h => by simp [Malt] at h), Below.refl _ _⟩
  case round =>
    obtain ⟨k, cur, rfl, h1, hcur, himg, hb⟩ := hrel
    have HCUR := Lib.hid hcur
    have HIMG := Lib.hid himg
    have HB := Lib.hid hb
    have y2 := cell_below hb (at_lt HBX.out) x2
    have hbw := HBW.out.trans (hb.mono HBW.out.size)
    have HBWR := Lib.hid hbw
    obtain ⟨q1, d1, hq⟩ := hcur.get.imp fun _ h => h.imp fun _ h => h.1
    subst hq
    by_cases hk : k < ps.length
    · obtain ⟨bb, off, rfl, hbl, hxx⟩ := HXP.out (by omega)
      obtain ⟨x, y, z, c0, c1, c2, hnode⟩ := hxx k hk
      have r0 := cell_below hbw hbl c0
      have r1 := cell_below hbw hbl c1
      have r2 := cell_below hbw hbl c2
      have HCM := Lib.hid (IH.out ps[k] (List.getElem_mem hk) wr _ _ x y z bs HL.out (HT.out.to hbw (Nat.le_refl _)) (HF.out.to hbw (Nat.le_refl _)) (hnode.to hbw (Nat.le_refl _)))
      have HTK := Lib.hid (show ∀ p q, Malt t (ps.take (k + 1)) p q ↔ Malt t (ps.take k) p q ∨ M t ps[k] p q from Malt_take hk)
      have j0 : (0 : Int) ≤ k := by omega
      have j1 : (k : Int) < ps.length := by omega
      clear hcur himg hb hxx c0 c1 c2 hnode hbw
      go_wp2_with fail
      refine HCM.out.mono ?_
      rintro e w2 ⟨v2, out2, rfl, hbo, himg2, hb2⟩
      have HIM2 := Lib.hid himg2
      have hcl : cur.length = t.length + 1 := HIMG.out.1.trans HL.out
      have HOR := Lib.hid (or_any w2 _ _ cur out2 (himg2.1.trans HIMG.out.1.symm) (by omega) (HCUR.out.to hb2 (Nat.le_refl _)) hbo)
      have HB2 := Lib.hid (HB.out.trans (hb2.mono HB.out.size))
      clear hbo himg2 hb2 y2 r0 r1 r2 HCM hcl
      go_wp2_with fail
      refine HOR.out.mono ?_
      rintro e w3 ⟨g3, cs3, rfl, hr3, -, hl3, ht3, hb3⟩
      have HREL := Lib.hid (show Bools w3 (.slice (some ⟨g3, 0, none⟩) cur.length cur.length) cs3 ∧ img (Malt t (ps.take (k + 1))) bs cs3 ∧ Below W.heap.size W w3 from
        ⟨hr3.read hl3, img_iff (img_or HIMG.out HIM2.out hl3 ht3) (fun p q => (HTK.out p q).symm), HB2.out.trans (hb3.mono HB2.out.size)⟩)
      clear hr3 hl3 ht3 hb3 HOR
      go_wp2_with fail
      go_roundw
      case rel => exact ⟨k + 1, cs3, by go_num, by omega, HREL.out.1, HREL.out.2.1, HREL.out.2.2⟩
      case measure => simp [intOf]; omega
    · have HTA := Lib.hid (show ps.take k = ps from List.take_of_length_le (by omega))
      clear hcur himg hb hbw
      go_wp2_with fail
      go_ret
      exact ⟨_, cur, rfl, HCUR.out, img_iff HIMG.out (fun p q => by rw [HTA.out, M_3]), HBWR.out⟩

end Go.Proofs.Yteamokljlcnicaa

/-
  Ends of the reference, on: sets, one or none, any number; all. No condition beyond what each theorem names.
-/
set_option linter.unusedVariables false
set_option linter.unusedSimpArgs false
namespace Go.Proofs.Yteamokljlcnicaa
open Go.RowKit

set_option maxRecDepth 100000 in
set_option maxHeartbeats 8000000 in
theorem ends_5 (t : List Int) (cls : List Int) (x : Nd) (hn : t.length ≤ 1000) (ih : EndsAt t x) : EndsAt t (.mk 5 cls [x]) := by
  intro w tv fv a b c bs hl ht hf hx
  have IH := Lib.hid ih
  rw [nodeIs_iff] at hx
  obtain ⟨rfl, hcl, hcb, hpb, hps⟩ := hx
  obtain ⟨pt, capt, rfl, hct, hxt⟩ := ht.get
  obtain ⟨pf, capf, rfl, hcf, hxf⟩ := hf.get
  obtain ⟨pc, capc, rfl, hcc, -⟩ := hcl.get
  obtain ⟨pp, capp, rfl, hcp, hxp⟩ := hps.get
  rw [hl] at hf hcf ⊢
  have HT := Lib.hid ht
  have HF := Lib.hid hf
  have HXF := Lib.hid hxf
  have HXT := Lib.hid hxt
  have HCL := Lib.hid hcl
  have HCB := Lib.hid hcb
  have HXP := Lib.hid hxp
  have HL := Lib.hid hl
  unfold R at hcb hpb
  have hmk := fun w => make_bools 60 Try.underlying60 w ((t.length : Int) + 1) (t.length + 1) (by omega) (by omega)
  clear hl ht hf hcl hps hxt hxf hxp ih
  go_enter Try.func38, Try.ntmps38
  go_upto_region 2 with fail
  refine abs_wp fun W hW => ?_
  obtain ⟨a0, a1, a2⟩ := alloc2' w _ _ W hW
  obtain ⟨B, hB⟩ : ∃ B, B = w.heap.size := ⟨_, rfl⟩
  have HBX := Lib.hid (show W.heap[B]? = some (.cells #[.int .i64 5, .slice pc cls.length capc, .slice pp [x].length capp] 38) by rw [hB]; exact a1)
  have HROW := Lib.hid (show BRow W (B + 1) (List.replicate (t.length + 1) false) by unfold BRow; rw [hB, a2]; simp)
  have HBW := Lib.hid a0
  rw [← hB]
  have HBE := Lib.hid hB
  obtain ⟨x0, x1, x2⟩ := cells3 HBX.out
  clear hW hB a0 a1 a2 hmk
  obtain ⟨bb, off, rfl, hbl, hxx⟩ := HXP.out (by simp)
  obtain ⟨x', y, z, c0, c1, c2, hnode⟩ := hxx 0 (by simp)
  simp only [Nat.zero_mul, Nat.add_zero] at c0 c1 c2
  have r0 := cell_below HBW.out hbl c0
  have r1 := cell_below HBW.out hbl c1
  have r2 := cell_below HBW.out hbl c2
  have HCM := Lib.hid (IH.out W _ _ x' y z bs HL.out (HT.out.to HBW.out (Nat.le_refl _)) (HF.out.to HBW.out (Nat.le_refl _)) (hnode.to HBW.out (Nat.le_refl _)))
  clear hxx c0 c1 c2 hnode
  go_wp2_with fail
  refine HCM.out.mono ?_
  rintro e w2 ⟨v2, out2, rfl, hbo, himg2, hb2⟩
  have HIM2 := Lib.hid himg2
  have HOR := Lib.hid (or_any w2 (.slice pf (t.length + 1) capf) v2 bs out2 himg2.1 (by rw [HL.out]; omega) ((HF.out.to HBW.out (Nat.le_refl _)).to hb2 (Nat.le_refl _)) hbo)
  have HB2 := Lib.hid (HBW.out.trans (hb2.mono HBW.out.size))
  clear hbo himg2 hb2 r0 r1 r2 HCM
  go_wp2_with fail
  refine HOR.out.mono ?_
  rintro e w3 ⟨g3, cs3, rfl, hr3, -, hl3, ht3, hb3⟩
  have HREL := Lib.hid (show Bools w3 (.slice (some ⟨g3, 0, none⟩) bs.length bs.length) cs3 ∧ img (M t (.mk 5 cls [x])) bs cs3 ∧ Below w.heap.size w w3 from
    ⟨hr3.read hl3, img_iff (img_or (img_id bs) HIM2.out hl3 ht3) (fun p q => by rw [M_5, Malt_one]; simp), HB2.out.trans (hb3.mono HB2.out.size)⟩)
  clear hr3 hl3 ht3 hb3 HOR
  go_wp2_with fail
  go_ret
  exact ⟨_, cs3, rfl, HREL.out.1, HREL.out.2.1, HREL.out.2.2⟩

theorem count_sub : ∀ {bs cs : List Bool}, cs.length = bs.length → (∀ q, tr bs q → tr cs q) → bs.count true ≤ cs.count true ∧ (cs.count true ≤ bs.count true → bs = cs)
  | [], cs, h, _ => by have := List.eq_nil_of_length_eq_zero (by simpa using h); subst this; simp
  | b :: r, [], h, _ => by simp at h
  | b :: r, c :: s, h, g => by
    obtain ⟨i1, i2⟩ := count_sub (bs := r) (cs := s) (by simpa using h) (fun k hk => by simpa [tr] using g (k + 1) (by simpa [tr] using hk))
    simp only [List.count_cons]
    have h0 := g 0
    cases b <;> cases c <;> simp [tr] at h0 ⊢
    · exact ⟨i1, fun h => i2 h⟩
    · exact ⟨by omega, by omega⟩
    · exact ⟨i1, fun h => i2 h⟩

/-- the set grows by what the part leads to, and all of it is reached -/
def StarTo (t : List Int) (x : Nd) (bs cur : List Bool) : Prop := cur.length = bs.length ∧ (∀ q, tr bs q → tr cur q) ∧ ∀ q, tr cur q → ∃ p, tr bs p ∧ Star (M t x) p q

/-- what came before: none, or a set out of which this one was made -/
def Before (t : List Int) (x : Nd) (bs cur : List Bool) (n : Int) : Prop := n = -1 ∨ ∃ prev out : List Bool, n = prev.count true ∧ cur.length = prev.length ∧ (∀ q, tr cur q ↔ tr prev q ∨ tr out q) ∧ img (M t x) prev out

theorem star_done {t : List Int} {x : Nd} {bs cur : List Bool} {n : Int} (h : StarTo t x bs cur) (hb : Before t x bs cur n) (hn : ¬ n < (cur.count true : Nat)) : img (Star (M t x)) bs cur := by
  rcases hb with rfl | ⟨prev, out, rfl, hl, ho, hi⟩
  · omega
  · have he : prev = cur := (count_sub hl (fun q hq => (ho q).2 (.inl hq))).2 (by omega)
    subst he
    have key : ∀ {p q : Nat}, Star (M t x) p q → tr bs p → tr prev q := by
      intro p q h2 h1
      induction h2 with
      | refl => exact h.2.1 _ h1
      | step _ h3 ih => exact (ho _).2 (.inr ((hi.2 _).2 ⟨_, ih, h3⟩))
    exact ⟨h.1, fun q => ⟨h.2.2 q, fun ⟨p, h1, h2⟩ => key h2 h1⟩⟩

theorem star_go {t : List Int} {x : Nd} {bs cur out cs : List Bool} (h : StarTo t x bs cur) (hi : img (M t x) cur out) (hl : cs.length = cur.length) (ho : ∀ q, tr cs q ↔ tr cur q ∨ tr out q) : StarTo t x bs cs ∧ Before t x bs cs (cur.count true : Nat) := by
  refine ⟨⟨hl.trans h.1, fun q hq => (ho q).2 (.inl (h.2.1 q hq)), fun q hq => ?_⟩, .inr ⟨cur, out, rfl, hl, ho, hi⟩⟩
  rcases (ho q).1 hq with hq | hq
  · exact h.2.2 q hq
  · obtain ⟨m, h1, h2⟩ := (hi.2 q).1 hq
    obtain ⟨p, h3, h4⟩ := h.2.2 m h1
    exact ⟨p, h3, .step h4 h2⟩

set_option maxRecDepth 100000 in
set_option maxHeartbeats 8000000 in
theorem ends_4 (t : List Int) (cls : List Int) (x : Nd) (hn : t.length ≤ 1000) (ih : EndsAt t x) : EndsAt t (.mk 4 cls [x]) := by
  intro w tv fv a b c bs hl ht hf hx
  have IH := Lib.hid ih
  rw [nodeIs_iff] at hx
  obtain ⟨rfl, hcl, hcb, hpb, hps⟩ := hx
  obtain ⟨pt, capt, rfl, hct, hxt⟩ := ht.get
  obtain ⟨pf, capf, rfl, hcf, hxf⟩ := hf.get
  obtain ⟨pc, capc, rfl, hcc, -⟩ := hcl.get
  obtain ⟨pp, capp, rfl, hcp, hxp⟩ := hps.get
  rw [hl] at hf hcf ⊢
  have HT := Lib.hid ht
  have HF := Lib.hid hf
  have HXF := Lib.hid hxf
  have HXT := Lib.hid hxt
  have HCL := Lib.hid hcl
  have HCB := Lib.hid hcb
  have HXP := Lib.hid hxp
  have HL := Lib.hid hl
  unfold R at hcb hpb
  have hmk := fun w => make_bools 60 Try.underlying60 w ((t.length : Int) + 1) (t.length + 1) (by omega) (by omega)
  clear hl ht hf hcl hps hxt hxf hxp ih
  go_enter Try.func38, Try.ntmps38
  go_upto_region 2 with fail
  refine abs_wp fun W hW => ?_
  obtain ⟨a0, a1, a2⟩ := alloc2' w _ _ W hW
  obtain ⟨B, hB⟩ : ∃ B, B = w.heap.size := ⟨_, rfl⟩
  have HBX := Lib.hid (show W.heap[B]? = some (.cells #[.int .i64 4, .slice pc cls.length capc, .slice pp [x].length capp] 38) by rw [hB]; exact a1)
  have HROW := Lib.hid (show BRow W (B + 1) (List.replicate (t.length + 1) false) by unfold BRow; rw [hB, a2]; simp)
  have HBW := Lib.hid a0
  rw [← hB]
  have HBE := Lib.hid hB
  obtain ⟨x0, x1, x2⟩ := cells3 HBX.out
  clear hW hB a0 a1 a2 hmk
  obtain ⟨pf', cf', he, hcopy⟩ := copy_bools W (B + 1) (t.length + 1) _ bs (.slice pf (t.length + 1) capf) HROW.out (by simp) (HF.out.to HBW.out (Nat.le_refl _)) HL.out (by omega)
  injection he with e1 e2 e3
  subst e1 e3
  clear e2
  obtain ⟨bb, off, rfl, hbl, hxx⟩ := HXP.out (by simp)
  obtain ⟨x', y, z, c0, c1, c2, hnode⟩ := hxx 0 (by simp)
  simp only [Nat.zero_mul, Nat.add_zero] at c0 c1 c2
  have HC0 := Lib.hid c0
  have HC1 := Lib.hid c1
  have HC2 := Lib.hid c2
  have HND := Lib.hid hnode
  clear hxx c0 c1 c2 hnode
  go_upto_region 24 with fail
  refine abs_wp fun W2 hW2 => ?_
  have HROW2 := Lib.hid (show BRow W2 (B + 1) bs by rw [hW2]; exact HROW.out.copied bs)
  have HFR2 := Lib.hid (show Fr (fun q => q = B + 1) W W2 by rw [hW2]; exact Fr.setRow (F := fun q => q = B + 1) _ rfl _)
  have HBW2 := Lib.hid (show Below w.heap.size w W2 from HBW.out.trans (HFR2.out.below HBW.out.size (fun q hq => by have hq : q = B + 1 := hq; have := HBE.out; omega)))
  have HBX2 := Lib.hid ((HFR2.out.block B (at_lt HBX.out) (by omega)).trans HBX.out)
  clear hW2 hcopy x0 x1 x2
  obtain ⟨x0, x1, x2⟩ := cells3 HBX2.out
  go_wp2_with fail
  go_loopw [7, 12] (fun u i wr => ∃ (n : Int) (cur : List Bool), i = .int .i64 n ∧ -1 ≤ n ∧ n ≤ t.length + 1 ∧ Bools wr u cur ∧ StarTo t x bs cur ∧ Before t x bs cur n ∧ Below W2.heap.size W2 wr) (fun _ i _ => ((t.length : Int) + 2 - intOf i).toNat)
  case atStart => exact ⟨-1, bs, rfl, by omega, by omega, HROW2.out.read HL.out, ⟨rfl, fun _ h => h, fun q h => ⟨q, h, .refl _⟩⟩, .inl rfl, Below.refl _ _⟩
  case round =>
    obtain ⟨n, cur, rfl, n1, n2, hcur, hst, hbf, hb⟩ := hrel
    have HCUR := Lib.hid hcur
    have HST := Lib.hid hst
    have HBF := Lib.hid hbf
    have HB := Lib.hid hb
    have y2 := cell_below hb (at_lt HBX2.out) x2
    have hbw := HBW2.out.trans (hb.mono HBW2.out.size)
    have HBWR := Lib.hid hbw
    obtain ⟨q1, d1, hq⟩ := hcur.get.imp fun _ h => h.imp fun _ h => h.1
    subst hq
    have hcl : cur.length ≤ 1001 := by have := hst.1; have := HL.out; omega
    have HMANY := Lib.hid (fun (W' : World) (h : Below wr.heap.size wr W') => many_any W' (.slice q1 cur.length d1) cur (by omega) (HCUR.out.to h (Nat.le_refl _)))
    have HCT := Lib.hid (show cur.count true ≤ t.length + 1 by have h1 := List.count_le_length (a := true) (l := cur); have := hst.1; have := HL.out; omega)
    obtain ⟨m, hm⟩ : ∃ m : Nat, m = cur.count true := ⟨_, rfl⟩
    rw [← hm] at HMANY HCT
    have HM := Lib.hid hm
    clear hcur hst hbf hb hm
    go_wp2_with fail
    refine (HMANY.out wr (Below.refl _ _)).mono ?_
    rintro e wz ⟨rfl, rfl⟩
    by_cases hlt : n < (m : Int)
    · have r0 := cell_below hbw hbl HC0.out
      have r1 := cell_below hbw hbl HC1.out
      have r2 := cell_below hbw hbl HC2.out
      have HCM := Lib.hid (IH.out wr _ _ x' y z cur (HST.out.1.trans HL.out) (HT.out.to hbw (Nat.le_refl _)) HCUR.out (HND.out.to hbw (Nat.le_refl _)))
      clear hbw
      go_wp2_with fail
      refine (HMANY.out wr (Below.refl _ _)).mono ?_
      rintro e wz ⟨rfl, rfl⟩
      go_wp2_with fail
      refine HCM.out.mono ?_
      rintro e w2 ⟨v2, out2, rfl, hbo, himg2, hb2⟩
      have HIM2 := Lib.hid himg2
      have HOR := Lib.hid (or_any w2 _ _ cur out2 himg2.1 (by omega) (HCUR.out.to hb2 (Nat.le_refl _)) hbo)
      have HB2 := Lib.hid (HB.out.trans (hb2.mono HB.out.size))
      clear hbo himg2 hb2 y2 r0 r1 r2 HCM
      go_wp2_with fail
      refine HOR.out.mono ?_
      rintro e w3 ⟨g3, cs3, rfl, hr3, -, hl3, ht3, hb3⟩
      have HREL := Lib.hid (show Bools w3 (.slice (some ⟨g3, 0, none⟩) cur.length cur.length) cs3 ∧ (StarTo t x bs cs3 ∧ Before t x bs cs3 (m : Int)) ∧ Below W2.heap.size W2 w3 from
        ⟨hr3.read hl3, by rw [HM.out]; exact star_go HST.out HIM2.out hl3 ht3, HB2.out.trans (hb3.mono HB2.out.size)⟩)
      have HCT2 := HCT.out
      clear hr3 hl3 ht3 hb3 HOR
      go_wp2_with fail
      go_roundw
      case rel => exact ⟨(m : Int), cs3, rfl, by omega, by omega, HREL.out.1, HREL.out.2.1.1, HREL.out.2.1.2, HREL.out.2.2⟩
      case measure => (simp [intOf]; try omega)
    · have HIMG := Lib.hid (star_done HST.out HBF.out (by rw [← HM.out]; exact hlt))
      clear hbw
      go_wp2_with fail
      go_ret
      exact ⟨_, cur, rfl, HCUR.out, img_iff HIMG.out (fun p q => by
        rw [M_4]
        exact ⟨fun h => ⟨rfl, h.mono fun a b h => Malt_one.2 h⟩, fun h => h.2.mono fun a b h => Malt_one.1 h⟩), HBWR.out⟩

set_option maxRecDepth 100000 in
set_option maxHeartbeats 8000000 in
theorem ends_1 (t : List Int) (cls : List Int) (ps : List Nd) (hn : t.length ≤ 1000) : EndsAt t (.mk 1 cls ps) := by
  intro w tv fv a b c bs hl ht hf hx
  rw [nodeIs_iff] at hx
  obtain ⟨rfl, hcl, hcb, hpb, hps⟩ := hx
  obtain ⟨pt, capt, rfl, hct, hxt⟩ := ht.get
  obtain ⟨pf, capf, rfl, hcf, hxf⟩ := hf.get
  obtain ⟨pc, capc, rfl, hcc, -⟩ := hcl.get
  obtain ⟨pp, capp, rfl, hcp, hxp⟩ := hps.get
  rw [hl] at hf hcf ⊢
  have HT := Lib.hid ht
  have HF := Lib.hid hf
  have HXF := Lib.hid hxf
  have HXT := Lib.hid hxt
  have HCL := Lib.hid hcl
  have HCB := Lib.hid hcb
  have HXP := Lib.hid hxp
  have HL := Lib.hid hl
  unfold R at hcb hpb
  have hmk := fun w => make_bools 60 Try.underlying60 w ((t.length : Int) + 1) (t.length + 1) (by omega) (by omega)
  clear hl ht hf hcl hps hxt hxf hxp
  go_enter Try.func38, Try.ntmps38
  go_upto_region 2 with fail
  refine abs_wp fun W hW => ?_
  obtain ⟨a0, a1, a2⟩ := alloc2' w _ _ W hW
  obtain ⟨B, hB⟩ : ∃ B, B = w.heap.size := ⟨_, rfl⟩
  have HBX := Lib.hid (show W.heap[B]? = some (.cells #[.int .i64 1, .slice pc cls.length capc, .slice pp ps.length capp] 38) by rw [hB]; exact a1)
  have HROW := Lib.hid (show BRow W (B + 1) (List.replicate (t.length + 1) false) by unfold BRow; rw [hB, a2]; simp)
  have HBW := Lib.hid a0
  rw [← hB]
  have HBE := Lib.hid hB
  obtain ⟨x0, x1, x2⟩ := cells3 HBX.out
  clear hW hB a0 a1 a2 hmk
  go_wp2_with fail
  go_loopw [8] (fun i wr => ∃ (k : Nat) (cs : List Bool), i = .int .i64 k ∧ k ≤ t.length ∧ BRow wr (B + 1) cs ∧ cs.length = t.length + 1 ∧ (∀ q, tr cs q ↔ ∃ p, p < k ∧ tr bs p ∧ one t cls p q) ∧ wr.heap[B]? = some (.cells #[.int .i64 1, .slice pc cls.length capc, .slice pp ps.length capp] 38) ∧ Below w.heap.size w wr) (fun i _ => t.length - (intOf i).toNat)
  case atStart => exact ⟨0, _, rfl, by omega, HROW.out, by simp, fun q => ⟨fun h => absurd h (no_places _ q), fun ⟨p, h, _⟩ => absurd h (by omega)⟩, HBX.out, HBW.out⟩
  case round =>
    obtain ⟨k, cs, rfl, h1, hr, hcl, htr, hbx, hb⟩ := hrel
    have HR := Lib.hid hr
    have HCLN := Lib.hid hcl
    have HTR := Lib.hid htr
    have HBXR := Lib.hid hbx
    have HB := Lib.hid hb
    by_cases hk : k < t.length
    · obtain ⟨bt, ot, rfl, hbt, hyt⟩ := HXT.out (by omega)
      obtain ⟨bf, of, rfl, hbf, hyf⟩ := HXF.out (by have := HL.out; omega)
      have Y0 := Lib.hid (cell_below hb hbt (hyt k hk))
      have F0 := Lib.hid (cell_below hb hbf (hyf k (by have := HL.out; omega)))
      have HHAS := Lib.hid (has_any wr.drew (.slice pc cls.length capc) cls t[k] (by omega) ((HCL.out.to hb (Nat.le_refl _)).to (Below.refl _ _).drew (Nat.le_refl _)))
      have HSET := Lib.hid (show ∀ b : Bool, b = (decide (t[k] ∈ cls) && bs[k]'(by have := HL.out; omega)) → BRow (wr.drew.setCell ⟨B + 1, k + 1, none⟩ (.bool b)) (B + 1) (cs.set (k + 1) b) ∧ (∀ q, tr (cs.set (k + 1) b) q ↔ ∃ p, p < k + 1 ∧ tr bs p ∧ one t cls p q) ∧ (wr.drew.setCell ⟨B + 1, k + 1, none⟩ (.bool b)).heap[B]? = some (.cells #[.int .i64 1, .slice pc cls.length capc, .slice pp ps.length capp] 38) ∧ Below w.heap.size w (wr.drew.setCell ⟨B + 1, k + 1, none⟩ (.bool b)) from fun b hbe => by
        have hfr : Fr (fun q => q = B + 1) wr.drew (wr.drew.setCell ⟨B + 1, k + 1, none⟩ (.bool b)) := Fr.setCell (F := fun q => q = B + 1) _ rfl _
        have hrd : BRow wr.drew (B + 1) cs := HR.out
        have hbd : Below w.heap.size w wr.drew := HB.out.drew
        refine ⟨hrd.set (k + 1) b, fun q => ?_, (hfr.block B (at_lt HBXR.out) (by omega)).trans HBXR.out, hbd.trans (hfr.below hbd.size (fun q hq => by have hq : q = B + 1 := hq; have := HBE.out; omega))⟩
        rw [tr_setB (by have := HCLN.out; omega), HTR.out]
        constructor
        · rintro (⟨rfl, h⟩ | ⟨h2, p, h3, h4, h5⟩)
          · rw [h] at hbe
            have hbe := hbe.symm
            rw [Bool.and_eq_true, decide_eq_true_iff] at hbe
            exact ⟨k, by omega, (tr_get _).2 hbe.2, rfl, t[k], by simp [hk], hbe.1⟩
          · exact ⟨p, by omega, h4, h5⟩
        · rintro ⟨p, h3, h4, h5⟩
          by_cases hp : p = k
          · subst hp
            obtain ⟨rfl, c, h6, h7⟩ := h5
            rw [List.getElem?_eq_getElem hk] at h6
            have h6 := Option.some.inj h6
            refine .inl ⟨rfl, ?_⟩
            rw [hbe, Bool.and_eq_true, decide_eq_true_iff]
            exact ⟨by rw [h6]; exact h7, (tr_get _).1 h4⟩
          · have h8 := h5.1
            exact .inr ⟨by omega, p, by omega, h4, h5⟩)
      have hbtl : bt < wr.heap.size := Nat.lt_of_lt_of_le hbt hb.size
      have hbfl : bf < wr.heap.size := Nat.lt_of_lt_of_le hbf hb.size
      have hc0 := hr.cell (show k + 1 < cs.length by omega)
      have hf0 := hr.frozen (k + 1)
      have hki : (k : Int) < (t.length : Int) := by omega
      have hki2 : k < t.length + 1 := by omega
      have hki3 : k + 1 < t.length + 1 := by omega
      have hki4 : (k : Int) + 1 < (t.length : Int) + 1 := by omega
      have hki5 : k ≤ t.length := by omega
      have hki6 : (k : Int) < (t.length : Int) + 1 := by omega
      have hk0 : (0 : Int) ≤ k := by omega
      generalize cs[k + 1]'(by have := HCLN.out; omega) = ck at hc0
      generalize t[k] = tk at *
      generalize bs[k]'(by have := HL.out; omega) = fk at *
      clear hr hcl htr hbx hb hyt hyf
      go_upto_region 9 with fail
      refine wp_region_plan (fun W' => W'.heap[B]? = some (.cells #[.int .i64 1, .slice pc cls.length capc, .slice pp ps.length capp] 38) ∧ W'.cell? ⟨bt, ot + k, none⟩ = some (.int .i64 tk)) (.reads [0, 1, 2, 3, 4, 5] (.one 6 (.reads [7] .done))) 121 (by kernel_rfl) (by kernel_rfl) rfl (fun _ _ _ _ _ h => h) ⟨HBXR.out, Y0.out⟩ ?_
      apply plan_reads
      · intro W' hW'
        obtain ⟨s0, s1⟩ := hW'
        have s2 := (cells3 s0).2.1
        repeat (refine wpRead_step (fun K hK => ?_); go_simp; refine hK _ ?_; clear hK K)
        exact wpRead_nil rfl
      refine plan_one rfl ?_
      go_wp2_with fail
      refine HHAS.out.mono ?_
      rintro e w2 ⟨rfl, rfl⟩
      go_wp2_with fail
      refine Then.mk ⟨HBXR.out, Y0.out⟩ ?_
      apply plan_reads
      · intro W' hW'
        repeat (refine wpRead_step (fun K hK => ?_); go_simp; refine hK _ ?_; clear hK K)
        exact wpRead_nil rfl
      refine plan_done ?_
      have f0 : wr.drew.cell? ⟨bf, of + k, none⟩ = some (.bool fk) := F0.out
      have hc1 : wr.drew.cell? ⟨B + 1, k + 1, none⟩ = some (.bool ck) := hc0
      have hf1 : wr.drew.frozen? ⟨B + 1, k + 1, none⟩ = false := hf0
      clear hc0 hf0
      generalize decide (tk ∈ cls) = dk at *
      cases fk
      · go_wp2_with fail
        go_roundw
        case rel => exact ⟨k + 1, cs.set (k + 1) false, by go_num, by omega, (HSET.out false (by simp)).1, by rw [List.length_set]; exact HCLN.out, (HSET.out false (by simp)).2.1, (HSET.out false (by simp)).2.2.1, (HSET.out false (by simp)).2.2.2⟩
        case measure => simp [intOf]; omega
      · go_wp2_with fail
        go_roundw
        case rel => exact ⟨k + 1, cs.set (k + 1) dk, by go_num, by omega, (HSET.out dk (by simp)).1, by rw [List.length_set]; exact HCLN.out, (HSET.out dk (by simp)).2.1, (HSET.out dk (by simp)).2.2.1, (HSET.out dk (by simp)).2.2.2⟩
        case measure => simp [intOf]; omega
    · have HIMG := Lib.hid (show img (M t (.mk 1 cls ps)) bs cs from ⟨HCLN.out.trans HL.out.symm, fun q => by
        rw [HTR.out]
        constructor
        · rintro ⟨p, -, h2, h3⟩; exact ⟨p, h2, (M_1 _ _).2 h3⟩
        · rintro ⟨p, h2, h3⟩
          have h4 := (M_1 _ _).1 h3
          obtain ⟨h5, c, h6, h7⟩ := h4
          have := (List.getElem?_eq_some_iff.1 h6).1
          exact ⟨p, by omega, h2, h5, c, h6, h7⟩⟩)
      clear hr hcl htr hbx hb
      go_wp2_with fail
      go_ret
      exact ⟨_, cs, rfl, HR.out.read HCLN.out, HIMG.out, HB.out⟩

theorem ends_any (t : List Int) (hn : t.length ≤ 1000) : ∀ (x : Nd), Good x → EndsAt t x
  | .mk op cls ps, hg => by
    unfold Good at hg
    obtain ⟨hop, -, hone, hps⟩ := hg
    have ih : ∀ x ∈ ps, EndsAt t x := fun x hx => ends_any t hn x (GoodL_mem hps x hx)
    rcases hop with rfl | rfl | rfl | rfl | rfl | rfl
    · exact ends_0 t cls ps hn
    · exact ends_1 t cls ps hn
    · exact ends_2 t cls ps hn ih
    · exact ends_3 t cls ps hn ih
    · match ps, hone (.inl rfl), hps, ih with
      | [p], _, hps, ih => exact ends_4 t cls p hn (ih p (by simp))
    · match ps, hone (.inr rfl), hps, ih with
      | [p], _, hps, ih => exact ends_5 t cls p hn (ih p (by simp))
  termination_by x => SizeOf.sizeOf x
  decreasing_by
    have := List.sizeOf_lt_of_mem hx
    simp; omega
end Go.Proofs.Yteamokljlcnicaa

/-
  dfa: arguments of several expressions; what a built machine's Run tells, bit by bit (DfaEither, DfaRuns). No condition beyond what each theorem names.
-/
set_option linter.unusedVariables false
set_option linter.unusedSimpArgs false
namespace Go.Proofs.Yteamokljlcnicaa
open Go.RowKit Classical

theorem exprs_block {w : World} {T : TypeId} {n : Nat} (L : List (Nd × Bool)) (rows : List (List Value)) (cs : List Value) (hcs : rows.flatten = cs) (hn : n = L.length) (hl : rows.length = L.length) (h2 : ∀ i (h : i < L.length), ∃ row, rows[i]? = some row ∧ exprE w L[i] row) :
    ReadL (exprE (w.alloc (.cells cs.toArray T))) 4 (w.alloc (.cells cs.toArray T)) (.slice (some ⟨w.heap.size, 0, none⟩) n n) L := by
  refine ReadL.block (cs := cs) (heap_alloc_new _ _) L rows hcs hn hl (fun r hr => ?_) (fun i hi => ?_)
  · obtain ⟨i, hi, rfl⟩ := List.getElem_of_mem hr
    obtain ⟨row, h3, a, b, c, rfl, h4⟩ := h2 i (by omega)
    rw [List.getElem?_eq_getElem hi] at h3
    rw [Option.some.inj h3]
    obtain ⟨op, pp, l, c1, q, m, d, rfl, rfl, rfl⟩ := h4.form
    exact ⟨rfl, by simp [Value.oneCell']⟩
  · obtain ⟨row, h3, a, b, c, rfl, h4⟩ := h2 i hi
    exact ⟨_, h3, a, b, c, rfl, h4.to (below_alloc1 _ _) (Nat.le_refl _)⟩

theorem natsR_back {row : List Int} (h : ∀ c ∈ row, 0 ≤ c) : (natsR row).map (fun (c : Nat) => (c : Int)) = row := by
  unfold natsR
  rw [List.map_map]
  conv => rhs; rw [← List.map_id row]
  refine List.map_congr_left fun c hc => ?_
  have := h c hc
  show ((c.toNat : Nat) : Int) = id c
  simp; omega

/-- what the state behind the first j tells -/
theorem run_bits {L : List (Nd × Bool)} {N : List (List Nat)} {O : List Nat} {cls : Nat} {row : List Int} (hbits : ∀ t : List Nat, (∀ c ∈ t, c < cls) → O[runN N 0 t]? = some (bitsL (L.map fun e => fitsE e.1 e.2 (t.map fun (c : Nat) => (c : Int)))))
    (hro : RowOk cls row) (j : Nat) : at0 O (stA N row j) = bitsL (L.map fun e => fitsE e.1 e.2 (row.take j)) := by
  have h := hbits (natsR (row.take j)) (fun c hc => by
    unfold natsR at hc
    obtain ⟨x, hx, rfl⟩ := List.mem_map.1 hc
    have := hro x (List.mem_of_mem_take hx)
    omega)
  rw [natsR_back (fun c hc => (hro c (List.mem_of_mem_take hc)).1)] at h
  unfold at0 stA
  rw [h]
  rfl

theorem fits_none (whole : Bool) (row : List Int) : fitsE (.mk 3 [] []) whole row = false := by
  have h : ∀ r : List Int, fitB (.mk 3 [] []) r = false := fun r => by
    rw [Bool.eq_false_iff]
    intro h
    rw [fitB_iff] at h
    simp [M, Malt] at h
  unfold fitsE
  simp [h]
theorem fit_empty (row : List Int) : fitB (.mk 0 [] []) row = decide (row = []) := by
  rw [Bool.eq_iff_iff, fitB_iff, decide_eq_true_iff]
  simp [M]
  exact ⟨fun h => List.eq_nil_of_length_eq_zero h.symm, fun h => by rw [h]; rfl⟩
theorem fits_empty (whole : Bool) (row : List Int) : fitsE (.mk 0 [] []) whole row = (decide (row = []) || !whole) := by
  unfold fitsE
  cases whole
  · rw [if_neg (by simp)]
    have : (∃ k, k ≤ row.length ∧ fitB (.mk 0 [] []) (row.drop k) = true) := ⟨row.length, Nat.le_refl _, by rw [fit_empty]; simp⟩
    simp [this]
  · rw [if_pos rfl, fit_empty]; simp
theorem fits_either (x y : Nd) (whole : Bool) (row : List Int) : fitsE (.mk 3 [] [x, y]) whole row = (fitsE x whole row || fitsE y whole row) := by
  unfold fitsE
  cases whole
  · rw [if_neg (by simp), if_neg (by simp), if_neg (by simp), Bool.eq_iff_iff, Bool.or_eq_true, decide_eq_true_iff, decide_eq_true_iff, decide_eq_true_iff]
    constructor
    · rintro ⟨k, hk, h⟩
      rw [fit_alt2, Bool.or_eq_true] at h
      rcases h with h | h
      · exact .inl ⟨k, hk, h⟩
      · exact .inr ⟨k, hk, h⟩
    · rintro (⟨k, hk, h⟩ | ⟨k, hk, h⟩)
      · exact ⟨k, hk, by rw [fit_alt2, h, Bool.true_or]⟩
      · exact ⟨k, hk, by rw [fit_alt2, h, Bool.or_true]⟩
  · rw [if_pos rfl, if_pos rfl, if_pos rfl, fit_alt2]
theorem right_none : RightX (.mk 3 [] []) := by
  refine ⟨?_, by simp [cnt, cntL]⟩
  unfold Wf
  exact ⟨by omega, by omega, fun _ => rfl, fun _ => rfl, by omega, rising_nil, by simp only [WfL]⟩
theorem right_empty : RightX (.mk 0 [] []) := ⟨wf_empty (by omega), by simp [cnt, cntL]⟩

theorem node_noneO (w : World) (op : Int) : NodeIs w (.mk op [] []) (.int .i64 op) (.slice none 0 0) (.slice none 0 0) := by
  rw [nodeIs_iff]
  exact ⟨rfl, Ints.nil _, by unfold R; simp, by unfold R; simp, [], ⟨by simp, none, 0, rfl, by simp, fun h => by simp at h⟩, rfl, fun i h => by simp at h⟩
/-- the five of DfaEither -/
def fiveL (x y : Nd) (b : Bool) : List (Nd × Bool) := [(x, b), (y, b), (.mk 3 [] [x, y], b), (.mk 3 [] [], b), (.mk 0 [] [], b)]
theorem five_bits (x y : Nd) (whole : Bool) (row : List Int) : ((fiveL x y whole).map fun e => fitsE e.1 e.2 row) = [fitsE x whole row, fitsE y whole row, fitsE x whole row || fitsE y whole row, false, decide (row = []) || !whole] := by
  simp only [fiveL, List.map_cons, List.map_nil, fits_either, fits_none, fits_empty]
theorem five_facts {o : Nat} {f g e : Bool} (ho : o = bitsL [f, g, f || g, false, e]) : bits .and .u64 ((o : Int) / 4) 1 = bits .and .u64 (bits .or .u64 (o : Int) ((o : Int) / 2)) 1 ∧ bits .and .u64 ((o : Int) / 8) 1 = 0 ∧ bits .and .u64 ((o : Int) / 16) 1 = if e then 1 else 0 := by
  subst ho
  cases f <;> cases g <;> cases e <;> exact ⟨by kernel_rfl, by kernel_rfl, by kernel_rfl⟩
end Go.Proofs.Yteamokljlcnicaa

/-
  Suffix and Whole of the reference (DfaRuns, TablesTell). No condition beyond what each theorem names.
-/
set_option linter.unusedVariables false
set_option linter.unusedSimpArgs false
namespace Go.Proofs.Yteamokljlcnicaa
open Go.RowKit

/-- of each place: does it fit there? -/
def FitsPost (w : World) (t : List Int) (x : Nd) (wh : Bool) (e : Ending) (w' : World) : Prop :=
  ∃ v out, e = .returned v ∧ Bools w' v out ∧ out.length = t.length + 1 ∧ (∀ q, q ≤ t.length → (tr out q ↔ fitsE x wh (t.take q) = true)) ∧ Below w.heap.size w w'

theorem M_take {t : List Int} {x : Nd} {k q : Nat} (hq : q ≤ t.length) : M (t.take q) x k q ↔ M t x k q := by
  constructor
  · exact M_move id x k q (fun j h1 h2 => ⟨by simp only [id]; rw [List.getElem?_take_of_lt h2], rfl⟩)
  · exact M_move id x k q (fun j h1 h2 => ⟨by simp only [id]; rw [List.getElem?_take_of_lt h2], rfl⟩)
theorem fits_suffix {t : List Int} {x : Nd} {q : Nat} (hq : q ≤ t.length) : fitsE x false (t.take q) = true ↔ ∃ p, p ≤ t.length ∧ M t x p q := by
  have hl : (t.take q).length = q := by rw [List.length_take]; omega
  unfold fitsE
  rw [if_neg (by simp), decide_eq_true_iff, hl]
  constructor
  · rintro ⟨k, hk, h⟩
    rw [fit_drop (by omega), hl, M_take hq] at h
    exact ⟨k, by omega, h⟩
  · rintro ⟨k, -, h⟩
    have := M_le h
    refine ⟨k, this, ?_⟩
    rw [fit_drop (by omega), hl, M_take hq]
    exact h

set_option maxRecDepth 100000 in
set_option maxHeartbeats 16000000 in
theorem whole8 (t : List Int) (hn : t.length ≤ 1000) (x : Nd) (hg : Good x) (w : World) (tv a b c : Value) (ht : Ints w tv t) (hx : NodeIs w x a b c) :
    Calls Try.prog 25 #[.agg #[a, b, c], tv] w (FitsPost w t x true) := by
  have HX := Lib.hid hx
  have HT := Lib.hid ht
  obtain ⟨op, pp, l, c1, q, m, d, rfl, rfl, rfl⟩ := hx.form
  obtain ⟨pt, capt, rfl, hct, -⟩ := ht.get
  have hmk := fun w => make_bools 60 Try.underlying60 w ((t.length : Int) + 1) (t.length + 1) (by omega) (by omega)
  clear hx ht
  go_enter Try.func25, Try.ntmps25
  go_upto_region 2 with fail
  refine abs_wp fun W hW => ?_
  obtain ⟨a0, a1, a2⟩ := alloc2' w _ _ W hW
  obtain ⟨B, hB⟩ : ∃ B, B = w.heap.size := ⟨_, rfl⟩
  have HBX := Lib.hid (show W.heap[B]? = some (.cells #[.int .i64 op, .slice pp l c1, .slice q m d] 38) by rw [hB]; exact a1)
  have hrow : BRow W (B + 1) (List.replicate (t.length + 1) false) := by unfold BRow; rw [hB, a2]; simp
  have HBW := Lib.hid a0
  rw [← hB]
  have HBE := Lib.hid hB
  have c0 := hrow.cell (i := 0) (by simp)
  have f0 := hrow.frozen 0
  have HROW := Lib.hid (hrow.set 0 true)
  have HFR := Lib.hid (Fr.setCell (F := fun q => q = B + 1) W (p := ⟨B + 1, 0, none⟩) rfl (.bool true))
  clear hW hB a0 a1 a2 hmk hrow
  go_upto_region 3 with fail
  refine abs_wp fun W2 hW2 => ?_
  rw [← hW2] at HROW HFR
  have HBW2 := Lib.hid (show Below w.heap.size w W2 from HBW.out.trans (HFR.out.below HBW.out.size (fun q hq => by have hq : q = B + 1 := hq; have := HBE.out; omega)))
  have HBX2 := Lib.hid ((HFR.out.block B (at_lt HBX.out) (by omega)).trans HBX.out)
  obtain ⟨x0, x1, x2⟩ := cells3 HBX2.out
  have HE := Lib.hid (ends_any t hn x hg W2 (.slice pt t.length capt) (.slice (some ⟨B + 1, 0, none⟩) (t.length + 1) (t.length + 1)) _ _ _ _ (by simp) (HT.out.to HBW2.out (Nat.le_refl _)) (HROW.out.read (by simp)) (HX.out.to HBW2.out (Nat.le_refl _)))
  clear hW2 c0 f0
  go_wp2_with fail
  refine HE.out.mono ?_
  rintro e w3 ⟨v, out, rfl, hb, himg, hb3⟩
  have HREL := Lib.hid (show Bools w3 v out ∧ out.length = t.length + 1 ∧ (∀ q, q ≤ t.length → (tr out q ↔ fitsE x true (t.take q) = true)) ∧ Below w.heap.size w w3 from by
    refine ⟨hb, himg.1.trans (by simp), fun q hq => ?_, HBW2.out.trans (hb3.mono HBW2.out.size)⟩
    have e1 : fitsE x true (t.take q) = fitB x (t.take q) := by unfold fitsE; rw [if_pos rfl]
    rw [e1, fit_take hq]
    refine (himg.2 q).trans ⟨fun ⟨p, h1, h2⟩ => ?_, fun h => ⟨0, (tr_setB (by simp)).2 (.inl ⟨rfl, rfl⟩), h⟩⟩
    rcases (tr_setB (by simp)).1 h1 with ⟨rfl, -⟩ | ⟨-, h1⟩
    · exact h2
    · exact absurd h1 (no_places _ _))
  clear hb himg hb3
  go_wp2_with fail
  go_ret
  exact ⟨v, out, rfl, HREL.out⟩

set_option maxRecDepth 100000 in
set_option maxHeartbeats 16000000 in
theorem suffix8 (t : List Int) (hn : t.length ≤ 1000) (x : Nd) (hg : Good x) (w : World) (tv a b c : Value) (ht : Ints w tv t) (hx : NodeIs w x a b c) :
    Calls Try.prog 24 #[.agg #[a, b, c], tv] w (FitsPost w t x false) := by
  have HX := Lib.hid hx
  have HT := Lib.hid ht
  obtain ⟨op, pp, l, c1, q, m, d, rfl, rfl, rfl⟩ := hx.form
  obtain ⟨pt, capt, rfl, hct, -⟩ := ht.get
  obtain ⟨n, hne⟩ : ∃ n, n = t.length := ⟨_, rfl⟩
  have hmk := fun w => make_bools 60 Try.underlying60 w ((n : Int) + 1) (n + 1) (by omega) (by omega)
  have HN := Lib.hid hne
  rw [← hne] at hn hct ⊢
  clear hx ht hne
  go_enter Try.func24, Try.ntmps24
  go_upto_region 2 with fail
  refine abs_wp fun W hW => ?_
  obtain ⟨a0, a1, a2⟩ := alloc2' w _ _ W hW
  obtain ⟨B, hB⟩ : ∃ B, B = w.heap.size := ⟨_, rfl⟩
  have HBX := Lib.hid (show W.heap[B]? = some (.cells #[.int .i64 op, .slice pp l c1, .slice q m d] 38) by rw [hB]; exact a1)
  have hrow : BRow W (B + 1) (List.replicate (n + 1) false) := by unfold BRow; rw [hB, a2]; simp
  have HBW := Lib.hid a0
  rw [← hB]
  have HBE := Lib.hid hB
  have HROW := Lib.hid hrow
  clear hW hB a0 a1 a2 hmk hrow
  go_wp2_with fail
  go_loopw [6] (fun i wz => ∃ k : Nat, i = .int .i64 k ∧ k ≤ n + 1 ∧ (∃ bs : List Bool, bs.length = n + 1 ∧ (∀ j, j < k → tr bs j) ∧ BRow wz (B + 1) bs) ∧ wz.heap[B]? = some (.cells #[.int .i64 op, .slice pp l c1, .slice q m d] 38) ∧ Below w.heap.size w wz) (fun i _ => n + 1 - (intOf i).toNat)
  case atStart => exact ⟨0, rfl, by omega, ⟨_, by simp, fun j h => by omega, HROW.out⟩, HBX.out, HBW.out⟩
  case round =>
    obtain ⟨k, rfl, hk, ⟨bs, hbl, hbt, hbr⟩, hbx, hb⟩ := hrel
    have HBT := Lib.hid hbt
    have HBL := Lib.hid hbl
    have HBXR := Lib.hid hbx
    have HBR := Lib.hid hb
    by_cases hkn : k < n + 1
    · have hki : (k : Int) < (n : Int) + 1 := by omega
      have hk0 : (0 : Int) ≤ k := by omega
      obtain ⟨v0, c0⟩ : ∃ v0, wr.cell? ⟨B + 1, k, none⟩ = some (.bool v0) := ⟨_, hbr.cell (i := k) (by omega)⟩
      have f0 := hbr.frozen k
      have HSET := Lib.hid (hbr.set k true)
      have HFR := Lib.hid (Fr.setCell (F := fun q => q = B + 1) wr (p := ⟨B + 1, k, none⟩) rfl (.bool true))
      clear hbt hbl hbx hb hbr
      go_wp2_with fail
      go_roundw
      case rel => exact ⟨k + 1, by go_num, by omega, ⟨bs.set k true, by rw [List.length_set]; exact HBL.out, fun j hj => by
        rw [tr_setB (by rw [HBL.out]; exact hkn)]
        by_cases e : j = k
        · exact .inl ⟨e, rfl⟩
        · exact .inr ⟨e, HBT.out j (by omega)⟩, HSET.out⟩, (HFR.out.block B (at_lt HBXR.out) (by omega)).trans HBXR.out, HBR.out.trans (HFR.out.below HBR.out.size (fun q hq => by have hq : q = B + 1 := hq; have := HBE.out; omega))⟩
      case measure => simp [intOf]; omega
    · have hki : ¬ (k : Int) < (n : Int) + 1 := by omega
      obtain ⟨x0, x1, x2⟩ := cells3 HBXR.out
      have HE := Lib.hid (ends_any t (by rw [← HN.out]; exact hn) x hg wr (.slice pt n capt) (.slice (some ⟨B + 1, 0, none⟩) (n + 1) (n + 1)) _ _ _ bs (by rw [hbl, HN.out]) (HN.out ▸ HT.out.to hb (Nat.le_refl _)) (hbr.read hbl) (HX.out.to hb (Nat.le_refl _)))
      clear hbt hbl hbx hb hbr
      go_wp2_with fail
      refine HE.out.mono ?_
      rintro e w3 ⟨v, out, rfl, hb, himg, hb3⟩
      have HREL := Lib.hid (show Bools w3 v out ∧ out.length = t.length + 1 ∧ (∀ q, q ≤ t.length → (tr out q ↔ fitsE x false (t.take q) = true)) ∧ Below w.heap.size w w3 from by
        refine ⟨hb, himg.1.trans (by rw [HBL.out, HN.out]), fun q hq => ?_, HBR.out.trans (hb3.mono HBR.out.size)⟩
        rw [fits_suffix hq]
        refine (himg.2 q).trans ⟨fun ⟨p, h1, h2⟩ => ⟨p, ?_, h2⟩, fun ⟨p, h1, h2⟩ => ⟨p, HBT.out p (by rw [← HN.out] at h1; omega), h2⟩⟩
        have := tr_lt h1
        rw [HBL.out, HN.out] at this
        omega)
      clear hb himg hb3
      go_wp2_with fail
      go_ret
      exact ⟨v, out, rfl, HREL.out⟩
end Go.Proofs.Yteamokljlcnicaa

/-
  DfaRuns: a machine tells which expressions fit. No condition beyond what each theorem names.
-/
set_option linter.unusedVariables false
set_option linter.unusedSimpArgs false
namespace Go.Proofs.Yteamokljlcnicaa
open Go.RowKit Classical

theorem stepI_stA {N : List (List Nat)} {O : List Nat} {cls : Nat} {row : List Int} (hok : OkN N O cls) (h0 : 0 < N.length) (hr : RowOk cls row) {k : Nat} (hk : k < row.length) : stepI N cls (stA N row k : Nat) row[k] = stA N row (k + 1) := by
  have h1 := stA_lt hok h0 hr k (by omega)
  have h2 := hr row[k] (List.getElem_mem _)
  rw [stA_succ hk]
  unfold stepI
  rw [if_pos (by omega)]
  simp
theorem bit_runs {bs : List Bool} {k : Nat} (h8 : bs.length ≤ 8) (hk : k < bs.length) : bits .and .u64 (((bitsL bs : Nat) : Int) / 2 ^ k) 1 = if bs[k] then 1 else 0 := by
  have h := bitsL_lt bs
  have hp : (2 : Nat) ^ bs.length ≤ 2 ^ 8 := Nat.pow_le_pow_right (by omega) h8
  rw [bit_at _ k (by omega), bitsL_get bs k hk]
  cases bs[k] <;> rfl

set_option maxRecDepth 100000 in
set_option maxHeartbeats 16000000 in
theorem runs_law (w : World) (n : Int) (v : Value) (l : List (Nd × Bool)) (v2 : Value) (t : List Int) (hv : ReadL (exprE w) 4 w v l) (hl : l.length ≤ maxLen) (hv2 : Ints w v2 t) (hn : t.length ≤ 9223372036854775807) :
    Calls Try.prog 8 #[.int .i64 n, v, v2] w (Says true w) := by
  obtain ⟨p, cp, rfl, -, -⟩ := hv.at (by decide) rfl
  obtain ⟨pt, ct, rfl, hct, hxt⟩ := hv2.get
  have HL := Lib.hid hv
  have HV := Lib.hid hv2
  have HLL := Lib.hid hl
  clear hv hv2 hxt hl
  go_enter Try.func8, Try.ntmps8
  go_wp2_with fail
  refine (shown8 w).mono ?_
  rintro e w1 ⟨rfl, hb1⟩
  have HB1 := Lib.hid hb1
  clear hb1
  obtain ⟨row, hrow⟩ : ∃ row, row = t.take 30 := ⟨_, rfl⟩
  have hrl : row.length = min t.length 30 := by rw [hrow, List.length_take, Nat.min_comm]
  go_upto_region 2 with fail
  go_cut [2] (fun rv wx => Ints w rv row ∧ wx = w1)
  case first =>
    cases pt with
    | none =>
      have h0 : t = [] := by
        obtain ⟨p', c', he, -, hx⟩ := HV.out
        injection he with he1 he2 he3
        subst he1
        cases t with
        | nil => rfl
        | cons x r => obtain ⟨b, off, e, -⟩ := hx (by simp); cases e
      subst h0
      have HI := Lib.hid (show Ints w (.slice none 0 ct) row by rw [hrow]; exact HV.out)
      clear hrow hrl
      go_wp2_with fail
      go_meet
      case rel => exact ⟨HI.out, rfl⟩
    | some ad =>
      by_cases h40 : t.length ≤ 30
      · have h41 : ¬ (30 : Int) < t.length := by omega
        have HI := Lib.hid (show Ints w (.slice (some ad) (min (t.length : Int) 30).toNat ct) row by rw [hrow, List.take_of_length_le h40, show (min (t.length : Int) 30).toNat = t.length by omega]; exact HV.out)
        clear hrow hrl
        go_wp2_with fail
        go_meet
        case rel => exact ⟨HI.out, rfl⟩
      · have h41 : (30 : Int) < t.length := by omega
        have HI := Lib.hid (show Ints w (.slice (some ad) (min (t.length : Int) 30).toNat ct) row by rw [hrow, show (min (t.length : Int) 30).toNat = 30 by omega]; exact HV.out.take (by omega))
        clear hrow hrl
        go_wp2_with fail
        go_meet
        case rel => exact ⟨HI.out, rfl⟩
  case rest =>
    obtain ⟨hi, rfl⟩ := hcut
    obtain ⟨pr, cr, rfl, hcr, hxr⟩ := hi.get
    have hr30 : row.length ≤ 30 := by omega
    have HI := Lib.hid hi
    have HXR := Lib.hid hxr
    obtain ⟨nr, hnr⟩ : ∃ nr, nr = row.length := ⟨_, rfl⟩
    rw [← hnr] at hr30 hcr ⊢
    have HNR := Lib.hid hnr
    have HFEW := Lib.hid (few_law wc (.slice p l.length cp) l (exprs_to HL.out HB1.out) HLL.out)
    obtain ⟨L, hL⟩ : ∃ L, L = fewL l := ⟨_, rfl⟩
    rw [← hL] at HFEW
    have hL8 : L.length ≤ 8 := by rw [hL]; exact fewL_length l
    clear hi hxr hrow hrl hL hnr
    go_wp2_with fail
    refine HFEW.out.mono ?_
    rintro e w2 ⟨va, vb, rfl, hoa, hob, hb2⟩
    have HB2 := Lib.hid (HB1.out.trans (hb2.mono HB1.out.size))
    have HRA := Lib.hid (hoa.exprs hb2)
    have HRB := Lib.hid (hob.exprs hb2)
    obtain ⟨ns, hns⟩ : ∃ ns, ns = L.length := ⟨_, rfl⟩
    rw [← hns] at hL8
    obtain ⟨pa, ca, rfl, hca, -⟩ := HRA.out.at (by decide) hns.symm
    obtain ⟨pb, cb, rfl, hcb, hxb⟩ := HRB.out.at (by decide) hns.symm
    have HXB := Lib.hid hxb
    have HNS := Lib.hid hns
    have HBU := Lib.hid (build_any w2 (.slice pa ns ca) L n HRA.out (by omega))
    clear hb2 hoa hob hns hxb
    go_wp2_with fail
    refine HBU.out.mono ?_
    rintro e w4 ⟨hb4, hcase⟩
    have HB4 := Lib.hid (HB2.out.trans (hb4.mono HB2.out.size))
    have HK4 := Lib.hid hb4
    clear hb4 HBU
    rcases hcase with ⟨-, rfl⟩ | ⟨-, -, rfl⟩ | ⟨hao, oa, N, O, -, hbu, rfl, hmd⟩
    · go_wp2_with fail
      go_ret
      exact ⟨rfl, HB4.out⟩
    · go_wp2_with fail
      go_ret
      exact ⟨rfl, HB4.out⟩
    · obtain ⟨hok, hpos, h400, hbits⟩ := built_bits (fun e he => (hao.2.2.2 e he).1) hbu
      obtain ⟨cls, hcls⟩ : ∃ cls, cls = n.toNat := ⟨_, rfl⟩
      have hcn : (cls : Int) = n := by have := hao.1; omega
      rw [← hcls] at hmd hok hbits
      have HBT := Lib.hid hbits
      have HOK := Lib.hid hok
      have HPOS := Lib.hid hpos
      have HAO := Lib.hid hao
      have HCN := Lib.hid hcn
      have HMD := Lib.hid hmd
      have hc24 : n ≤ 24 := hao.2.1
      have hn400 : N.length ≤ 400 := h400
      obtain ⟨nn, hnn⟩ : ∃ nn, nn = N.length := ⟨_, rfl⟩
      have HNN := Lib.hid hnn
      rw [← hnn] at hn400
      have hn0 : 0 < nn := by rw [hnn]; exact hpos
      have HRUN := Lib.hid (run_m w4 oa cls N O hmd hok hpos _ row (HI.out.to HB4.out (Nat.le_refl _)) (by rw [← HNR.out]; omega))
      rw [← HNR.out] at HRUN
      clear hao hbu hok hpos h400 hbits hmd hcls hcn hnn
      go_wp2_with fail
      refine HRUN.out.mono ?_
      rintro e w6 ⟨hb6, hcase⟩
      have HB6 := Lib.hid (HB4.out.trans (hb6.mono HB4.out.size))
      have HM6 := Lib.hid (HMD.out.to hb6)
      have HK6 := Lib.hid (HK4.out.trans (hb6.mono HK4.out.size))
      clear hb6
      have HROW := Lib.hid (show ∀ W, Below w6.heap.size w6 W → ∀ j : Nat, j < nr → ∃ b off x, pr = some ⟨b, off, none⟩ ∧ row[j]? = some x ∧ W.cell? ⟨b, off + j, none⟩ = some (.int .i64 x) from fun W hW j hj => by
        obtain ⟨b, off, rfl, hb, hx⟩ := HXR.out (by rw [← HNR.out]; omega)
        exact ⟨b, off, row[j]'(by rw [← HNR.out]; exact hj), rfl, List.getElem?_eq_getElem _, cell_below (HB6.out.trans (hW.mono HB6.out.size)) hb (hx j (by rw [← HNR.out]; exact hj))⟩)
      rcases hcase with ⟨hro, vx, rfl, hvx⟩ | ⟨hno, rfl⟩
      · obtain ⟨px, cx, rfl, hcx, hgx⟩ := hvx.at (by decide) (runs_length N O row)
        rw [← HNR.out] at hcx ⊢
        have HRO := Lib.hid hro
        have HREAD := Lib.hid (show ∀ W, Below w6.heap.size w6 W → ∀ j : Nat, j < nr + 1 → ∃ b off, px = some ⟨b, off, none⟩ ∧ W.cell? ⟨b, off + j, none⟩ = some (.int .u64 (at0 O (stA N row j) : Nat)) from fun W hW j hj => by
          obtain ⟨b, off, r, rfl, hbl, hc, rfl⟩ := hgx j _ (runs_get (by rw [HNR.out] at hj; omega))
          have d1 := hc 0 _ rfl
          simp only [Nat.mul_one, Nat.add_zero] at d1
          exact ⟨b, off, rfl, cell_below hW hbl d1⟩)
        obtain ⟨bN, oN, cn, bO, oO, co, hcnn, hco, hv1⟩ := HM6.out.view HOK.out HNN.out.symm hn0 (by have := HAO.out.1; have := HCN.out; omega)
        have HV1 := Lib.hid hv1
        clear hro hvx hgx hv1
        go_wp2_with fail
        go_loopw [14] (fun i wz => ∃ j : Nat, i = .int .i64 j ∧ j ≤ nr ∧ Below w6.heap.size w6 wz) (fun i _ => nr - (intOf i).toNat)
        case atStart => exact ⟨0, rfl, by omega, Below.refl _ _⟩
        case round =>
          obtain ⟨j, rfl, hj, hb⟩ := hrel
          have HB := Lib.hid hb
          by_cases hjr : j < nr
          · have hji : (j : Int) < (nr : Int) := by omega
            have hj0 : (0 : Int) ≤ j := by omega
            obtain ⟨b, off, x, rfl, hx, d1⟩ := HROW.out _ hb j hjr
            obtain ⟨g1, g2⟩ := HRO.out x (List.mem_of_getElem? hx)
            have g3 : x < n := by have := HCN.out; omega
            clear hb hx g2
            go_wp2_with fail
            go_roundw
            case rel => exact ⟨j + 1, by go_num, by omega, HB.out⟩
            case measure => simp [intOf]; omega
          · have hji : ¬ (j : Int) < (nr : Int) := by omega
            clear hb
            go_wp2_with fail
            have HW := Lib.hid HB.out
            go_loopw [15, 16] (fun st i wz => ∃ k : Nat, i = .int .i64 k ∧ st = .int .i64 (stA N row (min k nr) : Nat) ∧ k ≤ nr + 1 ∧ Below w6.heap.size w6 wz) (fun _ i _ => nr + 1 - (intOf i).toNat)
            case atStart => exact ⟨0, rfl, by rw [Nat.zero_min]; rfl, by omega, HW.out⟩
            case round =>
              obtain ⟨k, rfl, rfl, hk, hb⟩ := hrel
              have HB := Lib.hid hb
              by_cases hkr : k < nr + 1
              · have hki : (k : Int) ≤ (nr : Int) := by omega
                have hki2 : (k : Int) < (nr : Int) + 1 := by omega
                have hk0 : (0 : Int) ≤ k := by omega
                obtain ⟨b, off, rfl, d1⟩ := HREAD.out _ hb k hkr
                obtain ⟨-, -, m2, mO, -⟩ := HV1.out _ hb
                have hlt := stA_lt HOK.out HPOS.out HRO.out k (by rw [← HNR.out]; omega)
                rw [← HNN.out] at hlt
                have d2 := mO _ hlt
                rw [Nat.min_eq_left (by omega : k ≤ nr)]
                obtain ⟨o, ho⟩ : ∃ o, o = at0 O (stA N row k) := ⟨_, rfl⟩
                rw [← ho] at d1 d2
                obtain ⟨s, hs⟩ : ∃ s, s = stA N row k := ⟨_, rfl⟩
                rw [← hs] at hlt d2 ⊢
                have hsi : (s : Int) < (nn : Int) := by omega
                have hs0 : (0 : Int) ≤ s := by omega
                have HS := Lib.hid hs
                clear hb mO ho hs
                go_upto_region 19 with fail
                go_quiet (fail)
                have HB3 := Lib.hid (show Below w6.heap.size w6 (wr.drewN nq) from ⟨HB.out.os, HB.out.tape, HB.out.output, HB.out.size, HB.out.block⟩)
                clear d1 d2 m2
                by_cases hkr2 : k < nr
                · have hki3 : (k : Int) < (nr : Int) := by omega
                  obtain ⟨b2, off2, x, rfl, hx, d3⟩ := HROW.out _ HB3.out k hkr2
                  have d4 := HROW.out _ HB.out k hkr2
                  obtain ⟨b3, off3, x3, e1, hx3, d4⟩ := d4
                  cases e1
                  rw [hx] at hx3
                  cases hx3
                  have HST := Lib.hid (step_m (wr.drewN nq) oa cls N O (HM6.out.to HB3.out) HOK.out (s : Int) x)
                  have HSE := Lib.hid (show stepI N cls (s : Nat) x = stA N row (k + 1) by
                    have hkl : k < row.length := by rw [← HNR.out]; exact hkr2
                    have e2 : row[k] = x := by
                      rw [List.getElem?_eq_getElem hkl] at hx
                      exact Option.some.inj hx
                    rw [← stepI_stA HOK.out HPOS.out HRO.out hkl, HS.out, e2])
                  rw [HSE.out] at HST
                  clear hx
                  go_wp2_with fail
                  refine HST.out.mono ?_
                  rintro e w9 ⟨rfl, rfl⟩
                  clear d3 d4
                  go_wp2_with fail
                  exact ⟨⟨k + 1, by go_num, by rw [Nat.min_eq_left (by omega : k + 1 ≤ nr)], by omega, HB3.out⟩, by simp [intOf]; omega⟩
                · have hki3 : ¬ (k : Int) < (nr : Int) := by omega
                  have HKN := Lib.hid (show s = stA N row (min (k + 1) nr) by rw [HS.out, show min (k + 1) nr = k by omega])
                  go_wp2_with fail
                  exact ⟨⟨k + 1, by go_num, by rw [← HKN.out], by omega, HB3.out⟩, by simp [intOf]; omega⟩
              · have hki : ¬ (k : Int) ≤ (nr : Int) := by omega
                clear hb
                go_wp2_with fail
                have HZ := Lib.hid HB.out
                go_loopw [17] (fun i wz => ∃ k : Nat, i = .int .i64 k ∧ k ≤ ns ∧ Below w6.heap.size w6 wz) (fun i _ => ns - (intOf i).toNat)
                case atStart => exact ⟨0, rfl, by omega, HZ.out⟩
                case round =>
                  as_aux_lemma =>
                    obtain ⟨k, rfl, hk, hb⟩ := hrel
                    have HB := Lib.hid hb
                    by_cases hkr : k < ns
                    · have hki : (k : Int) < (ns : Int) := by omega
                      have hk0 : (0 : Int) ≤ k := by omega
                      obtain ⟨x, hx⟩ : ∃ x, L[k]'(by rw [← HNS.out]; exact hkr) = x := ⟨_, rfl⟩
                      have HXE := Lib.hid hx
                      have hxk : L[k]? = some x := by rw [List.getElem?_eq_getElem (by rw [← HNS.out]; exact hkr), hx]
                      have HRX := Lib.hid (HAO.out.2.2.2 x (List.mem_of_getElem? hxk)).1
                      have HKR := Lib.hid (HK6.out.trans (hb.mono HK6.out.size))
                      obtain ⟨bl, ol, row4, rfl, hbl, hcell, a, b, c, rfl, hnd⟩ := HXB.out k x hxk
                      have d0 := cell_below HKR.out hbl (hcell 0 _ rfl)
                      have d1 := cell_below HKR.out hbl (hcell 1 _ rfl)
                      have d2 := cell_below HKR.out hbl (hcell 2 _ rfl)
                      have d3 := cell_below HKR.out hbl (hcell 3 _ rfl)
                      simp only [Nat.add_zero] at d0
                      obtain ⟨op, q0, m0, c0, q1, m1, c1, rfl, rfl, rfl⟩ := hnd.form
                      have HND := Lib.hid hnd
                      have HC4 := Lib.hid (And.intro hbl (And.intro d0 (And.intro d1 (And.intro d2 d3))))
                      have HBLR := Lib.hid (show bl < wr.heap.size from Nat.lt_of_lt_of_le hbl HKR.out.size)
                      have HGD := Lib.hid (Wf_good _ _ HRX.out.1)
                      have HSX := Lib.hid (suffix8 row (by rw [← HNR.out]; omega) x.1 HGD.out wr (.slice pr nr cr) _ _ _ (HNR.out ▸ HI.out.to (HB6.out.trans (hb.mono HB6.out.size)) (Nat.le_refl _)) (hnd.to HKR.out (Nat.le_refl _)))
                      clear hb hx hxk hcell hnd hbl
                      obtain ⟨x2, hx2⟩ : ∃ x2, x2 = x.2 := ⟨_, rfl⟩
                      rw [← hx2] at d3 HC4
                      have HX2 := Lib.hid hx2
                      go_wp2_with fail
                      refine HSX.out.mono ?_
                      rintro e wv ⟨v, out, rfl, hout, holen, houtq, hbv⟩
                      have HBV := Lib.hid (HB.out.trans (hbv.mono HB.out.size))
                      obtain ⟨hblr, d0', d1', d2', d3'⟩ := HC4.out
                      have e0 := cell_below hbv HBLR.out d0'
                      have e1 := cell_below hbv HBLR.out d1'
                      have e2 := cell_below hbv HBLR.out d2'
                      have e3 := cell_below hbv HBLR.out d3'
                      clear d0 d1 d2 d3 d0' d1' d2' d3' hblr
                      cases x2
                      · have HX2f := Lib.hid (show x.2 = false from HX2.out.symm)
                        have houtq : ∀ q, q ≤ row.length → (tr out q ↔ fitsE x.1 x.2 (row.take q) = true) := by rw [HX2f.out]; exact houtq
                        clear hx2 hbv
                        have hv7 := hout
                        obtain ⟨pf, cf, rfl, hcf, hgf⟩ := hout.get
                        rw [holen, ← HNR.out] at hcf ⊢
                        have HGF := Lib.hid (show ∀ W, Below wv.heap.size wv W → ∀ q : Nat, q < nr + 1 → ∃ b off fb, pf = some ⟨b, off, none⟩ ∧ W.cell? ⟨b, off + q, none⟩ = some (.bool fb) ∧ fb = fitsE x.1 x.2 (row.take q) from fun W hW q hq => by
                          obtain ⟨b, off, rfl, hbl, hc⟩ := hgf (by rw [holen]; omega)
                          have hq2 : q < out.length := by rw [holen, ← HNR.out]; omega
                          refine ⟨b, off, out[q], rfl, cell_below hW hbl (hc q hq2), ?_⟩
                          have h1 := houtq q (by rw [← HNR.out]; omega)
                          rw [tr_get hq2] at h1
                          rw [Bool.eq_iff_iff]
                          exact h1)
                        clear hout holen houtq hv7 hgf
                        go_wp2_with fail
                        go_loopw [19] (fun i wz => ∃ q : Nat, i = .int .i64 q ∧ q ≤ nr + 1 ∧ Below wv.heap.size wv wz) (fun i _ => nr + 1 - (intOf i).toNat)
                        case atStart => exact ⟨0, rfl, by omega, Below.refl _ _⟩
                        case round =>
                          obtain ⟨q, rfl, hq, hb⟩ := hrel
                          have HQ := Lib.hid hb
                          by_cases hqr : q < nr + 1
                          · have hqi : (q : Int) ≤ (nr : Int) := by omega
                            have hqi2 : (q : Int) < (nr : Int) + 1 := by omega
                            have hq0 : (0 : Int) ≤ q := by omega
                            obtain ⟨b, off, rfl, d1⟩ := HREAD.out _ (HBV.out.trans (hb.mono HBV.out.size)) q hqr
                            obtain ⟨b2, off2, fb, rfl, d2, hfb⟩ := HGF.out _ hb q hqr
                            have hbq : (bits .and .u64 ((at0 O (stA N row q) : Nat) / 2 ^ k) 1 == 1) = fb := by
                              rw [run_bits HBT.out HRO.out q, hfb, bit_runs (by rw [List.length_map, ← HNS.out]; exact hL8) (by rw [List.length_map, ← HNS.out]; exact hkr), List.getElem_map]
                              have he : L[k]'(by rw [← HNS.out]; exact hkr) = x := HXE.out
                              rw [he]
                              cases fitsE x.1 x.2 (row.take q) <;> rfl
                            have hne : (fb != fb) = false := by cases fb <;> rfl
                            generalize at0 O (stA N row q) = o at *
                            clear hb hfb
                            go_upto_region 32 with fail
                            go_quiet (fail)
                            go_wp2_with fail
                            exact ⟨⟨q + 1, by go_num, by omega, ⟨HQ.out.os, HQ.out.tape, HQ.out.output, HQ.out.size, HQ.out.block⟩⟩, by simp [intOf]; omega⟩
                          · have hqi : ¬ (q : Int) ≤ (nr : Int) := by omega
                            clear hb
                            go_wp2_with fail
                            go_roundw
                            case rel => exact ⟨k + 1, by go_num, by omega, HBV.out.trans (HQ.out.mono HBV.out.size)⟩
                            case measure => simp [intOf]; omega
                      · have HX2t := Lib.hid (show x.2 = true from HX2.out.symm)
                        have HWX := Lib.hid (whole8 row (by rw [← HNR.out]; omega) x.1 HGD.out wv (.slice pr nr cr) _ _ _ (HNR.out ▸ HI.out.to (HB6.out.trans (HBV.out.mono HB6.out.size)) (Nat.le_refl _)) ((HND.out.to HKR.out (Nat.le_refl _)).to hbv (Nat.le_refl _)))
                        have HBV1 := Lib.hid HBV.out
                        clear hx2 hbv hout holen houtq HBV
                        go_wp2_with fail
                        refine HWX.out.mono ?_
                        rintro e wv ⟨v, out, rfl, hout, holen, houtq, hbv⟩
                        have HBV := Lib.hid (HBV1.out.trans (hbv.mono HBV1.out.size))
                        have houtq : ∀ q, q ≤ row.length → (tr out q ↔ fitsE x.1 x.2 (row.take q) = true) := by rw [HX2t.out]; exact houtq
                        clear hbv e0 e1 e2 e3
                        have hv7 := hout
                        obtain ⟨pf, cf, rfl, hcf, hgf⟩ := hout.get
                        rw [holen, ← HNR.out] at hcf ⊢
                        have HGF := Lib.hid (show ∀ W, Below wv.heap.size wv W → ∀ q : Nat, q < nr + 1 → ∃ b off fb, pf = some ⟨b, off, none⟩ ∧ W.cell? ⟨b, off + q, none⟩ = some (.bool fb) ∧ fb = fitsE x.1 x.2 (row.take q) from fun W hW q hq => by
                          obtain ⟨b, off, rfl, hbl, hc⟩ := hgf (by rw [holen]; omega)
                          have hq2 : q < out.length := by rw [holen, ← HNR.out]; omega
                          refine ⟨b, off, out[q], rfl, cell_below hW hbl (hc q hq2), ?_⟩
                          have h1 := houtq q (by rw [← HNR.out]; omega)
                          rw [tr_get hq2] at h1
                          rw [Bool.eq_iff_iff]
                          exact h1)
                        clear hout holen houtq hv7 hgf
                        go_wp2_with fail
                        go_loopw [19] (fun i wz => ∃ q : Nat, i = .int .i64 q ∧ q ≤ nr + 1 ∧ Below wv.heap.size wv wz) (fun i _ => nr + 1 - (intOf i).toNat)
                        case atStart => exact ⟨0, rfl, by omega, Below.refl _ _⟩
                        case round =>
                          obtain ⟨q, rfl, hq, hb⟩ := hrel
                          have HQ := Lib.hid hb
                          by_cases hqr : q < nr + 1
                          · have hqi : (q : Int) ≤ (nr : Int) := by omega
                            have hqi2 : (q : Int) < (nr : Int) + 1 := by omega
                            have hq0 : (0 : Int) ≤ q := by omega
                            obtain ⟨b, off, rfl, d1⟩ := HREAD.out _ (HBV.out.trans (hb.mono HBV.out.size)) q hqr
                            obtain ⟨b2, off2, fb, rfl, d2, hfb⟩ := HGF.out _ hb q hqr
                            have hbq : (bits .and .u64 ((at0 O (stA N row q) : Nat) / 2 ^ k) 1 == 1) = fb := by
                              rw [run_bits HBT.out HRO.out q, hfb, bit_runs (by rw [List.length_map, ← HNS.out]; exact hL8) (by rw [List.length_map, ← HNS.out]; exact hkr), List.getElem_map]
                              have he : L[k]'(by rw [← HNS.out]; exact hkr) = x := HXE.out
                              rw [he]
                              cases fitsE x.1 x.2 (row.take q) <;> rfl
                            have hne : (fb != fb) = false := by cases fb <;> rfl
                            generalize at0 O (stA N row q) = o at *
                            clear hb hfb
                            go_upto_region 32 with fail
                            go_quiet (fail)
                            go_wp2_with fail
                            exact ⟨⟨q + 1, by go_num, by omega, ⟨HQ.out.os, HQ.out.tape, HQ.out.output, HQ.out.size, HQ.out.block⟩⟩, by simp [intOf]; omega⟩
                          · have hqi : ¬ (q : Int) ≤ (nr : Int) := by omega
                            clear hb
                            go_wp2_with fail
                            go_roundw
                            case rel => exact ⟨k + 1, by go_num, by omega, HBV.out.trans (HQ.out.mono HBV.out.size)⟩
                            case measure => simp [intOf]; omega
                    · have hki : ¬ (k : Int) < (ns : Int) := by omega
                      clear hb
                      go_wp2_with fail
                      go_ret
                      exact ⟨rfl, HB6.out.trans (HB.out.mono HB6.out.size)⟩
      · have HNO := Lib.hid hno
        clear hno
        go_wp2_with fail
        go_loopw [14] (fun i wz => ∃ j : Nat, i = .int .i64 j ∧ j ≤ nr ∧ (∀ i x, i < j → row[i]? = some x → 0 ≤ x ∧ x < cls) ∧ Below w6.heap.size w6 wz) (fun i _ => nr - (intOf i).toNat)
        case atStart => exact ⟨0, rfl, by omega, fun i x h => by omega, Below.refl _ _⟩
        case round =>
          obtain ⟨j, rfl, hj, hok, hb⟩ := hrel
          have HB := Lib.hid hb
          have HOKJ := Lib.hid hok
          by_cases hjr : j < nr
          · have hji : (j : Int) < (nr : Int) := by omega
            have hj0 : (0 : Int) ≤ j := by omega
            obtain ⟨b, off, x, rfl, hx, d1⟩ := HROW.out _ hb j hjr
            have HX := Lib.hid hx
            clear hb hx hok
            by_cases g1 : x < 0
            · go_wp2_with fail
              go_ret
              exact ⟨rfl, HB6.out.trans (HB.out.mono HB6.out.size)⟩
            · by_cases g2 : n ≤ x
              · go_wp2_with fail
                go_ret
                exact ⟨rfl, HB6.out.trans (HB.out.mono HB6.out.size)⟩
              · have g3 : 0 ≤ x := by omega
                have g4 : x < n := by omega
                go_wp2_with fail
                go_roundw
                case rel => exact ⟨j + 1, by go_num, by omega, fun i y hi hy => by
                  by_cases e : i = j
                  · subst e
                    rw [HX.out] at hy
                    cases hy
                    have := HCN.out
                    omega
                  · exact HOKJ.out i y (by omega) hy, HB.out⟩
                case measure => simp [intOf]; omega
          · exact (HNO.out (fun x hx => by
              obtain ⟨i, hi, e⟩ := List.getElem_of_mem hx
              exact hok i x (by rw [← HNR.out] at hi; omega) (by rw [List.getElem?_eq_getElem hi, e]))).elim
end Go.Proofs.Yteamokljlcnicaa

/-
  DfaRuns answers true for every input, and leaves it as it was. No condition.
-/
set_option linter.unusedVariables false
namespace Go.Proofs.Yteamokljlcnicaa
open Go.ChangeShapes Go.WideShapes Go.ChangeAt Go.RowKit

theorem dfaRuns_params : ∀ t ∈ Try.f8.params.toList, Try.prog.readableRec t = true ∧ t < Try.prog.types.size := by
  rw [Try.params8]
  intro t ht
  simp at ht
  rcases ht with rfl | rfl | rfl
  all_goals exact ⟨by kernel_rfl, of_decide_eq_true (by kernel_rfl)⟩

set_option maxRecDepth 100000 in
theorem dfaRuns_lifted (os : Os) (started : os.Started) (H : Type) (enc : TypeId × Value → H) :
    ReturnsInHanded {} Try.checked os 8 .any (Rows.dfaRunsSpec.pre6 enc Try.prog Try.f8 Rows.dfaRunsRow.domain false) (Rows.dfaRunsSpec.post enc Try.prog Try.f8 false true false false) := by
  refine returnsInHanded_of_change_sized (C := Try.checked) own started (by kernel_rfl) Try.func8
    (ChangeSpec.witness6 (enc := enc) (C := Try.checked) false ⟨#[], #[.int .i64 0, .slice none 0 0, .slice none 0 0], []⟩ 8 (by kernel_rfl) (by kernel_rfl) (by kernel_rfl) (by kernel_rfl)) ?_
  intro W base args ds gs before hval0 hW hcnd hsz0 _
  have hval : ∀ (j : Nat) t v, Try.f8.params[j]? = some t → args[j]? = some v → Value.okWide Try.prog W .any base t v := hval0
  have hW' := hW
  obtain ⟨p, q, hA0, hV, rfl, hfz, hnd⟩ := hW
  have hA : DataW.TrodAll enc Try.prog W 0 (fun _ => true) true Try.f8.params.toList args.toList ds p := hA0
  have hsz : (DataW.weightsEach Try.prog (Try.f8.params.toList ++ Rows.dfaRunsSpec.plain.varTypes Try.prog) (ds ++ gs)).all (· ≤ reachBytes) = true := hsz0
  rw [Try.params8] at hA hval hsz
  obtain ⟨v0, vs0, d0, ds0, p0, q0, hargs, rfl, rfl, h0, rr0⟩ := trodAll_cons hA
  obtain ⟨v1, vs1, d1, ds1, p1, q1, rfl, rfl, rfl, h1, rr1⟩ := trodAll_cons rr0
  obtain ⟨v2, vs2, d2, ds2, p2, q2, rfl, rfl, rfl, h2, rr2⟩ := trodAll_cons rr1
  obtain ⟨rfl, rfl, rfl⟩ := trodAll_nil rr2
  obtain rfl : args = #[v0, v1, v2] := by cases args; simp_all
  obtain ⟨n0, rfl, rfl, rfl, hw0⟩ := open_int Try.underlying3 (hval 0 3 v0 rfl rfl) h0
  have hs1 := sized_arg hsz 1 22 d1 rfl rfl
  obtain ⟨l1, hx1, hb1⟩ := exprs_open (hval 1 22 v1 rfl rfl) h1 hs1
  have hs2 := sized_arg hsz 2 35 d2 rfl rfl
  obtain ⟨xs2, hx2, hb2, hw2⟩ := ints_open (hval 2 35 v2 rfl rfl) h2 hs2
  refine (runs_law W n0 v1 l1 v2 xs2 hx1 hb1 hx2 (by unfold R at hb2; omega)).mono fun e W' ⟨he, hb⟩ => ?_
  subst he
  refine ⟨_, rfl, law_post (t := 4) laidOut dfaRuns_params (by kernel_rfl) Try.underlying4 rfl ?_ hW' hb⟩
  intro ds hds
  match ds, hds with
  | [d0, d1, d2], _ => exact ⟨rfl, rfl, rfl⟩

theorem dfaRuns : Rows.DfaRunsSaid :=
  OpenClaim.holds_of_wide 8 Try.f8 rfl rfl rfl rfl rfl rfl rfl ⟨rfl, rfl, rfl, rfl, rfl⟩ rfl rfl rfl rfl rfl (by kernel_rfl) Try.func8 (by kernel_rfl)
    (of_decide_eq_true (by kernel_rfl)) (by unfold Func.isWrapper; first | (rw [if_pos (by decide +kernel)]; kernel_rfl) | (rw [if_neg (by decide +kernel)]; exact ⟨rfl, rfl⟩))
    (fun os started H enc _ => dfaRuns_lifted os started H enc)
#print axioms dfaRuns
end Go.Proofs.Yteamokljlcnicaa

