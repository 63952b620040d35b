import Derived.Test.YteamokljlcnicaaEOm
import Derived.Test.YteamokljlcnicaaGA
import Derived.Test.YteamokljlcnicaaKV
import Derived.Test.YteamokljlcnicaaRows
/-
  dfa: Run of a machine. No condition beyond what each theorem names.
-/
set_option linter.unusedVariables false
set_option linter.unusedSimpArgs false
namespace Go.Proofs.Yteamokljlcnicaa
open Go.RowKit Classical

/-- classes that there are -/
def RowOk (classes : Nat) (row : List Int) : Prop := ∀ c ∈ row, 0 ≤ c ∧ c < classes
/-- a row's classes -/
def natsR (row : List Int) : List Nat := row.map Int.toNat
/-- the state behind the first k -/
def stA (N : List (List Nat)) (row : List Int) (k : Nat) : Nat := runN N 0 (natsR (row.take k))
/-- what Run tells -/
def runsN (N : List (List Nat)) (O : List Nat) (row : List Int) : List Nat := (List.range (row.length + 1)).map fun k => at0 O (stA N row k)

theorem runN_snoc (N : List (List Nat)) : ∀ (t : List Nat) (i c : Nat), runN N i (t ++ [c]) = goN N (runN N i t) c
  | [], _, _ => rfl
  | d :: t, i, c => runN_snoc N t (goN N i d) c
theorem stA_succ {N : List (List Nat)} {row : List Int} {k : Nat} (hk : k < row.length) : stA N row (k + 1) = goN N (stA N row k) (row[k]).toNat := by
  unfold stA natsR
  rw [List.take_succ_eq_append_getElem hk, List.map_append, List.map_cons, List.map_nil, runN_snoc]
theorem stA_lt {β : Type} {N : List (List Nat)} {O : List β} {classes : Nat} (h : OkN N O classes) (h0 : 0 < N.length) {row : List Int} (hr : RowOk classes row) : ∀ k, k ≤ row.length → stA N row k < N.length
  | 0, _ => h0
  | k + 1, hk => by
    rw [stA_succ (by omega)]
    have hc := hr row[k] (List.getElem_mem _)
    exact h.go (stA_lt h h0 hr k (by omega)) (by omega)

theorem made_u64 (n : Nat) : madeCells #[Value.int .u64 0] n = (List.replicate n (Value.int .u64 0)).toArray := by
  apply Array.ext
  · simp [madeCells]
  · intro i h1 h2
    have e : i % 1 = 0 := Nat.mod_one i
    simp [madeCells, e]
theorem make_u64 (t : TypeId) (ht : Try.prog.underlying t = some (.slice 50)) (w : World) (c : Int) (n : Nat) (hc : c = n) (hn : n ≤ 1000001) :
    (Instr.makeSlice t (.int .i64 c) (.int .i64 c)).run Try.prog w = .ok (.slice (some ⟨w.heap.size, 0, none⟩) n n) (w.alloc (.cells (List.replicate n (Value.int .u64 0)).toArray 50)) := by
  subst hc
  obtain ⟨i0, hi, hz0, hz1, hz2⟩ := info_parts infoU64
  have := run_make (P := Try.prog) w t 50 i0 (.int .u64 0) ht hi hz0 .i64 .i64 n n (by omega) (by omega) (by rw [hz2]; omega) (by omega)
  rw [hz1] at this
  simp only [Int.toNat_natCast, Nat.mul_one] at this
  rw [this, show (Value.int .u64 0).cells = #[Value.int .u64 0] from rfl, made_u64]

theorem readU {w : World} {g : Nat} {os : List Nat} {n : Nat} (h : VRow w g 50 (os.map fun (o : Nat) => Value.int .u64 o)) (hn : os.length = n) : ReadL u64E 1 w (.slice (some ⟨g, 0, none⟩) n n) os := by
  subst hn
  refine ReadL.block (cs := os.map fun (o : Nat) => Value.int .u64 o) h os (os.map fun (o : Nat) => [Value.int .u64 o]) ?_ rfl (by simp) (fun r hr => ?_) (fun i hi => ⟨_, by simp [hi], rfl⟩)
  · clear h
    induction os with
    | nil => rfl
    | cons x r ih => simp [ih]
  · obtain ⟨o, -, rfl⟩ := List.mem_map.1 hr
    simp [Value.oneCell']

def RunPost (w : World) (classes : Nat) (N : List (List Nat)) (O : List Nat) (row : List Int) (e : Ending) (w' : World) : Prop := Below w.heap.size w w' ∧
  ((RowOk classes row ∧ ∃ v, e = .returned (.tuple #[v, .int .i64 0]) ∧ ReadL u64E 1 w' v (runsN N O row)) ∨ (¬ RowOk classes row ∧ e = .returned (.tuple #[.slice none 0 0, .int .i64 1])))

set_option maxRecDepth 100000 in
set_option maxHeartbeats 8000000 in
theorem run_m (w : World) (ob classes : Nat) (N : List (List Nat)) (O : List Nat) (hM : MachD w ob classes N O) (hok : OkN N O classes) (h0 : 0 < N.length) (v : Value) (row : List Int) (hv : Ints w v row) (hl : row.length ≤ 1000000) :
    Calls Try.prog 22 #[.pointer (some ⟨ob, 0, none⟩), v] w (RunPost w classes N O row) := by
  obtain ⟨nn, hnn⟩ : ∃ nn, nn = N.length := ⟨_, rfl⟩
  obtain ⟨hol, pn, cn, po, co, m0, m1, m2, hcn, hco, hgn, hgo⟩ := hM.get hnn.symm (by rw [← hok.len, hnn])
  obtain ⟨p, cp, rfl, hcp, hx⟩ := hv.get
  have HN := Lib.hid hnn
  have HGN := Lib.hid hgn
  have HGO := Lib.hid hgo
  have HOK := Lib.hid hok
  have HX := Lib.hid hx
  have HM1 := Lib.hid (And.intro m1 m2)
  rw [← hnn] at h0
  have hmt : ∀ (w : World), (Instr.makeSlice 45 (.int .i64 ((row.length : Int) + 1)) (.int .i64 ((row.length : Int) + 1))).run Try.prog w = .ok (.slice (some ⟨w.heap.size, 0, none⟩) (row.length + 1) (row.length + 1)) (w.alloc (.cells (List.replicate (row.length + 1) (Value.int .u64 0)).toArray 50)) := fun w => make_u64 _ Try.underlying45 w _ _ (by omega) (by omega)
  clear hM hok hgn hgo hnn m1 m2 hv hx
  go_enter Try.func22, Try.ntmps22
  go_wp2_with fail
  go_loop [14] (fun i => ∃ k : Nat, i = .int .i64 k ∧ k ≤ row.length ∧ ∀ c ∈ row.take k, 0 ≤ c ∧ c < classes) (fun i => row.length - (intOf i).toNat)
  case atStart => exact ⟨0, rfl, by omega, by simp⟩
  case round =>
    obtain ⟨k, rfl, hk1, hs⟩ := hrel
    have HS := Lib.hid hs
    clear hs
    by_cases hk : k < row.length
    · obtain ⟨b, off, rfl, hb, hx⟩ := HX.out (by omega)
      obtain ⟨c, hc⟩ : ∃ c, c = row[k] := ⟨_, rfl⟩
      have d0 := hx k hk
      rw [← hc] at d0
      have HC := Lib.hid hc
      have hki : (k : Int) < row.length := by omega
      have hk0 : (0 : Int) ≤ k := by omega
      clear hx hc
      by_cases h1 : c < 0
      · have HNO := Lib.hid (show ¬ RowOk classes row from fun h => by have := (h c (by rw [HC.out]; exact List.getElem_mem hk)).1; omega)
        go_wp2_with fail
        go_ret2
        exact ⟨Below.refl _ _, .inr ⟨HNO.out, rfl⟩⟩
      · by_cases h2 : c < classes
        · have HS2 := Lib.hid (show ∀ c ∈ row.take (k + 1), 0 ≤ c ∧ c < classes from fun x hx => by
            rw [List.take_succ_eq_append_getElem hk] at hx
            rcases List.mem_append.1 hx with hx | hx
            · exact HS.out x hx
            · rw [List.mem_singleton.1 hx, ← HC.out]; omega)
          go_wp2_with fail
          go_round
          case rel => exact ⟨k + 1, by go_num, by omega, HS2.out⟩
          case measure => simp [intOf]; omega
        · have HNO := Lib.hid (show ¬ RowOk classes row from fun h => by have := (h c (by rw [HC.out]; exact List.getElem_mem hk)).2; omega)
          go_wp2_with fail
          go_ret2
          exact ⟨Below.refl _ _, .inr ⟨HNO.out, rfl⟩⟩
    · have hki : ¬ (k : Int) < row.length := by omega
      have HRO := Lib.hid (show RowOk classes row by have := HS.out; rwa [List.take_of_length_le (by omega)] at this)
      go_upto_region 8 with fail
      refine abs_wp fun W hW => ?_
      obtain ⟨g, hg⟩ : ∃ g, g = w.heap.size := ⟨_, rfl⟩
      have hal := below_alloc1 w (.cells (List.replicate (row.length + 1) (Value.int .u64 0)).toArray 50)
      have hW2 : W = w.alloc (.cells (List.replicate (row.length + 1) (Value.int .u64 0)).toArray 50) := by rw [hW]; simp
      have HV1 := Lib.hid (show VRow W g 50 (List.replicate (row.length + 1) (Value.int .u64 0)) by rw [hW2, hg]; exact heap_alloc_new _ _)
      have HB1 := Lib.hid (show Below w.heap.size w W by rw [hW2]; exact hal)
      have hg0 : w.heap.size ≤ g := by omega
      rw [← hg]
      clear hW hW2 hal hg
      have og : ∀ s, s < nn → ∃ b off, po = some ⟨b, off, none⟩ ∧ b < w.heap.size ∧ w.cell? ⟨b, off + s, none⟩ = some (.int .u64 (at0 O s : Nat)) := fun s hs => by
        have hsO : s < O.length := by rw [← HOK.out.len, ← HN.out]; exact hs
        refine HGO.out s (at0 O s) ?_
        unfold at0
        rw [List.getElem?_eq_getElem hsO]
        rfl
      have HOG := Lib.hid og
      obtain ⟨bo, oo, rfl, hbo, e0⟩ := og 0 h0
      obtain ⟨a0, ha0⟩ : ∃ a0, a0 = at0 O 0 := ⟨_, rfl⟩
      rw [← ha0] at e0
      have HA0 := Lib.hid ha0
      have e1 := cell_below HB1.out hbo e0
      have e2 := cell_below HB1.out hol HM1.out.2
      simp only [Nat.add_zero] at e1
      have z0 := HV1.out.cell (i := 0) (u := .int .u64 0) (by simp)
      have z1 := HV1.out.fz 0
      clear og ha0 e0
      go_upto_region 10 with fail
      refine abs_wp fun W2 hW2 => ?_
      have HV2 := Lib.hid (show VRow W2 g 50 ((((List.range (0 + 1)).map fun j => at0 O (stA N row j)).map fun (o : Nat) => Value.int .u64 o) ++ List.replicate (row.length - 0) (.int .u64 0)) by
        have h := HV1.out.set 0 (.int .u64 (a0 : Nat))
        rw [hW2]
        have e : (List.replicate (row.length + 1) (Value.int .u64 0)).set 0 (.int .u64 (a0 : Nat)) = ((((List.range (0 + 1)).map fun j => at0 O (stA N row j)).map fun (o : Nat) => Value.int .u64 o) ++ List.replicate (row.length - 0) (.int .u64 0)) := by
          rw [List.replicate_succ, List.set_cons_zero, HA0.out]
          rfl
        rw [e] at h
        exact h)
      have HB2 := Lib.hid (show Below w.heap.size w W2 by rw [hW2]; exact HB1.out.trans ((Fr.setCell (F := fun k => k = g) W rfl _).below HB1.out.size (fun k (hk : k = g) => by omega)))
      clear hW2 e1 e2 z0 z1
      go_wp2_with fail
      go_loopw [9, 44] (fun st i w1 => ∃ k : Nat, i = .int .i64 k ∧ k ≤ row.length ∧ st = .int .i64 (stA N row k : Nat) ∧ VRow w1 g 50 ((((List.range (k + 1)).map fun j => at0 O (stA N row j)).map fun (o : Nat) => Value.int .u64 o) ++ List.replicate (row.length - k) (.int .u64 0)) ∧ Below w.heap.size w w1) (fun _ i _ => row.length - (intOf i).toNat)
      case atStart => exact ⟨0, rfl, by omega, rfl, HV2.out, HB2.out⟩
      case round =>
        obtain ⟨k2, rfl, hk2, rfl, hv, hb⟩ := hrel
        have HV := Lib.hid hv
        have HB := Lib.hid hb
        clear hv
        by_cases hkk : k2 < row.length
        · obtain ⟨b, off, rfl, hbx, hx⟩ := HX.out (by omega)
          have hcr := HRO.out row[k2] (List.getElem_mem hkk)
          obtain ⟨c, hc⟩ : ∃ c : Nat, row[k2] = c := ⟨(row[k2]).toNat, by omega⟩
          have d0 := cell_below hb hbx (hx k2 hkk)
          rw [hc] at d0 hcr
          have hss := stA_lt HOK.out (by rw [← HN.out]; exact h0) HRO.out k2 hk2
          have hsn := stA_succ (N := N) hkk
          rw [hc, Int.toNat_natCast] at hsn
          obtain ⟨s, hs⟩ : ∃ s, s = stA N row k2 := ⟨_, rfl⟩
          obtain ⟨s2, hs2⟩ : ∃ s2, s2 = stA N row (k2 + 1) := ⟨_, rfl⟩
          have HS := Lib.hid hs
          have HS2 := Lib.hid hs2
          rw [← hs] at hss hsn ⊢
          rw [← hs2] at hsn
          have hc2 : c < classes := by omega
          have hs2l : s2 < nn := by rw [hsn, HN.out]; exact HOK.out.go hss hc2
          obtain ⟨r, hr⟩ : ∃ r, r = N[s] := ⟨_, rfl⟩
          have hrow := HOK.out.row r (by rw [hr]; exact List.getElem_mem hss)
          obtain ⟨bn, on, rv, rfl, hbn, d1, hrv⟩ := HGN.out s r (by rw [hr]; exact List.getElem?_eq_getElem hss)
          obtain ⟨pr, cr, rfl, hcr2, hrc⟩ := hrv.get
          have hrl : (natsI r).length = classes := by unfold natsI; rw [List.length_map]; exact hrow.1
          rw [hrl] at d1 hcr2
          obtain ⟨b2, o2, rfl, hb2l, hrc⟩ := hrc (by rw [hrl]; omega)
          have hcl : c < r.length := by rw [hrow.1]; exact hc2
          have hs2e : s2 = r[c] := by
            have h1 : N[s]? = some r := by rw [hr]; exact List.getElem?_eq_getElem hss
            rw [hsn]
            unfold goN
            rw [h1]
            show at0 r c = _
            unfold at0
            rw [List.getElem?_eq_getElem hcl]
            rfl
          have d3 : w.cell? ⟨b2, o2 + c, none⟩ = some (.int .i64 (s2 : Nat)) := by
            rw [hrc c (by rw [hrl]; exact hc2), hs2e]
            simp [natsI]
          obtain ⟨bo', oo', ho', hbo', d4⟩ := HOG.out s2 hs2l
          injection ho' with ho'
          injection ho' with ho1 ho2
          subst ho1 ho2
          obtain ⟨az, haz⟩ : ∃ az, az = at0 O s2 := ⟨_, rfl⟩
          rw [← haz] at d4
          have HAZ := Lib.hid haz
          have x1 := cell_below hb hbn d1
          have x3 := cell_below hb hb2l d3
          have x4 := cell_below hb hbo' d4
          have x5 := cell_below hb hol HM1.out.1
          have x6 := cell_below hb hol HM1.out.2
          have hsl : s < nn := by rw [HN.out]; exact hss
          have hsi : (s : Int) < nn := by omega
          have hs0 : (0 : Int) ≤ s := by omega
          have hs2i : (s2 : Int) < nn := by omega
          have hs20 : (0 : Int) ≤ s2 := by omega
          have hci : (c : Int) < classes := by omega
          have hc0 : (0 : Int) ≤ c := by omega
          have hki2 : (k2 : Int) < row.length := by omega
          have hki3 : (k2 : Int) + 1 < ((row.length + 1 : Nat) : Int) := by omega
          have hk20 : (0 : Int) ≤ k2 := by omega
          have hk21 : (0 : Int) ≤ (k2 : Int) + 1 := by omega
          have hnt : ((k2 : Int) + 1).toNat = k2 + 1 := by omega
          have hfl : (((List.range (k2 + 1)).map fun j => at0 O (stA N row j)).map fun (o : Nat) => Value.int .u64 o).length = k2 + 1 := by simp
          have z0 := HV.out.cell (i := k2 + 1) (u := .int .u64 0) (by rw [List.getElem?_append_right (by omega), hfl, Nat.sub_self, List.getElem?_replicate, if_pos (by omega)])
          have z1 := HV.out.fz (k2 + 1)
          have HFS := Lib.hid (fill_set (((List.range (k2 + 1)).map fun j => at0 O (stA N row j)).map fun (o : Nat) => Value.int .u64 o) (row.length - k2) (.int .u64 (az : Nat)) (.int .u64 0) hfl (by omega))
          clear hx hc hcr hs hs2 hsn hr hrow hrv hrl hrc hs2e d1 d3 d4 haz hfl hb hcl
          go_upto_region 15 with fail
          refine abs_wp fun W3 hW3 => ?_
          have HV3 := Lib.hid (show VRow W3 g 50 ((((List.range (k2 + 1 + 1)).map fun j => at0 O (stA N row j)).map fun (o : Nat) => Value.int .u64 o) ++ List.replicate (row.length - (k2 + 1)) (.int .u64 0)) by
            have h := HV.out.set (k2 + 1) (.int .u64 (az : Nat))
            rw [HFS.out] at h
            rw [hW3, List.range_succ, List.map_append, List.map_append, show row.length - (k2 + 1) = row.length - k2 - 1 by omega]
            have e : ([k2 + 1].map fun j => at0 O (stA N row j)).map (fun (o : Nat) => Value.int .u64 o) = [Value.int .u64 (az : Nat)] := by rw [HAZ.out, HS2.out]; rfl
            rw [e]
            exact h)
          have HB3 := Lib.hid (show Below w.heap.size w W3 by rw [hW3]; exact HB.out.trans ((Fr.setCell (F := fun k => k = g) wr rfl _).below HB.out.size (fun k (hk : k = g) => by omega)))
          clear hW3 z0 z1 d0 x1 x3 x4 x5 x6
          go_wp2_with fail
          go_roundw
          case rel => exact ⟨k2 + 1, by go_num, by omega, by rw [HS2.out], HV3.out, HB3.out⟩
          case measure => simp [intOf]; omega
        · have hkk2 : ¬ (k2 : Int) < row.length := by omega
          obtain rfl : row.length = k2 := by omega
          have HV9 := Lib.hid (show VRow wr g 50 ((runsN N O row).map fun (o : Nat) => Value.int .u64 o) by
            have := HV.out
            rw [Nat.sub_self, List.replicate_zero, List.append_nil] at this
            exact this)
          have HL9 := Lib.hid (show (runsN N O row).length = row.length + 1 by unfold runsN; simp)
          go_wp2_with fail
          go_ret2
          exact ⟨HB.out, .inl ⟨HRO.out, _, rfl, readU HV9.out HL9.out⟩⟩
end Go.Proofs.Yteamokljlcnicaa

/-
  foolscaplaw08: what must be in any case. No condition beyond what each theorem names.
-/
set_option linter.unusedVariables false
set_option linter.unusedSimpArgs false
namespace Go.Proofs.Yteamokljlcnicaa
open Go.RowKit Classical

theorem set8_any (w : World) (v : Value) (cls : List Int) (hv : Ints w v cls) (hb : cls.length * 8 ≤ R) : Calls Try.prog 21 #[v] w fun e w' =>
    e = .returned (.agg #[.int .i64 1, v, .slice none 0 0]) ∧ NodeIs w' (.mk 1 cls []) (.int .i64 1) v (.slice none 0 0) ∧ Below w.heap.size w w' := by
  obtain ⟨p, c, rfl, -, -⟩ := hv.get
  have HV := Lib.hid hv
  clear hv
  go_enter Try.func21, Try.ntmps21
  go_wp2
  have hbe : Below w.heap.size w (w.alloc (.cells #[.int .i64 1, .slice p cls.length c, .slice none 0 0] 38)) := below_alloc1 _ _
  refine bodyPost_ret (v := .agg #[.int .i64 1, .slice p cls.length c, .slice none 0 0]) (by simp [results, Try.results21, go_sem]) rfl ⟨rfl, ?_, ?_⟩
  · rw [nodeIs_iff]
    exact ⟨rfl, HV.out.to hbe (Nat.le_refl _), hb, by unfold R; simp, [], ⟨by simp, none, 0, rfl, by simp, fun h => by simp at h⟩, rfl, fun i h => by simp at h⟩
  · exact hbe

theorem x0_arg : ArgOk 2 [(x0, false)] := ⟨by omega, by omega, by simp, fun x hx => by
  rw [List.mem_singleton.1 hx]
  exact ⟨x0_right, by simp [x0, insideB, insideL]⟩⟩

set_option maxRecDepth 100000 in
set_option maxHeartbeats 8000000 in
theorem shown8 (w : World) : Calls Try.prog 12 #[] w (Says true w) := by
  go_enter Try.func12, Try.ntmps12
  go_wp2_with fail
  have hal := below_alloc1 w (.cells #[.int .i64 0] 3)
  have HAL := Lib.hid hal
  refine (set8_any _ _ [0] (Raw.of_block (cs := [.int .i64 0]) (heap_alloc_new w _)) (by unfold R; simp)).mono ?_
  rintro e w1 ⟨rfl, hn1, hb1⟩
  have HB1 := Lib.hid (HAL.out.trans (hb1.mono HAL.out.size))
  have HN1 := Lib.hid hn1
  clear hal hn1 hb1
  have hal1 := below_alloc1 w1 (.cells #[.int .i64 1, .slice (some ⟨w.heap.size, 0, none⟩) 1 1, .slice none 0 0, .bool false] 40)
  have HAL1 := Lib.hid hal1
  have HE := Lib.hid (show ReadL (exprE (w1.alloc (.cells #[.int .i64 1, .slice (some ⟨w.heap.size, 0, none⟩) 1 1, .slice none 0 0, .bool false] 40))) 4 (w1.alloc (.cells #[.int .i64 1, .slice (some ⟨w.heap.size, 0, none⟩) 1 1, .slice none 0 0, .bool false] 40)) (.slice (some ⟨w1.heap.size, 0, none⟩) 1 1) [(x0, false)] from
    ReadL.one w1 _ (x0, false) [.int .i64 1, .slice (some ⟨w.heap.size, 0, none⟩) 1 1, .slice none 0 0, .bool false] ⟨rfl, by simp [Value.oneCell']⟩ ⟨_, _, _, rfl, HN1.out.to hal1 (Nat.le_refl _)⟩)
  have HBU := Lib.hid (build_any _ _ [(x0, false)] 2 HE.out (by simp))
  clear hal1
  go_wp2_with fail
  refine HBU.out.mono ?_
  rintro e w2 ⟨hb2, hcase⟩
  have HB2 := Lib.hid (HB1.out.trans ((HAL1.out.trans (hb2.mono HAL1.out.size)).mono HB1.out.size))
  have hcase2 : ∃ ob, e = .returned (.tuple #[.pointer (some ⟨ob, 0, none⟩), .int .i64 0]) ∧ MachD w2 ob 2 [[1, 0], [1, 0]] [0, 1] := by
    rcases hcase with ⟨h, -⟩ | ⟨-, h, -⟩ | ⟨-, ob, N, O, -, h, he, hm⟩
    · exact absurd x0_arg h
    · have := built_det h built_x0
      cases this
    · have h1 := Option.some.inj (built_det h built_x0)
      obtain ⟨h2, h3⟩ := Prod.mk.inj h1
      have h4 : O = [0, 1] := by
        have : O.map some = [0, 1].map some := h3
        exact (List.map_inj_right (fun x y h => Option.some.inj h)).1 this
      rw [h2, h4] at hm
      exact ⟨ob, he, hm⟩
  obtain ⟨ob, rfl, hmd⟩ := hcase2
  have HMD := Lib.hid hmd
  clear hcase hb2 hmd
  have HBU2 := Lib.hid (build_any w2 (.slice none 0 0) [] 0 ⟨[], ⟨none, 0, rfl, by simp, fun h => by simp at h⟩, rfl, by simp, fun i h => by simp at h⟩ (by simp))
  go_wp2_with fail
  refine HBU2.out.mono ?_
  rintro e w3 ⟨hb3, hcase⟩
  have HB3 := Lib.hid (HB2.out.trans (hb3.mono HB2.out.size))
  have HMD3 := Lib.hid (HMD.out.to hb3)
  have hno : ¬ ArgOk 0 ([] : List (Nd × Bool)) := by rintro ⟨h, -⟩; omega
  rcases hcase with ⟨-, rfl⟩ | ⟨h, -⟩ | ⟨h, -⟩
  · obtain ⟨hol, pn, cn, po, co, m0, m1, m2, -, -, hgn, hgo⟩ := HMD3.out.get (nn := 2) rfl rfl
    obtain ⟨bn, on, v0, rfl, -, n0, i0⟩ := hgn 0 _ rfl
    obtain ⟨bn', on', v1, hb, -, n1, i1⟩ := hgn 1 _ rfl
    injection hb with hb
    injection hb with e1 e2
    subst e1 e2
    obtain ⟨bo, oo, rfl, -, o0⟩ := hgo 0 _ rfl
    obtain ⟨bo', oo', hb, -, o1⟩ := hgo 1 _ rfl
    injection hb with hb
    injection hb with e1 e2
    subst e1 e2
    obtain ⟨q0, c0, rfl, -, j0⟩ := i0.get
    obtain ⟨b0, k0, rfl, -, j0⟩ := j0 (by simp [natsI])
    have a0 := j0 0 (by simp [natsI])
    have a1 := j0 1 (by simp [natsI])
    have hok : OkN [[1, 0], [1, 0]] [0, 1] 2 := ⟨rfl, fun r hr => by
      simp at hr
      subst hr
      exact ⟨rfl, fun n hn => by simp at hn; rcases hn with rfl | rfl <;> simp⟩⟩
    have HS1 := Lib.hid (step_m w3 ob 2 _ _ HMD3.out hok 1 0)
    have HS2 := Lib.hid (step_m w3 ob 2 _ _ HMD3.out hok 1 1)
    have HS3 := Lib.hid (step_m w3 ob 2 _ _ HMD3.out hok 5 0)
    have HS4 := Lib.hid (step_m w3 ob 2 _ _ HMD3.out hok 0 (-1))
    rw [show stepI [[1, 0], [1, 0]] 2 1 0 = 1 by decide] at HS1
    rw [show stepI [[1, 0], [1, 0]] 2 1 1 = 0 by decide] at HS2
    rw [show stepI [[1, 0], [1, 0]] 2 5 0 = 0 by decide] at HS3
    rw [show stepI [[1, 0], [1, 0]] 2 0 (-1) = 0 by decide] at HS4
    have hbd : Bd [[1, 0], [1, 0]] [0, 1] := ⟨by simp, by simp, fun r hr => by simp at hr; subst hr; simp⟩
    have HEQ := Lib.hid (equal_m w3 ob ob 2 2 _ _ _ _ HMD3.out HMD3.out hbd hbd)
    rw [show decide (2 = 2 ∧ ([0, 1] : List Nat) = [0, 1] ∧ ([[1, 0], [1, 0]] : List (List Nat)) = [[1, 0], [1, 0]]) = true from decide_eq_true ⟨rfl, rfl, rfl⟩] at HEQ
    simp only [natsI, List.map_cons, List.map_nil, List.getElem_cons_zero, List.getElem_cons_succ, List.length_cons, List.length_nil, Nat.add_zero] at n0 n1 o0 o1 a0 a1
    clear hgn hgo hno hb3 hok hbd i0 i1 j0
    go_wp2_with fail
    refine HS1.out.mono ?_
    rintro e wz ⟨rfl, rfl⟩
    go_wp2_with fail
    refine HS2.out.mono ?_
    rintro e wz ⟨rfl, rfl⟩
    go_wp2_with fail
    refine HS3.out.mono ?_
    rintro e wz ⟨rfl, rfl⟩
    go_wp2_with fail
    refine HS4.out.mono ?_
    rintro e wz ⟨rfl, rfl⟩
    go_wp2_with fail
    refine HEQ.out.mono ?_
    rintro e w9 ⟨rfl, hb9⟩
    have HB9 := Lib.hid (HB3.out.trans (hb9.mono HB3.out.size))
    clear hb9
    go_wp2_with fail
    go_ret
    exact ⟨rfl, HB9.out⟩
  · exact absurd h hno
  · exact absurd h hno
end Go.Proofs.Yteamokljlcnicaa

/-
  DfaBeginnings: what comes later does not matter. No condition beyond what each theorem names.
-/
set_option linter.unusedVariables false
set_option linter.unusedSimpArgs false
namespace Go.Proofs.Yteamokljlcnicaa
open Go.RowKit Classical

theorem OwnL.exprs {base : Nat} {w w' : World} {T : TypeId} {v : Value} {L : List (Nd × Bool)} (h : OwnL (exprE w) T 4 base w' v L) (hb : Below w.heap.size w w') : ReadL (exprE w') 4 w' v L :=
  h.read.monoE (fun x r hr => by
    obtain ⟨a, b, c, rfl, hn⟩ := hr
    exact ⟨a, b, c, rfl, hn.to hb (Nat.le_refl _)⟩)

theorem stA_take (N : List (List Nat)) (row : List Int) {k j : Nat} (h : j ≤ k) : stA N (row.take k) j = stA N row j := by
  unfold stA
  rw [List.take_take, Nat.min_eq_left h]
theorem runs_get {N : List (List Nat)} {O : List Nat} {row : List Int} {k : Nat} (h : k ≤ row.length) : (runsN N O row)[k]? = some (at0 O (stA N row k)) := by
  unfold runsN
  rw [List.getElem?_map, List.getElem?_range (by omega)]
  rfl
theorem runs_length (N : List (List Nat)) (O : List Nat) (row : List Int) : (runsN N O row).length = row.length + 1 := by unfold runsN; simp
theorem stepI_st {β : Type} {N : List (List Nat)} {O : List β} {classes : Nat} (h : OkN N O classes) (h0 : 0 < N.length) {row : List Int} (hr : RowOk classes row) {k : Nat} (hk : k < row.length) : stepI N classes (stA N row k : Nat) row[k] = stA N row (k + 1) := by
  have h1 := stA_lt h h0 hr k (by omega)
  have h2 := hr row[k] (List.getElem_mem hk)
  unfold stepI
  rw [if_pos (by omega), Int.toNat_natCast, stA_succ hk]
theorem RowOk.take {classes : Nat} {row : List Int} (h : RowOk classes row) (k : Nat) : RowOk classes (row.take k) := fun c hc => h c (List.mem_of_mem_take hc)

set_option maxRecDepth 100000 in
set_option maxHeartbeats 8000000 in
theorem beginnings_law (w : World) (n : Int) (v : Value) (l : List (Nd × Bool)) (v2 : Value) (t : List Int) (at_ : Int) (hv : ReadL (exprE w) 4 w v l) (hl : l.length ≤ maxLen) (hv2 : Ints w v2 t) (hn : t.length ≤ 9223372036854775807) :
    Calls Try.prog 11 #[.int .i64 n, v, v2, .int .i64 at_] w (Says true w) := by
  obtain ⟨p, cp, rfl, -, -⟩ := hv.at (by decide) rfl
  obtain ⟨pt, ct, rfl, hct, hxt⟩ := hv2.get
  have HL := Lib.hid hv
  have HV := Lib.hid hv2
  have HLL := Lib.hid hl
  clear hv hv2 hxt hl
  go_enter Try.func11, Try.ntmps11
  go_wp2_with fail
  refine (shown8 w).mono ?_
  rintro e w1 ⟨rfl, hb1⟩
  have HB1 := Lib.hid hb1
  clear hb1
  obtain ⟨row, hrow⟩ : ∃ row, row = t.take 30 := ⟨_, rfl⟩
  have hrl : row.length = min t.length 30 := by rw [hrow, List.length_take, Nat.min_comm]
  go_upto_region 2 with fail
  go_cut [2] (fun rv wx => Ints w rv row ∧ wx = w1)
  case first =>
    cases pt with
    | none =>
      have h0 : t = [] := by
        obtain ⟨p', c', he, -, hx⟩ := HV.out
        injection he with he1 he2 he3
        subst he1
        cases t with
        | nil => rfl
        | cons x r => obtain ⟨b, off, e, -⟩ := hx (by simp); cases e
      subst h0
      have HI := Lib.hid (show Ints w (.slice none 0 ct) row by rw [hrow]; exact HV.out)
      clear hrow hrl
      go_wp2_with fail
      go_meet
      case rel => exact ⟨HI.out, rfl⟩
    | some ad =>
      by_cases h40 : t.length ≤ 30
      · have h41 : ¬ (30 : Int) < t.length := by omega
        have HI := Lib.hid (show Ints w (.slice (some ad) (min (t.length : Int) 30).toNat ct) row by rw [hrow, List.take_of_length_le h40, show (min (t.length : Int) 30).toNat = t.length by omega]; exact HV.out)
        clear hrow hrl
        go_wp2_with fail
        go_meet
        case rel => exact ⟨HI.out, rfl⟩
      · have h41 : (30 : Int) < t.length := by omega
        have HI := Lib.hid (show Ints w (.slice (some ad) (min (t.length : Int) 30).toNat ct) row by rw [hrow, show (min (t.length : Int) 30).toNat = 30 by omega]; exact HV.out.take (by omega))
        clear hrow hrl
        go_wp2_with fail
        go_meet
        case rel => exact ⟨HI.out, rfl⟩
  case rest =>
    obtain ⟨hi, rfl⟩ := hcut
    obtain ⟨pr, cr, rfl, hcr, hxr⟩ := hi.get
    have hr30 : row.length ≤ 30 := by omega
    have HI := Lib.hid hi
    have HXR := Lib.hid hxr
    have HFEW := Lib.hid (few_law wc (.slice p l.length cp) l ((HL.out.below HB1.out (Nat.le_refl _)).monoE (fun x r hr => by
      obtain ⟨a, b, c, rfl, hn⟩ := hr
      exact ⟨a, b, c, rfl, hn.to HB1.out (Nat.le_refl _)⟩)) HLL.out)
    obtain ⟨L, hL⟩ : ∃ L, L = fewL l := ⟨_, rfl⟩
    rw [← hL] at HFEW
    have hL8 : L.length ≤ 8 := by rw [hL]; exact fewL_length l
    clear hi hxr hrow hrl hL
    go_wp2_with fail
    refine HFEW.out.mono ?_
    rintro e w2 ⟨va, vb, rfl, hoa, hob, hb2⟩
    have HB2 := Lib.hid (HB1.out.trans (hb2.mono HB1.out.size))
    have HBU := Lib.hid (build_any w2 va L n (hoa.exprs hb2) (by omega))
    obtain ⟨pa, ca, hva⟩ := hoa.form
    subst hva
    obtain ⟨pb, cb, hvb⟩ := hob.form
    subst hvb
    clear hb2 hoa hob
    go_wp2_with fail
    refine HBU.out.mono ?_
    rintro e w3 ⟨hb3, hcase⟩
    have HB3 := Lib.hid (HB2.out.trans (hb3.mono HB2.out.size))
    clear hb3
    rcases hcase with ⟨-, rfl⟩ | ⟨-, -, rfl⟩ | ⟨hao, ob, N, O, -, hbu, rfl, hmd⟩
    · go_wp2_with fail
      go_ret
      exact ⟨rfl, HB3.out⟩
    · go_wp2_with fail
      go_ret
      exact ⟨rfl, HB3.out⟩
    · obtain ⟨hok, hpos, h400, -⟩ := built_bits (fun e he => (hao.2.2.2 e he).1) hbu
      obtain ⟨cn, hcn⟩ : ∃ cn, cn = n.toNat := ⟨_, rfl⟩
      rw [← hcn] at hmd hok
      have HMD := Lib.hid hmd
      have HOK := Lib.hid hok
      have HPOS := Lib.hid hpos
      have HRUN := Lib.hid (run_m w3 ob cn N O hmd hok hpos _ row (HI.out.to HB3.out (Nat.le_refl _)) (by omega))
      have h400' := h400
      clear hao hbu hmd hok hpos hcn h400
      go_wp2_with fail
      refine HRUN.out.mono ?_
      rintro e w4 ⟨hb4, hcase⟩
      have HB4 := Lib.hid (HB3.out.trans (hb4.mono HB3.out.size))
      have HMD4 := Lib.hid (HMD.out.to hb4)
      clear hb4
      rcases hcase with ⟨hro, vo, rfl, hvo⟩ | ⟨-, rfl⟩
      · obtain ⟨po, co, rfl, hco, hgo⟩ := hvo.at (by decide) (runs_length N O row)
        have HRO := Lib.hid hro
        have HGO := Lib.hid hgo
        have HBIT := Lib.hid (bits_and_le at_ 65535 (by omega))
        clear hro hvo hgo
        obtain ⟨k, hk, hkl⟩ : ∃ k : Nat, (bits .and .i64 at_ 65535).tmod ((row.length : Int) + 1) = k ∧ k ≤ row.length := by
          have h1 : 0 ≤ bits .and .i64 at_ 65535 := HBIT.out.1
          have h2 := Int.tmod_lt_of_pos (bits .and .i64 at_ 65535) (show (0 : Int) < (row.length : Int) + 1 by omega)
          have h3 := Int.tmod_nonneg ((row.length : Int) + 1) h1
          exact ⟨((bits .and .i64 at_ 65535).tmod ((row.length : Int) + 1)).toNat, by omega, by omega⟩
        go_upto_region 11 with fail
        have hki : (k : Int) ≤ row.length := by omega
        have hk0 : (0 : Int) ≤ k := by omega
        have HIT := Lib.hid ((HI.out.to HB4.out (Nat.le_refl _)).take hkl)
        have HTL := Lib.hid (show (row.take k).length = k by rw [List.length_take]; omega)
        have HRUN2 := Lib.hid (run_m w4 ob cn N O HMD4.out HOK.out HPOS.out _ (row.take k) HIT.out (by rw [HTL.out]; omega))
        clear hk HBIT
        go_cut [17, 18] (fun v e wx => e = .int .i64 0 ∧ ReadL u64E 1 wx v (runsN N O (row.take k)) ∧ Below w4.heap.size w4 wx)
        case first =>
          cases pr with
          | none =>
            have hr0 : row.length = 0 := by
              by_cases h : 0 < row.length
              · obtain ⟨b, off, h, -⟩ := HXR.out h
                cases h
              · omega
            have HR0 := Lib.hid hr0
            obtain rfl : k = 0 := by omega
            clear hr0 hki hk0
            go_wp2_with fail
            refine HRUN2.out.mono ?_
            rintro e w5 ⟨hb5, hcase⟩
            rcases hcase with ⟨-, v5, rfl, hv5⟩ | ⟨hno, -⟩
            · have HV5 := Lib.hid hv5
              have HB5 := Lib.hid hb5
              clear hv5 hb5
              go_wp2_with fail
              go_meet
              case rel => exact ⟨rfl, HV5.out, HB5.out⟩
            · exact (hno (HRO.out.take 0)).elim
          | some ad =>
            go_wp2_with fail
            refine HRUN2.out.mono ?_
            rintro e w5 ⟨hb5, hcase⟩
            rcases hcase with ⟨-, v5, rfl, hv5⟩ | ⟨hno, -⟩
            · have HV5 := Lib.hid hv5
              have HB5 := Lib.hid hb5
              clear hv5 hb5
              go_wp2_with fail
              go_meet
              case rel => exact ⟨rfl, HV5.out, HB5.out⟩
            · exact (hno (HRO.out.take k)).elim
        case rest =>
          obtain ⟨rfl, hv5, hb5⟩ := hcut
          obtain ⟨p5, c5, rfl, hc5, hg5⟩ := hv5.at (by decide) (show _ = k + 1 by rw [runs_length, HTL.out])
          have HB5 := Lib.hid hb5
          have HREAD := Lib.hid (show ∀ W, Below wc.heap.size wc W → ∀ j : Nat, j ≤ k → ∃ b off b' off', p5 = some ⟨b, off, none⟩ ∧ po = some ⟨b', off', none⟩ ∧ W.cell? ⟨b, off + j, none⟩ = some (.int .u64 (at0 O (stA N row j) : Nat)) ∧ W.cell? ⟨b', off' + j, none⟩ = some (.int .u64 (at0 O (stA N row j) : Nat)) from fun W hW j hj => by
            have e1 := runs_get (N := N) (O := O) (row := row.take k) (k := j) (by rw [HTL.out]; exact hj)
            rw [stA_take N row hj] at e1
            obtain ⟨b, off, r, rfl, hbl, hc, rfl⟩ := hg5 j _ e1
            obtain ⟨b', off', r', rfl, hbl', hc', rfl⟩ := HGO.out j _ (runs_get (by omega))
            have d1 := hc 0 _ rfl
            have d2 := hc' 0 _ rfl
            simp only [Nat.mul_one, Nat.add_zero] at d1 d2
            exact ⟨b, off, b', off', rfl, rfl, cell_below hW hbl d1, cell_below (hb5.trans (hW.mono hb5.size)) hbl' d2⟩)
          have HREAD2 := Lib.hid (show ∀ W, Below wc.heap.size wc W → ∀ j : Nat, j ≤ row.length → ∃ b' off', po = some ⟨b', off', none⟩ ∧ W.cell? ⟨b', off' + j, none⟩ = some (.int .u64 (at0 O (stA N row j) : Nat)) from fun W hW j hj => by
            obtain ⟨b', off', r', rfl, hbl', hc', rfl⟩ := HGO.out j _ (runs_get hj)
            have d2 := hc' 0 _ rfl
            simp only [Nat.mul_one, Nat.add_zero] at d2
            exact ⟨b', off', rfl, cell_below (hb5.trans (hW.mono hb5.size)) hbl' d2⟩)
          have HROW := Lib.hid (show ∀ W, Below wc.heap.size wc W → ∀ j : Nat, (h : j < row.length) → ∃ b off, pr = some ⟨b, off, none⟩ ∧ W.cell? ⟨b, off + j, none⟩ = some (.int .i64 row[j]) from fun W hW j hj => by
            obtain ⟨b, off, rfl, hb, hx⟩ := HXR.out (by omega)
            exact ⟨b, off, rfl, cell_below ((HB4.out.trans (hb5.mono HB4.out.size)).trans (hW.mono (Nat.le_trans HB4.out.size hb5.size))) hb (hx j hj)⟩)
          have HMDW := Lib.hid (show ∀ W, Below wc.heap.size wc W → MachD W ob cn N O from fun W hW => (HMD4.out.to hb5).to hW)
          have HBW := Lib.hid (show ∀ W, Below wc.heap.size wc W → Below w.heap.size w W from fun W hW => (HB4.out.trans (hb5.mono HB4.out.size)).trans (hW.mono (Nat.le_trans HB4.out.size hb5.size)))
          clear hv5 hb5 hg5 HIT HRUN2 HRUN HFEW HBU
          have hki : (k : Int) ≤ row.length := by omega
          go_wp2_with fail
          go_loopw [19, 20] (fun st i wz => ∃ j : Nat, i = .int .i64 j ∧ j ≤ k ∧ st = .int .i64 (stA N row j : Nat) ∧ Below wc.heap.size wc wz) (fun _ i _ => k - (intOf i).toNat)
          case atStart => exact ⟨0, rfl, by omega, rfl, Below.refl _ _⟩
          case round =>
            obtain ⟨j, rfl, hj, rfl, hb⟩ := hrel
            have HB := Lib.hid hb
            by_cases hjk : j < k
            · obtain ⟨b, off, b', off', rfl, rfl, d1, d2⟩ := HREAD.out _ hb j hj
              obtain ⟨o, ho⟩ : ∃ o, o = at0 O (stA N row j) := ⟨_, rfl⟩
              rw [← ho] at d1 d2
              obtain ⟨s, hs⟩ : ∃ s, s = stA N row j := ⟨_, rfl⟩
              rw [← hs]
              have HS := Lib.hid hs
              have hji : (j : Int) < k := by omega
              have hjr : j < row.length := by omega
              have hjri : (j : Int) < row.length := by omega
              have hji2 : (j : Int) < (k : Int) + 1 := by omega
              have hji3 : (j : Int) < (row.length : Int) + 1 := by omega
              have hj0 : (0 : Int) ≤ j := by omega
              clear hb ho hs
              go_upto_region 18 with fail
              go_quiet (fail)
              go_upto_region 20 with fail
              refine abs_wp fun W2 hW2 => ?_
              have HB2 := Lib.hid (show Below wc.heap.size wc W2 by rw [hW2]; exact ⟨HB.out.os, HB.out.tape, HB.out.output, HB.out.size, HB.out.block⟩)
              clear hW2 d1 d2
              obtain ⟨br, offr, rfl, d3⟩ := HROW.out W2 HB2.out j hjr
              have HSTEP := Lib.hid (step_m W2 ob cn N O (HMDW.out W2 HB2.out) HOK.out (s : Nat) row[j])
              rw [HS.out, stepI_st HOK.out HPOS.out HRO.out hjr, ← HS.out] at HSTEP
              obtain ⟨c, hc⟩ : ∃ c, c = row[j] := ⟨_, rfl⟩
              rw [← hc] at d3 HSTEP
              obtain ⟨s2, hs2⟩ : ∃ s2, s2 = stA N row (j + 1) := ⟨_, rfl⟩
              rw [← hs2] at HSTEP
              have HS2 := Lib.hid hs2
              clear hc hs2
              go_wp2_with fail
              refine HSTEP.out.mono ?_
              rintro e w6 ⟨rfl, rfl⟩
              go_wp2_with fail
              go_round
              case rel => exact ⟨j + 1, by go_num, by omega, by rw [HS2.out], HB2.out⟩
              case measure => simp [intOf]; omega
            · obtain rfl : j = k := by omega
              have hji : ¬ (j : Int) < j := by omega
              clear hb
              go_wp2_with fail
              go_loopw [19, 21] (fun st i wz => ∃ j2 : Nat, i = .int .i64 j2 ∧ j2 ≤ row.length ∧ st = .int .i64 (stA N row j2 : Nat) ∧ Below wc.heap.size wc wz) (fun _ i _ => row.length - (intOf i).toNat)
              case atStart => exact ⟨j, rfl, by omega, rfl, HB.out⟩
              case round =>
                obtain ⟨j2, rfl, hj2, rfl, hb2⟩ := hrel
                have HB2 := Lib.hid hb2
                by_cases hjr : j2 < row.length
                · obtain ⟨br, offr, rfl, d3⟩ := HROW.out _ hb2 j2 hjr
                  have HSTEP := Lib.hid (step_m wr ob cn N O (HMDW.out _ hb2) HOK.out (stA N row j2 : Nat) row[j2])
                  rw [stepI_st HOK.out HPOS.out HRO.out hjr] at HSTEP
                  obtain ⟨nn, hnn⟩ : ∃ nn, nn = N.length := ⟨_, rfl⟩
                  obtain ⟨hol, pn, cn', pm, cm, m0, m1, m2, -, -, -, hgo⟩ := (HMDW.out _ hb2).get hnn.symm (by rw [← HOK.out.len, hnn])
                  have hlt := stA_lt HOK.out HPOS.out HRO.out (j2 + 1) (by omega)
                  obtain ⟨b', off', rfl, d2⟩ := HREAD2.out _ hb2 (j2 + 1) (by omega)
                  obtain ⟨c, hc⟩ : ∃ c, c = row[j2] := ⟨_, rfl⟩
                  rw [← hc] at d3 HSTEP
                  obtain ⟨s, hs⟩ : ∃ s, s = stA N row j2 := ⟨_, rfl⟩
                  rw [← hs] at HSTEP ⊢
                  obtain ⟨s2, hs2⟩ : ∃ s2, s2 = stA N row (j2 + 1) := ⟨_, rfl⟩
                  rw [← hs2] at HSTEP d2 hlt
                  have HS2 := Lib.hid hs2
                  rw [← hnn] at hlt
                  have hsO : s2 < O.length := by rw [← HOK.out.len, ← hnn]; exact hlt
                  obtain ⟨bm, om, rfl, hbm, d1⟩ := hgo s2 (at0 O s2) (by unfold at0; rw [List.getElem?_eq_getElem hsO]; rfl)
                  obtain ⟨o, ho⟩ : ∃ o, o = at0 O s2 := ⟨_, rfl⟩
                  rw [← ho] at d1 d2
                  have hs20 : (0 : Int) ≤ s2 := by omega
                  have hs21 : ¬ (s2 : Int) < 0 := by omega
                  have hs22 : (s2 : Int) < nn := by omega
                  have hs23 : ¬ (nn : Int) ≤ s2 := by omega
                  have hj20 : (0 : Int) ≤ j2 := by omega
                  obtain ⟨jn, hjn⟩ : ∃ jn, jn = j2 + 1 := ⟨_, rfl⟩
                  rw [← hjn] at d2
                  have hj21 : (0 : Int) ≤ jn := by omega
                  have hjri : (j2 : Int) < row.length := by omega
                  have hji3 : (jn : Int) < (row.length : Int) + 1 := by omega
                  have hwr : IntKind.i64.wrap ((j2 : Int) + 1) = (jn : Int) := (IntWalk.i64_in _ (by omega)).trans (by omega)
                  have HJN := Lib.hid hjn
                  clear hjn
                  clear hb2 hgo hc hs hs2 hnn ho m0 m1
                  go_wp2_with fail
                  refine HSTEP.out.mono ?_
                  rintro e w6 ⟨rfl, rfl⟩
                  go_upto_region 25 with fail
                  go_quiet (fail)
                  go_wp2_with fail
                  exact ⟨⟨jn, rfl, by omega, by rw [HS2.out, HJN.out], ⟨HB2.out.os, HB2.out.tape, HB2.out.output, HB2.out.size, HB2.out.block⟩⟩, by have := HJN.out; simp [intOf]; omega⟩
                · have hjri : ¬ (j2 : Int) < row.length := by omega
                  obtain ⟨b, off, b', off', rfl, rfl, d1, d2⟩ := HREAD.out _ hb2 j (by omega)
                  obtain ⟨o, ho⟩ : ∃ o, o = at0 O (stA N row j) := ⟨_, rfl⟩
                  rw [← ho] at d1 d2
                  have hji2 : (j : Int) < (j : Int) + 1 := by omega
                  have hji3 : (j : Int) < (row.length : Int) + 1 := by omega
                  have hj0 : (0 : Int) ≤ j := by omega
                  clear hb2 ho
                  go_upto_region 27 with fail
                  go_quiet (fail)
                  go_wp2_with fail
                  go_ret
                  exact ⟨rfl, HBW.out _ ⟨HB2.out.os, HB2.out.tape, HB2.out.output, HB2.out.size, HB2.out.block⟩⟩
      · go_wp2_with fail
        go_ret
        exact ⟨rfl, HB4.out⟩
end Go.Proofs.Yteamokljlcnicaa

/-
  dfa, plain: languages whose answers are told otherwise; what is built of expressions turned round, of one more that never fits, of the last one twice (DfaTurns, DfaMore). No program, no condition beyond what each theorem names.
-/
set_option linter.unusedVariables false
set_option linter.unusedSimpArgs false
namespace Go.Proofs.Yteamokljlcnicaa
open Classical

section
variable {σ β γ : Type}
theorem hom_glang (l0 : List Nat → Option β) (g : β → γ) (classes : Nat) (hinj : ∀ t u x y, l0 t = some x → l0 u = some y → g x = g y → x = y) : Hom (langAuto l0) (langAuto fun t => (l0 t).map g) classes (fun l t => (l t).map g) where
  start := rfl
  step := fun t _ c _ => rfl
  inj := fun t u _ _ h => by
    funext v
    have h2 := congrFun h v
    have e1 : runA (langAuto l0) (langAuto l0).start t v = l0 (t ++ v) := runLang l0 t l0 v
    have e2 : runA (langAuto l0) (langAuto l0).start u v = l0 (u ++ v) := runLang l0 u l0 v
    simp only [e1, e2] at h2
    rw [e1, e2]
    cases ht : l0 (t ++ v) with
    | none => cases hu : l0 (u ++ v) with
      | none => rfl
      | some y => rw [ht, hu] at h2; cases h2
    | some x => cases hu : l0 (u ++ v) with
      | none => rw [ht, hu] at h2; cases h2
      | some y =>
        rw [ht, hu] at h2
        rw [hinj _ _ _ _ ht hu (Option.some.inj h2)]

theorem place_hom {σ τ : Type} {A : Auto σ} {B : Auto τ} {classes : Nat} {f : σ → τ} (H : Hom A B classes f) {L : List σ} (hL : ∀ x ∈ L, MetA A classes x) {y : σ} (hy : MetA A classes y) : place (L.map f) (f y) = place L y := by
  have h := place_map (f := f) (g := id) (x := y) (l := L) (fun z hz => by
    obtain ⟨t, ht, e1⟩ := hL z hz
    obtain ⟨u, hu, e2⟩ := hy
    constructor
    · intro h
      rw [e1, e2] at h ⊢
      exact H.inj t u ht hu h
    · intro h
      have h : z = y := h
      rw [h])
  rw [h]
  simp

/-- what is built, where the answers are told otherwise, but apart as they were -/
theorem built_g {A : Auto σ} {out : σ → β} (g : β → γ) {classes : Nat} (hinj : ∀ t u x y, langA A out classes A.start t = some x → langA A out classes A.start u = some y → g x = g y → x = y) {r : Option (List (List Nat) × List (Option β))} (h : Built A out classes r) :
    Built A (fun s => g (out s)) classes (r.map fun p => (p.1, p.2.map (Option.map g))) := by
  have hl : langA A (fun s => g (out s)) classes A.start = fun t => (langA A out classes A.start t).map g := lang_map A out g classes A.start
  obtain ⟨l0, hl0⟩ : ∃ l0, l0 = langA A out classes A.start := ⟨_, rfl⟩
  unfold Built at h ⊢
  rw [hl]
  rw [← hl0] at h hinj ⊢
  have H := hom_glang l0 g classes hinj
  obtain ⟨hc, hm⟩ := cl_map H 2000
  have hL : canonL (fun t => (l0 t).map g) classes 2000 = (canonL l0 classes 2000).map (fun l t => (l t).map g) := hc.symm
  have hm' : ∀ x ∈ canonL l0 classes 2000, MetA (langAuto l0) classes x := hm
  have hlen : (canonL (fun t => (l0 t).map g) classes 2000).length = (canonL l0 classes 2000).length := by rw [hL, List.length_map]
  clear hc hm
  generalize 2000 = K at *
  rcases h with ⟨rfl, h⟩ | ⟨h1, h2, rfl⟩
  · exact .inl ⟨rfl, by rw [hlen]; exact h⟩
  · refine .inr ⟨h1, by rw [hlen]; exact h2, ?_⟩
    rw [Option.map_some]
    congr 1
    refine Prod.ext ?_ ?_
    · show canonNext l0 classes K = canonNext _ classes K
      unfold canonNext
      rw [hL]
      unfold nextsOf
      rw [List.map_map]
      refine List.map_congr_left fun s hs => List.map_congr_left fun c hcr => ?_
      have hcc : c < classes := List.mem_range.1 hcr
      exact (place_hom H hm' ((hm' s hs).step hcc)).symm
    · show (canonOut l0 classes K).map (Option.map g) = canonOut _ classes K
      unfold canonOut
      rw [hL, List.map_map, List.map_map]
      rfl
end

/-! ### turned round -/
/-- the first n bits, turned round -/
def turnN (n v : Nat) : Nat := bitsL ((List.range n).map fun k => v.testBit (n - 1 - k))
theorem turn_bits {bs : List Bool} {n : Nat} (h : bs.length = n) : turnN n (bitsL bs) = bitsL bs.reverse := by
  unfold turnN
  congr 1
  refine List.ext_getElem (by simp [h]) fun i h1 h2 => ?_
  have hi : i < n := by simpa using h1
  rw [List.getElem_map, List.getElem_range, bitsL_get bs (n - 1 - i) (by omega), List.getElem_reverse]
  congr 1
  omega
theorem lang_shape {l : List (Nd × Bool)} (hl : ∀ e ∈ l, RightX e.1) {classes : Nat} {t : List Nat} {x : Nat} (h : langA (autoE l) outN classes (autoE l).start t = some x) : ∃ bs : List Bool, bs.length = l.length ∧ x = bitsL bs := by
  have h : (tellsE l classes t).map bitsL = some x := by rw [lang_N hl] at h; exact h
  unfold tellsE at h
  split at h
  · exact ⟨_, by simp, (Option.some.inj h).symm⟩
  · cases h
theorem built_turn {l : List (Nd × Bool)} (hl : ∀ e ∈ l, RightX e.1) {classes : Nat} {r : Option (List (List Nat) × List (Option Nat))} (h : Built (autoE l) outN classes r) :
    Built (autoE l.reverse) outN classes (r.map fun p => (p.1, p.2.map (Option.map (turnN l.length)))) := by
  have h1 := built_g (turnN l.length) (fun t u x y hx hy e => by
    obtain ⟨bs, hb, rfl⟩ := lang_shape hl hx
    obtain ⟨cs, hc, rfl⟩ := lang_shape hl hy
    rw [turn_bits hb, turn_bits hc] at e
    have := bitsL_inj (by simp [hb, hc]) e
    rw [List.reverse_inj.1 this]) h
  refine (built_hom (hom_turn l classes) ?_).1 h1
  rw [lang_map (autoE l) outN (turnN l.length) classes (autoE l).start, lang_N hl, lang_N (fun e he => hl e (List.mem_reverse.1 he))]
  funext t
  show ((tellsE l classes t).map bitsL).map (turnN l.length) = (tellsE l.reverse classes t).map bitsL
  unfold tellsE
  by_cases ht : ∀ c ∈ t, c < classes
  · rw [if_pos ht, if_pos ht]
    simp only [Option.map_some]
    rw [turn_bits (by simp), List.map_reverse]
  · rw [if_neg ht, if_neg ht]
    rfl

/-! ### one bit -/
theorem bit_at (o c : Nat) (ho : o < 2 ^ 64) : bits .and .u64 ((o : Int) / 2 ^ c) 1 = ((if o.testBit c then 1 else 0 : Nat) : Int) := by
  have e : ((o : Int) / 2 ^ c) = ((o / 2 ^ c : Nat) : Int) := by simp
  have hlt : o / 2 ^ c < 2 ^ 64 := Nat.lt_of_le_of_lt (Nat.div_le_self _ _) ho
  have h := u64_and_nat (o / 2 ^ c) 1 (by omega) (by omega)
  rw [e]
  refine h.trans ?_
  rw [Nat.and_one_is_mod, Nat.testBit_eq_decide_div_mod_eq]
  congr 1
  by_cases h2 : o / 2 ^ c % 2 = 1
  · simp [h2]
  · simp [h2]; omega
theorem turn_testBit {n v k : Nat} (hk : k < n) : (turnN n v).testBit k = v.testBit (n - 1 - k) := by
  unfold turnN
  rw [bitsL_get _ k (by simpa using hk), List.getElem_map, List.getElem_range]
theorem turn_lt (n v : Nat) : turnN n v < 2 ^ n := by
  have := bitsL_lt ((List.range n).map fun k => v.testBit (n - 1 - k))
  rw [List.length_map, List.length_range] at this
  exact this
theorem wrap_small (c : Nat) (h : c < 64) : min (IntKind.u64.wrap (c : Int)).toNat 64 = c := by
  have e : (c : Int) % 18446744073709551616 = c := by omega
  have : IntKind.u64.wrap (c : Int) = c := by
    show (if (false && decide ((c : Int) % 18446744073709551616 ≥ 9223372036854775808)) = true then (c : Int) % 18446744073709551616 - 18446744073709551616 else (c : Int) % 18446744073709551616) = c
    rw [e]
    simp
  rw [this]
  omega
/-- a bit, and its own in what is turned round -/
theorem bit_turn (o n c : Nat) (ho : o < 2 ^ n) (hn : n ≤ 64) (hc : c < n) :
    (bits .and .u64 ((o : Int) / 2 ^ c) 1 != bits .and .u64 ((turnN n o : Nat) / 2 ^ min (IntKind.u64.wrap ((n - 1 - c : Nat) : Int)).toNat 64) 1) = false := by
  have h64 : (2 : Nat) ^ n ≤ 2 ^ 64 := Nat.pow_le_pow_right (by omega) hn
  have ht := turn_lt n o
  rw [wrap_small _ (by omega), bit_at o c (by omega), bit_at _ _ (by omega), turn_testBit (by omega), show n - 1 - (n - 1 - c) = c by omega]
  simp
end Go.Proofs.Yteamokljlcnicaa

/-
  dfa, plain: expressions written otherwise (DfaEqual, DfaEither): they are right, and fit the same. No condition beyond what each theorem names.
-/
set_option linter.unusedVariables false
set_option linter.unusedSimpArgs false
namespace Go.Proofs.Yteamokljlcnicaa
open Classical Go.RowKit

mutual
theorem depth_cnt : ∀ x : Nd, depthN x ≤ cnt x
  | .mk op cls ps => by
    have := depth_cntL ps
    simp only [depthN, cnt]
    omega
theorem depth_cntL : ∀ ps : List Nd, depthNL ps ≤ cntL ps
  | [] => by simp [depthNL, cntL]
  | x :: r => by
    have := depth_cnt x
    have := depth_cntL r
    simp only [depthNL, cntL]
    omega
end
theorem small_cnt {x : Nd} (h : RightX x) (hc : countT x ≤ 20) : Small x ∧ cnt x ≤ 20 := by
  have h1 := countT_eq x h.2
  have h2 := depth_cnt x
  exact ⟨⟨h, by omega, by omega⟩, by omega⟩

theorem wf_empty {d : Nat} (hd : d ≤ 30) : Wf d (.mk 0 [] []) := by
  unfold Wf
  exact ⟨by omega, by omega, fun _ => rfl, fun _ => rfl, by omega, rising_nil, by simp only [WfL]⟩
theorem right_alt2 {x y : Nd} (hx : Small x) (hy : Small y) : RightX (.mk 3 [] [x, y]) :=
  ⟨right_two (hx.at (by omega)) (hy.at (by omega)) (by omega) 3 (.inr rfl), by have := hx.cnt; have := hy.cnt; simp only [cnt, cntL]; omega⟩
theorem right_behind {x : Nd} (hx : Small x) : RightX (.mk 2 [] [x, .mk 0 [] []]) :=
  ⟨right_two (hx.at (by omega)) (wf_empty (by omega)) (by omega) 2 (.inl rfl), by have := hx.cnt; simp only [cnt, cntL]; omega⟩
theorem right_more {x : Nd} (hx : Small x) : RightX (.mk 5 [] [.mk 2 [] [x, .mk 4 [] [x]]]) := by
  refine ⟨?_, by have := hx.cnt; simp only [cnt, cntL]; omega⟩
  unfold Wf
  exact ⟨by omega, by omega, fun _ => rfl, by omega, fun _ => rfl, rising_nil, by
    simp only [WfL, and_true]
    exact right_two (hx.at (by omega)) (right_star (hx.at (by omega)) (by omega)) (by omega) 2 (.inl rfl)⟩

theorem argOk_one {n : Int} {l : List (Nd × Bool)} {y : Nd} {b : Bool} (h : ArgOk n l) (hr : RightX y) (hi : insideB n y = true) : ArgOk n [(y, b)] :=
  ⟨h.1, h.2.1, by simp, fun e he => by rw [List.mem_singleton.1 he]; exact ⟨hr, hi⟩⟩

/-- one that fits the same is built to the same -/
theorem built_eq {x y : Nd} {b : Bool} {n : Nat} {m m' : List (List Nat) × List (Option Nat)} (hx : RightX x) (hy : RightX y) (h : ∀ row, fitB x row = fitB y row) (h1 : Built (autoE [(x, b)]) outN n (some m)) (h2 : Built (autoE [(y, b)]) outN n (some m')) : m = m' := by
  refine built_same ?_ h1 h2
  rw [lang_N (fun e he => by rw [List.mem_singleton.1 he]; exact hx), lang_N (fun e he => by rw [List.mem_singleton.1 he]; exact hy), tells_same h]

/-- an argument of one expression -/
theorem one_expr {w : World} {x : Nd} {a b c : Value} (hn : NodeIs w x a b c) (wh : Bool) (T : TypeId) : ReadL (exprE (w.alloc (.cells #[a, b, c, .bool wh] T))) 4 (w.alloc (.cells #[a, b, c, .bool wh] T)) (.slice (some ⟨w.heap.size, 0, none⟩) 1 1) [(x, wh)] := by
  have hn' := hn.to (below_alloc1 w (.cells #[a, b, c, .bool wh] T)) (Nat.le_refl _)
  obtain ⟨op, pp, l, c1, q, m, d, rfl, rfl, rfl⟩ := hn.form
  exact ReadL.one w T (x, wh) [.int .i64 op, .slice pp l c1, .slice q m d, .bool wh] ⟨rfl, by simp [Value.oneCell']⟩ ⟨_, _, _, rfl, hn'⟩

theorem some_pairs {N N2 : List (List Nat)} {O O2 : List Nat} (h : (N, O.map some) = (N2, O2.map some)) : N = N2 ∧ O = O2 := by
  obtain ⟨h1, h2⟩ := Prod.mk.inj h
  exact ⟨h1, (List.map_inj_right (fun x y h => Option.some.inj h)).1 h2⟩
theorem two_allocs (w : World) (o1 o2 : Obj) (W : World) (hW : W = (w.alloc o1).alloc o2) : Below w.heap.size w W ∧ W.heap[w.heap.size]? = some o1 ∧ W.heap[w.heap.size + 1]? = some o2 := by
  have s1 : (w.alloc o1).heap.size = w.heap.size + 1 := by simp
  have b1 := below_alloc1 w o1
  have b2 := below_alloc1 (w.alloc o1) o2
  subst hW
  refine ⟨b1.trans (b2.mono (by omega)), ?_, ?_⟩
  · rw [b2.block _ (by omega)]; exact heap_alloc_new _ _
  · rw [← s1]; exact heap_alloc_new _ _

/-- no expression at all: it fits nothing but the empty row -/
theorem node_none (w : World) : NodeIs w (.mk 0 [] []) (.int .i64 0) (.slice none 0 0) (.slice none 0 0) := by
  rw [nodeIs_iff]
  exact ⟨rfl, Ints.nil _, by unfold R; simp, by unfold R; simp, [], ⟨by simp, none, 0, rfl, by simp, fun h => by simp at h⟩, rfl, fun i h => by simp at h⟩
end Go.Proofs.Yteamokljlcnicaa

/-
  dfa: a machine that was built, as one reads it cell by cell. No condition beyond what each theorem names.
-/
set_option linter.unusedVariables false
set_option linter.unusedSimpArgs false
namespace Go.Proofs.Yteamokljlcnicaa
open Go.RowKit Classical

def rowO (N : List (List Nat)) (i : Nat) : List Nat := N[i]?.getD []
theorem rowO_get {N : List (List Nat)} {i : Nat} (h : i < N.length) : N[i]? = some (rowO N i) := by
  unfold rowO
  rw [List.getElem?_eq_getElem h]
  rfl
theorem at0_get {l : List Nat} {i : Nat} (h : i < l.length) : l[i]? = some (at0 l i) := by
  unfold at0
  rw [List.getElem?_eq_getElem h]
  rfl

/-- the cells of a machine, in each later world -/
def MachV (w : World) (ob classes nn : Nat) (N : List (List Nat)) (O : List Nat) (bN oN cn bO oO co : Nat) : Prop := ∀ W, Below w.heap.size w W →
  W.cell? ⟨ob, 0, none⟩ = some (.int .i64 (classes : Nat)) ∧ W.cell? ⟨ob, 1, none⟩ = some (.slice (some ⟨bN, oN, none⟩) nn cn) ∧ W.cell? ⟨ob, 2, none⟩ = some (.slice (some ⟨bO, oO, none⟩) nn co) ∧
  (∀ i : Nat, i < nn → W.cell? ⟨bO, oO + i, none⟩ = some (.int .u64 (at0 O i : Nat))) ∧
  (∀ i : Nat, i < nn → ∃ b off cr, W.cell? ⟨bN, oN + i, none⟩ = some (.slice (some ⟨b, off, none⟩) classes cr) ∧ classes ≤ cr ∧ ∀ c : Nat, c < classes → W.cell? ⟨b, off + c, none⟩ = some (.int .i64 (at0 (rowO N i) c : Nat)))

theorem MachD.view {w : World} {ob classes nn : Nat} {N : List (List Nat)} {O : List Nat} (h : MachD w ob classes N O) (hok : OkN N O classes) (hn : N.length = nn) (h0 : 0 < nn) (hc : 0 < classes) :
    ∃ bN oN cn bO oO co, nn ≤ cn ∧ nn ≤ co ∧ MachV w ob classes nn N O bN oN cn bO oO co := by
  have hlo : O.length = nn := by rw [← hok.len, hn]
  obtain ⟨hob, pn, cn, po, co, e0, e1, e2, hcn, hco, gN, gO⟩ := h.get hn hlo
  obtain ⟨bN, oN, -, rfl, -, -, -⟩ := gN 0 _ (rowO_get (by omega))
  obtain ⟨bO, oO, rfl, -, -⟩ := gO 0 _ (at0_get (by omega))
  refine ⟨bN, oN, cn, bO, oO, co, hcn, hco, fun W hW => ⟨cell_below hW hob e0, cell_below hW hob e1, cell_below hW hob e2, fun i hi => ?_, fun i hi => ?_⟩⟩
  · obtain ⟨b, off, he, hb, hx⟩ := gO i _ (at0_get (by omega))
    cases he
    exact cell_below hW hb hx
  · obtain ⟨b, off, v, he, hb, hx, hv⟩ := gN i _ (rowO_get (by omega))
    cases he
    have hl : (natsI (rowO N i)).length = classes := by
      unfold natsI
      rw [List.length_map]
      exact (hok.row _ (List.mem_of_getElem? (rowO_get (by omega)))).1
    obtain ⟨p, cr, rfl, hcr, hg⟩ := hv.get
    obtain ⟨b', off', rfl, hb', hx'⟩ := hg (by omega)
    rw [hl] at hx hcr
    refine ⟨b', off', cr, cell_below hW hb hx, hcr, fun c hc2 => ?_⟩
    have := cell_below hW hb' (hx' c (by omega))
    rw [this]
    congr 2
    unfold natsI
    rw [List.getElem_map]
    have h2 := at0_get (l := rowO N i) (i := c) (by unfold natsI at hl; rw [List.length_map] at hl; omega)
    rw [List.getElem?_eq_getElem (by unfold natsI at hl; rw [List.length_map] at hl; omega)] at h2
    rw [Option.some.inj h2]
theorem exprs_to {w w' : World} {v : Value} {L : List (Nd × Bool)} (h : ReadL (exprE w) 4 w v L) (hb : Below w.heap.size w w') : ReadL (exprE w') 4 w' v L :=
  (h.below hb (Nat.le_refl _)).monoE (fun x r hr => by
    obtain ⟨a, b, c, rfl, hn⟩ := hr
    exact ⟨a, b, c, rfl, hn.to hb (Nat.le_refl _)⟩)
theorem bd_of {N : List (List Nat)} {O : List Nat} {classes : Nat} (h : OkN N O classes) (h4 : N.length ≤ 400) (hc : classes ≤ 24) : Bd N O :=
  ⟨by omega, by rw [← h.len]; omega, fun r hr => by rw [(h.row r hr).1]; omega⟩
end Go.Proofs.Yteamokljlcnicaa

/-
  dfa: arguments of several expressions; what a built machine's Run tells, bit by bit (DfaEither, DfaRuns). No condition beyond what each theorem names.
-/
set_option linter.unusedVariables false
set_option linter.unusedSimpArgs false
namespace Go.Proofs.Yteamokljlcnicaa
open Go.RowKit Classical

theorem exprs_block {w : World} {T : TypeId} {n : Nat} (L : List (Nd × Bool)) (rows : List (List Value)) (cs : List Value) (hcs : rows.flatten = cs) (hn : n = L.length) (hl : rows.length = L.length) (h2 : ∀ i (h : i < L.length), ∃ row, rows[i]? = some row ∧ exprE w L[i] row) :
    ReadL (exprE (w.alloc (.cells cs.toArray T))) 4 (w.alloc (.cells cs.toArray T)) (.slice (some ⟨w.heap.size, 0, none⟩) n n) L := by
  refine ReadL.block (cs := cs) (heap_alloc_new _ _) L rows hcs hn hl (fun r hr => ?_) (fun i hi => ?_)
  · obtain ⟨i, hi, rfl⟩ := List.getElem_of_mem hr
    obtain ⟨row, h3, a, b, c, rfl, h4⟩ := h2 i (by omega)
    rw [List.getElem?_eq_getElem hi] at h3
    rw [Option.some.inj h3]
    obtain ⟨op, pp, l, c1, q, m, d, rfl, rfl, rfl⟩ := h4.form
    exact ⟨rfl, by simp [Value.oneCell']⟩
  · obtain ⟨row, h3, a, b, c, rfl, h4⟩ := h2 i hi
    exact ⟨_, h3, a, b, c, rfl, h4.to (below_alloc1 _ _) (Nat.le_refl _)⟩

theorem natsR_back {row : List Int} (h : ∀ c ∈ row, 0 ≤ c) : (natsR row).map (fun (c : Nat) => (c : Int)) = row := by
  unfold natsR
  rw [List.map_map]
  conv => rhs; rw [← List.map_id row]
  refine List.map_congr_left fun c hc => ?_
  have := h c hc
  show ((c.toNat : Nat) : Int) = id c
  simp; omega

/-- what the state behind the first j tells -/
theorem run_bits {L : List (Nd × Bool)} {N : List (List Nat)} {O : List Nat} {cls : Nat} {row : List Int} (hbits : ∀ t : List Nat, (∀ c ∈ t, c < cls) → O[runN N 0 t]? = some (bitsL (L.map fun e => fitsE e.1 e.2 (t.map fun (c : Nat) => (c : Int)))))
    (hro : RowOk cls row) (j : Nat) : at0 O (stA N row j) = bitsL (L.map fun e => fitsE e.1 e.2 (row.take j)) := by
  have h := hbits (natsR (row.take j)) (fun c hc => by
    unfold natsR at hc
    obtain ⟨x, hx, rfl⟩ := List.mem_map.1 hc
    have := hro x (List.mem_of_mem_take hx)
    omega)
  rw [natsR_back (fun c hc => (hro c (List.mem_of_mem_take hc)).1)] at h
  unfold at0 stA
  rw [h]
  rfl

theorem fits_none (whole : Bool) (row : List Int) : fitsE (.mk 3 [] []) whole row = false := by
  have h : ∀ r : List Int, fitB (.mk 3 [] []) r = false := fun r => by
    rw [Bool.eq_false_iff]
    intro h
    rw [fitB_iff] at h
    simp [M, Malt] at h
  unfold fitsE
  simp [h]
theorem fit_empty (row : List Int) : fitB (.mk 0 [] []) row = decide (row = []) := by
  rw [Bool.eq_iff_iff, fitB_iff, decide_eq_true_iff]
  simp [M]
  exact ⟨fun h => List.eq_nil_of_length_eq_zero h.symm, fun h => by rw [h]; rfl⟩
theorem fits_empty (whole : Bool) (row : List Int) : fitsE (.mk 0 [] []) whole row = (decide (row = []) || !whole) := by
  unfold fitsE
  cases whole
  · rw [if_neg (by simp)]
    have : (∃ k, k ≤ row.length ∧ fitB (.mk 0 [] []) (row.drop k) = true) := ⟨row.length, Nat.le_refl _, by rw [fit_empty]; simp⟩
    simp [this]
  · rw [if_pos rfl, fit_empty]; simp
theorem fits_either (x y : Nd) (whole : Bool) (row : List Int) : fitsE (.mk 3 [] [x, y]) whole row = (fitsE x whole row || fitsE y whole row) := by
  unfold fitsE
  cases whole
  · rw [if_neg (by simp), if_neg (by simp), if_neg (by simp), Bool.eq_iff_iff, Bool.or_eq_true, decide_eq_true_iff, decide_eq_true_iff, decide_eq_true_iff]
    constructor
    · rintro ⟨k, hk, h⟩
      rw [fit_alt2, Bool.or_eq_true] at h
      rcases h with h | h
      · exact .inl ⟨k, hk, h⟩
      · exact .inr ⟨k, hk, h⟩
    · rintro (⟨k, hk, h⟩ | ⟨k, hk, h⟩)
      · exact ⟨k, hk, by rw [fit_alt2, h, Bool.true_or]⟩
      · exact ⟨k, hk, by rw [fit_alt2, h, Bool.or_true]⟩
  · rw [if_pos rfl, if_pos rfl, if_pos rfl, fit_alt2]
theorem right_none : RightX (.mk 3 [] []) := by
  refine ⟨?_, by simp [cnt, cntL]⟩
  unfold Wf
  exact ⟨by omega, by omega, fun _ => rfl, fun _ => rfl, by omega, rising_nil, by simp only [WfL]⟩
theorem right_empty : RightX (.mk 0 [] []) := ⟨wf_empty (by omega), by simp [cnt, cntL]⟩

theorem node_noneO (w : World) (op : Int) : NodeIs w (.mk op [] []) (.int .i64 op) (.slice none 0 0) (.slice none 0 0) := by
  rw [nodeIs_iff]
  exact ⟨rfl, Ints.nil _, by unfold R; simp, by unfold R; simp, [], ⟨by simp, none, 0, rfl, by simp, fun h => by simp at h⟩, rfl, fun i h => by simp at h⟩
/-- the five of DfaEither -/
def fiveL (x y : Nd) (b : Bool) : List (Nd × Bool) := [(x, b), (y, b), (.mk 3 [] [x, y], b), (.mk 3 [] [], b), (.mk 0 [] [], b)]
theorem five_bits (x y : Nd) (whole : Bool) (row : List Int) : ((fiveL x y whole).map fun e => fitsE e.1 e.2 row) = [fitsE x whole row, fitsE y whole row, fitsE x whole row || fitsE y whole row, false, decide (row = []) || !whole] := by
  simp only [fiveL, List.map_cons, List.map_nil, fits_either, fits_none, fits_empty]
theorem five_facts {o : Nat} {f g e : Bool} (ho : o = bitsL [f, g, f || g, false, e]) : bits .and .u64 ((o : Int) / 4) 1 = bits .and .u64 (bits .or .u64 (o : Int) ((o : Int) / 2)) 1 ∧ bits .and .u64 ((o : Int) / 8) 1 = 0 ∧ bits .and .u64 ((o : Int) / 16) 1 = if e then 1 else 0 := by
  subst ho
  cases f <;> cases g <;> cases e <;> exact ⟨by kernel_rfl, by kernel_rfl, by kernel_rfl⟩
end Go.Proofs.Yteamokljlcnicaa

/-
  DfaEither: one or the other fits, where one of both does. No condition beyond what each theorem names.
-/
set_option linter.unusedVariables false
set_option linter.unusedSimpArgs false
namespace Go.Proofs.Yteamokljlcnicaa
open Go.RowKit Classical

set_option maxRecDepth 100000 in
set_option maxHeartbeats 16000000 in
theorem either_law (w : World) (X Y : Nd) (ax bx cx ay by_ cy : Value) (wh : Bool) (v : Value) (t : List Int) (hxx : NodeIs w X ax bx cx) (hxy : NodeIs w Y ay by_ cy) (hv : Ints w v t) (hn : t.length ≤ 9223372036854775807) :
    Calls Try.prog 10 #[.agg #[ax, bx, cx], .agg #[ay, by_, cy], .bool wh, v] w (Says true w) := by
  have HX := Lib.hid hxx
  obtain ⟨opx, ppx, lx, c1x, qx, mx, dx, rfl, rfl, rfl⟩ := hxx.form
  have HY := Lib.hid hxy
  obtain ⟨opy, ppy, ly, c1y, qy, my, dy, rfl, rfl, rfl⟩ := hxy.form
  obtain ⟨pt, ct, rfl, hct, hxt⟩ := hv.get
  have HV := Lib.hid hv
  clear hxx hxy hv hxt
  go_enter Try.func10, Try.ntmps10
  go_upto_region 1 with fail
  refine abs_wp fun W hW => ?_
  obtain ⟨a0, ax, ay⟩ := two_allocs w _ _ W hW
  have HBE := Lib.hid a0
  obtain ⟨Bx, hBx⟩ : ∃ B, B = w.heap.size := ⟨_, rfl⟩
  obtain ⟨By, hBy⟩ : ∃ B, B = w.heap.size + 1 := ⟨_, rfl⟩
  have HBxW := Lib.hid (show W.heap[Bx]? = some (.cells #[.int .i64 opx, .slice ppx lx c1x, .slice qx mx dx] 38) by rw [hBx]; exact ax)
  have HByW := Lib.hid (show W.heap[By]? = some (.cells #[.int .i64 opy, .slice ppy ly c1y, .slice qy my dy] 38) by rw [hBy]; exact ay)
  rw [← hBy, ← hBx]
  clear hW a0 ax ay hBx hBy
  go_wp2_with fail
  refine (shown8 W).mono ?_
  rintro e w1 ⟨rfl, hb1⟩
  have HBw1 := Lib.hid (HBE.out.trans (hb1.mono HBE.out.size))
  have HBxw1 := Lib.hid ((hb1.block _ (at_lt HBxW.out)).trans HBxW.out)
  have HByw1 := Lib.hid ((hb1.block _ (at_lt HByW.out)).trans HByW.out)
  clear hb1
  obtain ⟨row, hrow⟩ : ∃ row, row = t.take 30 := ⟨_, rfl⟩
  have hrl : row.length = min t.length 30 := by rw [hrow, List.length_take, Nat.min_comm]
  go_upto_region 2 with fail
  go_cut [3] (fun rv wx => Ints w rv row ∧ wx = w1)
  case first =>
    cases pt with
    | none =>
      have h0 : t = [] := by
        obtain ⟨p', c', he, -, hx⟩ := HV.out
        injection he with he1 he2 he3
        subst he1
        cases t with
        | nil => rfl
        | cons x r => obtain ⟨b, off, e, -⟩ := hx (by simp); cases e
      subst h0
      have HI := Lib.hid (show Ints w (.slice none 0 ct) row by rw [hrow]; exact HV.out)
      clear hrow hrl
      go_wp2_with fail
      go_meet
      case rel => exact ⟨HI.out, rfl⟩
    | some ad =>
      by_cases h40 : t.length ≤ 30
      · have h41 : ¬ (30 : Int) < t.length := by omega
        have HI := Lib.hid (show Ints w (.slice (some ad) (min (t.length : Int) 30).toNat ct) row by rw [hrow, List.take_of_length_le h40, show (min (t.length : Int) 30).toNat = t.length by omega]; exact HV.out)
        clear hrow hrl
        go_wp2_with fail
        go_meet
        case rel => exact ⟨HI.out, rfl⟩
      · have h41 : (30 : Int) < t.length := by omega
        have HI := Lib.hid (show Ints w (.slice (some ad) (min (t.length : Int) 30).toNat ct) row by rw [hrow, show (min (t.length : Int) 30).toNat = 30 by omega]; exact HV.out.take (by omega))
        clear hrow hrl
        go_wp2_with fail
        go_meet
        case rel => exact ⟨HI.out, rfl⟩
  case rest =>
    obtain ⟨hi, rfl⟩ := hcut
    obtain ⟨pr, cr, rfl, hcr, hxr⟩ := hi.get
    have hr30 : row.length ≤ 30 := by omega
    have HI := Lib.hid hi
    obtain ⟨nr, hnr⟩ : ∃ nr, nr = row.length := ⟨_, rfl⟩
    rw [← hnr] at hr30 hcr ⊢
    have HNR := Lib.hid hnr
    clear hi hxr hrow hrl hnr
    obtain ⟨yx0, yx1, yx2⟩ := cells3 HBxw1.out
    obtain ⟨yy0, yy1, yy2⟩ := cells3 HByw1.out
    have HBwc := Lib.hid HBw1.out
    have HBxwc := Lib.hid HBxw1.out
    have HBywc := Lib.hid HByw1.out
    have HC := Lib.hid (count_any X wc _ _ _ (HX.out.to HBwc.out (Nat.le_refl _)))
    go_wp2_with fail
    refine HC.out.mono ?_
    rintro e u0 ⟨rfl, hb⟩
    have HDu0 := Lib.hid hb
    have HBxu0 := Lib.hid ((HDu0.out.block _ (at_lt HBxwc.out)).trans HBxwc.out)
    have HByu0 := Lib.hid ((HDu0.out.block _ (at_lt HBywc.out)).trans HBywc.out)
    clear yx0 yx1 yx2 yy0 yy1 yy2
    obtain ⟨yx0, yx1, yx2⟩ := cells3 HBxu0.out
    obtain ⟨yy0, yy1, yy2⟩ := cells3 HByu0.out
    have HBu0 := Lib.hid (HBwc.out.trans (HDu0.out.mono HBwc.out.size))
    clear hb HC
    obtain ⟨kx, hkx⟩ : ∃ n, n = countT X := ⟨_, rfl⟩
    rw [← hkx]
    have Hkx := Lib.hid hkx
    clear hkx
    by_cases lkx : 20 < kx
    · go_wp2_with fail
      go_ret
      exact ⟨rfl, HBu0.out⟩
    have nkx : ¬ 20 < kx := lkx
    have HC := Lib.hid (count_any Y u0 _ _ _ (HY.out.to HBu0.out (Nat.le_refl _)))
    go_wp2_with fail
    refine HC.out.mono ?_
    rintro e u1 ⟨rfl, hb⟩
    have HDu1 := Lib.hid hb
    have HBxu1 := Lib.hid ((HDu1.out.block _ (at_lt HBxu0.out)).trans HBxu0.out)
    have HByu1 := Lib.hid ((HDu1.out.block _ (at_lt HByu0.out)).trans HByu0.out)
    clear yx0 yx1 yx2 yy0 yy1 yy2
    obtain ⟨yx0, yx1, yx2⟩ := cells3 HBxu1.out
    obtain ⟨yy0, yy1, yy2⟩ := cells3 HByu1.out
    have HBu1 := Lib.hid (HBu0.out.trans (HDu1.out.mono HBu0.out.size))
    clear hb HC
    obtain ⟨ky, hky⟩ : ∃ n, n = countT Y := ⟨_, rfl⟩
    rw [← hky]
    have Hky := Lib.hid hky
    clear hky
    by_cases lky : 20 < ky
    · go_wp2_with fail
      go_ret
      exact ⟨rfl, HBu1.out⟩
    have nky : ¬ 20 < ky := lky
    have HC := Lib.hid (stars_any X u1 _ _ _ (HX.out.to HBu1.out (Nat.le_refl _)))
    go_wp2_with fail
    refine HC.out.mono ?_
    rintro e u2 ⟨rfl, hb⟩
    have HDu2 := Lib.hid hb
    have HBxu2 := Lib.hid ((HDu2.out.block _ (at_lt HBxu1.out)).trans HBxu1.out)
    have HByu2 := Lib.hid ((HDu2.out.block _ (at_lt HByu1.out)).trans HByu1.out)
    clear yx0 yx1 yx2 yy0 yy1 yy2
    obtain ⟨yx0, yx1, yx2⟩ := cells3 HBxu2.out
    obtain ⟨yy0, yy1, yy2⟩ := cells3 HByu2.out
    have HBu2 := Lib.hid (HBu1.out.trans (HDu2.out.mono HBu1.out.size))
    clear hb HC
    obtain ⟨sx, hsx⟩ : ∃ n, n = starsI X := ⟨_, rfl⟩
    rw [← hsx]
    have Hsx := Lib.hid hsx
    clear hsx
    by_cases lsx : 2 < sx
    · go_wp2_with fail
      go_ret
      exact ⟨rfl, HBu2.out⟩
    have nsx : ¬ 2 < sx := lsx
    have HC := Lib.hid (stars_any Y u2 _ _ _ (HY.out.to HBu2.out (Nat.le_refl _)))
    go_wp2_with fail
    refine HC.out.mono ?_
    rintro e u3 ⟨rfl, hb⟩
    have HDu3 := Lib.hid hb
    have HBxu3 := Lib.hid ((HDu3.out.block _ (at_lt HBxu2.out)).trans HBxu2.out)
    have HByu3 := Lib.hid ((HDu3.out.block _ (at_lt HByu2.out)).trans HByu2.out)
    clear yx0 yx1 yx2 yy0 yy1 yy2
    obtain ⟨yx0, yx1, yx2⟩ := cells3 HBxu3.out
    obtain ⟨yy0, yy1, yy2⟩ := cells3 HByu3.out
    have HBu3 := Lib.hid (HBu2.out.trans (HDu3.out.mono HBu2.out.size))
    clear hb HC
    obtain ⟨sy, hsy⟩ : ∃ n, n = starsI Y := ⟨_, rfl⟩
    rw [← hsy]
    have Hsy := Lib.hid hsy
    clear hsy
    by_cases lsy : 2 < sy
    · go_wp2_with fail
      go_ret
      exact ⟨rfl, HBu3.out⟩
    have nsy : ¬ 2 < sy := lsy
    go_upto_region 6 with fail
    refine abs_wp fun W5 hW5 => ?_
    obtain ⟨G5, hG5⟩ : ∃ G, G = u3.heap.size := ⟨_, rfl⟩
    obtain ⟨bW, -, cW⟩ := two_allocs u3 _ _ W5 hW5
    have hn5 := (node_two (HX.out.to HBu3.out (Nat.le_refl _)) (HY.out.to HBu3.out (Nat.le_refl _)) 3 38).to (below_alloc1 _ (.cells #[.int .i64 3, .slice none 0 0, .slice (some ⟨u3.heap.size, 0, none⟩) 2 2] 38)) (Nat.le_refl _)
    rw [← hW5] at hn5
    rw [← hG5] at cW hn5 ⊢
    have HN5 := Lib.hid hn5
    have HE5 := Lib.hid cW
    have HDW5 := Lib.hid bW
    have HBxW5 := Lib.hid ((HDW5.out.block _ (at_lt HBxu3.out)).trans HBxu3.out)
    have HByW5 := Lib.hid ((HDW5.out.block _ (at_lt HByu3.out)).trans HByu3.out)
    clear yx0 yx1 yx2 yy0 yy1 yy2
    obtain ⟨yx0, yx1, yx2⟩ := cells3 HBxW5.out
    obtain ⟨yy0, yy1, yy2⟩ := cells3 HByW5.out
    have HBW5 := Lib.hid (HBu3.out.trans (HDW5.out.mono HBu3.out.size))
    clear hW5 hG5 bW cW hn5
    go_upto_region 7 with fail
    refine abs_wp fun W6 hW6 => ?_
    obtain ⟨G6, hG6⟩ : ∃ G, G = W5.heap.size := ⟨_, rfl⟩
    have bW : Below W5.heap.size W5 W6 := by rw [hW6]; exact below_alloc1 _ _
    have cW : W6.heap[G6]? = some (.cells #[.int .i64 3, .slice none 0 0, .slice none 0 0] 38) := by rw [hW6, hG6]; exact heap_alloc_new _ _
    rw [← hG6]
    have HE6 := Lib.hid cW
    have HDW6 := Lib.hid bW
    have HBxW6 := Lib.hid ((HDW6.out.block _ (at_lt HBxW5.out)).trans HBxW5.out)
    have HByW6 := Lib.hid ((HDW6.out.block _ (at_lt HByW5.out)).trans HByW5.out)
    clear yx0 yx1 yx2 yy0 yy1 yy2
    obtain ⟨yx0, yx1, yx2⟩ := cells3 HBxW6.out
    obtain ⟨yy0, yy1, yy2⟩ := cells3 HByW6.out
    have HBW6 := Lib.hid (HBW5.out.trans (HDW6.out.mono HBW5.out.size))
    have HE5' := Lib.hid ((HDW6.out.block _ (at_lt HE5.out)).trans HE5.out)
    have HN5' := Lib.hid (HN5.out.to HDW6.out (Nat.le_refl _))
    clear hW6 hG6 bW cW
    obtain ⟨e0, e1, e2⟩ := cells3 HE5'.out
    obtain ⟨o0, o1, o2⟩ := cells3 HE6.out
    have HL := Lib.hid (exprs_block (w := W6) (T := 40) (fiveL X Y wh) [[.int .i64 opx, .slice ppx lx c1x, .slice qx mx dx, .bool wh], [.int .i64 opy, .slice ppy ly c1y, .slice qy my dy, .bool wh], [.int .i64 3, .slice none 0 0, .slice (some ⟨G5, 0, none⟩) 2 2, .bool wh], [.int .i64 3, .slice none 0 0, .slice none 0 0, .bool wh], [.int .i64 0, .slice none 0 0, .slice none 0 0, .bool wh]] [.int .i64 opx, .slice ppx lx c1x, .slice qx mx dx, .bool wh, .int .i64 opy, .slice ppy ly c1y, .slice qy my dy, .bool wh, .int .i64 3, .slice none 0 0, .slice (some ⟨G5, 0, none⟩) 2 2, .bool wh, .int .i64 3, .slice none 0 0, .slice none 0 0, .bool wh, .int .i64 0, .slice none 0 0, .slice none 0 0, .bool wh] rfl (n := 5) rfl rfl (fun i hi => by
      have hi' : i = 0 ∨ i = 1 ∨ i = 2 ∨ i = 3 ∨ i = 4 := by simp [fiveL] at hi; omega
      rcases hi' with rfl | rfl | rfl | rfl | rfl
      · exact ⟨_, rfl, _, _, _, rfl, HX.out.to HBW6.out (Nat.le_refl _)⟩
      · exact ⟨_, rfl, _, _, _, rfl, HY.out.to HBW6.out (Nat.le_refl _)⟩
      · exact ⟨_, rfl, _, _, _, rfl, HN5'.out⟩
      · exact ⟨_, rfl, _, _, _, rfl, node_noneO W6 3⟩
      · exact ⟨_, rfl, _, _, _, rfl, node_noneO W6 0⟩))
    have HAL := Lib.hid (below_alloc1 W6 (.cells #[.int .i64 opx, .slice ppx lx c1x, .slice qx mx dx, .bool wh, .int .i64 opy, .slice ppy ly c1y, .slice qy my dy, .bool wh, .int .i64 3, .slice none 0 0, .slice (some ⟨G5, 0, none⟩) 2 2, .bool wh, .int .i64 3, .slice none 0 0, .slice none 0 0, .bool wh, .int .i64 0, .slice none 0 0, .slice none 0 0, .bool wh] 40))
    have HBU := Lib.hid (build_any _ _ (fiveL X Y wh) 24 HL.out (by simp [fiveL]))
    go_wp2_with fail
    refine HBU.out.mono ?_
    rintro e w4 ⟨hb4, hcase⟩
    have HB4 := Lib.hid (HBW6.out.trans ((HAL.out.trans (hb4.mono HAL.out.size)).mono HBW6.out.size))
    clear hb4 HAL HBU HL yx0 yx1 yx2 yy0 yy1 yy2 e0 e1 e2 o0 o1 o2
    rcases hcase with ⟨-, rfl⟩ | ⟨-, -, rfl⟩ | ⟨hao, oa, N, O, -, hbu, rfl, hmd⟩
    · go_wp2_with fail
      go_ret
      exact ⟨rfl, HB4.out⟩
    · go_wp2_with fail
      go_ret
      exact ⟨rfl, HB4.out⟩
    · obtain ⟨hok, hpos, h400, hbits⟩ := built_bits (fun e he => (hao.2.2.2 e he).1) hbu
      have HBT := Lib.hid hbits
      have hmd : MachD w4 oa 24 N O := hmd
      have HRUN := Lib.hid (run_m w4 oa 24 N O hmd hok hpos _ row (HI.out.to HB4.out (Nat.le_refl _)) (by rw [← HNR.out]; omega))
      rw [← HNR.out] at HRUN
      clear hao hbu hok hpos h400 hbits hmd
      go_wp2_with fail
      refine HRUN.out.mono ?_
      rintro e w6 ⟨hb6, hcase⟩
      have HB6 := Lib.hid (HB4.out.trans (hb6.mono HB4.out.size))
      clear hb6
      rcases hcase with ⟨hro, vx, rfl, hvx⟩ | ⟨hno, rfl⟩
      · obtain ⟨px, cx, rfl, hcx, hgx⟩ := hvx.at (by decide) (runs_length N O row)
        rw [← HNR.out] at hcx ⊢
        have HRO := Lib.hid hro
        have HREAD := Lib.hid (show ∀ W, Below w6.heap.size w6 W → ∀ j : Nat, j < nr + 1 → ∃ b off, px = some ⟨b, off, none⟩ ∧ W.cell? ⟨b, off + j, none⟩ = some (.int .u64 (at0 O (stA N row j) : Nat)) from fun W hW j hj => by
          obtain ⟨b, off, r, rfl, hbl, hc, rfl⟩ := hgx j _ (runs_get (by rw [HNR.out] at hj; omega))
          have d1 := hc 0 _ rfl
          simp only [Nat.mul_one, Nat.add_zero] at d1
          exact ⟨b, off, rfl, cell_below hW hbl d1⟩)
        have HLT := Lib.hid (show ∀ j : Nat, j < nr + 1 → ∃ f g : Bool, at0 O (stA N row j) = bitsL [f, g, f || g, false, decide (j = 0) || !wh] from fun j hj => by
          refine ⟨fitsE X wh (row.take j), fitsE Y wh (row.take j), ?_⟩
          rw [run_bits HBT.out hro j, five_bits]
          have : (row.take j = []) ↔ (j = 0) := by
            rw [List.take_eq_nil_iff]
            constructor
            · rintro (h | h)
              · exact h
              · have := HNR.out
                rw [h] at this
                simp at this
                omega
            · exact .inl
          simp only [this])
        clear hro hvx hgx
        go_wp2_with fail
        go_loopw [16] (fun i wz => ∃ j : Nat, i = .int .i64 j ∧ j ≤ nr + 1 ∧ Below w6.heap.size w6 wz) (fun i _ => nr + 1 - (intOf i).toNat)
        case atStart => exact ⟨0, rfl, by omega, Below.refl _ _⟩
        case round =>
          obtain ⟨j, rfl, hj, hb⟩ := hrel
          have HB := Lib.hid hb
          by_cases hjr : j < nr + 1
          · have hji : (j : Int) < (nr : Int) + 1 := by omega
            have hj0 : (0 : Int) ≤ j := by omega
            obtain ⟨b, off, rfl, d1⟩ := HREAD.out _ hb j hjr
            obtain ⟨f, g, hfg⟩ := HLT.out j hjr
            rw [hfg] at d1
            clear hfg hb
            obtain ⟨o, ho⟩ : ∃ o, o = bitsL [f, g, f || g, false, decide (j = 0) || !wh] := ⟨_, rfl⟩
            rw [← ho] at d1
            have HO := Lib.hid ho
            clear ho
            obtain ⟨f1, f2, f3⟩ := five_facts HO.out
            by_cases hjz : j = 0
            · have hz : ((j : Int) == 0) = true := by rw [hjz]; rfl
              rw [show (decide (j = 0) || !wh) = true by rw [hjz]; rfl] at f3
              simp only [if_true] at f3
              clear hjz
              go_wp2_with fail
              go_roundw
              case rel => exact ⟨j + 1, by go_num, by omega, HB.out⟩
              case measure => simp [intOf]; omega
            · have hz : ((j : Int) == 0) = false := beq_eq_false_iff_ne.2 (by omega)
              have hz2 : ¬ (j : Int) = 0 := by omega
              rcases Bool.eq_false_or_eq_true wh with hw | hw
              · rw [show (decide (j = 0) || !wh) = false by rw [hw, decide_eq_false hjz]; rfl] at f3
                simp only [Bool.false_eq_true, if_false] at f3
                clear hjz
                go_wp2_with fail
                go_roundw
                case rel => exact ⟨j + 1, by go_num, by omega, HB.out⟩
                case measure => simp [intOf]; omega
              · rw [show (decide (j = 0) || !wh) = true by rw [hw]; simp] at f3
                simp only [if_true] at f3
                clear hjz
                go_wp2_with fail
                go_roundw
                case rel => exact ⟨j + 1, by go_num, by omega, HB.out⟩
                case measure => simp [intOf]; omega
          · have hji : ¬ (j : Int) < (nr : Int) + 1 := by omega
            clear hb
            go_wp2_with fail
            go_ret
            exact ⟨rfl, HB6.out.trans (HB.out.mono HB6.out.size)⟩
      · clear hno
        go_wp2_with fail
        go_ret
        exact ⟨rfl, HB6.out⟩
end Go.Proofs.Yteamokljlcnicaa

/-
  DfaEither answers true for every input, and leaves it as it was. No condition.
-/
set_option linter.unusedVariables false
namespace Go.Proofs.Yteamokljlcnicaa
open Go.ChangeShapes Go.WideShapes Go.ChangeAt Go.RowKit

theorem dfaEither_params : ∀ t ∈ Try.f10.params.toList, Try.prog.readableRec t = true ∧ t < Try.prog.types.size := by
  rw [Try.params10]
  intro t ht
  simp at ht
  rcases ht with rfl | rfl | rfl | rfl
  all_goals exact ⟨by kernel_rfl, of_decide_eq_true (by kernel_rfl)⟩

set_option maxRecDepth 100000 in
theorem dfaEither_lifted (os : Os) (started : os.Started) (H : Type) (enc : TypeId × Value → H) :
    ReturnsInHanded {} Try.checked os 10 .any (Rows.dfaEitherSpec.pre6 enc Try.prog Try.f10 Rows.dfaEitherRow.domain false) (Rows.dfaEitherSpec.post enc Try.prog Try.f10 false true false false) := by
  refine returnsInHanded_of_change_sized (C := Try.checked) own started (by kernel_rfl) Try.func10
    (ChangeSpec.witness6 (enc := enc) (C := Try.checked) false ⟨#[], #[.agg #[.int .i64 0, .slice none 0 0, .slice none 0 0], .agg #[.int .i64 0, .slice none 0 0, .slice none 0 0], .bool false, .slice none 0 0], []⟩ 8 (by kernel_rfl) (by kernel_rfl) (by kernel_rfl) (by kernel_rfl)) ?_
  intro W base args ds gs before hval0 hW hcnd hsz0 _
  have hval : ∀ (j : Nat) t v, Try.f10.params[j]? = some t → args[j]? = some v → Value.okWide Try.prog W .any base t v := hval0
  have hW' := hW
  obtain ⟨p, q, hA0, hV, rfl, hfz, hnd⟩ := hW
  have hA : DataW.TrodAll enc Try.prog W 0 (fun _ => true) true Try.f10.params.toList args.toList ds p := hA0
  have hsz : (DataW.weightsEach Try.prog (Try.f10.params.toList ++ Rows.dfaEitherSpec.plain.varTypes Try.prog) (ds ++ gs)).all (· ≤ reachBytes) = true := hsz0
  rw [Try.params10] at hA hval hsz
  obtain ⟨v0, vs0, d0, ds0, p0, q0, hargs, rfl, rfl, h0, rr0⟩ := trodAll_cons hA
  obtain ⟨v1, vs1, d1, ds1, p1, q1, rfl, rfl, rfl, h1, rr1⟩ := trodAll_cons rr0
  obtain ⟨v2, vs2, d2, ds2, p2, q2, rfl, rfl, rfl, h2, rr2⟩ := trodAll_cons rr1
  obtain ⟨v3, vs3, d3, ds3, p3, q3, rfl, rfl, rfl, h3, rr3⟩ := trodAll_cons rr2
  obtain ⟨rfl, rfl, rfl⟩ := trodAll_nil rr3
  obtain rfl : args = #[v0, v1, v2, v3] := by cases args; simp_all
  have hs0 := sized_arg hsz 0 38 d0 rfl rfl
  obtain ⟨x0, a0, b0, c0, rfl, hx0⟩ := node_open (hval 0 38 v0 rfl rfl) h0 hs0
  have hs1 := sized_arg hsz 1 38 d1 rfl rfl
  obtain ⟨x1, a1, b1, c1, rfl, hx1⟩ := node_open (hval 1 38 v1 rfl rfl) h1 hs1
  obtain ⟨b2, rfl, rfl, rfl⟩ := open_bool Try.underlying4 (hval 2 4 v2 rfl rfl) h2
  have hs3 := sized_arg hsz 3 35 d3 rfl rfl
  obtain ⟨xs3, hx3, hb3, hw3⟩ := ints_open (hval 3 35 v3 rfl rfl) h3 hs3
  refine (either_law W x0 x1 _ _ _ _ _ _ b2 v3 xs3 hx0 hx1 hx3 (by unfold R at hb3; omega)).mono fun e W' ⟨he, hb⟩ => ?_
  subst he
  refine ⟨_, rfl, law_post (t := 4) laidOut dfaEither_params (by kernel_rfl) Try.underlying4 rfl ?_ hW' hb⟩
  intro ds hds
  match ds, hds with
  | [d0, d1, d2, d3], _ => exact ⟨rfl, rfl, rfl⟩

theorem dfaEither : Rows.DfaEitherSaid :=
  OpenClaim.holds_of_wide 10 Try.f10 rfl rfl rfl rfl rfl rfl rfl ⟨rfl, rfl, rfl, rfl, rfl⟩ rfl rfl rfl rfl rfl (by kernel_rfl) Try.func10 (by kernel_rfl)
    (of_decide_eq_true (by kernel_rfl)) (by unfold Func.isWrapper; first | (rw [if_pos (by decide +kernel)]; kernel_rfl) | (rw [if_neg (by decide +kernel)]; exact ⟨rfl, rfl⟩))
    (fun os started H enc _ => dfaEither_lifted os started H enc)
#print axioms dfaEither
end Go.Proofs.Yteamokljlcnicaa

