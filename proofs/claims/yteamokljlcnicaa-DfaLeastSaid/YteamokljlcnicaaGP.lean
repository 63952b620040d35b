import Derived.Test.YteamokljlcnicaaEOm
import Derived.Test.YteamokljlcnicaaGA
import Derived.Test.YteamokljlcnicaaKV
import Derived.Test.YteamokljlcnicaaRows
/-
  dfa: Run of a machine. No condition beyond what each theorem names.
-/
set_option linter.unusedVariables false
set_option linter.unusedSimpArgs false
namespace Go.Proofs.Yteamokljlcnicaa
open Go.RowKit Classical

/-- classes that there are -/
def RowOk (classes : Nat) (row : List Int) : Prop := ∀ c ∈ row, 0 ≤ c ∧ c < classes
/-- a row's classes -/
def natsR (row : List Int) : List Nat := row.map Int.toNat
/-- the state behind the first k -/
def stA (N : List (List Nat)) (row : List Int) (k : Nat) : Nat := runN N 0 (natsR (row.take k))
/-- what Run tells -/
def runsN (N : List (List Nat)) (O : List Nat) (row : List Int) : List Nat := (List.range (row.length + 1)).map fun k => at0 O (stA N row k)

theorem runN_snoc (N : List (List Nat)) : ∀ (t : List Nat) (i c : Nat), runN N i (t ++ [c]) = goN N (runN N i t) c
  | [], _, _ => rfl
  | d :: t, i, c => runN_snoc N t (goN N i d) c
theorem stA_succ {N : List (List Nat)} {row : List Int} {k : Nat} (hk : k < row.length) : stA N row (k + 1) = goN N (stA N row k) (row[k]).toNat := by
  unfold stA natsR
  rw [List.take_succ_eq_append_getElem hk, List.map_append, List.map_cons, List.map_nil, runN_snoc]
theorem stA_lt {β : Type} {N : List (List Nat)} {O : List β} {classes : Nat} (h : OkN N O classes) (h0 : 0 < N.length) {row : List Int} (hr : RowOk classes row) : ∀ k, k ≤ row.length → stA N row k < N.length
  | 0, _ => h0
  | k + 1, hk => by
    rw [stA_succ (by omega)]
    have hc := hr row[k] (List.getElem_mem _)
    exact h.go (stA_lt h h0 hr k (by omega)) (by omega)

theorem made_u64 (n : Nat) : madeCells #[Value.int .u64 0] n = (List.replicate n (Value.int .u64 0)).toArray := by
  apply Array.ext
  · simp [madeCells]
  · intro i h1 h2
    have e : i % 1 = 0 := Nat.mod_one i
    simp [madeCells, e]
theorem make_u64 (t : TypeId) (ht : Try.prog.underlying t = some (.slice 50)) (w : World) (c : Int) (n : Nat) (hc : c = n) (hn : n ≤ 1000001) :
    (Instr.makeSlice t (.int .i64 c) (.int .i64 c)).run Try.prog w = .ok (.slice (some ⟨w.heap.size, 0, none⟩) n n) (w.alloc (.cells (List.replicate n (Value.int .u64 0)).toArray 50)) := by
  subst hc
  obtain ⟨i0, hi, hz0, hz1, hz2⟩ := info_parts infoU64
  have := run_make (P := Try.prog) w t 50 i0 (.int .u64 0) ht hi hz0 .i64 .i64 n n (by omega) (by omega) (by rw [hz2]; omega) (by omega)
  rw [hz1] at this
  simp only [Int.toNat_natCast, Nat.mul_one] at this
  rw [this, show (Value.int .u64 0).cells = #[Value.int .u64 0] from rfl, made_u64]

theorem readU {w : World} {g : Nat} {os : List Nat} {n : Nat} (h : VRow w g 50 (os.map fun (o : Nat) => Value.int .u64 o)) (hn : os.length = n) : ReadL u64E 1 w (.slice (some ⟨g, 0, none⟩) n n) os := by
  subst hn
  refine ReadL.block (cs := os.map fun (o : Nat) => Value.int .u64 o) h os (os.map fun (o : Nat) => [Value.int .u64 o]) ?_ rfl (by simp) (fun r hr => ?_) (fun i hi => ⟨_, by simp [hi], rfl⟩)
  · clear h
    induction os with
    | nil => rfl
    | cons x r ih => simp [ih]
  · obtain ⟨o, -, rfl⟩ := List.mem_map.1 hr
    simp [Value.oneCell']

def RunPost (w : World) (classes : Nat) (N : List (List Nat)) (O : List Nat) (row : List Int) (e : Ending) (w' : World) : Prop := Below w.heap.size w w' ∧
  ((RowOk classes row ∧ ∃ v, e = .returned (.tuple #[v, .int .i64 0]) ∧ ReadL u64E 1 w' v (runsN N O row)) ∨ (¬ RowOk classes row ∧ e = .returned (.tuple #[.slice none 0 0, .int .i64 1])))

set_option maxRecDepth 100000 in
set_option maxHeartbeats 8000000 in
theorem run_m (w : World) (ob classes : Nat) (N : List (List Nat)) (O : List Nat) (hM : MachD w ob classes N O) (hok : OkN N O classes) (h0 : 0 < N.length) (v : Value) (row : List Int) (hv : Ints w v row) (hl : row.length ≤ 1000000) :
    Calls Try.prog 22 #[.pointer (some ⟨ob, 0, none⟩), v] w (RunPost w classes N O row) := by
  obtain ⟨nn, hnn⟩ : ∃ nn, nn = N.length := ⟨_, rfl⟩
  obtain ⟨hol, pn, cn, po, co, m0, m1, m2, hcn, hco, hgn, hgo⟩ := hM.get hnn.symm (by rw [← hok.len, hnn])
  obtain ⟨p, cp, rfl, hcp, hx⟩ := hv.get
  have HN := Lib.hid hnn
  have HGN := Lib.hid hgn
  have HGO := Lib.hid hgo
  have HOK := Lib.hid hok
  have HX := Lib.hid hx
  have HM1 := Lib.hid (And.intro m1 m2)
  rw [← hnn] at h0
  have hmt : ∀ (w : World), (Instr.makeSlice 45 (.int .i64 ((row.length : Int) + 1)) (.int .i64 ((row.length : Int) + 1))).run Try.prog w = .ok (.slice (some ⟨w.heap.size, 0, none⟩) (row.length + 1) (row.length + 1)) (w.alloc (.cells (List.replicate (row.length + 1) (Value.int .u64 0)).toArray 50)) := fun w => make_u64 _ Try.underlying45 w _ _ (by omega) (by omega)
  clear hM hok hgn hgo hnn m1 m2 hv hx
  go_enter Try.func22, Try.ntmps22
  go_wp2_with fail
  go_loop [14] (fun i => ∃ k : Nat, i = .int .i64 k ∧ k ≤ row.length ∧ ∀ c ∈ row.take k, 0 ≤ c ∧ c < classes) (fun i => row.length - (intOf i).toNat)
  case atStart => exact ⟨0, rfl, by omega, by simp⟩
  case round =>
    obtain ⟨k, rfl, hk1, hs⟩ := hrel
    have HS := Lib.hid hs
    clear hs
    by_cases hk : k < row.length
    · obtain ⟨b, off, rfl, hb, hx⟩ := HX.out (by omega)
      obtain ⟨c, hc⟩ : ∃ c, c = row[k] := ⟨_, rfl⟩
      have d0 := hx k hk
      rw [← hc] at d0
      have HC := Lib.hid hc
      have hki : (k : Int) < row.length := by omega
      have hk0 : (0 : Int) ≤ k := by omega
      clear hx hc
      by_cases h1 : c < 0
      · have HNO := Lib.hid (show ¬ RowOk classes row from fun h => by have := (h c (by rw [HC.out]; exact List.getElem_mem hk)).1; omega)
        go_wp2_with fail
        go_ret2
        exact ⟨Below.refl _ _, .inr ⟨HNO.out, rfl⟩⟩
      · by_cases h2 : c < classes
        · have HS2 := Lib.hid (show ∀ c ∈ row.take (k + 1), 0 ≤ c ∧ c < classes from fun x hx => by
            rw [List.take_succ_eq_append_getElem hk] at hx
            rcases List.mem_append.1 hx with hx | hx
            · exact HS.out x hx
            · rw [List.mem_singleton.1 hx, ← HC.out]; omega)
          go_wp2_with fail
          go_round
          case rel => exact ⟨k + 1, by go_num, by omega, HS2.out⟩
          case measure => simp [intOf]; omega
        · have HNO := Lib.hid (show ¬ RowOk classes row from fun h => by have := (h c (by rw [HC.out]; exact List.getElem_mem hk)).2; omega)
          go_wp2_with fail
          go_ret2
          exact ⟨Below.refl _ _, .inr ⟨HNO.out, rfl⟩⟩
    · have hki : ¬ (k : Int) < row.length := by omega
      have HRO := Lib.hid (show RowOk classes row by have := HS.out; rwa [List.take_of_length_le (by omega)] at this)
      go_upto_region 8 with fail
      refine abs_wp fun W hW => ?_
      obtain ⟨g, hg⟩ : ∃ g, g = w.heap.size := ⟨_, rfl⟩
      have hal := below_alloc1 w (.cells (List.replicate (row.length + 1) (Value.int .u64 0)).toArray 50)
      have hW2 : W = w.alloc (.cells (List.replicate (row.length + 1) (Value.int .u64 0)).toArray 50) := by rw [hW]; simp
      have HV1 := Lib.hid (show VRow W g 50 (List.replicate (row.length + 1) (Value.int .u64 0)) by rw [hW2, hg]; exact heap_alloc_new _ _)
      have HB1 := Lib.hid (show Below w.heap.size w W by rw [hW2]; exact hal)
      have hg0 : w.heap.size ≤ g := by omega
      rw [← hg]
      clear hW hW2 hal hg
      have og : ∀ s, s < nn → ∃ b off, po = some ⟨b, off, none⟩ ∧ b < w.heap.size ∧ w.cell? ⟨b, off + s, none⟩ = some (.int .u64 (at0 O s : Nat)) := fun s hs => by
        have hsO : s < O.length := by rw [← HOK.out.len, ← HN.out]; exact hs
        refine HGO.out s (at0 O s) ?_
        unfold at0
        rw [List.getElem?_eq_getElem hsO]
        rfl
      have HOG := Lib.hid og
      obtain ⟨bo, oo, rfl, hbo, e0⟩ := og 0 h0
      obtain ⟨a0, ha0⟩ : ∃ a0, a0 = at0 O 0 := ⟨_, rfl⟩
      rw [← ha0] at e0
      have HA0 := Lib.hid ha0
      have e1 := cell_below HB1.out hbo e0
      have e2 := cell_below HB1.out hol HM1.out.2
      simp only [Nat.add_zero] at e1
      have z0 := HV1.out.cell (i := 0) (u := .int .u64 0) (by simp)
      have z1 := HV1.out.fz 0
      clear og ha0 e0
      go_upto_region 10 with fail
      refine abs_wp fun W2 hW2 => ?_
      have HV2 := Lib.hid (show VRow W2 g 50 ((((List.range (0 + 1)).map fun j => at0 O (stA N row j)).map fun (o : Nat) => Value.int .u64 o) ++ List.replicate (row.length - 0) (.int .u64 0)) by
        have h := HV1.out.set 0 (.int .u64 (a0 : Nat))
        rw [hW2]
        have e : (List.replicate (row.length + 1) (Value.int .u64 0)).set 0 (.int .u64 (a0 : Nat)) = ((((List.range (0 + 1)).map fun j => at0 O (stA N row j)).map fun (o : Nat) => Value.int .u64 o) ++ List.replicate (row.length - 0) (.int .u64 0)) := by
          rw [List.replicate_succ, List.set_cons_zero, HA0.out]
          rfl
        rw [e] at h
        exact h)
      have HB2 := Lib.hid (show Below w.heap.size w W2 by rw [hW2]; exact HB1.out.trans ((Fr.setCell (F := fun k => k = g) W rfl _).below HB1.out.size (fun k (hk : k = g) => by omega)))
      clear hW2 e1 e2 z0 z1
      go_wp2_with fail
      go_loopw [9, 44] (fun st i w1 => ∃ k : Nat, i = .int .i64 k ∧ k ≤ row.length ∧ st = .int .i64 (stA N row k : Nat) ∧ VRow w1 g 50 ((((List.range (k + 1)).map fun j => at0 O (stA N row j)).map fun (o : Nat) => Value.int .u64 o) ++ List.replicate (row.length - k) (.int .u64 0)) ∧ Below w.heap.size w w1) (fun _ i _ => row.length - (intOf i).toNat)
      case atStart => exact ⟨0, rfl, by omega, rfl, HV2.out, HB2.out⟩
      case round =>
        obtain ⟨k2, rfl, hk2, rfl, hv, hb⟩ := hrel
        have HV := Lib.hid hv
        have HB := Lib.hid hb
        clear hv
        by_cases hkk : k2 < row.length
        · obtain ⟨b, off, rfl, hbx, hx⟩ := HX.out (by omega)
          have hcr := HRO.out row[k2] (List.getElem_mem hkk)
          obtain ⟨c, hc⟩ : ∃ c : Nat, row[k2] = c := ⟨(row[k2]).toNat, by omega⟩
          have d0 := cell_below hb hbx (hx k2 hkk)
          rw [hc] at d0 hcr
          have hss := stA_lt HOK.out (by rw [← HN.out]; exact h0) HRO.out k2 hk2
          have hsn := stA_succ (N := N) hkk
          rw [hc, Int.toNat_natCast] at hsn
          obtain ⟨s, hs⟩ : ∃ s, s = stA N row k2 := ⟨_, rfl⟩
          obtain ⟨s2, hs2⟩ : ∃ s2, s2 = stA N row (k2 + 1) := ⟨_, rfl⟩
          have HS := Lib.hid hs
          have HS2 := Lib.hid hs2
          rw [← hs] at hss hsn ⊢
          rw [← hs2] at hsn
          have hc2 : c < classes := by omega
          have hs2l : s2 < nn := by rw [hsn, HN.out]; exact HOK.out.go hss hc2
          obtain ⟨r, hr⟩ : ∃ r, r = N[s] := ⟨_, rfl⟩
          have hrow := HOK.out.row r (by rw [hr]; exact List.getElem_mem hss)
          obtain ⟨bn, on, rv, rfl, hbn, d1, hrv⟩ := HGN.out s r (by rw [hr]; exact List.getElem?_eq_getElem hss)
          obtain ⟨pr, cr, rfl, hcr2, hrc⟩ := hrv.get
          have hrl : (natsI r).length = classes := by unfold natsI; rw [List.length_map]; exact hrow.1
          rw [hrl] at d1 hcr2
          obtain ⟨b2, o2, rfl, hb2l, hrc⟩ := hrc (by rw [hrl]; omega)
          have hcl : c < r.length := by rw [hrow.1]; exact hc2
          have hs2e : s2 = r[c] := by
            have h1 : N[s]? = some r := by rw [hr]; exact List.getElem?_eq_getElem hss
            rw [hsn]
            unfold goN
            rw [h1]
            show at0 r c = _
            unfold at0
            rw [List.getElem?_eq_getElem hcl]
            rfl
          have d3 : w.cell? ⟨b2, o2 + c, none⟩ = some (.int .i64 (s2 : Nat)) := by
            rw [hrc c (by rw [hrl]; exact hc2), hs2e]
            simp [natsI]
          obtain ⟨bo', oo', ho', hbo', d4⟩ := HOG.out s2 hs2l
          injection ho' with ho'
          injection ho' with ho1 ho2
          subst ho1 ho2
          obtain ⟨az, haz⟩ : ∃ az, az = at0 O s2 := ⟨_, rfl⟩
          rw [← haz] at d4
          have HAZ := Lib.hid haz
          have x1 := cell_below hb hbn d1
          have x3 := cell_below hb hb2l d3
          have x4 := cell_below hb hbo' d4
          have x5 := cell_below hb hol HM1.out.1
          have x6 := cell_below hb hol HM1.out.2
          have hsl : s < nn := by rw [HN.out]; exact hss
          have hsi : (s : Int) < nn := by omega
          have hs0 : (0 : Int) ≤ s := by omega
          have hs2i : (s2 : Int) < nn := by omega
          have hs20 : (0 : Int) ≤ s2 := by omega
          have hci : (c : Int) < classes := by omega
          have hc0 : (0 : Int) ≤ c := by omega
          have hki2 : (k2 : Int) < row.length := by omega
          have hki3 : (k2 : Int) + 1 < ((row.length + 1 : Nat) : Int) := by omega
          have hk20 : (0 : Int) ≤ k2 := by omega
          have hk21 : (0 : Int) ≤ (k2 : Int) + 1 := by omega
          have hnt : ((k2 : Int) + 1).toNat = k2 + 1 := by omega
          have hfl : (((List.range (k2 + 1)).map fun j => at0 O (stA N row j)).map fun (o : Nat) => Value.int .u64 o).length = k2 + 1 := by simp
          have z0 := HV.out.cell (i := k2 + 1) (u := .int .u64 0) (by rw [List.getElem?_append_right (by omega), hfl, Nat.sub_self, List.getElem?_replicate, if_pos (by omega)])
          have z1 := HV.out.fz (k2 + 1)
          have HFS := Lib.hid (fill_set (((List.range (k2 + 1)).map fun j => at0 O (stA N row j)).map fun (o : Nat) => Value.int .u64 o) (row.length - k2) (.int .u64 (az : Nat)) (.int .u64 0) hfl (by omega))
          clear hx hc hcr hs hs2 hsn hr hrow hrv hrl hrc hs2e d1 d3 d4 haz hfl hb hcl
          go_upto_region 15 with fail
          refine abs_wp fun W3 hW3 => ?_
          have HV3 := Lib.hid (show VRow W3 g 50 ((((List.range (k2 + 1 + 1)).map fun j => at0 O (stA N row j)).map fun (o : Nat) => Value.int .u64 o) ++ List.replicate (row.length - (k2 + 1)) (.int .u64 0)) by
            have h := HV.out.set (k2 + 1) (.int .u64 (az : Nat))
            rw [HFS.out] at h
            rw [hW3, List.range_succ, List.map_append, List.map_append, show row.length - (k2 + 1) = row.length - k2 - 1 by omega]
            have e : ([k2 + 1].map fun j => at0 O (stA N row j)).map (fun (o : Nat) => Value.int .u64 o) = [Value.int .u64 (az : Nat)] := by rw [HAZ.out, HS2.out]; rfl
            rw [e]
            exact h)
          have HB3 := Lib.hid (show Below w.heap.size w W3 by rw [hW3]; exact HB.out.trans ((Fr.setCell (F := fun k => k = g) wr rfl _).below HB.out.size (fun k (hk : k = g) => by omega)))
          clear hW3 z0 z1 d0 x1 x3 x4 x5 x6
          go_wp2_with fail
          go_roundw
          case rel => exact ⟨k2 + 1, by go_num, by omega, by rw [HS2.out], HV3.out, HB3.out⟩
          case measure => simp [intOf]; omega
        · have hkk2 : ¬ (k2 : Int) < row.length := by omega
          obtain rfl : row.length = k2 := by omega
          have HV9 := Lib.hid (show VRow wr g 50 ((runsN N O row).map fun (o : Nat) => Value.int .u64 o) by
            have := HV.out
            rw [Nat.sub_self, List.replicate_zero, List.append_nil] at this
            exact this)
          have HL9 := Lib.hid (show (runsN N O row).length = row.length + 1 by unfold runsN; simp)
          go_wp2_with fail
          go_ret2
          exact ⟨HB.out, .inl ⟨HRO.out, _, rfl, readU HV9.out HL9.out⟩⟩
end Go.Proofs.Yteamokljlcnicaa

/-
  foolscaplaw08: what must be in any case. No condition beyond what each theorem names.
-/
set_option linter.unusedVariables false
set_option linter.unusedSimpArgs false
namespace Go.Proofs.Yteamokljlcnicaa
open Go.RowKit Classical

theorem set8_any (w : World) (v : Value) (cls : List Int) (hv : Ints w v cls) (hb : cls.length * 8 ≤ R) : Calls Try.prog 21 #[v] w fun e w' =>
    e = .returned (.agg #[.int .i64 1, v, .slice none 0 0]) ∧ NodeIs w' (.mk 1 cls []) (.int .i64 1) v (.slice none 0 0) ∧ Below w.heap.size w w' := by
  obtain ⟨p, c, rfl, -, -⟩ := hv.get
  have HV := Lib.hid hv
  clear hv
  go_enter Try.func21, Try.ntmps21
  go_wp2
  have hbe : Below w.heap.size w (w.alloc (.cells #[.int .i64 1, .slice p cls.length c, .slice none 0 0] 38)) := below_alloc1 _ _
  refine bodyPost_ret (v := .agg #[.int .i64 1, .slice p cls.length c, .slice none 0 0]) (by simp [results, Try.results21, go_sem]) rfl ⟨rfl, ?_, ?_⟩
  · rw [nodeIs_iff]
    exact ⟨rfl, HV.out.to hbe (Nat.le_refl _), hb, by unfold R; simp, [], ⟨by simp, none, 0, rfl, by simp, fun h => by simp at h⟩, rfl, fun i h => by simp at h⟩
  · exact hbe

theorem x0_arg : ArgOk 2 [(x0, false)] := ⟨by omega, by omega, by simp, fun x hx => by
  rw [List.mem_singleton.1 hx]
  exact ⟨x0_right, by simp [x0, insideB, insideL]⟩⟩

set_option maxRecDepth 100000 in
set_option maxHeartbeats 8000000 in
theorem shown8 (w : World) : Calls Try.prog 12 #[] w (Says true w) := by
  go_enter Try.func12, Try.ntmps12
  go_wp2_with fail
  have hal := below_alloc1 w (.cells #[.int .i64 0] 3)
  have HAL := Lib.hid hal
  refine (set8_any _ _ [0] (Raw.of_block (cs := [.int .i64 0]) (heap_alloc_new w _)) (by unfold R; simp)).mono ?_
  rintro e w1 ⟨rfl, hn1, hb1⟩
  have HB1 := Lib.hid (HAL.out.trans (hb1.mono HAL.out.size))
  have HN1 := Lib.hid hn1
  clear hal hn1 hb1
  have hal1 := below_alloc1 w1 (.cells #[.int .i64 1, .slice (some ⟨w.heap.size, 0, none⟩) 1 1, .slice none 0 0, .bool false] 40)
  have HAL1 := Lib.hid hal1
  have HE := Lib.hid (show ReadL (exprE (w1.alloc (.cells #[.int .i64 1, .slice (some ⟨w.heap.size, 0, none⟩) 1 1, .slice none 0 0, .bool false] 40))) 4 (w1.alloc (.cells #[.int .i64 1, .slice (some ⟨w.heap.size, 0, none⟩) 1 1, .slice none 0 0, .bool false] 40)) (.slice (some ⟨w1.heap.size, 0, none⟩) 1 1) [(x0, false)] from
    ReadL.one w1 _ (x0, false) [.int .i64 1, .slice (some ⟨w.heap.size, 0, none⟩) 1 1, .slice none 0 0, .bool false] ⟨rfl, by simp [Value.oneCell']⟩ ⟨_, _, _, rfl, HN1.out.to hal1 (Nat.le_refl _)⟩)
  have HBU := Lib.hid (build_any _ _ [(x0, false)] 2 HE.out (by simp))
  clear hal1
  go_wp2_with fail
  refine HBU.out.mono ?_
  rintro e w2 ⟨hb2, hcase⟩
  have HB2 := Lib.hid (HB1.out.trans ((HAL1.out.trans (hb2.mono HAL1.out.size)).mono HB1.out.size))
  have hcase2 : ∃ ob, e = .returned (.tuple #[.pointer (some ⟨ob, 0, none⟩), .int .i64 0]) ∧ MachD w2 ob 2 [[1, 0], [1, 0]] [0, 1] := by
    rcases hcase with ⟨h, -⟩ | ⟨-, h, -⟩ | ⟨-, ob, N, O, -, h, he, hm⟩
    · exact absurd x0_arg h
    · have := built_det h built_x0
      cases this
    · have h1 := Option.some.inj (built_det h built_x0)
      obtain ⟨h2, h3⟩ := Prod.mk.inj h1
      have h4 : O = [0, 1] := by
        have : O.map some = [0, 1].map some := h3
        exact (List.map_inj_right (fun x y h => Option.some.inj h)).1 this
      rw [h2, h4] at hm
      exact ⟨ob, he, hm⟩
  obtain ⟨ob, rfl, hmd⟩ := hcase2
  have HMD := Lib.hid hmd
  clear hcase hb2 hmd
  have HBU2 := Lib.hid (build_any w2 (.slice none 0 0) [] 0 ⟨[], ⟨none, 0, rfl, by simp, fun h => by simp at h⟩, rfl, by simp, fun i h => by simp at h⟩ (by simp))
  go_wp2_with fail
  refine HBU2.out.mono ?_
  rintro e w3 ⟨hb3, hcase⟩
  have HB3 := Lib.hid (HB2.out.trans (hb3.mono HB2.out.size))
  have HMD3 := Lib.hid (HMD.out.to hb3)
  have hno : ¬ ArgOk 0 ([] : List (Nd × Bool)) := by rintro ⟨h, -⟩; omega
  rcases hcase with ⟨-, rfl⟩ | ⟨h, -⟩ | ⟨h, -⟩
  · obtain ⟨hol, pn, cn, po, co, m0, m1, m2, -, -, hgn, hgo⟩ := HMD3.out.get (nn := 2) rfl rfl
    obtain ⟨bn, on, v0, rfl, -, n0, i0⟩ := hgn 0 _ rfl
    obtain ⟨bn', on', v1, hb, -, n1, i1⟩ := hgn 1 _ rfl
    injection hb with hb
    injection hb with e1 e2
    subst e1 e2
    obtain ⟨bo, oo, rfl, -, o0⟩ := hgo 0 _ rfl
    obtain ⟨bo', oo', hb, -, o1⟩ := hgo 1 _ rfl
    injection hb with hb
    injection hb with e1 e2
    subst e1 e2
    obtain ⟨q0, c0, rfl, -, j0⟩ := i0.get
    obtain ⟨b0, k0, rfl, -, j0⟩ := j0 (by simp [natsI])
    have a0 := j0 0 (by simp [natsI])
    have a1 := j0 1 (by simp [natsI])
    have hok : OkN [[1, 0], [1, 0]] [0, 1] 2 := ⟨rfl, fun r hr => by
      simp at hr
      subst hr
      exact ⟨rfl, fun n hn => by simp at hn; rcases hn with rfl | rfl <;> simp⟩⟩
    have HS1 := Lib.hid (step_m w3 ob 2 _ _ HMD3.out hok 1 0)
    have HS2 := Lib.hid (step_m w3 ob 2 _ _ HMD3.out hok 1 1)
    have HS3 := Lib.hid (step_m w3 ob 2 _ _ HMD3.out hok 5 0)
    have HS4 := Lib.hid (step_m w3 ob 2 _ _ HMD3.out hok 0 (-1))
    rw [show stepI [[1, 0], [1, 0]] 2 1 0 = 1 by decide] at HS1
    rw [show stepI [[1, 0], [1, 0]] 2 1 1 = 0 by decide] at HS2
    rw [show stepI [[1, 0], [1, 0]] 2 5 0 = 0 by decide] at HS3
    rw [show stepI [[1, 0], [1, 0]] 2 0 (-1) = 0 by decide] at HS4
    have hbd : Bd [[1, 0], [1, 0]] [0, 1] := ⟨by simp, by simp, fun r hr => by simp at hr; subst hr; simp⟩
    have HEQ := Lib.hid (equal_m w3 ob ob 2 2 _ _ _ _ HMD3.out HMD3.out hbd hbd)
    rw [show decide (2 = 2 ∧ ([0, 1] : List Nat) = [0, 1] ∧ ([[1, 0], [1, 0]] : List (List Nat)) = [[1, 0], [1, 0]]) = true from decide_eq_true ⟨rfl, rfl, rfl⟩] at HEQ
    simp only [natsI, List.map_cons, List.map_nil, List.getElem_cons_zero, List.getElem_cons_succ, List.length_cons, List.length_nil, Nat.add_zero] at n0 n1 o0 o1 a0 a1
    clear hgn hgo hno hb3 hok hbd i0 i1 j0
    go_wp2_with fail
    refine HS1.out.mono ?_
    rintro e wz ⟨rfl, rfl⟩
    go_wp2_with fail
    refine HS2.out.mono ?_
    rintro e wz ⟨rfl, rfl⟩
    go_wp2_with fail
    refine HS3.out.mono ?_
    rintro e wz ⟨rfl, rfl⟩
    go_wp2_with fail
    refine HS4.out.mono ?_
    rintro e wz ⟨rfl, rfl⟩
    go_wp2_with fail
    refine HEQ.out.mono ?_
    rintro e w9 ⟨rfl, hb9⟩
    have HB9 := Lib.hid (HB3.out.trans (hb9.mono HB3.out.size))
    clear hb9
    go_wp2_with fail
    go_ret
    exact ⟨rfl, HB9.out⟩
  · exact absurd h hno
  · exact absurd h hno
end Go.Proofs.Yteamokljlcnicaa

/-
  DfaBeginnings: what comes later does not matter. No condition beyond what each theorem names.
-/
set_option linter.unusedVariables false
set_option linter.unusedSimpArgs false
namespace Go.Proofs.Yteamokljlcnicaa
open Go.RowKit Classical

theorem OwnL.exprs {base : Nat} {w w' : World} {T : TypeId} {v : Value} {L : List (Nd × Bool)} (h : OwnL (exprE w) T 4 base w' v L) (hb : Below w.heap.size w w') : ReadL (exprE w') 4 w' v L :=
  h.read.monoE (fun x r hr => by
    obtain ⟨a, b, c, rfl, hn⟩ := hr
    exact ⟨a, b, c, rfl, hn.to hb (Nat.le_refl _)⟩)

theorem stA_take (N : List (List Nat)) (row : List Int) {k j : Nat} (h : j ≤ k) : stA N (row.take k) j = stA N row j := by
  unfold stA
  rw [List.take_take, Nat.min_eq_left h]
theorem runs_get {N : List (List Nat)} {O : List Nat} {row : List Int} {k : Nat} (h : k ≤ row.length) : (runsN N O row)[k]? = some (at0 O (stA N row k)) := by
  unfold runsN
  rw [List.getElem?_map, List.getElem?_range (by omega)]
  rfl
theorem runs_length (N : List (List Nat)) (O : List Nat) (row : List Int) : (runsN N O row).length = row.length + 1 := by unfold runsN; simp
theorem stepI_st {β : Type} {N : List (List Nat)} {O : List β} {classes : Nat} (h : OkN N O classes) (h0 : 0 < N.length) {row : List Int} (hr : RowOk classes row) {k : Nat} (hk : k < row.length) : stepI N classes (stA N row k : Nat) row[k] = stA N row (k + 1) := by
  have h1 := stA_lt h h0 hr k (by omega)
  have h2 := hr row[k] (List.getElem_mem hk)
  unfold stepI
  rw [if_pos (by omega), Int.toNat_natCast, stA_succ hk]
theorem RowOk.take {classes : Nat} {row : List Int} (h : RowOk classes row) (k : Nat) : RowOk classes (row.take k) := fun c hc => h c (List.mem_of_mem_take hc)

set_option maxRecDepth 100000 in
set_option maxHeartbeats 8000000 in
theorem beginnings_law (w : World) (n : Int) (v : Value) (l : List (Nd × Bool)) (v2 : Value) (t : List Int) (at_ : Int) (hv : ReadL (exprE w) 4 w v l) (hl : l.length ≤ maxLen) (hv2 : Ints w v2 t) (hn : t.length ≤ 9223372036854775807) :
    Calls Try.prog 11 #[.int .i64 n, v, v2, .int .i64 at_] w (Says true w) := by
  obtain ⟨p, cp, rfl, -, -⟩ := hv.at (by decide) rfl
  obtain ⟨pt, ct, rfl, hct, hxt⟩ := hv2.get
  have HL := Lib.hid hv
  have HV := Lib.hid hv2
  have HLL := Lib.hid hl
  clear hv hv2 hxt hl
  go_enter Try.func11, Try.ntmps11
  go_wp2_with fail
  refine (shown8 w).mono ?_
  rintro e w1 ⟨rfl, hb1⟩
  have HB1 := Lib.hid hb1
  clear hb1
  obtain ⟨row, hrow⟩ : ∃ row, row = t.take 30 := ⟨_, rfl⟩
  have hrl : row.length = min t.length 30 := by rw [hrow, List.length_take, Nat.min_comm]
  go_upto_region 2 with fail
  go_cut [2] (fun rv wx => Ints w rv row ∧ wx = w1)
  case first =>
    cases pt with
    | none =>
      have h0 : t = [] := by
        obtain ⟨p', c', he, -, hx⟩ := HV.out
        injection he with he1 he2 he3
        subst he1
        cases t with
        | nil => rfl
        | cons x r => obtain ⟨b, off, e, -⟩ := hx (by simp); cases e
      subst h0
      have HI := Lib.hid (show Ints w (.slice none 0 ct) row by rw [hrow]; exact HV.out)
      clear hrow hrl
      go_wp2_with fail
      go_meet
      case rel => exact ⟨HI.out, rfl⟩
    | some ad =>
      by_cases h40 : t.length ≤ 30
      · have h41 : ¬ (30 : Int) < t.length := by omega
        have HI := Lib.hid (show Ints w (.slice (some ad) (min (t.length : Int) 30).toNat ct) row by rw [hrow, List.take_of_length_le h40, show (min (t.length : Int) 30).toNat = t.length by omega]; exact HV.out)
        clear hrow hrl
        go_wp2_with fail
        go_meet
        case rel => exact ⟨HI.out, rfl⟩
      · have h41 : (30 : Int) < t.length := by omega
        have HI := Lib.hid (show Ints w (.slice (some ad) (min (t.length : Int) 30).toNat ct) row by rw [hrow, show (min (t.length : Int) 30).toNat = 30 by omega]; exact HV.out.take (by omega))
        clear hrow hrl
        go_wp2_with fail
        go_meet
        case rel => exact ⟨HI.out, rfl⟩
  case rest =>
    obtain ⟨hi, rfl⟩ := hcut
    obtain ⟨pr, cr, rfl, hcr, hxr⟩ := hi.get
    have hr30 : row.length ≤ 30 := by omega
    have HI := Lib.hid hi
    have HXR := Lib.hid hxr
    have HFEW := Lib.hid (few_law wc (.slice p l.length cp) l ((HL.out.below HB1.out (Nat.le_refl _)).monoE (fun x r hr => by
      obtain ⟨a, b, c, rfl, hn⟩ := hr
      exact ⟨a, b, c, rfl, hn.to HB1.out (Nat.le_refl _)⟩)) HLL.out)
    obtain ⟨L, hL⟩ : ∃ L, L = fewL l := ⟨_, rfl⟩
    rw [← hL] at HFEW
    have hL8 : L.length ≤ 8 := by rw [hL]; exact fewL_length l
    clear hi hxr hrow hrl hL
    go_wp2_with fail
    refine HFEW.out.mono ?_
    rintro e w2 ⟨va, vb, rfl, hoa, hob, hb2⟩
    have HB2 := Lib.hid (HB1.out.trans (hb2.mono HB1.out.size))
    have HBU := Lib.hid (build_any w2 va L n (hoa.exprs hb2) (by omega))
    obtain ⟨pa, ca, hva⟩ := hoa.form
    subst hva
    obtain ⟨pb, cb, hvb⟩ := hob.form
    subst hvb
    clear hb2 hoa hob
    go_wp2_with fail
    refine HBU.out.mono ?_
    rintro e w3 ⟨hb3, hcase⟩
    have HB3 := Lib.hid (HB2.out.trans (hb3.mono HB2.out.size))
    clear hb3
    rcases hcase with ⟨-, rfl⟩ | ⟨-, -, rfl⟩ | ⟨hao, ob, N, O, -, hbu, rfl, hmd⟩
    · go_wp2_with fail
      go_ret
      exact ⟨rfl, HB3.out⟩
    · go_wp2_with fail
      go_ret
      exact ⟨rfl, HB3.out⟩
    · obtain ⟨hok, hpos, h400, -⟩ := built_bits (fun e he => (hao.2.2.2 e he).1) hbu
      obtain ⟨cn, hcn⟩ : ∃ cn, cn = n.toNat := ⟨_, rfl⟩
      rw [← hcn] at hmd hok
      have HMD := Lib.hid hmd
      have HOK := Lib.hid hok
      have HPOS := Lib.hid hpos
      have HRUN := Lib.hid (run_m w3 ob cn N O hmd hok hpos _ row (HI.out.to HB3.out (Nat.le_refl _)) (by omega))
      have h400' := h400
      clear hao hbu hmd hok hpos hcn h400
      go_wp2_with fail
      refine HRUN.out.mono ?_
      rintro e w4 ⟨hb4, hcase⟩
      have HB4 := Lib.hid (HB3.out.trans (hb4.mono HB3.out.size))
      have HMD4 := Lib.hid (HMD.out.to hb4)
      clear hb4
      rcases hcase with ⟨hro, vo, rfl, hvo⟩ | ⟨-, rfl⟩
      · obtain ⟨po, co, rfl, hco, hgo⟩ := hvo.at (by decide) (runs_length N O row)
        have HRO := Lib.hid hro
        have HGO := Lib.hid hgo
        have HBIT := Lib.hid (bits_and_le at_ 65535 (by omega))
        clear hro hvo hgo
        obtain ⟨k, hk, hkl⟩ : ∃ k : Nat, (bits .and .i64 at_ 65535).tmod ((row.length : Int) + 1) = k ∧ k ≤ row.length := by
          have h1 : 0 ≤ bits .and .i64 at_ 65535 := HBIT.out.1
          have h2 := Int.tmod_lt_of_pos (bits .and .i64 at_ 65535) (show (0 : Int) < (row.length : Int) + 1 by omega)
          have h3 := Int.tmod_nonneg ((row.length : Int) + 1) h1
          exact ⟨((bits .and .i64 at_ 65535).tmod ((row.length : Int) + 1)).toNat, by omega, by omega⟩
        go_upto_region 11 with fail
        have hki : (k : Int) ≤ row.length := by omega
        have hk0 : (0 : Int) ≤ k := by omega
        have HIT := Lib.hid ((HI.out.to HB4.out (Nat.le_refl _)).take hkl)
        have HTL := Lib.hid (show (row.take k).length = k by rw [List.length_take]; omega)
        have HRUN2 := Lib.hid (run_m w4 ob cn N O HMD4.out HOK.out HPOS.out _ (row.take k) HIT.out (by rw [HTL.out]; omega))
        clear hk HBIT
        go_cut [17, 18] (fun v e wx => e = .int .i64 0 ∧ ReadL u64E 1 wx v (runsN N O (row.take k)) ∧ Below w4.heap.size w4 wx)
        case first =>
          cases pr with
          | none =>
            have hr0 : row.length = 0 := by
              by_cases h : 0 < row.length
              · obtain ⟨b, off, h, -⟩ := HXR.out h
                cases h
              · omega
            have HR0 := Lib.hid hr0
            obtain rfl : k = 0 := by omega
            clear hr0 hki hk0
            go_wp2_with fail
            refine HRUN2.out.mono ?_
            rintro e w5 ⟨hb5, hcase⟩
            rcases hcase with ⟨-, v5, rfl, hv5⟩ | ⟨hno, -⟩
            · have HV5 := Lib.hid hv5
              have HB5 := Lib.hid hb5
              clear hv5 hb5
              go_wp2_with fail
              go_meet
              case rel => exact ⟨rfl, HV5.out, HB5.out⟩
            · exact (hno (HRO.out.take 0)).elim
          | some ad =>
            go_wp2_with fail
            refine HRUN2.out.mono ?_
            rintro e w5 ⟨hb5, hcase⟩
            rcases hcase with ⟨-, v5, rfl, hv5⟩ | ⟨hno, -⟩
            · have HV5 := Lib.hid hv5
              have HB5 := Lib.hid hb5
              clear hv5 hb5
              go_wp2_with fail
              go_meet
              case rel => exact ⟨rfl, HV5.out, HB5.out⟩
            · exact (hno (HRO.out.take k)).elim
        case rest =>
          obtain ⟨rfl, hv5, hb5⟩ := hcut
          obtain ⟨p5, c5, rfl, hc5, hg5⟩ := hv5.at (by decide) (show _ = k + 1 by rw [runs_length, HTL.out])
          have HB5 := Lib.hid hb5
          have HREAD := Lib.hid (show ∀ W, Below wc.heap.size wc W → ∀ j : Nat, j ≤ k → ∃ b off b' off', p5 = some ⟨b, off, none⟩ ∧ po = some ⟨b', off', none⟩ ∧ W.cell? ⟨b, off + j, none⟩ = some (.int .u64 (at0 O (stA N row j) : Nat)) ∧ W.cell? ⟨b', off' + j, none⟩ = some (.int .u64 (at0 O (stA N row j) : Nat)) from fun W hW j hj => by
            have e1 := runs_get (N := N) (O := O) (row := row.take k) (k := j) (by rw [HTL.out]; exact hj)
            rw [stA_take N row hj] at e1
            obtain ⟨b, off, r, rfl, hbl, hc, rfl⟩ := hg5 j _ e1
            obtain ⟨b', off', r', rfl, hbl', hc', rfl⟩ := HGO.out j _ (runs_get (by omega))
            have d1 := hc 0 _ rfl
            have d2 := hc' 0 _ rfl
            simp only [Nat.mul_one, Nat.add_zero] at d1 d2
            exact ⟨b, off, b', off', rfl, rfl, cell_below hW hbl d1, cell_below (hb5.trans (hW.mono hb5.size)) hbl' d2⟩)
          have HREAD2 := Lib.hid (show ∀ W, Below wc.heap.size wc W → ∀ j : Nat, j ≤ row.length → ∃ b' off', po = some ⟨b', off', none⟩ ∧ W.cell? ⟨b', off' + j, none⟩ = some (.int .u64 (at0 O (stA N row j) : Nat)) from fun W hW j hj => by
            obtain ⟨b', off', r', rfl, hbl', hc', rfl⟩ := HGO.out j _ (runs_get hj)
            have d2 := hc' 0 _ rfl
            simp only [Nat.mul_one, Nat.add_zero] at d2
            exact ⟨b', off', rfl, cell_below (hb5.trans (hW.mono hb5.size)) hbl' d2⟩)
          have HROW := Lib.hid (show ∀ W, Below wc.heap.size wc W → ∀ j : Nat, (h : j < row.length) → ∃ b off, pr = some ⟨b, off, none⟩ ∧ W.cell? ⟨b, off + j, none⟩ = some (.int .i64 row[j]) from fun W hW j hj => by
            obtain ⟨b, off, rfl, hb, hx⟩ := HXR.out (by omega)
            exact ⟨b, off, rfl, cell_below ((HB4.out.trans (hb5.mono HB4.out.size)).trans (hW.mono (Nat.le_trans HB4.out.size hb5.size))) hb (hx j hj)⟩)
          have HMDW := Lib.hid (show ∀ W, Below wc.heap.size wc W → MachD W ob cn N O from fun W hW => (HMD4.out.to hb5).to hW)
          have HBW := Lib.hid (show ∀ W, Below wc.heap.size wc W → Below w.heap.size w W from fun W hW => (HB4.out.trans (hb5.mono HB4.out.size)).trans (hW.mono (Nat.le_trans HB4.out.size hb5.size)))
          clear hv5 hb5 hg5 HIT HRUN2 HRUN HFEW HBU
          have hki : (k : Int) ≤ row.length := by omega
          go_wp2_with fail
          go_loopw [19, 20] (fun st i wz => ∃ j : Nat, i = .int .i64 j ∧ j ≤ k ∧ st = .int .i64 (stA N row j : Nat) ∧ Below wc.heap.size wc wz) (fun _ i _ => k - (intOf i).toNat)
          case atStart => exact ⟨0, rfl, by omega, rfl, Below.refl _ _⟩
          case round =>
            obtain ⟨j, rfl, hj, rfl, hb⟩ := hrel
            have HB := Lib.hid hb
            by_cases hjk : j < k
            · obtain ⟨b, off, b', off', rfl, rfl, d1, d2⟩ := HREAD.out _ hb j hj
              obtain ⟨o, ho⟩ : ∃ o, o = at0 O (stA N row j) := ⟨_, rfl⟩
              rw [← ho] at d1 d2
              obtain ⟨s, hs⟩ : ∃ s, s = stA N row j := ⟨_, rfl⟩
              rw [← hs]
              have HS := Lib.hid hs
              have hji : (j : Int) < k := by omega
              have hjr : j < row.length := by omega
              have hjri : (j : Int) < row.length := by omega
              have hji2 : (j : Int) < (k : Int) + 1 := by omega
              have hji3 : (j : Int) < (row.length : Int) + 1 := by omega
              have hj0 : (0 : Int) ≤ j := by omega
              clear hb ho hs
              go_upto_region 18 with fail
              go_quiet (fail)
              go_upto_region 20 with fail
              refine abs_wp fun W2 hW2 => ?_
              have HB2 := Lib.hid (show Below wc.heap.size wc W2 by rw [hW2]; exact ⟨HB.out.os, HB.out.tape, HB.out.output, HB.out.size, HB.out.block⟩)
              clear hW2 d1 d2
              obtain ⟨br, offr, rfl, d3⟩ := HROW.out W2 HB2.out j hjr
              have HSTEP := Lib.hid (step_m W2 ob cn N O (HMDW.out W2 HB2.out) HOK.out (s : Nat) row[j])
              rw [HS.out, stepI_st HOK.out HPOS.out HRO.out hjr, ← HS.out] at HSTEP
              obtain ⟨c, hc⟩ : ∃ c, c = row[j] := ⟨_, rfl⟩
              rw [← hc] at d3 HSTEP
              obtain ⟨s2, hs2⟩ : ∃ s2, s2 = stA N row (j + 1) := ⟨_, rfl⟩
              rw [← hs2] at HSTEP
              have HS2 := Lib.hid hs2
              clear hc hs2
              go_wp2_with fail
              refine HSTEP.out.mono ?_
              rintro e w6 ⟨rfl, rfl⟩
              go_wp2_with fail
              go_round
              case rel => exact ⟨j + 1, by go_num, by omega, by rw [HS2.out], HB2.out⟩
              case measure => simp [intOf]; omega
            · obtain rfl : j = k := by omega
              have hji : ¬ (j : Int) < j := by omega
              clear hb
              go_wp2_with fail
              go_loopw [19, 21] (fun st i wz => ∃ j2 : Nat, i = .int .i64 j2 ∧ j2 ≤ row.length ∧ st = .int .i64 (stA N row j2 : Nat) ∧ Below wc.heap.size wc wz) (fun _ i _ => row.length - (intOf i).toNat)
              case atStart => exact ⟨j, rfl, by omega, rfl, HB.out⟩
              case round =>
                obtain ⟨j2, rfl, hj2, rfl, hb2⟩ := hrel
                have HB2 := Lib.hid hb2
                by_cases hjr : j2 < row.length
                · obtain ⟨br, offr, rfl, d3⟩ := HROW.out _ hb2 j2 hjr
                  have HSTEP := Lib.hid (step_m wr ob cn N O (HMDW.out _ hb2) HOK.out (stA N row j2 : Nat) row[j2])
                  rw [stepI_st HOK.out HPOS.out HRO.out hjr] at HSTEP
                  obtain ⟨nn, hnn⟩ : ∃ nn, nn = N.length := ⟨_, rfl⟩
                  obtain ⟨hol, pn, cn', pm, cm, m0, m1, m2, -, -, -, hgo⟩ := (HMDW.out _ hb2).get hnn.symm (by rw [← HOK.out.len, hnn])
                  have hlt := stA_lt HOK.out HPOS.out HRO.out (j2 + 1) (by omega)
                  obtain ⟨b', off', rfl, d2⟩ := HREAD2.out _ hb2 (j2 + 1) (by omega)
                  obtain ⟨c, hc⟩ : ∃ c, c = row[j2] := ⟨_, rfl⟩
                  rw [← hc] at d3 HSTEP
                  obtain ⟨s, hs⟩ : ∃ s, s = stA N row j2 := ⟨_, rfl⟩
                  rw [← hs] at HSTEP ⊢
                  obtain ⟨s2, hs2⟩ : ∃ s2, s2 = stA N row (j2 + 1) := ⟨_, rfl⟩
                  rw [← hs2] at HSTEP d2 hlt
                  have HS2 := Lib.hid hs2
                  rw [← hnn] at hlt
                  have hsO : s2 < O.length := by rw [← HOK.out.len, ← hnn]; exact hlt
                  obtain ⟨bm, om, rfl, hbm, d1⟩ := hgo s2 (at0 O s2) (by unfold at0; rw [List.getElem?_eq_getElem hsO]; rfl)
                  obtain ⟨o, ho⟩ : ∃ o, o = at0 O s2 := ⟨_, rfl⟩
                  rw [← ho] at d1 d2
                  have hs20 : (0 : Int) ≤ s2 := by omega
                  have hs21 : ¬ (s2 : Int) < 0 := by omega
                  have hs22 : (s2 : Int) < nn := by omega
                  have hs23 : ¬ (nn : Int) ≤ s2 := by omega
                  have hj20 : (0 : Int) ≤ j2 := by omega
                  obtain ⟨jn, hjn⟩ : ∃ jn, jn = j2 + 1 := ⟨_, rfl⟩
                  rw [← hjn] at d2
                  have hj21 : (0 : Int) ≤ jn := by omega
                  have hjri : (j2 : Int) < row.length := by omega
                  have hji3 : (jn : Int) < (row.length : Int) + 1 := by omega
                  have hwr : IntKind.i64.wrap ((j2 : Int) + 1) = (jn : Int) := (IntWalk.i64_in _ (by omega)).trans (by omega)
                  have HJN := Lib.hid hjn
                  clear hjn
                  clear hb2 hgo hc hs hs2 hnn ho m0 m1
                  go_wp2_with fail
                  refine HSTEP.out.mono ?_
                  rintro e w6 ⟨rfl, rfl⟩
                  go_upto_region 25 with fail
                  go_quiet (fail)
                  go_wp2_with fail
                  exact ⟨⟨jn, rfl, by omega, by rw [HS2.out, HJN.out], ⟨HB2.out.os, HB2.out.tape, HB2.out.output, HB2.out.size, HB2.out.block⟩⟩, by have := HJN.out; simp [intOf]; omega⟩
                · have hjri : ¬ (j2 : Int) < row.length := by omega
                  obtain ⟨b, off, b', off', rfl, rfl, d1, d2⟩ := HREAD.out _ hb2 j (by omega)
                  obtain ⟨o, ho⟩ : ∃ o, o = at0 O (stA N row j) := ⟨_, rfl⟩
                  rw [← ho] at d1 d2
                  have hji2 : (j : Int) < (j : Int) + 1 := by omega
                  have hji3 : (j : Int) < (row.length : Int) + 1 := by omega
                  have hj0 : (0 : Int) ≤ j := by omega
                  clear hb2 ho
                  go_upto_region 27 with fail
                  go_quiet (fail)
                  go_wp2_with fail
                  go_ret
                  exact ⟨rfl, HBW.out _ ⟨HB2.out.os, HB2.out.tape, HB2.out.output, HB2.out.size, HB2.out.block⟩⟩
      · go_wp2_with fail
        go_ret
        exact ⟨rfl, HB4.out⟩
end Go.Proofs.Yteamokljlcnicaa

/-
  dfa: a machine that was built, as one reads it cell by cell. No condition beyond what each theorem names.
-/
set_option linter.unusedVariables false
set_option linter.unusedSimpArgs false
namespace Go.Proofs.Yteamokljlcnicaa
open Go.RowKit Classical

def rowO (N : List (List Nat)) (i : Nat) : List Nat := N[i]?.getD []
theorem rowO_get {N : List (List Nat)} {i : Nat} (h : i < N.length) : N[i]? = some (rowO N i) := by
  unfold rowO
  rw [List.getElem?_eq_getElem h]
  rfl
theorem at0_get {l : List Nat} {i : Nat} (h : i < l.length) : l[i]? = some (at0 l i) := by
  unfold at0
  rw [List.getElem?_eq_getElem h]
  rfl

/-- the cells of a machine, in each later world -/
def MachV (w : World) (ob classes nn : Nat) (N : List (List Nat)) (O : List Nat) (bN oN cn bO oO co : Nat) : Prop := ∀ W, Below w.heap.size w W →
  W.cell? ⟨ob, 0, none⟩ = some (.int .i64 (classes : Nat)) ∧ W.cell? ⟨ob, 1, none⟩ = some (.slice (some ⟨bN, oN, none⟩) nn cn) ∧ W.cell? ⟨ob, 2, none⟩ = some (.slice (some ⟨bO, oO, none⟩) nn co) ∧
  (∀ i : Nat, i < nn → W.cell? ⟨bO, oO + i, none⟩ = some (.int .u64 (at0 O i : Nat))) ∧
  (∀ i : Nat, i < nn → ∃ b off cr, W.cell? ⟨bN, oN + i, none⟩ = some (.slice (some ⟨b, off, none⟩) classes cr) ∧ classes ≤ cr ∧ ∀ c : Nat, c < classes → W.cell? ⟨b, off + c, none⟩ = some (.int .i64 (at0 (rowO N i) c : Nat)))

theorem MachD.view {w : World} {ob classes nn : Nat} {N : List (List Nat)} {O : List Nat} (h : MachD w ob classes N O) (hok : OkN N O classes) (hn : N.length = nn) (h0 : 0 < nn) (hc : 0 < classes) :
    ∃ bN oN cn bO oO co, nn ≤ cn ∧ nn ≤ co ∧ MachV w ob classes nn N O bN oN cn bO oO co := by
  have hlo : O.length = nn := by rw [← hok.len, hn]
  obtain ⟨hob, pn, cn, po, co, e0, e1, e2, hcn, hco, gN, gO⟩ := h.get hn hlo
  obtain ⟨bN, oN, -, rfl, -, -, -⟩ := gN 0 _ (rowO_get (by omega))
  obtain ⟨bO, oO, rfl, -, -⟩ := gO 0 _ (at0_get (by omega))
  refine ⟨bN, oN, cn, bO, oO, co, hcn, hco, fun W hW => ⟨cell_below hW hob e0, cell_below hW hob e1, cell_below hW hob e2, fun i hi => ?_, fun i hi => ?_⟩⟩
  · obtain ⟨b, off, he, hb, hx⟩ := gO i _ (at0_get (by omega))
    cases he
    exact cell_below hW hb hx
  · obtain ⟨b, off, v, he, hb, hx, hv⟩ := gN i _ (rowO_get (by omega))
    cases he
    have hl : (natsI (rowO N i)).length = classes := by
      unfold natsI
      rw [List.length_map]
      exact (hok.row _ (List.mem_of_getElem? (rowO_get (by omega)))).1
    obtain ⟨p, cr, rfl, hcr, hg⟩ := hv.get
    obtain ⟨b', off', rfl, hb', hx'⟩ := hg (by omega)
    rw [hl] at hx hcr
    refine ⟨b', off', cr, cell_below hW hb hx, hcr, fun c hc2 => ?_⟩
    have := cell_below hW hb' (hx' c (by omega))
    rw [this]
    congr 2
    unfold natsI
    rw [List.getElem_map]
    have h2 := at0_get (l := rowO N i) (i := c) (by unfold natsI at hl; rw [List.length_map] at hl; omega)
    rw [List.getElem?_eq_getElem (by unfold natsI at hl; rw [List.length_map] at hl; omega)] at h2
    rw [Option.some.inj h2]
theorem exprs_to {w w' : World} {v : Value} {L : List (Nd × Bool)} (h : ReadL (exprE w) 4 w v L) (hb : Below w.heap.size w w') : ReadL (exprE w') 4 w' v L :=
  (h.below hb (Nat.le_refl _)).monoE (fun x r hr => by
    obtain ⟨a, b, c, rfl, hn⟩ := hr
    exact ⟨a, b, c, rfl, hn.to hb (Nat.le_refl _)⟩)
theorem bd_of {N : List (List Nat)} {O : List Nat} {classes : Nat} (h : OkN N O classes) (h4 : N.length ≤ 400) (hc : classes ≤ 24) : Bd N O :=
  ⟨by omega, by rw [← h.len]; omega, fun r hr => by rw [(h.row r hr).1]; omega⟩
end Go.Proofs.Yteamokljlcnicaa

/-
  has, or, many of the reference. No condition beyond what each theorem names.
-/
set_option linter.unusedVariables false
set_option linter.unusedSimpArgs false
namespace Go.Proofs.Yteamokljlcnicaa
open Go.RowKit

theorem img_iff {r s : Nat → Nat → Prop} {bs out : List Bool} (h : img r bs out) (hr : ∀ p q, r p q ↔ s p q) : img s bs out :=
  ⟨h.1, fun q => (h.2 q).trans ⟨fun ⟨p, h1, h2⟩ => ⟨p, h1, (hr p q).1 h2⟩, fun ⟨p, h1, h2⟩ => ⟨p, h1, (hr p q).2 h2⟩⟩⟩

theorem img_comp {r s : Nat → Nat → Prop} {bs cur out : List Bool} (h : img r bs cur) (g : img s cur out) : img (fun p q => ∃ m, r p m ∧ s m q) bs out := by
  refine ⟨g.1.trans h.1, fun q => (g.2 q).trans ⟨fun ⟨m, h1, h2⟩ => ?_, fun ⟨p, h1, m, h2, h3⟩ => ⟨m, (h.2 m).2 ⟨p, h1, h2⟩, h3⟩⟩⟩
  obtain ⟨p, h3, h4⟩ := (h.2 m).1 h1
  exact ⟨p, h3, m, h4, h2⟩

theorem img_id (bs : List Bool) : img (fun p q => p = q) bs bs := ⟨rfl, fun q => ⟨fun h => ⟨q, h, rfl⟩, fun ⟨p, h1, h2⟩ => h2 ▸ h1⟩⟩

theorem img_no {r : Nat → Nat → Prop} {bs : List Bool} {n : Nat} (hl : bs.length = n) (h : ∀ p q, ¬ r p q) : img r bs (List.replicate n false) :=
  ⟨by simp [hl], fun q => ⟨fun h1 => absurd h1 (no_places n q), fun ⟨p, _, h2⟩ => absurd h2 (h p q)⟩⟩

theorem img_or {r s : Nat → Nat → Prop} {bs c1 c2 out : List Bool} (h : img r bs c1) (g : img s bs c2) (hl : out.length = c1.length) (ho : ∀ q, tr out q ↔ tr c1 q ∨ tr c2 q) : img (fun p q => r p q ∨ s p q) bs out := by
  refine ⟨hl.trans h.1, fun q => (ho q).trans ?_⟩
  rw [h.2, g.2]
  constructor
  · rintro (⟨p, h1, h2⟩ | ⟨p, h1, h2⟩)
    · exact ⟨p, h1, .inl h2⟩
    · exact ⟨p, h1, .inr h2⟩
  · rintro ⟨p, h1, h2 | h2⟩
    · exact .inl ⟨p, h1, h2⟩
    · exact .inr ⟨p, h1, h2⟩

theorem tr_setB {bs : List Bool} {n k : Nat} {b : Bool} (hn : n < bs.length) : tr (bs.set n b) k ↔ (k = n ∧ b = true) ∨ (k ≠ n ∧ tr bs k) := by
  unfold tr
  rw [List.getElem?_set]
  by_cases e : n = k
  · subst e; simp [hn]
  · rw [if_neg e]; simp [Ne.symm e]

theorem tr_get {bs : List Bool} {k : Nat} (hk : k < bs.length) : tr bs k ↔ bs[k] = true := by
  unfold tr; rw [List.getElem?_eq_getElem hk]; simp

theorem tr_ext {bs cs : List Bool} (hl : bs.length = cs.length) (h : ∀ q, tr bs q ↔ tr cs q) : bs = cs := by
  refine List.ext_getElem hl fun i h1 h2 => ?_
  have := h i
  rw [tr_get h1, tr_get h2] at this
  exact Bool.eq_iff_iff.2 this

theorem BRow.made {w W : World} {n : Nat} (hW : W = w.alloc (.cells (Array.replicate n (Value.bool false)) 4)) : BRow W w.heap.size (List.replicate n false) := by
  unfold BRow
  rw [hW, heap_alloc_new]
  simp

theorem has_any (w : World) (v : Value) (cls : List Int) (c : Int) (hn : cls.length ≤ 1000000000000000000) (hv : Ints w v cls) :
    Calls Try.prog 63 #[v, .int .i64 c] w fun e w' => e = .returned (.bool (decide (c ∈ cls))) ∧ w = w' := by
  obtain ⟨p, cap, rfl, hcap, hx⟩ := hv.get
  have HX := Lib.hid hx
  have HNO := Lib.hid (fun (k : Nat) (h : ∀ j (hj : j < cls.length), j < k → cls[j] ≠ c) (hk : cls.length ≤ k) => show c ∉ cls from fun hm => by
    obtain ⟨j, hj, rfl⟩ := List.getElem_of_mem hm
    exact h j hj (by omega) rfl)
  clear hv hx
  go_enter Try.func63, Try.ntmps63
  go_wp2_with fail
  go_loop [5] (fun i => ∃ k : Nat, i = .int .i64 k ∧ k ≤ cls.length ∧ (∀ j (hj : j < cls.length), j < k → cls[j] ≠ c)) (fun i => cls.length - (intOf i).toNat)
  case atStart => exact ⟨0, rfl, by omega, fun _ _ h => absurd h (Nat.not_lt_zero _)⟩
  case round =>
    obtain ⟨k, rfl, h1, hno⟩ := hrel
    have HN := Lib.hid hno
    by_cases hk : k < cls.length
    · obtain ⟨b, off, rfl, hbl, hy⟩ := HX.out (by omega)
      have y0 := hy k hk
      have HM := Lib.hid (List.getElem_mem hk)
      by_cases hc : cls[k] = c
      · have hc' : (cls[k] == c) = true := by simp [hc]
        have HC := Lib.hid (show c ∈ cls by rw [← hc]; exact HM.out)
        clear hc hno hy
        go_wp2_with fail
        go_ret
        exact ⟨ret_val (by rw [decide_eq_true HC.out]; rfl), rfl⟩
      · have hc' : (cls[k] == c) = false := by simp [hc]
        have HC := Lib.hid hc
        clear hc hno hy
        go_wp2_with fail
        go_round
        case rel => exact ⟨k + 1, by go_num, by omega, fun j hj hjk => by
          by_cases hjk2 : j = k
          · subst hjk2; exact HC.out
          · exact HN.out j hj (by omega)⟩
        case measure => simp [intOf]; omega
    · clear hno
      go_wp2_with fail
      go_ret
      exact ⟨ret_val (by rw [decide_eq_false (HNO.out k HN.out (by omega))]; rfl), rfl⟩

theorem many_any (w : World) (v : Value) (xs : List Bool) (hn : xs.length ≤ 1000000) (hv : Bools w v xs) :
    Calls Try.prog 65 #[v] w fun e w' => e = .returned (.int .i64 (xs.count true : Nat)) ∧ w = w' := by
  obtain ⟨p, cap, rfl, hcap, hx⟩ := hv.get
  have HX := Lib.hid hx
  clear hv hx
  go_enter Try.func65, Try.ntmps65
  go_wp2_with fail
  go_loop [3, 4] (fun n i => ∃ k m : Nat, i = .int .i64 k ∧ k ≤ xs.length ∧ n = .int .i64 m ∧ m = (xs.take k).count true ∧ m ≤ k) (fun _ i => xs.length - (intOf i).toNat)
  case atStart => exact ⟨0, 0, rfl, by omega, rfl, by simp, by omega⟩
  case round =>
    obtain ⟨k, m, rfl, h1, rfl, hm, hmk⟩ := hrel
    have HM := Lib.hid hm
    clear hm
    by_cases hk : k < xs.length
    · obtain ⟨b, off, rfl, hbl, hy⟩ := HX.out (by omega)
      have y0 := hy k hk
      have HSN := Lib.hid (show (xs.take (k + 1)).count true = (xs.take k).count true + (if xs[k] = true then 1 else 0) by
        rw [List.take_succ_eq_append_getElem hk, List.count_append]
        cases xs[k] <;> simp)
      clear hy
      cases hb : xs[k]
      · rw [hb] at y0 HSN
        clear hb
        go_wp2_with fail
        go_round
        case rel => exact ⟨k + 1, m, by go_num, by omega, rfl, by rw [HSN.out, HM.out]; simp, by omega⟩
        case measure => simp [intOf]; omega
      · rw [hb] at y0 HSN
        clear hb
        go_wp2_with fail
        go_round
        case rel => exact ⟨k + 1, m + 1, by go_num, by omega, by go_num, by rw [HSN.out, HM.out]; simp, by omega⟩
        case measure => simp [intOf]; omega
    · have HE := Lib.hid (show xs.take k = xs from List.take_of_length_le (by omega))
      go_wp2_with fail
      go_ret
      exact ⟨ret_int (by rw [HM.out, HE.out]), rfl⟩

def OrPost (w : World) (xs ys : List Bool) (e : Ending) (w' : World) : Prop :=
  ∃ g cs, e = .returned (.slice (some ⟨g, 0, none⟩) xs.length xs.length) ∧ BRow w' g cs ∧ w.heap.size ≤ g ∧ cs.length = xs.length ∧ (∀ q, tr cs q ↔ tr xs q ∨ tr ys q) ∧ Below w.heap.size w w'

set_option maxRecDepth 100000 in
set_option maxHeartbeats 8000000 in
theorem or_any (w : World) (u v : Value) (xs ys : List Bool) (hl : ys.length = xs.length) (hn : xs.length ≤ 1000000) (hu : Bools w u xs) (hv : Bools w v ys) :
    Calls Try.prog 64 #[u, v] w (OrPost w xs ys) := by
  obtain ⟨pu, cu, rfl, hcu, hxu⟩ := hu.get
  obtain ⟨pv, cv, rfl, hcv, hxv⟩ := hv.get
  rw [hl]
  have HXU := Lib.hid hxu
  have HXV := Lib.hid hxv
  have HL := Lib.hid hl
  have hmk := fun w => make_bools 60 Try.underlying60 w (xs.length : Int) xs.length rfl (by omega)
  clear hu hv hxu hxv hl hcv
  go_enter Try.func64, Try.ntmps64
  go_upto_region 2 with fail
  refine abs_wp fun W hW => ?_
  have HR0 := Lib.hid (BRow.made hW)
  have HBW := Lib.hid (show Below w.heap.size w W by rw [hW]; exact below_alloc1 _ _)
  obtain ⟨g, hg⟩ : ∃ g, g = w.heap.size := ⟨_, rfl⟩
  rw [← hg] at HR0 ⊢
  have HG := Lib.hid hg
  clear hW hmk hg
  go_wp2_with fail
  go_loopw [6] (fun i wr => ∃ (k : Nat) (cs : List Bool), i = .int .i64 k ∧ k ≤ xs.length ∧ BRow wr g cs ∧ cs.length = xs.length ∧ (∀ q, tr cs q ↔ q < k ∧ (tr xs q ∨ tr ys q)) ∧ Below w.heap.size w wr) (fun i _ => xs.length - (intOf i).toNat)
  case atStart => exact ⟨0, _, rfl, by omega, HR0.out, by simp, fun q => ⟨fun h => absurd h (no_places _ q), fun h => absurd h.1 (by omega)⟩, HBW.out⟩
  case round =>
    obtain ⟨k, cs, rfl, h1, hr, hcl, htr, hb⟩ := hrel
    have HR := Lib.hid hr
    have HCL := Lib.hid hcl
    have HTR := Lib.hid htr
    have HB := Lib.hid hb
    by_cases hk : k < xs.length
    · obtain ⟨bu, ou, rfl, hbu, hyu⟩ := HXU.out (by omega)
      obtain ⟨bv, ov, rfl, hbv, hyv⟩ := HXV.out (by have := HL.out; omega)
      have y0 := cell_below hb hbu (hyu k hk)
      have z0 := cell_below hb hbv (hyv k (by have := HL.out; omega))
      have c0 := hr.cell (show k < cs.length by omega)
      have f0 := hr.frozen k
      have hkk : (k : Int) < xs.length := by omega
      have hk0 : (0 : Int) ≤ k := by omega
      have HSET := Lib.hid (show ∀ b : Bool, b = (xs[k] || ys[k]'(by have := HL.out; omega)) → BRow (wr.setCell ⟨g, k, none⟩ (.bool b)) g (cs.set k b) ∧ (∀ q, tr (cs.set k b) q ↔ q < k + 1 ∧ (tr xs q ∨ tr ys q)) ∧ Below w.heap.size w (wr.setCell ⟨g, k, none⟩ (.bool b)) from fun b hbe => by
        refine ⟨HR.out.set k b, fun q => ?_, HB.out.trans ((Fr.setCell (F := fun q => q = g) wr rfl _).below HB.out.size (fun q hq => by have hq : q = g := hq; have := HG.out; omega))⟩
        rw [tr_setB (by omega), HTR.out]
        constructor
        · rintro (⟨rfl, h⟩ | ⟨h2, h3, h4⟩)
          · refine ⟨by omega, ?_⟩
            rw [tr_get hk, tr_get (by have := HL.out; omega)]
            rw [hbe, Bool.or_eq_true] at h
            exact h
          · exact ⟨by omega, h4⟩
        · rintro ⟨h2, h3⟩
          by_cases hq : q = k
          · subst hq
            rw [tr_get hk, tr_get (by have := HL.out; omega), ← Bool.or_eq_true, ← hbe] at h3
            exact .inl ⟨rfl, h3⟩
          · exact .inr ⟨hq, by omega, h3⟩)
      generalize xs[k] = bx at *
      generalize ys[k]'(by have := HL.out; omega) = by_ at *
      generalize cs[k]'(by have := HCL.out; omega) = ck at c0
      clear hr hcl htr hb hyu hyv
      cases bx
      · go_wp2_with fail
        go_roundw
        case rel => exact ⟨k + 1, cs.set k by_, by go_num, by omega, (HSET.out by_ (by simp)).1, by rw [List.length_set]; exact HCL.out, (HSET.out by_ (by simp)).2.1, (HSET.out by_ (by simp)).2.2⟩
        case measure => simp [intOf]; omega
      · go_wp2_with fail
        go_roundw
        case rel => exact ⟨k + 1, cs.set k true, by go_num, by omega, (HSET.out true (by simp)).1, by rw [List.length_set]; exact HCL.out, (HSET.out true (by simp)).2.1, (HSET.out true (by simp)).2.2⟩
        case measure => simp [intOf]; omega
    · clear hr hcl htr hb
      have hkk : ¬ (k : Int) < xs.length := by omega
      go_wp2_with fail
      go_ret
      refine ⟨g, cs, rfl, HR.out, by rw [HG.out]; exact Nat.le_refl _, HCL.out, fun q => (HTR.out q).trans ⟨fun h => h.2, fun h => ⟨?_, h⟩⟩, HB.out⟩
      have := HL.out
      rcases h with h | h
      · have := tr_lt h; omega
      · have := tr_lt h; omega
end Go.Proofs.Yteamokljlcnicaa

/-
  dfa, plain: of a machine that was built: its states are numbered as they are met, and no two tell the same (DfaLeast). No program, no condition beyond what each theorem names.
-/
set_option linter.unusedVariables false
set_option linter.unusedSimpArgs false
namespace Go.Proofs.Yteamokljlcnicaa
open Classical

theorem goN_at {N : List (List Nat)} {i c : Nat} : goN N i c = at0 (rowO N i) c := by
  unfold goN at0 rowO
  rfl

/-- how many states have been met -/
structure Met (N : List (List Nat)) (classes nn : Nat) (mt : Nat → Nat → Nat) : Prop where
  first : mt 0 0 = 1
  next : ∀ i, i < nn → mt (i + 1) 0 = mt i classes
  step : ∀ i c, i < nn → c < classes → at0 (rowO N i) c ≤ mt i c ∧ mt i (c + 1) = if at0 (rowO N i) c = mt i c then mt i c + 1 else mt i c
  gt : ∀ i, i < nn → i < mt i 0
  last : mt nn 0 = nn

theorem built_met {l : List (Nd × Bool)} {classes : Nat} {N : List (List Nat)} {O : List Nat} (h : Built (autoE l) outN classes (some (N, O.map some))) : ∃ mt, Met N classes N.length mt := by
  rcases h with ⟨h, -⟩ | ⟨hf, hle, he⟩
  · cases h
  obtain ⟨e1, -⟩ := Prod.mk.inj (Option.some.inj he)
  have ho := canon_over outN hf
  unfold canonNext canonL at e1
  generalize 2000 = K at *
  generalize langAuto (langA (autoE l) outN classes (autoE l).start) = A at *
  have hl : N.length = (cl A classes K).length := by rw [e1, nextsOf, List.length_map]
  refine ⟨metN A classes, ⟨metN_first A classes, fun i hi => metN_next ho (by omega), fun i c hi hc => ?_, fun i hi => metN_gt ho (by omega), ?_⟩⟩
  · have h1 := metN_step ho (i := i) (by omega) hc
    rw [← e1, goN_at] at h1
    exact h1
  · rw [hl]; exact metN_last ho

theorem built_apart {l : List (Nd × Bool)} (hl : ∀ e ∈ l, RightX e.1) {classes : Nat} {N : List (List Nat)} {O : List Nat} (h : Built (autoE l) outN classes (some (N, O.map some))) {i j : Nat} (hi : i < N.length) (hj : j < N.length) (ha : ∀ t : List Nat, (∀ c ∈ t, c < classes) → O[runN N i t]? = O[runN N j t]?) : i = j := by
  rcases h with ⟨h, -⟩ | ⟨hf, hle, he⟩
  · cases h
  obtain ⟨e1, e2⟩ := Prod.mk.inj (Option.some.inj he)
  have ho := canon_over outN hf
  have h0 : ∀ t, (¬ ∀ c ∈ t, c < classes) → langA (autoE l) outN classes (autoE l).start t = none := fun t ht => by unfold langA; rw [if_neg ht]
  generalize 2000 = K at *
  have hlen : N.length = (canonL (langA (autoE l) outN classes (autoE l).start) classes K).length := by rw [e1, canonNext, nextsOf, List.length_map]
  refine canon_apart ho h0 (by omega) (by omega) ?_
  rw [← e1, ← e2]
  intro t ht
  rw [List.getElem?_map, List.getElem?_map, ha t ht]

/-- what is not told apart is one -/
theorem closed_same {l : List (Nd × Bool)} (hl : ∀ e ∈ l, RightX e.1) {classes nn : Nat} {N : List (List Nat)} {O : List Nat} (h : Built (autoE l) outN classes (some (N, O.map some))) (hok : OkN N O classes) (hn : N.length = nn) {m : Nat → Nat → Prop}
    (hc : ∀ i k, i < nn → k < nn → ¬ m i k → at0 O i = at0 O k ∧ ∀ c, c < classes → ¬ m (at0 (rowO N i) c) (at0 (rowO N k) c)) : ∀ i k, i < nn → k < nn → ¬ m i k → i = k := by
  intro i k hi hk hm
  refine built_apart hl h (by omega) (by omega) fun t => ?_
  have hlo : O.length = nn := by rw [← hok.len, hn]
  have key : ∀ (t : List Nat) (i k : Nat), i < nn → k < nn → ¬ m i k → (∀ c ∈ t, c < classes) → O[runN N i t]? = O[runN N k t]? := by
    intro t
    induction t with
    | nil =>
      intro i k hi hk hm _
      have h1 := (hc i k hi hk hm).1
      show O[i]? = O[k]?
      rw [at0_get (by omega), at0_get (by omega), h1]
    | cons c t ih =>
      intro i k hi hk hm ht
      have hcc := ht c (by simp)
      have h1 := (hc i k hi hk hm).2 c hcc
      show O[runN N (goN N i c) t]? = O[runN N (goN N k c) t]?
      have g1 := hok.go (i := i) (by omega) hcc
      have g2 := hok.go (i := k) (by omega) hcc
      rw [← goN_at, ← goN_at] at h1
      exact ih _ _ (by omega) (by omega) h1 (fun d hd => ht d (by simp [hd]))
  exact key t i k hi hk hm
end Go.Proofs.Yteamokljlcnicaa

/-
  DfaLeast: no two states tell the same of all rows, and they are numbered as they are met. No condition beyond what each theorem names.
-/
set_option linter.unusedVariables false
set_option linter.unusedSimpArgs false
namespace Go.Proofs.Yteamokljlcnicaa
open Go.RowKit Classical

/-- the matrix: which two states are told apart -/
def ARow (w : World) (g : Nat) (bs : List Bool) : Prop := w.heap[g]? = some (.cells (bs.map Value.bool).toArray 49 (0, 0))
theorem ARow.lt {w : World} {g : Nat} {bs : List Bool} (h : ARow w g bs) : g < w.heap.size := (Array.getElem?_eq_some_iff.1 h).1
theorem ARow.cell {w : World} {g : Nat} {bs : List Bool} (h : ARow w g bs) {i : Nat} (hi : i < bs.length) : w.cell? ⟨g, i, none⟩ = some (.bool bs[i]) := by simp [World.cell?, show w.heap[g]? = _ from h, hi]
theorem ARow.frozen {w : World} {g : Nat} {bs : List Bool} (h : ARow w g bs) (i : Nat) : w.frozen? ⟨g, i, none⟩ = false := by simp [World.frozen?, show w.heap[g]? = _ from h]
theorem ARow.set {w : World} {g : Nat} {bs : List Bool} (h : ARow w g bs) (i : Nat) (u : Bool) : ARow (w.setCell ⟨g, i, none⟩ (.bool u)) g (bs.set i u) := by
  have h' : w.heap[g]? = some (.cells (bs.map Value.bool).toArray 49 (0, 0)) := h
  unfold ARow
  simp only [World.setCell, Array.getElem?_modify, if_true, h', Option.map_some, Option.isSome_none]
  congr 2
  simp [List.map_set]

def isF : Value → Bool
  | .bool false => true
  | _ => false
/-- how many pairs are not told apart yet -/
def cntF (w : World) (g : Nat) : Nat := match w.heap[g]? with
  | some (.cells a _ _) => a.toList.countP isF
  | _ => 0
theorem ARow.cnt {w : World} {g : Nat} {bs : List Bool} (h : ARow w g bs) : cntF w g = bs.count false := by
  unfold cntF
  rw [show w.heap[g]? = _ from h]
  show ((bs.map Value.bool).toArray.toList).countP isF = _
  rw [List.count, List.countP_map]
  refine List.countP_congr fun b _ => ?_
  cases b <;> simp [isF]

structure ApSt (nn G : Nat) (w3 w : World) (bs : List Bool) : Prop where
  row : ARow w G bs
  len : bs.length = 3600
  sound : ∀ i k, i < nn → k < nn → tr bs (i * 60 + k) → i ≠ k
  below : Below w3.heap.size w3 w
theorem ApSt.drewN {nn G : Nat} {w3 w : World} {bs : List Bool} (h : ApSt nn G w3 w bs) (n : Nat) : ApSt nn G w3 (w.drewN n) bs :=
  ⟨h.row, h.len, h.sound, ⟨h.below.os, h.below.tape, h.below.output, h.below.size, h.below.block⟩⟩

/-- a pair that is not told apart tells the same, and leads to such pairs -/
def Shut (N : List (List Nat)) (O : List Nat) (cls : Nat) (bs : List Bool) (i k : Nat) : Prop := ¬ tr bs (i * 60 + k) → at0 O i = at0 O k ∧ ∀ c, c < cls → ¬ tr bs (at0 (rowO N i) c * 60 + at0 (rowO N k) c)
/-- how far a round has come -/
def Prg (N : List (List Nat)) (O : List Nat) (cls nn : Nat) (bs0 : List Bool) (done : Nat → Nat → Prop) (b : Bool) (bs : List Bool) : Prop :=
  (b = false ∧ bs = bs0 ∧ ∀ i k, i < nn → k < nn → done i k → Shut N O cls bs i k) ∨ (b = true ∧ bs.count false < bs0.count false)
theorem Prg.le {N : List (List Nat)} {O : List Nat} {cls nn : Nat} {bs0 bs : List Bool} {done : Nat → Nat → Prop} {b : Bool} (h : Prg N O cls nn bs0 done b bs) : bs.count false ≤ bs0.count false := by
  rcases h with ⟨-, rfl, -⟩ | ⟨-, h⟩
  · exact Nat.le_refl _
  · omega
theorem Prg.more {N : List (List Nat)} {O : List Nat} {cls nn : Nat} {bs0 bs : List Bool} {done done' : Nat → Nat → Prop} {b : Bool} (h : Prg N O cls nn bs0 done b bs) (hd : ∀ i k, i < nn → k < nn → done' i k → done i k ∨ Shut N O cls bs i k) : Prg N O cls nn bs0 done' b bs := by
  rcases h with ⟨h1, h2, h3⟩ | h
  · exact .inl ⟨h1, h2, fun i k hi hk hd' => by
      rcases hd i k hi hk hd' with h | h
      · exact h3 i k hi hk h
      · exact h⟩
  · exact .inr h

set_option maxRecDepth 100000 in
set_option maxHeartbeats 16000000 in
theorem least_law (w : World) (n : Int) (v : Value) (l : List (Nd × Bool)) (hv : ReadL (exprE w) 4 w v l) (hl : l.length ≤ maxLen) :
    Calls Try.prog 4 #[.int .i64 n, v] w (Says true w) := by
  obtain ⟨p, cp, rfl, -, -⟩ := hv.at (by decide) rfl
  have HL := Lib.hid hv
  have HLL := Lib.hid hl
  clear hv hl
  go_enter Try.func4, Try.ntmps4
  go_wp2_with fail
  refine (shown8 w).mono ?_
  rintro e w1 ⟨rfl, hb1⟩
  have HB1 := Lib.hid hb1
  have HFEW := Lib.hid (few_law w1 (.slice p l.length cp) l (exprs_to HL.out hb1) HLL.out)
  clear hb1
  obtain ⟨L, hL⟩ : ∃ L, L = fewL l := ⟨_, rfl⟩
  rw [← hL] at HFEW
  have hL8 : L.length ≤ 8 := by rw [hL]; exact fewL_length l
  clear hL
  go_wp2_with fail
  refine HFEW.out.mono ?_
  rintro e w2 ⟨va, vb, rfl, hoa, hob, hb2⟩
  have HB2 := Lib.hid (HB1.out.trans (hb2.mono HB1.out.size))
  have HRA := Lib.hid (hoa.exprs hb2)
  obtain ⟨pb, cb, hvb⟩ := hob.form
  subst hvb
  obtain ⟨ns, hns⟩ : ∃ ns, ns = L.length := ⟨_, rfl⟩
  rw [← hns] at hL8
  obtain ⟨pa, ca, rfl, hca, -⟩ := HRA.out.at (by decide) hns.symm
  have HBU := Lib.hid (build_any w2 (.slice pa ns ca) L n HRA.out (by omega))
  clear hb2 hoa hob hns
  go_wp2_with fail
  refine HBU.out.mono ?_
  rintro e w3 ⟨hb3, hcase⟩
  have HB3 := Lib.hid (HB2.out.trans (hb3.mono HB2.out.size))
  clear hb3 HBU
  rcases hcase with ⟨-, rfl⟩ | ⟨-, -, rfl⟩ | ⟨hao, ob, N, O, -, hbu, rfl, hmd⟩
  · go_wp2_with fail
    go_ret
    exact ⟨rfl, HB3.out⟩
  · go_wp2_with fail
    go_ret
    exact ⟨rfl, HB3.out⟩
  · have hrx : ∀ e ∈ L, RightX e.1 := fun e he => (hao.2.2.2 e he).1
    obtain ⟨hok, hpos, -, -⟩ := built_bits hrx hbu
    obtain ⟨cls, hcls⟩ : ∃ cls, cls = n.toNat := ⟨_, rfl⟩
    have hcn : n = (cls : Int) := by have := hao.1; omega
    rw [← hcls] at hbu hok hmd
    obtain ⟨nn, hnn⟩ : ∃ nn, nn = N.length := ⟨_, rfl⟩
    have hc24 : cls ≤ 24 := by have := hao.2.1; omega
    have hc0 : 0 < cls := by have := hao.1; omega
    have hn0 : 0 < nn := by rw [hnn]; exact hpos
    obtain ⟨mt, hmt⟩ := built_met hbu
    rw [← hnn] at hmt
    obtain ⟨bN, oN, cn, bO, oO, co, hcnn, hco, hv1⟩ := hmd.view hok hnn.symm hn0 hc0
    have HV1 := Lib.hid hv1
    have HMT := Lib.hid hmt
    have HOK := Lib.hid hok
    have HNN := Lib.hid hnn
    have HGO := Lib.hid (show ∀ i c, i < nn → c < cls → at0 (rowO N i) c < nn from fun i c hi hc => by
      have := hok.go (i := i) (by omega) hc
      rw [goN_at] at this
      omega)
    have HSAME := Lib.hid (fun m => closed_same hrx hbu hok hnn.symm (m := m))
    subst hcn
    obtain ⟨-, m1, m2, -, -⟩ := hv1 w3 (Below.refl _ _)
    clear hao hbu hok hpos hmd hcls hnn hmt hv1 hrx
    by_cases h60 : 60 < nn
    · have h60i : (60 : Int) < nn := by omega
      go_wp2_with fail
      go_ret
      exact ⟨rfl, HB3.out⟩
    · have h60i : ¬ (60 : Int) < nn := by omega
      have hm00 : mt 0 0 = 1 := HMT.out.first
      have HM0 := Lib.hid hm00
      clear hm00
      have HW := Lib.hid (Below.refl w3.heap.size w3)
      go_wp2_with fail
      clear m1 m2
      go_loopw [11, 12] (fun me i wz => ∃ j : Nat, i = .int .i64 j ∧ me = .int .i64 (mt j 0 : Nat) ∧ j ≤ nn ∧ mt j 0 ≤ nn ∧ Below w3.heap.size w3 wz) (fun _ i _ => nn - (intOf i).toNat)
      case atStart => exact ⟨0, rfl, by rw [HM0.out]; rfl, by omega, by rw [HM0.out]; omega, HW.out⟩
      case round =>
        obtain ⟨j, rfl, rfl, hj, hmj, hb⟩ := hrel
        have HB := Lib.hid hb
        obtain ⟨me, hme⟩ : ∃ me, me = mt j 0 := ⟨_, rfl⟩
        rw [← hme] at hmj ⊢
        have HME := Lib.hid hme
        by_cases hjr : j < nn
        · have hji : (j : Int) < (nn : Int) := by omega
          have hj0 : (0 : Int) ≤ j := by omega
          have hgt := HMT.out.gt j hjr
          rw [← hme] at hgt
          have hgti : (j : Int) < (me : Int) := by omega
          obtain ⟨-, m1, -, -, mN⟩ := HV1.out wr hb
          obtain ⟨rb, ro, rc, k1, hrc, k3⟩ := mN j hjr
          clear hb mN k3 hme
          go_wp2_with fail
          clear m1 k1
          go_loopw [11, 13] (fun me c wz => ∃ k : Nat, c = .int .i64 k ∧ me = .int .i64 (mt j k : Nat) ∧ k ≤ cls ∧ mt j k ≤ nn ∧ Below w3.heap.size w3 wz) (fun _ c _ => cls - (intOf c).toNat)
          case atStart => exact ⟨0, rfl, by rw [HME.out], by omega, by rw [← HME.out]; exact hmj, HB.out⟩
          case round =>
            obtain ⟨k, rfl, rfl, hk, hmk, hb⟩ := hrel
            have HB2 := Lib.hid hb
            obtain ⟨mk, hmke⟩ : ∃ mk, mk = mt j k := ⟨_, rfl⟩
            rw [← hmke] at hmk ⊢
            have HMK := Lib.hid hmke
            by_cases hkc : k < cls
            · have hki : (k : Int) < (cls : Int) := by omega
              have hk0 : (0 : Int) ≤ k := by omega
              obtain ⟨-, m1, -, -, mN⟩ := HV1.out wr hb
              obtain ⟨rb2, ro2, rc2, k1, hrc2, k3⟩ := mN j hjr
              have d1 := k3 k hkc
              have hst := HMT.out.step j k hjr hkc
              have hlt := HGO.out j k hjr hkc
              obtain ⟨tz, hto⟩ : ∃ tz, tz = at0 (rowO N j) k := ⟨_, rfl⟩
              rw [← hto] at d1 hst hlt
              rw [← hmke] at hst
              have HST := Lib.hid hst.2
              have hle := hst.1
              have hlei : ¬ (mk : Int) < (tz : Int) := by omega
              have hlti : (tz : Int) < (nn : Int) := by omega
              have hto0 : ¬ (tz : Int) < 0 := by omega
              clear hb mN k3 hst hto hmke
              by_cases heq : tz = mk
              · subst heq
                have HN2 := Lib.hid (HST.out.trans (if_pos rfl))
                go_wp2_with fail
                go_roundw
                case rel => exact ⟨k + 1, by go_num, by rw [HN2.out]; go_num, by omega, by rw [HN2.out]; omega, HB2.out⟩
                case measure => simp [intOf]; omega
              · have hne : ((tz : Int) == (mk : Int)) = false := beq_eq_false_iff_ne.2 (by omega)
                have hnei : ¬ (tz : Int) = (mk : Int) := by omega
                have HN2 := Lib.hid (HST.out.trans (if_neg heq))
                go_wp2_with fail
                go_roundw
                case rel => exact ⟨k + 1, by go_num, by rw [HN2.out], by omega, by rw [HN2.out]; omega, HB2.out⟩
                case measure => simp [intOf]; omega
            · have hki : ¬ (k : Int) < (cls : Int) := by omega
              have HNX := Lib.hid (show mt (j + 1) 0 = mk by rw [HMT.out.next j hjr, HMK.out, show k = cls by omega])
              clear hb hmke
              go_wp2_with fail
              go_roundw
              case rel => exact ⟨j + 1, by go_num, by rw [HNX.out], by omega, by rw [HNX.out]; exact hmk, HB2.out⟩
              case measure => simp [intOf]; omega
        · have hji : ¬ (j : Int) < (nn : Int) := by omega
          have hmn : nn = me := by rw [hme, show j = nn by omega]; exact HMT.out.last.symm
          clear hb hme hmj
          subst hmn
          have hz : Try.zeroCells49 = ((List.replicate 3600 false).map Value.bool).toArray := by kernel_rfl
          have HL0 := Lib.hid (show ApSt nn wr.heap.size w3 (wr.alloc (.cells Try.zeroCells49 49)) (List.replicate 3600 false) from ⟨by unfold ARow; rw [← hz]; exact heap_alloc_new _ _, by simp, (fun i k _ _ h => by
            unfold tr at h
            rw [List.getElem?_replicate] at h
            split at h <;> cases h), HB.out.trans ((below_alloc1 wr _).mono HB.out.size)⟩)
          clear hz
          obtain ⟨G, hG⟩ : ∃ G, G = wr.heap.size := ⟨_, rfl⟩
          have HGE := Lib.hid (show w3.heap.size ≤ G by rw [hG]; exact HB.out.size)
          rw [← hG] at HL0
          go_upto_region 22 with fail
          rw [← hG]
          clear hG
          refine abs_wp fun W hW => ?_
          rw [← hW] at HL0
          clear hW
          go_wp2_with fail
          go_loopw [16] (fun ch wz => ∃ (b : Bool) (bs : List Bool), ch = .bool b ∧ ApSt nn G w3 wz bs ∧ (b = false → ∀ i k, i < nn → k < nn → Shut N O cls bs i k)) (fun ch wz => if ch = .bool true then 1 + cntF wz G else 0)
          case atStart => exact ⟨true, _, rfl, HL0.out, fun h => by cases h⟩
          case round =>
            obtain ⟨b, bs0, rfl, hls, hshut⟩ := hrel
            have HLS := Lib.hid hls
            have HSH := Lib.hid hshut
            clear hls hshut
            cases b
            · go_wp2_with fail
              go_loopw [21] (fun i wz => ∃ a : Nat, i = .int .i64 a ∧ a ≤ nn ∧ ApSt nn G w3 wz bs0) (fun i _ => nn - (intOf i).toNat)
              case atStart => exact ⟨0, rfl, by omega, HLS.out⟩
              case round =>
                obtain ⟨a, rfl, ha, hls⟩ := hrel
                have HLS := Lib.hid hls
                by_cases han : a < nn
                · have hai : (a : Int) < (nn : Int) := by omega
                  have ha0 : (0 : Int) ≤ a := by omega
                  clear hls
                  go_wp2_with fail
                  go_loopw [22] (fun i wz => ∃ q : Nat, i = .int .i64 q ∧ q ≤ nn ∧ ApSt nn G w3 wz bs0) (fun i _ => nn - (intOf i).toNat)
                  case atStart => exact ⟨0, rfl, by omega, HLS.out⟩
                  case round =>
                    obtain ⟨q, rfl, hq, hls⟩ := hrel
                    have HLS := Lib.hid hls
                    by_cases hqn : q < nn
                    · have hqi : (q : Int) < (nn : Int) := by omega
                      have hq0 : (0 : Int) ≤ q := by omega
                      have hlt : a * 60 + q < bs0.length := by rw [hls.len]; omega
                      obtain ⟨bv, hbv⟩ : ∃ bv, bv = bs0[a * 60 + q] := ⟨_, rfl⟩
                      have c0 := hls.row.cell hlt
                      rw [← hbv] at c0
                      have hap : bv = true ↔ a ≠ q := by
                        have htr := tr_get (bs := bs0) hlt
                        rw [← hbv] at htr
                        rw [← htr]
                        exact ⟨hls.sound a q han hqn, fun hne => Classical.byContradiction fun hnt => hne (HSAME.out (fun i k => tr bs0 (i * 60 + k)) (fun i k hi hk hm => HSH.out (by first | rfl | trivial) i k hi hk hm) a q han hqn hnt)⟩
                      have ha60 : (a : Int) < 60 := by omega
                      have hq60 : (q : Int) < 60 := by omega
                      clear hls hbv hlt
                      by_cases heq : a = q
                      · have hbf : bv = false := by
                          cases bv
                          · rfl
                          · exact (hap.1 rfl heq).elim
                        clear hap
                        subst hbf
                        subst heq
                        have hne : ((a : Int) != (a : Int)) = false := by simp
                        go_wp2_with fail
                        go_roundw
                        case rel => exact ⟨a + 1, by go_num, by omega, HLS.out⟩
                        case measure => simp [intOf]; omega
                      · have hbf : bv = true := hap.2 heq
                        have hne : ((a : Int) != (q : Int)) = true := by simp; omega
                        have hnei : ¬ (a : Int) = (q : Int) := by omega
                        clear hap
                        subst hbf
                        go_wp2_with fail
                        go_roundw
                        case rel => exact ⟨q + 1, by go_num, by omega, HLS.out⟩
                        case measure => simp [intOf]; omega
                    · have hqi : ¬ (q : Int) < (nn : Int) := by omega
                      clear hls
                      go_wp2_with fail
                      go_roundw
                      case rel => exact ⟨a + 1, by go_num, by omega, HLS.out⟩
                      case measure => simp [intOf]; omega
                · have hai : ¬ (a : Int) < (nn : Int) := by omega
                  clear hls
                  go_wp2_with fail
                  go_ret
                  exact ⟨rfl, HB3.out.trans (HLS.out.below.mono HB3.out.size)⟩
            · have HM := Lib.hid HLS.out.row.cnt
              go_wp2_with fail
              go_loopw [16, 17] (fun ch i wz => ∃ (a : Nat) (b : Bool) (bs : List Bool), i = .int .i64 a ∧ ch = .bool b ∧ a ≤ nn ∧ ApSt nn G w3 wz bs ∧ Prg N O cls nn bs0 (fun i' _ => i' < a) b bs) (fun _ i _ => nn - (intOf i).toNat)
              case atStart => exact ⟨0, false, bs0, rfl, rfl, by omega, HLS.out, .inl ⟨rfl, rfl, fun i k _ _ h => by omega⟩⟩
              case round =>
                obtain ⟨a, b, bs, rfl, rfl, ha, hls, hpr⟩ := hrel
                have HLS := Lib.hid hls
                have HPR := Lib.hid hpr
                by_cases han : a < nn
                · have hai : (a : Int) < (nn : Int) := by omega
                  have ha0 : (0 : Int) ≤ a := by omega
                  have ha60 : (a : Int) < 60 := by omega
                  clear hls hpr
                  go_wp2_with fail
                  go_loopw [16, 18] (fun ch k wz => ∃ (q : Nat) (b : Bool) (bs : List Bool), k = .int .i64 q ∧ ch = .bool b ∧ q ≤ nn ∧ ApSt nn G w3 wz bs ∧ Prg N O cls nn bs0 (fun i' k' => i' < a ∨ (i' = a ∧ k' < q)) b bs) (fun _ k _ => nn - (intOf k).toNat)
                  case atStart => exact ⟨0, b, bs, rfl, rfl, by omega, HLS.out, HPR.out.more (fun i k _ _ h => .inl (by omega))⟩
                  case round =>
                    obtain ⟨q, b, bs, rfl, rfl, hq, hls, hpr⟩ := hrel
                    have HLS := Lib.hid hls
                    have HPR := Lib.hid hpr
                    by_cases hqn : q < nn
                    · have hqi : (q : Int) < (nn : Int) := by omega
                      have hq0 : (0 : Int) ≤ q := by omega
                      have hq60 : (q : Int) < 60 := by omega
                      obtain ⟨-, -, m2, mO, -⟩ := HV1.out wr hls.below
                      have d1 := mO a han
                      have d2 := mO q hqn
                      obtain ⟨oa, hoa⟩ : ∃ oa, oa = at0 O a := ⟨_, rfl⟩
                      obtain ⟨oq, hoq⟩ : ∃ oq, oq = at0 O q := ⟨_, rfl⟩
                      rw [← hoa] at d1
                      rw [← hoq] at d2
                      have HOA := Lib.hid (And.intro hoa hoq)
                      clear hls hpr mO hoa hoq
                      go_upto_region 31 with fail
                      go_quiet (fail)
                      have HLD := Lib.hid (HLS.out.drewN nq)
                      clear d1 d2 m2
                      go_wp2_with fail
                      go_loopw [19, 20] (fun is c wz => ∃ (x : Nat) (f : Bool), c = .int .i64 x ∧ is = .bool f ∧ x ≤ cls ∧ (f = true ↔ oa ≠ oq ∨ ∃ y, y < x ∧ tr bs (at0 (rowO N a) y * 60 + at0 (rowO N q) y)) ∧ ApSt nn G w3 wz bs) (fun _ c _ => cls - (intOf c).toNat)
                      case atStart => exact ⟨0, _, rfl, rfl, by omega, by
                        constructor
                        · intro h
                          exact .inl (fun e => by subst e; simp at h)
                        · rintro (h | ⟨y, hy, -⟩)
                          · simp; omega
                          · omega, HLD.out⟩
                      case round =>
                        obtain ⟨x, f, rfl, rfl, hx, hf, hls⟩ := hrel
                        have HLX := Lib.hid hls
                        have HFX := Lib.hid hf
                        by_cases hxc : x < cls
                        · have hxi : (x : Int) < (cls : Int) := by omega
                          have hx0 : (0 : Int) ≤ x := by omega
                          cases f
                          · obtain ⟨-, m1, -, -, mN⟩ := HV1.out wr hls.below
                            obtain ⟨ra, fa, ca1, k1, kc1, k3⟩ := mN a han
                            obtain ⟨rq, fq, cq1, l1, lc1, l3⟩ := mN q hqn
                            have e1 := k3 x hxc
                            have e2 := l3 x hxc
                            have ga := HGO.out a x han hxc
                            have gq := HGO.out q x hqn hxc
                            obtain ⟨ta, hta⟩ : ∃ ta, ta = at0 (rowO N a) x := ⟨_, rfl⟩
                            obtain ⟨tq, htq⟩ : ∃ tq, tq = at0 (rowO N q) x := ⟨_, rfl⟩
                            rw [← hta] at e1 ga
                            rw [← htq] at e2 gq
                            have hlt : ta * 60 + tq < bs.length := by rw [hls.len]; omega
                            obtain ⟨bv, hbv⟩ : ∃ bv, bv = bs[ta * 60 + tq] := ⟨_, rfl⟩
                            have c0 := hls.row.cell hlt
                            rw [← hbv] at c0
                            have HTR := Lib.hid (show bv = true ↔ tr bs (at0 (rowO N a) x * 60 + at0 (rowO N q) x) by rw [← hta, ← htq, tr_get hlt, hbv])
                            have ta60 : (ta : Int) < 60 := by omega
                            have tq60 : (tq : Int) < 60 := by omega
                            have ta0 : (0 : Int) ≤ ta := by omega
                            have tq0 : (0 : Int) ≤ tq := by omega
                            clear hls hf mN k3 l3 hta htq hlt hbv
                            go_upto_region 35 with fail
                            go_quiet (fail)
                            have HLD2 := Lib.hid (HLX.out.drewN nq)
                            go_wp2_with fail
                            exact ⟨⟨x + 1, bv, by go_num, rfl, by omega, by
                              rw [HTR.out]
                              constructor
                              · intro h; exact .inr ⟨x, by omega, h⟩
                              · rintro (h | ⟨y, hy, h⟩)
                                · exact absurd (HFX.out.2 (.inl h)) (by simp)
                                · by_cases e : y = x
                                  · rwa [e] at h
                                  · exact absurd (HFX.out.2 (.inr ⟨y, by omega, h⟩)) (by simp), HLD2.out⟩, by simp [intOf]; omega⟩
                          · clear hls hf
                            go_upto_region 35 with fail
                            go_quiet (fail)
                            have HLD2 := Lib.hid (HLX.out.drewN nq)
                            go_wp2_with fail
                            exact ⟨⟨x + 1, true, by go_num, rfl, by omega, by
                              refine ⟨fun _ => ?_, fun _ => rfl⟩
                              rcases HFX.out.1 rfl with h | ⟨y, hy, h⟩
                              · exact .inl h
                              · exact .inr ⟨y, by omega, h⟩, HLD2.out⟩, by simp [intOf]; omega⟩
                        · have hxi : ¬ (x : Int) < (cls : Int) := by omega
                          obtain rfl : x = cls := by omega
                          have hlt : a * 60 + q < bs.length := by rw [hls.len]; omega
                          obtain ⟨bv, hbv⟩ : ∃ bv, bv = bs[a * 60 + q] := ⟨_, rfl⟩
                          have c0 := hls.row.cell hlt
                          rw [← hbv] at c0
                          have f0 := hls.row.frozen (a * 60 + q)
                          have HTR := Lib.hid (show bv = true ↔ tr bs (a * 60 + q) by rw [tr_get hlt, hbv])
                          have HLTB := Lib.hid hlt
                          have HSET := Lib.hid (hls.row.set (a * 60 + q) true)
                          have HFR := Lib.hid (Fr.setCell (F := fun j => j = G) wr (p := ⟨G, a * 60 + q, none⟩) rfl (.bool true))
                          clear hls hf hlt hbv
                          cases f
                          · have HNEW := Lib.hid (HPR.out.more (done' := fun i' k' => i' < a ∨ (i' = a ∧ k' < q + 1)) (fun i k _ _ h => by
                              by_cases e : i = a ∧ k = q
                              · obtain ⟨rfl, rfl⟩ := e
                                refine .inr fun _ => ⟨Classical.byContradiction fun h2 => absurd (HFX.out.2 (.inl (by rw [HOA.out.1, HOA.out.2]; exact h2))) (by simp), fun c hc h2 => absurd (HFX.out.2 (.inr ⟨c, hc, h2⟩)) (by simp)⟩
                              · exact .inl (by omega)))
                            clear c0 f0
                            go_wp2_with fail
                            go_roundw
                            case rel => exact ⟨q + 1, b, bs, by go_num, rfl, by omega, HLX.out, HNEW.out⟩
                            case measure => simp [intOf]; omega
                          · cases bv
                            · have HNT := Lib.hid (show ¬ tr bs (a * 60 + q) from fun h => absurd (HTR.out.2 h) (by simp))
                              have HCS := Lib.hid (count_set HLTB.out HNT.out)
                              have HNE := Lib.hid (show a ≠ q from by
                                rintro rfl
                                rcases HFX.out.1 rfl with h | ⟨y, hy, h⟩
                                · exact h (HOA.out.1.trans HOA.out.2.symm)
                                · exact HLX.out.sound _ _ (HGO.out a y han hy) (HGO.out a y han hy) h rfl)
                              have HLN := Lib.hid (show ApSt nn G w3 (wr.setCell ⟨G, a * 60 + q, none⟩ (.bool true)) (bs.set (a * 60 + q) true) from ⟨HSET.out, by rw [List.length_set]; exact HLX.out.len, fun i k hi hk h => by
                                rw [tr_setB HLTB.out] at h
                                rcases h with ⟨h, -⟩ | ⟨-, h⟩
                                · have e1 : i = a := by omega
                                  have e2 : k = q := by omega
                                  rw [e1, e2]; exact HNE.out
                                · exact HLX.out.sound i k hi hk h, HLX.out.below.trans (HFR.out.below HLX.out.below.size (fun j hj => by have hj : j = G := hj; rw [hj]; exact HGE.out))⟩)
                              go_wp2_with fail
                              go_roundw
                              case rel => exact ⟨q + 1, true, _, by go_num, rfl, by omega, HLN.out, .inr ⟨rfl, by have := HPR.out.le; have := HCS.out; omega⟩⟩
                              case measure => simp [intOf]; omega
                            · have HNEW := Lib.hid (HPR.out.more (done' := fun i' k' => i' < a ∨ (i' = a ∧ k' < q + 1)) (fun i k _ _ h => by
                                by_cases e : i = a ∧ k = q
                                · obtain ⟨rfl, rfl⟩ := e
                                  exact .inr fun h2 => absurd (HTR.out.1 rfl) h2
                                · exact .inl (by omega)))
                              clear f0
                              go_wp2_with fail
                              go_roundw
                              case rel => exact ⟨q + 1, b, bs, by go_num, rfl, by omega, HLX.out, HNEW.out⟩
                              case measure => simp [intOf]; omega
                    · have hqi : ¬ (q : Int) < (nn : Int) := by omega
                      clear hls hpr
                      go_wp2_with fail
                      go_roundw
                      case rel => exact ⟨a + 1, b, bs, by go_num, rfl, by omega, HLS.out, HPR.out.more (fun i k _ hk h => .inl (by omega))⟩
                      case measure => simp [intOf]; omega
                · have hai : ¬ (a : Int) < (nn : Int) := by omega
                  have HM2 := Lib.hid hls.row.cnt
                  clear hls hpr
                  go_wp2_with fail
                  exact ⟨⟨b, bs, rfl, HLS.out, fun hb => by
                    rcases HPR.out with ⟨-, -, h⟩ | ⟨h, -⟩
                    · exact fun i k hi hk => h i k hi hk (by omega)
                    · rw [hb] at h; cases h⟩, by
                    rcases HPR.out with ⟨h, -, -⟩ | ⟨h, h2⟩
                    · subst h; rw [if_neg (by simp), if_pos rfl]; omega
                    · subst h; rw [if_pos rfl, if_pos rfl, HM.out, HM2.out]; omega⟩
end Go.Proofs.Yteamokljlcnicaa

/-
  DfaLeast answers true for every input, and leaves it as it was. No condition.
-/
set_option linter.unusedVariables false
namespace Go.Proofs.Yteamokljlcnicaa
open Go.ChangeShapes Go.WideShapes Go.ChangeAt Go.RowKit

theorem dfaLeast_params : ∀ t ∈ Try.f4.params.toList, Try.prog.readableRec t = true ∧ t < Try.prog.types.size := by
  rw [Try.params4]
  intro t ht
  simp at ht
  rcases ht with rfl | rfl
  all_goals exact ⟨by kernel_rfl, of_decide_eq_true (by kernel_rfl)⟩

set_option maxRecDepth 100000 in
theorem dfaLeast_lifted (os : Os) (started : os.Started) (H : Type) (enc : TypeId × Value → H) :
    ReturnsInHanded {} Try.checked os 4 .any (Rows.dfaLeastSpec.pre6 enc Try.prog Try.f4 Rows.dfaLeastRow.domain false) (Rows.dfaLeastSpec.post enc Try.prog Try.f4 false true false false) := by
  refine returnsInHanded_of_change_sized (C := Try.checked) own started (by kernel_rfl) Try.func4
    (ChangeSpec.witness6 (enc := enc) (C := Try.checked) false ⟨#[], #[.int .i64 0, .slice none 0 0], []⟩ 8 (by kernel_rfl) (by kernel_rfl) (by kernel_rfl) (by kernel_rfl)) ?_
  intro W base args ds gs before hval0 hW hcnd hsz0 _
  have hval : ∀ (j : Nat) t v, Try.f4.params[j]? = some t → args[j]? = some v → Value.okWide Try.prog W .any base t v := hval0
  have hW' := hW
  obtain ⟨p, q, hA0, hV, rfl, hfz, hnd⟩ := hW
  have hA : DataW.TrodAll enc Try.prog W 0 (fun _ => true) true Try.f4.params.toList args.toList ds p := hA0
  have hsz : (DataW.weightsEach Try.prog (Try.f4.params.toList ++ Rows.dfaLeastSpec.plain.varTypes Try.prog) (ds ++ gs)).all (· ≤ reachBytes) = true := hsz0
  rw [Try.params4] at hA hval hsz
  obtain ⟨v0, vs0, d0, ds0, p0, q0, hargs, rfl, rfl, h0, rr0⟩ := trodAll_cons hA
  obtain ⟨v1, vs1, d1, ds1, p1, q1, rfl, rfl, rfl, h1, rr1⟩ := trodAll_cons rr0
  obtain ⟨rfl, rfl, rfl⟩ := trodAll_nil rr1
  obtain rfl : args = #[v0, v1] := by cases args; simp_all
  obtain ⟨n0, rfl, rfl, rfl, hw0⟩ := open_int Try.underlying3 (hval 0 3 v0 rfl rfl) h0
  have hs1 := sized_arg hsz 1 22 d1 rfl rfl
  obtain ⟨l1, hx1, hb1⟩ := exprs_open (hval 1 22 v1 rfl rfl) h1 hs1
  refine (least_law W n0 v1 l1 hx1 hb1).mono fun e W' ⟨he, hb⟩ => ?_
  subst he
  refine ⟨_, rfl, law_post (t := 4) laidOut dfaLeast_params (by kernel_rfl) Try.underlying4 rfl ?_ hW' hb⟩
  intro ds hds
  match ds, hds with
  | [d0, d1], _ => exact ⟨rfl, rfl, rfl⟩

theorem dfaLeast : Rows.DfaLeastSaid :=
  OpenClaim.holds_of_wide 4 Try.f4 rfl rfl rfl rfl rfl rfl rfl ⟨rfl, rfl, rfl, rfl, rfl⟩ rfl rfl rfl rfl rfl (by kernel_rfl) Try.func4 (by kernel_rfl)
    (of_decide_eq_true (by kernel_rfl)) (by unfold Func.isWrapper; first | (rw [if_pos (by decide +kernel)]; kernel_rfl) | (rw [if_neg (by decide +kernel)]; exact ⟨rfl, rfl⟩))
    (fun os started H enc _ => dfaLeast_lifted os started H enc)
#print axioms dfaLeast
end Go.Proofs.Yteamokljlcnicaa

