import Derived.Test.YteamokljlcnicaaEOm
import Derived.Test.YteamokljlcnicaaGA
import Derived.Test.YteamokljlcnicaaKV
import Derived.Test.YteamokljlcnicaaRows
/-
  dfa: Run of a machine. No condition beyond what each theorem names.
-/
set_option linter.unusedVariables false
set_option linter.unusedSimpArgs false
namespace Go.Proofs.Yteamokljlcnicaa
open Go.RowKit Classical

/-- classes that there are -/
def RowOk (classes : Nat) (row : List Int) : Prop := ∀ c ∈ row, 0 ≤ c ∧ c < classes
/-- a row's classes -/
def natsR (row : List Int) : List Nat := row.map Int.toNat
/-- the state behind the first k -/
def stA (N : List (List Nat)) (row : List Int) (k : Nat) : Nat := runN N 0 (natsR (row.take k))
/-- what Run tells -/
def runsN (N : List (List Nat)) (O : List Nat) (row : List Int) : List Nat := (List.range (row.length + 1)).map fun k => at0 O (stA N row k)

theorem runN_snoc (N : List (List Nat)) : ∀ (t : List Nat) (i c : Nat), runN N i (t ++ [c]) = goN N (runN N i t) c
  | [], _, _ => rfl
  | d :: t, i, c => runN_snoc N t (goN N i d) c
theorem stA_succ {N : List (List Nat)} {row : List Int} {k : Nat} (hk : k < row.length) : stA N row (k + 1) = goN N (stA N row k) (row[k]).toNat := by
  unfold stA natsR
  rw [List.take_succ_eq_append_getElem hk, List.map_append, List.map_cons, List.map_nil, runN_snoc]
theorem stA_lt {β : Type} {N : List (List Nat)} {O : List β} {classes : Nat} (h : OkN N O classes) (h0 : 0 < N.length) {row : List Int} (hr : RowOk classes row) : ∀ k, k ≤ row.length → stA N row k < N.length
  | 0, _ => h0
  | k + 1, hk => by
    rw [stA_succ (by omega)]
    have hc := hr row[k] (List.getElem_mem _)
    exact h.go (stA_lt h h0 hr k (by omega)) (by omega)

theorem made_u64 (n : Nat) : madeCells #[Value.int .u64 0] n = (List.replicate n (Value.int .u64 0)).toArray := by
  apply Array.ext
  · simp [madeCells]
  · intro i h1 h2
    have e : i % 1 = 0 := Nat.mod_one i
    simp [madeCells, e]
theorem make_u64 (t : TypeId) (ht : Try.prog.underlying t = some (.slice 50)) (w : World) (c : Int) (n : Nat) (hc : c = n) (hn : n ≤ 1000001) :
    (Instr.makeSlice t (.int .i64 c) (.int .i64 c)).run Try.prog w = .ok (.slice (some ⟨w.heap.size, 0, none⟩) n n) (w.alloc (.cells (List.replicate n (Value.int .u64 0)).toArray 50)) := by
  subst hc
  obtain ⟨i0, hi, hz0, hz1, hz2⟩ := info_parts infoU64
  have := run_make (P := Try.prog) w t 50 i0 (.int .u64 0) ht hi hz0 .i64 .i64 n n (by omega) (by omega) (by rw [hz2]; omega) (by omega)
  rw [hz1] at this
  simp only [Int.toNat_natCast, Nat.mul_one] at this
  rw [this, show (Value.int .u64 0).cells = #[Value.int .u64 0] from rfl, made_u64]

theorem readU {w : World} {g : Nat} {os : List Nat} {n : Nat} (h : VRow w g 50 (os.map fun (o : Nat) => Value.int .u64 o)) (hn : os.length = n) : ReadL u64E 1 w (.slice (some ⟨g, 0, none⟩) n n) os := by
  subst hn
  refine ReadL.block (cs := os.map fun (o : Nat) => Value.int .u64 o) h os (os.map fun (o : Nat) => [Value.int .u64 o]) ?_ rfl (by simp) (fun r hr => ?_) (fun i hi => ⟨_, by simp [hi], rfl⟩)
  · clear h
    induction os with
    | nil => rfl
    | cons x r ih => simp [ih]
  · obtain ⟨o, -, rfl⟩ := List.mem_map.1 hr
    simp [Value.oneCell']

def RunPost (w : World) (classes : Nat) (N : List (List Nat)) (O : List Nat) (row : List Int) (e : Ending) (w' : World) : Prop := Below w.heap.size w w' ∧
  ((RowOk classes row ∧ ∃ v, e = .returned (.tuple #[v, .int .i64 0]) ∧ ReadL u64E 1 w' v (runsN N O row)) ∨ (¬ RowOk classes row ∧ e = .returned (.tuple #[.slice none 0 0, .int .i64 1])))

set_option maxRecDepth 100000 in
set_option maxHeartbeats 8000000 in
theorem run_m (w : World) (ob classes : Nat) (N : List (List Nat)) (O : List Nat) (hM : MachD w ob classes N O) (hok : OkN N O classes) (h0 : 0 < N.length) (v : Value) (row : List Int) (hv : Ints w v row) (hl : row.length ≤ 1000000) :
    Calls Try.prog 22 #[.pointer (some ⟨ob, 0, none⟩), v] w (RunPost w classes N O row) := by
  obtain ⟨nn, hnn⟩ : ∃ nn, nn = N.length := ⟨_, rfl⟩
  obtain ⟨hol, pn, cn, po, co, m0, m1, m2, hcn, hco, hgn, hgo⟩ := hM.get hnn.symm (by rw [← hok.len, hnn])
  obtain ⟨p, cp, rfl, hcp, hx⟩ := hv.get
  have HN := Lib.hid hnn
  have HGN := Lib.hid hgn
  have HGO := Lib.hid hgo
  have HOK := Lib.hid hok
  have HX := Lib.hid hx
  have HM1 := Lib.hid (And.intro m1 m2)
  rw [← hnn] at h0
  have hmt : ∀ (w : World), (Instr.makeSlice 45 (.int .i64 ((row.length : Int) + 1)) (.int .i64 ((row.length : Int) + 1))).run Try.prog w = .ok (.slice (some ⟨w.heap.size, 0, none⟩) (row.length + 1) (row.length + 1)) (w.alloc (.cells (List.replicate (row.length + 1) (Value.int .u64 0)).toArray 50)) := fun w => make_u64 _ Try.underlying45 w _ _ (by omega) (by omega)
  clear hM hok hgn hgo hnn m1 m2 hv hx
  go_enter Try.func22, Try.ntmps22
  go_wp2_with fail
  go_loop [14] (fun i => ∃ k : Nat, i = .int .i64 k ∧ k ≤ row.length ∧ ∀ c ∈ row.take k, 0 ≤ c ∧ c < classes) (fun i => row.length - (intOf i).toNat)
  case atStart => exact ⟨0, rfl, by omega, by simp⟩
  case round =>
    obtain ⟨k, rfl, hk1, hs⟩ := hrel
    have HS := Lib.hid hs
    clear hs
    by_cases hk : k < row.length
    · obtain ⟨b, off, rfl, hb, hx⟩ := HX.out (by omega)
      obtain ⟨c, hc⟩ : ∃ c, c = row[k] := ⟨_, rfl⟩
      have d0 := hx k hk
      rw [← hc] at d0
      have HC := Lib.hid hc
      have hki : (k : Int) < row.length := by omega
      have hk0 : (0 : Int) ≤ k := by omega
      clear hx hc
      by_cases h1 : c < 0
      · have HNO := Lib.hid (show ¬ RowOk classes row from fun h => by have := (h c (by rw [HC.out]; exact List.getElem_mem hk)).1; omega)
        go_wp2_with fail
        go_ret2
        exact ⟨Below.refl _ _, .inr ⟨HNO.out, rfl⟩⟩
      · by_cases h2 : c < classes
        · have HS2 := Lib.hid (show ∀ c ∈ row.take (k + 1), 0 ≤ c ∧ c < classes from fun x hx => by
            rw [List.take_succ_eq_append_getElem hk] at hx
            rcases List.mem_append.1 hx with hx | hx
            · exact HS.out x hx
            · rw [List.mem_singleton.1 hx, ← HC.out]; omega)
          go_wp2_with fail
          go_round
          case rel => exact ⟨k + 1, by go_num, by omega, HS2.out⟩
          case measure => simp [intOf]; omega
        · have HNO := Lib.hid (show ¬ RowOk classes row from fun h => by have := (h c (by rw [HC.out]; exact List.getElem_mem hk)).2; omega)
          go_wp2_with fail
          go_ret2
          exact ⟨Below.refl _ _, .inr ⟨HNO.out, rfl⟩⟩
    · have hki : ¬ (k : Int) < row.length := by omega
      have HRO := Lib.hid (show RowOk classes row by have := HS.out; rwa [List.take_of_length_le (by omega)] at this)
      go_upto_region 8 with fail
      refine abs_wp fun W hW => ?_
      obtain ⟨g, hg⟩ : ∃ g, g = w.heap.size := ⟨_, rfl⟩
      have hal := below_alloc1 w (.cells (List.replicate (row.length + 1) (Value.int .u64 0)).toArray 50)
      have hW2 : W = w.alloc (.cells (List.replicate (row.length + 1) (Value.int .u64 0)).toArray 50) := by rw [hW]; simp
      have HV1 := Lib.hid (show VRow W g 50 (List.replicate (row.length + 1) (Value.int .u64 0)) by rw [hW2, hg]; exact heap_alloc_new _ _)
      have HB1 := Lib.hid (show Below w.heap.size w W by rw [hW2]; exact hal)
      have hg0 : w.heap.size ≤ g := by omega
      rw [← hg]
      clear hW hW2 hal hg
      have og : ∀ s, s < nn → ∃ b off, po = some ⟨b, off, none⟩ ∧ b < w.heap.size ∧ w.cell? ⟨b, off + s, none⟩ = some (.int .u64 (at0 O s : Nat)) := fun s hs => by
        have hsO : s < O.length := by rw [← HOK.out.len, ← HN.out]; exact hs
        refine HGO.out s (at0 O s) ?_
        unfold at0
        rw [List.getElem?_eq_getElem hsO]
        rfl
      have HOG := Lib.hid og
      obtain ⟨bo, oo, rfl, hbo, e0⟩ := og 0 h0
      obtain ⟨a0, ha0⟩ : ∃ a0, a0 = at0 O 0 := ⟨_, rfl⟩
      rw [← ha0] at e0
      have HA0 := Lib.hid ha0
      have e1 := cell_below HB1.out hbo e0
      have e2 := cell_below HB1.out hol HM1.out.2
      simp only [Nat.add_zero] at e1
      have z0 := HV1.out.cell (i := 0) (u := .int .u64 0) (by simp)
      have z1 := HV1.out.fz 0
      clear og ha0 e0
      go_upto_region 10 with fail
      refine abs_wp fun W2 hW2 => ?_
      have HV2 := Lib.hid (show VRow W2 g 50 ((((List.range (0 + 1)).map fun j => at0 O (stA N row j)).map fun (o : Nat) => Value.int .u64 o) ++ List.replicate (row.length - 0) (.int .u64 0)) by
        have h := HV1.out.set 0 (.int .u64 (a0 : Nat))
        rw [hW2]
        have e : (List.replicate (row.length + 1) (Value.int .u64 0)).set 0 (.int .u64 (a0 : Nat)) = ((((List.range (0 + 1)).map fun j => at0 O (stA N row j)).map fun (o : Nat) => Value.int .u64 o) ++ List.replicate (row.length - 0) (.int .u64 0)) := by
          rw [List.replicate_succ, List.set_cons_zero, HA0.out]
          rfl
        rw [e] at h
        exact h)
      have HB2 := Lib.hid (show Below w.heap.size w W2 by rw [hW2]; exact HB1.out.trans ((Fr.setCell (F := fun k => k = g) W rfl _).below HB1.out.size (fun k (hk : k = g) => by omega)))
      clear hW2 e1 e2 z0 z1
      go_wp2_with fail
      go_loopw [9, 44] (fun st i w1 => ∃ k : Nat, i = .int .i64 k ∧ k ≤ row.length ∧ st = .int .i64 (stA N row k : Nat) ∧ VRow w1 g 50 ((((List.range (k + 1)).map fun j => at0 O (stA N row j)).map fun (o : Nat) => Value.int .u64 o) ++ List.replicate (row.length - k) (.int .u64 0)) ∧ Below w.heap.size w w1) (fun _ i _ => row.length - (intOf i).toNat)
      case atStart => exact ⟨0, rfl, by omega, rfl, HV2.out, HB2.out⟩
      case round =>
        obtain ⟨k2, rfl, hk2, rfl, hv, hb⟩ := hrel
        have HV := Lib.hid hv
        have HB := Lib.hid hb
        clear hv
        by_cases hkk : k2 < row.length
        · obtain ⟨b, off, rfl, hbx, hx⟩ := HX.out (by omega)
          have hcr := HRO.out row[k2] (List.getElem_mem hkk)
          obtain ⟨c, hc⟩ : ∃ c : Nat, row[k2] = c := ⟨(row[k2]).toNat, by omega⟩
          have d0 := cell_below hb hbx (hx k2 hkk)
          rw [hc] at d0 hcr
          have hss := stA_lt HOK.out (by rw [← HN.out]; exact h0) HRO.out k2 hk2
          have hsn := stA_succ (N := N) hkk
          rw [hc, Int.toNat_natCast] at hsn
          obtain ⟨s, hs⟩ : ∃ s, s = stA N row k2 := ⟨_, rfl⟩
          obtain ⟨s2, hs2⟩ : ∃ s2, s2 = stA N row (k2 + 1) := ⟨_, rfl⟩
          have HS := Lib.hid hs
          have HS2 := Lib.hid hs2
          rw [← hs] at hss hsn ⊢
          rw [← hs2] at hsn
          have hc2 : c < classes := by omega
          have hs2l : s2 < nn := by rw [hsn, HN.out]; exact HOK.out.go hss hc2
          obtain ⟨r, hr⟩ : ∃ r, r = N[s] := ⟨_, rfl⟩
          have hrow := HOK.out.row r (by rw [hr]; exact List.getElem_mem hss)
          obtain ⟨bn, on, rv, rfl, hbn, d1, hrv⟩ := HGN.out s r (by rw [hr]; exact List.getElem?_eq_getElem hss)
          obtain ⟨pr, cr, rfl, hcr2, hrc⟩ := hrv.get
          have hrl : (natsI r).length = classes := by unfold natsI; rw [List.length_map]; exact hrow.1
          rw [hrl] at d1 hcr2
          obtain ⟨b2, o2, rfl, hb2l, hrc⟩ := hrc (by rw [hrl]; omega)
          have hcl : c < r.length := by rw [hrow.1]; exact hc2
          have hs2e : s2 = r[c] := by
            have h1 : N[s]? = some r := by rw [hr]; exact List.getElem?_eq_getElem hss
            rw [hsn]
            unfold goN
            rw [h1]
            show at0 r c = _
            unfold at0
            rw [List.getElem?_eq_getElem hcl]
            rfl
          have d3 : w.cell? ⟨b2, o2 + c, none⟩ = some (.int .i64 (s2 : Nat)) := by
            rw [hrc c (by rw [hrl]; exact hc2), hs2e]
            simp [natsI]
          obtain ⟨bo', oo', ho', hbo', d4⟩ := HOG.out s2 hs2l
          injection ho' with ho'
          injection ho' with ho1 ho2
          subst ho1 ho2
          obtain ⟨az, haz⟩ : ∃ az, az = at0 O s2 := ⟨_, rfl⟩
          rw [← haz] at d4
          have HAZ := Lib.hid haz
          have x1 := cell_below hb hbn d1
          have x3 := cell_below hb hb2l d3
          have x4 := cell_below hb hbo' d4
          have x5 := cell_below hb hol HM1.out.1
          have x6 := cell_below hb hol HM1.out.2
          have hsl : s < nn := by rw [HN.out]; exact hss
          have hsi : (s : Int) < nn := by omega
          have hs0 : (0 : Int) ≤ s := by omega
          have hs2i : (s2 : Int) < nn := by omega
          have hs20 : (0 : Int) ≤ s2 := by omega
          have hci : (c : Int) < classes := by omega
          have hc0 : (0 : Int) ≤ c := by omega
          have hki2 : (k2 : Int) < row.length := by omega
          have hki3 : (k2 : Int) + 1 < ((row.length + 1 : Nat) : Int) := by omega
          have hk20 : (0 : Int) ≤ k2 := by omega
          have hk21 : (0 : Int) ≤ (k2 : Int) + 1 := by omega
          have hnt : ((k2 : Int) + 1).toNat = k2 + 1 := by omega
          have hfl : (((List.range (k2 + 1)).map fun j => at0 O (stA N row j)).map fun (o : Nat) => Value.int .u64 o).length = k2 + 1 := by simp
          have z0 := HV.out.cell (i := k2 + 1) (u := .int .u64 0) (by rw [List.getElem?_append_right (by omega), hfl, Nat.sub_self, List.getElem?_replicate, if_pos (by omega)])
          have z1 := HV.out.fz (k2 + 1)
          have HFS := Lib.hid (fill_set (((List.range (k2 + 1)).map fun j => at0 O (stA N row j)).map fun (o : Nat) => Value.int .u64 o) (row.length - k2) (.int .u64 (az : Nat)) (.int .u64 0) hfl (by omega))
          clear hx hc hcr hs hs2 hsn hr hrow hrv hrl hrc hs2e d1 d3 d4 haz hfl hb hcl
          go_upto_region 15 with fail
          refine abs_wp fun W3 hW3 => ?_
          have HV3 := Lib.hid (show VRow W3 g 50 ((((List.range (k2 + 1 + 1)).map fun j => at0 O (stA N row j)).map fun (o : Nat) => Value.int .u64 o) ++ List.replicate (row.length - (k2 + 1)) (.int .u64 0)) by
            have h := HV.out.set (k2 + 1) (.int .u64 (az : Nat))
            rw [HFS.out] at h
            rw [hW3, List.range_succ, List.map_append, List.map_append, show row.length - (k2 + 1) = row.length - k2 - 1 by omega]
            have e : ([k2 + 1].map fun j => at0 O (stA N row j)).map (fun (o : Nat) => Value.int .u64 o) = [Value.int .u64 (az : Nat)] := by rw [HAZ.out, HS2.out]; rfl
            rw [e]
            exact h)
          have HB3 := Lib.hid (show Below w.heap.size w W3 by rw [hW3]; exact HB.out.trans ((Fr.setCell (F := fun k => k = g) wr rfl _).below HB.out.size (fun k (hk : k = g) => by omega)))
          clear hW3 z0 z1 d0 x1 x3 x4 x5 x6
          go_wp2_with fail
          go_roundw
          case rel => exact ⟨k2 + 1, by go_num, by omega, by rw [HS2.out], HV3.out, HB3.out⟩
          case measure => simp [intOf]; omega
        · have hkk2 : ¬ (k2 : Int) < row.length := by omega
          obtain rfl : row.length = k2 := by omega
          have HV9 := Lib.hid (show VRow wr g 50 ((runsN N O row).map fun (o : Nat) => Value.int .u64 o) by
            have := HV.out
            rw [Nat.sub_self, List.replicate_zero, List.append_nil] at this
            exact this)
          have HL9 := Lib.hid (show (runsN N O row).length = row.length + 1 by unfold runsN; simp)
          go_wp2_with fail
          go_ret2
          exact ⟨HB.out, .inl ⟨HRO.out, _, rfl, readU HV9.out HL9.out⟩⟩
end Go.Proofs.Yteamokljlcnicaa

/-
  foolscaplaw08: what must be in any case. No condition beyond what each theorem names.
-/
set_option linter.unusedVariables false
set_option linter.unusedSimpArgs false
namespace Go.Proofs.Yteamokljlcnicaa
open Go.RowKit Classical

theorem set8_any (w : World) (v : Value) (cls : List Int) (hv : Ints w v cls) (hb : cls.length * 8 ≤ R) : Calls Try.prog 21 #[v] w fun e w' =>
    e = .returned (.agg #[.int .i64 1, v, .slice none 0 0]) ∧ NodeIs w' (.mk 1 cls []) (.int .i64 1) v (.slice none 0 0) ∧ Below w.heap.size w w' := by
  obtain ⟨p, c, rfl, -, -⟩ := hv.get
  have HV := Lib.hid hv
  clear hv
  go_enter Try.func21, Try.ntmps21
  go_wp2
  have hbe : Below w.heap.size w (w.alloc (.cells #[.int .i64 1, .slice p cls.length c, .slice none 0 0] 38)) := below_alloc1 _ _
  refine bodyPost_ret (v := .agg #[.int .i64 1, .slice p cls.length c, .slice none 0 0]) (by simp [results, Try.results21, go_sem]) rfl ⟨rfl, ?_, ?_⟩
  · rw [nodeIs_iff]
    exact ⟨rfl, HV.out.to hbe (Nat.le_refl _), hb, by unfold R; simp, [], ⟨by simp, none, 0, rfl, by simp, fun h => by simp at h⟩, rfl, fun i h => by simp at h⟩
  · exact hbe

theorem x0_arg : ArgOk 2 [(x0, false)] := ⟨by omega, by omega, by simp, fun x hx => by
  rw [List.mem_singleton.1 hx]
  exact ⟨x0_right, by simp [x0, insideB, insideL]⟩⟩

set_option maxRecDepth 100000 in
set_option maxHeartbeats 8000000 in
theorem shown8 (w : World) : Calls Try.prog 12 #[] w (Says true w) := by
  go_enter Try.func12, Try.ntmps12
  go_wp2_with fail
  have hal := below_alloc1 w (.cells #[.int .i64 0] 3)
  have HAL := Lib.hid hal
  refine (set8_any _ _ [0] (Raw.of_block (cs := [.int .i64 0]) (heap_alloc_new w _)) (by unfold R; simp)).mono ?_
  rintro e w1 ⟨rfl, hn1, hb1⟩
  have HB1 := Lib.hid (HAL.out.trans (hb1.mono HAL.out.size))
  have HN1 := Lib.hid hn1
  clear hal hn1 hb1
  have hal1 := below_alloc1 w1 (.cells #[.int .i64 1, .slice (some ⟨w.heap.size, 0, none⟩) 1 1, .slice none 0 0, .bool false] 40)
  have HAL1 := Lib.hid hal1
  have HE := Lib.hid (show ReadL (exprE (w1.alloc (.cells #[.int .i64 1, .slice (some ⟨w.heap.size, 0, none⟩) 1 1, .slice none 0 0, .bool false] 40))) 4 (w1.alloc (.cells #[.int .i64 1, .slice (some ⟨w.heap.size, 0, none⟩) 1 1, .slice none 0 0, .bool false] 40)) (.slice (some ⟨w1.heap.size, 0, none⟩) 1 1) [(x0, false)] from
    ReadL.one w1 _ (x0, false) [.int .i64 1, .slice (some ⟨w.heap.size, 0, none⟩) 1 1, .slice none 0 0, .bool false] ⟨rfl, by simp [Value.oneCell']⟩ ⟨_, _, _, rfl, HN1.out.to hal1 (Nat.le_refl _)⟩)
  have HBU := Lib.hid (build_any _ _ [(x0, false)] 2 HE.out (by simp))
  clear hal1
  go_wp2_with fail
  refine HBU.out.mono ?_
  rintro e w2 ⟨hb2, hcase⟩
  have HB2 := Lib.hid (HB1.out.trans ((HAL1.out.trans (hb2.mono HAL1.out.size)).mono HB1.out.size))
  have hcase2 : ∃ ob, e = .returned (.tuple #[.pointer (some ⟨ob, 0, none⟩), .int .i64 0]) ∧ MachD w2 ob 2 [[1, 0], [1, 0]] [0, 1] := by
    rcases hcase with ⟨h, -⟩ | ⟨-, h, -⟩ | ⟨-, ob, N, O, -, h, he, hm⟩
    · exact absurd x0_arg h
    · have := built_det h built_x0
      cases this
    · have h1 := Option.some.inj (built_det h built_x0)
      obtain ⟨h2, h3⟩ := Prod.mk.inj h1
      have h4 : O = [0, 1] := by
        have : O.map some = [0, 1].map some := h3
        exact (List.map_inj_right (fun x y h => Option.some.inj h)).1 this
      rw [h2, h4] at hm
      exact ⟨ob, he, hm⟩
  obtain ⟨ob, rfl, hmd⟩ := hcase2
  have HMD := Lib.hid hmd
  clear hcase hb2 hmd
  have HBU2 := Lib.hid (build_any w2 (.slice none 0 0) [] 0 ⟨[], ⟨none, 0, rfl, by simp, fun h => by simp at h⟩, rfl, by simp, fun i h => by simp at h⟩ (by simp))
  go_wp2_with fail
  refine HBU2.out.mono ?_
  rintro e w3 ⟨hb3, hcase⟩
  have HB3 := Lib.hid (HB2.out.trans (hb3.mono HB2.out.size))
  have HMD3 := Lib.hid (HMD.out.to hb3)
  have hno : ¬ ArgOk 0 ([] : List (Nd × Bool)) := by rintro ⟨h, -⟩; omega
  rcases hcase with ⟨-, rfl⟩ | ⟨h, -⟩ | ⟨h, -⟩
  · obtain ⟨hol, pn, cn, po, co, m0, m1, m2, -, -, hgn, hgo⟩ := HMD3.out.get (nn := 2) rfl rfl
    obtain ⟨bn, on, v0, rfl, -, n0, i0⟩ := hgn 0 _ rfl
    obtain ⟨bn', on', v1, hb, -, n1, i1⟩ := hgn 1 _ rfl
    injection hb with hb
    injection hb with e1 e2
    subst e1 e2
    obtain ⟨bo, oo, rfl, -, o0⟩ := hgo 0 _ rfl
    obtain ⟨bo', oo', hb, -, o1⟩ := hgo 1 _ rfl
    injection hb with hb
    injection hb with e1 e2
    subst e1 e2
    obtain ⟨q0, c0, rfl, -, j0⟩ := i0.get
    obtain ⟨b0, k0, rfl, -, j0⟩ := j0 (by simp [natsI])
    have a0 := j0 0 (by simp [natsI])
    have a1 := j0 1 (by simp [natsI])
    have hok : OkN [[1, 0], [1, 0]] [0, 1] 2 := ⟨rfl, fun r hr => by
      simp at hr
      subst hr
      exact ⟨rfl, fun n hn => by simp at hn; rcases hn with rfl | rfl <;> simp⟩⟩
    have HS1 := Lib.hid (step_m w3 ob 2 _ _ HMD3.out hok 1 0)
    have HS2 := Lib.hid (step_m w3 ob 2 _ _ HMD3.out hok 1 1)
    have HS3 := Lib.hid (step_m w3 ob 2 _ _ HMD3.out hok 5 0)
    have HS4 := Lib.hid (step_m w3 ob 2 _ _ HMD3.out hok 0 (-1))
    rw [show stepI [[1, 0], [1, 0]] 2 1 0 = 1 by decide] at HS1
    rw [show stepI [[1, 0], [1, 0]] 2 1 1 = 0 by decide] at HS2
    rw [show stepI [[1, 0], [1, 0]] 2 5 0 = 0 by decide] at HS3
    rw [show stepI [[1, 0], [1, 0]] 2 0 (-1) = 0 by decide] at HS4
    have hbd : Bd [[1, 0], [1, 0]] [0, 1] := ⟨by simp, by simp, fun r hr => by simp at hr; subst hr; simp⟩
    have HEQ := Lib.hid (equal_m w3 ob ob 2 2 _ _ _ _ HMD3.out HMD3.out hbd hbd)
    rw [show decide (2 = 2 ∧ ([0, 1] : List Nat) = [0, 1] ∧ ([[1, 0], [1, 0]] : List (List Nat)) = [[1, 0], [1, 0]]) = true from decide_eq_true ⟨rfl, rfl, rfl⟩] at HEQ
    simp only [natsI, List.map_cons, List.map_nil, List.getElem_cons_zero, List.getElem_cons_succ, List.length_cons, List.length_nil, Nat.add_zero] at n0 n1 o0 o1 a0 a1
    clear hgn hgo hno hb3 hok hbd i0 i1 j0
    go_wp2_with fail
    refine HS1.out.mono ?_
    rintro e wz ⟨rfl, rfl⟩
    go_wp2_with fail
    refine HS2.out.mono ?_
    rintro e wz ⟨rfl, rfl⟩
    go_wp2_with fail
    refine HS3.out.mono ?_
    rintro e wz ⟨rfl, rfl⟩
    go_wp2_with fail
    refine HS4.out.mono ?_
    rintro e wz ⟨rfl, rfl⟩
    go_wp2_with fail
    refine HEQ.out.mono ?_
    rintro e w9 ⟨rfl, hb9⟩
    have HB9 := Lib.hid (HB3.out.trans (hb9.mono HB3.out.size))
    clear hb9
    go_wp2_with fail
    go_ret
    exact ⟨rfl, HB9.out⟩
  · exact absurd h hno
  · exact absurd h hno
end Go.Proofs.Yteamokljlcnicaa

/-
  DfaBeginnings: what comes later does not matter. No condition beyond what each theorem names.
-/
set_option linter.unusedVariables false
set_option linter.unusedSimpArgs false
namespace Go.Proofs.Yteamokljlcnicaa
open Go.RowKit Classical

theorem OwnL.exprs {base : Nat} {w w' : World} {T : TypeId} {v : Value} {L : List (Nd × Bool)} (h : OwnL (exprE w) T 4 base w' v L) (hb : Below w.heap.size w w') : ReadL (exprE w') 4 w' v L :=
  h.read.monoE (fun x r hr => by
    obtain ⟨a, b, c, rfl, hn⟩ := hr
    exact ⟨a, b, c, rfl, hn.to hb (Nat.le_refl _)⟩)

theorem stA_take (N : List (List Nat)) (row : List Int) {k j : Nat} (h : j ≤ k) : stA N (row.take k) j = stA N row j := by
  unfold stA
  rw [List.take_take, Nat.min_eq_left h]
theorem runs_get {N : List (List Nat)} {O : List Nat} {row : List Int} {k : Nat} (h : k ≤ row.length) : (runsN N O row)[k]? = some (at0 O (stA N row k)) := by
  unfold runsN
  rw [List.getElem?_map, List.getElem?_range (by omega)]
  rfl
theorem runs_length (N : List (List Nat)) (O : List Nat) (row : List Int) : (runsN N O row).length = row.length + 1 := by unfold runsN; simp
theorem stepI_st {β : Type} {N : List (List Nat)} {O : List β} {classes : Nat} (h : OkN N O classes) (h0 : 0 < N.length) {row : List Int} (hr : RowOk classes row) {k : Nat} (hk : k < row.length) : stepI N classes (stA N row k : Nat) row[k] = stA N row (k + 1) := by
  have h1 := stA_lt h h0 hr k (by omega)
  have h2 := hr row[k] (List.getElem_mem hk)
  unfold stepI
  rw [if_pos (by omega), Int.toNat_natCast, stA_succ hk]
theorem RowOk.take {classes : Nat} {row : List Int} (h : RowOk classes row) (k : Nat) : RowOk classes (row.take k) := fun c hc => h c (List.mem_of_mem_take hc)

set_option maxRecDepth 100000 in
set_option maxHeartbeats 8000000 in
theorem beginnings_law (w : World) (n : Int) (v : Value) (l : List (Nd × Bool)) (v2 : Value) (t : List Int) (at_ : Int) (hv : ReadL (exprE w) 4 w v l) (hl : l.length ≤ maxLen) (hv2 : Ints w v2 t) (hn : t.length ≤ 9223372036854775807) :
    Calls Try.prog 11 #[.int .i64 n, v, v2, .int .i64 at_] w (Says true w) := by
  obtain ⟨p, cp, rfl, -, -⟩ := hv.at (by decide) rfl
  obtain ⟨pt, ct, rfl, hct, hxt⟩ := hv2.get
  have HL := Lib.hid hv
  have HV := Lib.hid hv2
  have HLL := Lib.hid hl
  clear hv hv2 hxt hl
  go_enter Try.func11, Try.ntmps11
  go_wp2_with fail
  refine (shown8 w).mono ?_
  rintro e w1 ⟨rfl, hb1⟩
  have HB1 := Lib.hid hb1
  clear hb1
  obtain ⟨row, hrow⟩ : ∃ row, row = t.take 30 := ⟨_, rfl⟩
  have hrl : row.length = min t.length 30 := by rw [hrow, List.length_take, Nat.min_comm]
  go_upto_region 2 with fail
  go_cut [2] (fun rv wx => Ints w rv row ∧ wx = w1)
  case first =>
    cases pt with
    | none =>
      have h0 : t = [] := by
        obtain ⟨p', c', he, -, hx⟩ := HV.out
        injection he with he1 he2 he3
        subst he1
        cases t with
        | nil => rfl
        | cons x r => obtain ⟨b, off, e, -⟩ := hx (by simp); cases e
      subst h0
      have HI := Lib.hid (show Ints w (.slice none 0 ct) row by rw [hrow]; exact HV.out)
      clear hrow hrl
      go_wp2_with fail
      go_meet
      case rel => exact ⟨HI.out, rfl⟩
    | some ad =>
      by_cases h40 : t.length ≤ 30
      · have h41 : ¬ (30 : Int) < t.length := by omega
        have HI := Lib.hid (show Ints w (.slice (some ad) (min (t.length : Int) 30).toNat ct) row by rw [hrow, List.take_of_length_le h40, show (min (t.length : Int) 30).toNat = t.length by omega]; exact HV.out)
        clear hrow hrl
        go_wp2_with fail
        go_meet
        case rel => exact ⟨HI.out, rfl⟩
      · have h41 : (30 : Int) < t.length := by omega
        have HI := Lib.hid (show Ints w (.slice (some ad) (min (t.length : Int) 30).toNat ct) row by rw [hrow, show (min (t.length : Int) 30).toNat = 30 by omega]; exact HV.out.take (by omega))
        clear hrow hrl
        go_wp2_with fail
        go_meet
        case rel => exact ⟨HI.out, rfl⟩
  case rest =>
    obtain ⟨hi, rfl⟩ := hcut
    obtain ⟨pr, cr, rfl, hcr, hxr⟩ := hi.get
    have hr30 : row.length ≤ 30 := by omega
    have HI := Lib.hid hi
    have HXR := Lib.hid hxr
    have HFEW := Lib.hid (few_law wc (.slice p l.length cp) l ((HL.out.below HB1.out (Nat.le_refl _)).monoE (fun x r hr => by
      obtain ⟨a, b, c, rfl, hn⟩ := hr
      exact ⟨a, b, c, rfl, hn.to HB1.out (Nat.le_refl _)⟩)) HLL.out)
    obtain ⟨L, hL⟩ : ∃ L, L = fewL l := ⟨_, rfl⟩
    rw [← hL] at HFEW
    have hL8 : L.length ≤ 8 := by rw [hL]; exact fewL_length l
    clear hi hxr hrow hrl hL
    go_wp2_with fail
    refine HFEW.out.mono ?_
    rintro e w2 ⟨va, vb, rfl, hoa, hob, hb2⟩
    have HB2 := Lib.hid (HB1.out.trans (hb2.mono HB1.out.size))
    have HBU := Lib.hid (build_any w2 va L n (hoa.exprs hb2) (by omega))
    obtain ⟨pa, ca, hva⟩ := hoa.form
    subst hva
    obtain ⟨pb, cb, hvb⟩ := hob.form
    subst hvb
    clear hb2 hoa hob
    go_wp2_with fail
    refine HBU.out.mono ?_
    rintro e w3 ⟨hb3, hcase⟩
    have HB3 := Lib.hid (HB2.out.trans (hb3.mono HB2.out.size))
    clear hb3
    rcases hcase with ⟨-, rfl⟩ | ⟨-, -, rfl⟩ | ⟨hao, ob, N, O, -, hbu, rfl, hmd⟩
    · go_wp2_with fail
      go_ret
      exact ⟨rfl, HB3.out⟩
    · go_wp2_with fail
      go_ret
      exact ⟨rfl, HB3.out⟩
    · obtain ⟨hok, hpos, h400, -⟩ := built_bits (fun e he => (hao.2.2.2 e he).1) hbu
      obtain ⟨cn, hcn⟩ : ∃ cn, cn = n.toNat := ⟨_, rfl⟩
      rw [← hcn] at hmd hok
      have HMD := Lib.hid hmd
      have HOK := Lib.hid hok
      have HPOS := Lib.hid hpos
      have HRUN := Lib.hid (run_m w3 ob cn N O hmd hok hpos _ row (HI.out.to HB3.out (Nat.le_refl _)) (by omega))
      have h400' := h400
      clear hao hbu hmd hok hpos hcn h400
      go_wp2_with fail
      refine HRUN.out.mono ?_
      rintro e w4 ⟨hb4, hcase⟩
      have HB4 := Lib.hid (HB3.out.trans (hb4.mono HB3.out.size))
      have HMD4 := Lib.hid (HMD.out.to hb4)
      clear hb4
      rcases hcase with ⟨hro, vo, rfl, hvo⟩ | ⟨-, rfl⟩
      · obtain ⟨po, co, rfl, hco, hgo⟩ := hvo.at (by decide) (runs_length N O row)
        have HRO := Lib.hid hro
        have HGO := Lib.hid hgo
        have HBIT := Lib.hid (bits_and_le at_ 65535 (by omega))
        clear hro hvo hgo
        obtain ⟨k, hk, hkl⟩ : ∃ k : Nat, (bits .and .i64 at_ 65535).tmod ((row.length : Int) + 1) = k ∧ k ≤ row.length := by
          have h1 : 0 ≤ bits .and .i64 at_ 65535 := HBIT.out.1
          have h2 := Int.tmod_lt_of_pos (bits .and .i64 at_ 65535) (show (0 : Int) < (row.length : Int) + 1 by omega)
          have h3 := Int.tmod_nonneg ((row.length : Int) + 1) h1
          exact ⟨((bits .and .i64 at_ 65535).tmod ((row.length : Int) + 1)).toNat, by omega, by omega⟩
        go_upto_region 11 with fail
        have hki : (k : Int) ≤ row.length := by omega
        have hk0 : (0 : Int) ≤ k := by omega
        have HIT := Lib.hid ((HI.out.to HB4.out (Nat.le_refl _)).take hkl)
        have HTL := Lib.hid (show (row.take k).length = k by rw [List.length_take]; omega)
        have HRUN2 := Lib.hid (run_m w4 ob cn N O HMD4.out HOK.out HPOS.out _ (row.take k) HIT.out (by rw [HTL.out]; omega))
        clear hk HBIT
        go_cut [17, 18] (fun v e wx => e = .int .i64 0 ∧ ReadL u64E 1 wx v (runsN N O (row.take k)) ∧ Below w4.heap.size w4 wx)
        case first =>
          cases pr with
          | none =>
            have hr0 : row.length = 0 := by
              by_cases h : 0 < row.length
              · obtain ⟨b, off, h, -⟩ := HXR.out h
                cases h
              · omega
            have HR0 := Lib.hid hr0
            obtain rfl : k = 0 := by omega
            clear hr0 hki hk0
            go_wp2_with fail
            refine HRUN2.out.mono ?_
            rintro e w5 ⟨hb5, hcase⟩
            rcases hcase with ⟨-, v5, rfl, hv5⟩ | ⟨hno, -⟩
            · have HV5 := Lib.hid hv5
              have HB5 := Lib.hid hb5
              clear hv5 hb5
              go_wp2_with fail
              go_meet
              case rel => exact ⟨rfl, HV5.out, HB5.out⟩
            · exact (hno (HRO.out.take 0)).elim
          | some ad =>
            go_wp2_with fail
            refine HRUN2.out.mono ?_
            rintro e w5 ⟨hb5, hcase⟩
            rcases hcase with ⟨-, v5, rfl, hv5⟩ | ⟨hno, -⟩
            · have HV5 := Lib.hid hv5
              have HB5 := Lib.hid hb5
              clear hv5 hb5
              go_wp2_with fail
              go_meet
              case rel => exact ⟨rfl, HV5.out, HB5.out⟩
            · exact (hno (HRO.out.take k)).elim
        case rest =>
          obtain ⟨rfl, hv5, hb5⟩ := hcut
          obtain ⟨p5, c5, rfl, hc5, hg5⟩ := hv5.at (by decide) (show _ = k + 1 by rw [runs_length, HTL.out])
          have HB5 := Lib.hid hb5
          have HREAD := Lib.hid (show ∀ W, Below wc.heap.size wc W → ∀ j : Nat, j ≤ k → ∃ b off b' off', p5 = some ⟨b, off, none⟩ ∧ po = some ⟨b', off', none⟩ ∧ W.cell? ⟨b, off + j, none⟩ = some (.int .u64 (at0 O (stA N row j) : Nat)) ∧ W.cell? ⟨b', off' + j, none⟩ = some (.int .u64 (at0 O (stA N row j) : Nat)) from fun W hW j hj => by
            have e1 := runs_get (N := N) (O := O) (row := row.take k) (k := j) (by rw [HTL.out]; exact hj)
            rw [stA_take N row hj] at e1
            obtain ⟨b, off, r, rfl, hbl, hc, rfl⟩ := hg5 j _ e1
            obtain ⟨b', off', r', rfl, hbl', hc', rfl⟩ := HGO.out j _ (runs_get (by omega))
            have d1 := hc 0 _ rfl
            have d2 := hc' 0 _ rfl
            simp only [Nat.mul_one, Nat.add_zero] at d1 d2
            exact ⟨b, off, b', off', rfl, rfl, cell_below hW hbl d1, cell_below (hb5.trans (hW.mono hb5.size)) hbl' d2⟩)
          have HREAD2 := Lib.hid (show ∀ W, Below wc.heap.size wc W → ∀ j : Nat, j ≤ row.length → ∃ b' off', po = some ⟨b', off', none⟩ ∧ W.cell? ⟨b', off' + j, none⟩ = some (.int .u64 (at0 O (stA N row j) : Nat)) from fun W hW j hj => by
            obtain ⟨b', off', r', rfl, hbl', hc', rfl⟩ := HGO.out j _ (runs_get hj)
            have d2 := hc' 0 _ rfl
            simp only [Nat.mul_one, Nat.add_zero] at d2
            exact ⟨b', off', rfl, cell_below (hb5.trans (hW.mono hb5.size)) hbl' d2⟩)
          have HROW := Lib.hid (show ∀ W, Below wc.heap.size wc W → ∀ j : Nat, (h : j < row.length) → ∃ b off, pr = some ⟨b, off, none⟩ ∧ W.cell? ⟨b, off + j, none⟩ = some (.int .i64 row[j]) from fun W hW j hj => by
            obtain ⟨b, off, rfl, hb, hx⟩ := HXR.out (by omega)
            exact ⟨b, off, rfl, cell_below ((HB4.out.trans (hb5.mono HB4.out.size)).trans (hW.mono (Nat.le_trans HB4.out.size hb5.size))) hb (hx j hj)⟩)
          have HMDW := Lib.hid (show ∀ W, Below wc.heap.size wc W → MachD W ob cn N O from fun W hW => (HMD4.out.to hb5).to hW)
          have HBW := Lib.hid (show ∀ W, Below wc.heap.size wc W → Below w.heap.size w W from fun W hW => (HB4.out.trans (hb5.mono HB4.out.size)).trans (hW.mono (Nat.le_trans HB4.out.size hb5.size)))
          clear hv5 hb5 hg5 HIT HRUN2 HRUN HFEW HBU
          have hki : (k : Int) ≤ row.length := by omega
          go_wp2_with fail
          go_loopw [19, 20] (fun st i wz => ∃ j : Nat, i = .int .i64 j ∧ j ≤ k ∧ st = .int .i64 (stA N row j : Nat) ∧ Below wc.heap.size wc wz) (fun _ i _ => k - (intOf i).toNat)
          case atStart => exact ⟨0, rfl, by omega, rfl, Below.refl _ _⟩
          case round =>
            obtain ⟨j, rfl, hj, rfl, hb⟩ := hrel
            have HB := Lib.hid hb
            by_cases hjk : j < k
            · obtain ⟨b, off, b', off', rfl, rfl, d1, d2⟩ := HREAD.out _ hb j hj
              obtain ⟨o, ho⟩ : ∃ o, o = at0 O (stA N row j) := ⟨_, rfl⟩
              rw [← ho] at d1 d2
              obtain ⟨s, hs⟩ : ∃ s, s = stA N row j := ⟨_, rfl⟩
              rw [← hs]
              have HS := Lib.hid hs
              have hji : (j : Int) < k := by omega
              have hjr : j < row.length := by omega
              have hjri : (j : Int) < row.length := by omega
              have hji2 : (j : Int) < (k : Int) + 1 := by omega
              have hji3 : (j : Int) < (row.length : Int) + 1 := by omega
              have hj0 : (0 : Int) ≤ j := by omega
              clear hb ho hs
              go_upto_region 18 with fail
              go_quiet (fail)
              go_upto_region 20 with fail
              refine abs_wp fun W2 hW2 => ?_
              have HB2 := Lib.hid (show Below wc.heap.size wc W2 by rw [hW2]; exact ⟨HB.out.os, HB.out.tape, HB.out.output, HB.out.size, HB.out.block⟩)
              clear hW2 d1 d2
              obtain ⟨br, offr, rfl, d3⟩ := HROW.out W2 HB2.out j hjr
              have HSTEP := Lib.hid (step_m W2 ob cn N O (HMDW.out W2 HB2.out) HOK.out (s : Nat) row[j])
              rw [HS.out, stepI_st HOK.out HPOS.out HRO.out hjr, ← HS.out] at HSTEP
              obtain ⟨c, hc⟩ : ∃ c, c = row[j] := ⟨_, rfl⟩
              rw [← hc] at d3 HSTEP
              obtain ⟨s2, hs2⟩ : ∃ s2, s2 = stA N row (j + 1) := ⟨_, rfl⟩
              rw [← hs2] at HSTEP
              have HS2 := Lib.hid hs2
              clear hc hs2
              go_wp2_with fail
              refine HSTEP.out.mono ?_
              rintro e w6 ⟨rfl, rfl⟩
              go_wp2_with fail
              go_round
              case rel => exact ⟨j + 1, by go_num, by omega, by rw [HS2.out], HB2.out⟩
              case measure => simp [intOf]; omega
            · obtain rfl : j = k := by omega
              have hji : ¬ (j : Int) < j := by omega
              clear hb
              go_wp2_with fail
              go_loopw [19, 21] (fun st i wz => ∃ j2 : Nat, i = .int .i64 j2 ∧ j2 ≤ row.length ∧ st = .int .i64 (stA N row j2 : Nat) ∧ Below wc.heap.size wc wz) (fun _ i _ => row.length - (intOf i).toNat)
              case atStart => exact ⟨j, rfl, by omega, rfl, HB.out⟩
              case round =>
                obtain ⟨j2, rfl, hj2, rfl, hb2⟩ := hrel
                have HB2 := Lib.hid hb2
                by_cases hjr : j2 < row.length
                · obtain ⟨br, offr, rfl, d3⟩ := HROW.out _ hb2 j2 hjr
                  have HSTEP := Lib.hid (step_m wr ob cn N O (HMDW.out _ hb2) HOK.out (stA N row j2 : Nat) row[j2])
                  rw [stepI_st HOK.out HPOS.out HRO.out hjr] at HSTEP
                  obtain ⟨nn, hnn⟩ : ∃ nn, nn = N.length := ⟨_, rfl⟩
                  obtain ⟨hol, pn, cn', pm, cm, m0, m1, m2, -, -, -, hgo⟩ := (HMDW.out _ hb2).get hnn.symm (by rw [← HOK.out.len, hnn])
                  have hlt := stA_lt HOK.out HPOS.out HRO.out (j2 + 1) (by omega)
                  obtain ⟨b', off', rfl, d2⟩ := HREAD2.out _ hb2 (j2 + 1) (by omega)
                  obtain ⟨c, hc⟩ : ∃ c, c = row[j2] := ⟨_, rfl⟩
                  rw [← hc] at d3 HSTEP
                  obtain ⟨s, hs⟩ : ∃ s, s = stA N row j2 := ⟨_, rfl⟩
                  rw [← hs] at HSTEP ⊢
                  obtain ⟨s2, hs2⟩ : ∃ s2, s2 = stA N row (j2 + 1) := ⟨_, rfl⟩
                  rw [← hs2] at HSTEP d2 hlt
                  have HS2 := Lib.hid hs2
                  rw [← hnn] at hlt
                  have hsO : s2 < O.length := by rw [← HOK.out.len, ← hnn]; exact hlt
                  obtain ⟨bm, om, rfl, hbm, d1⟩ := hgo s2 (at0 O s2) (by unfold at0; rw [List.getElem?_eq_getElem hsO]; rfl)
                  obtain ⟨o, ho⟩ : ∃ o, o = at0 O s2 := ⟨_, rfl⟩
                  rw [← ho] at d1 d2
                  have hs20 : (0 : Int) ≤ s2 := by omega
                  have hs21 : ¬ (s2 : Int) < 0 := by omega
                  have hs22 : (s2 : Int) < nn := by omega
                  have hs23 : ¬ (nn : Int) ≤ s2 := by omega
                  have hj20 : (0 : Int) ≤ j2 := by omega
                  obtain ⟨jn, hjn⟩ : ∃ jn, jn = j2 + 1 := ⟨_, rfl⟩
                  rw [← hjn] at d2
                  have hj21 : (0 : Int) ≤ jn := by omega
                  have hjri : (j2 : Int) < row.length := by omega
                  have hji3 : (jn : Int) < (row.length : Int) + 1 := by omega
                  have hwr : IntKind.i64.wrap ((j2 : Int) + 1) = (jn : Int) := (IntWalk.i64_in _ (by omega)).trans (by omega)
                  have HJN := Lib.hid hjn
                  clear hjn
                  clear hb2 hgo hc hs hs2 hnn ho m0 m1
                  go_wp2_with fail
                  refine HSTEP.out.mono ?_
                  rintro e w6 ⟨rfl, rfl⟩
                  go_upto_region 25 with fail
                  go_quiet (fail)
                  go_wp2_with fail
                  exact ⟨⟨jn, rfl, by omega, by rw [HS2.out, HJN.out], ⟨HB2.out.os, HB2.out.tape, HB2.out.output, HB2.out.size, HB2.out.block⟩⟩, by have := HJN.out; simp [intOf]; omega⟩
                · have hjri : ¬ (j2 : Int) < row.length := by omega
                  obtain ⟨b, off, b', off', rfl, rfl, d1, d2⟩ := HREAD.out _ hb2 j (by omega)
                  obtain ⟨o, ho⟩ : ∃ o, o = at0 O (stA N row j) := ⟨_, rfl⟩
                  rw [← ho] at d1 d2
                  have hji2 : (j : Int) < (j : Int) + 1 := by omega
                  have hji3 : (j : Int) < (row.length : Int) + 1 := by omega
                  have hj0 : (0 : Int) ≤ j := by omega
                  clear hb2 ho
                  go_upto_region 27 with fail
                  go_quiet (fail)
                  go_wp2_with fail
                  go_ret
                  exact ⟨rfl, HBW.out _ ⟨HB2.out.os, HB2.out.tape, HB2.out.output, HB2.out.size, HB2.out.block⟩⟩
      · go_wp2_with fail
        go_ret
        exact ⟨rfl, HB4.out⟩
end Go.Proofs.Yteamokljlcnicaa

/-
  dfa, plain: expressions written otherwise (DfaEqual, DfaEither): they are right, and fit the same. No condition beyond what each theorem names.
-/
set_option linter.unusedVariables false
set_option linter.unusedSimpArgs false
namespace Go.Proofs.Yteamokljlcnicaa
open Classical Go.RowKit

mutual
theorem depth_cnt : ∀ x : Nd, depthN x ≤ cnt x
  | .mk op cls ps => by
    have := depth_cntL ps
    simp only [depthN, cnt]
    omega
theorem depth_cntL : ∀ ps : List Nd, depthNL ps ≤ cntL ps
  | [] => by simp [depthNL, cntL]
  | x :: r => by
    have := depth_cnt x
    have := depth_cntL r
    simp only [depthNL, cntL]
    omega
end
theorem small_cnt {x : Nd} (h : RightX x) (hc : countT x ≤ 20) : Small x ∧ cnt x ≤ 20 := by
  have h1 := countT_eq x h.2
  have h2 := depth_cnt x
  exact ⟨⟨h, by omega, by omega⟩, by omega⟩

theorem wf_empty {d : Nat} (hd : d ≤ 30) : Wf d (.mk 0 [] []) := by
  unfold Wf
  exact ⟨by omega, by omega, fun _ => rfl, fun _ => rfl, by omega, rising_nil, by simp only [WfL]⟩
theorem right_alt2 {x y : Nd} (hx : Small x) (hy : Small y) : RightX (.mk 3 [] [x, y]) :=
  ⟨right_two (hx.at (by omega)) (hy.at (by omega)) (by omega) 3 (.inr rfl), by have := hx.cnt; have := hy.cnt; simp only [cnt, cntL]; omega⟩
theorem right_behind {x : Nd} (hx : Small x) : RightX (.mk 2 [] [x, .mk 0 [] []]) :=
  ⟨right_two (hx.at (by omega)) (wf_empty (by omega)) (by omega) 2 (.inl rfl), by have := hx.cnt; simp only [cnt, cntL]; omega⟩
theorem right_more {x : Nd} (hx : Small x) : RightX (.mk 5 [] [.mk 2 [] [x, .mk 4 [] [x]]]) := by
  refine ⟨?_, by have := hx.cnt; simp only [cnt, cntL]; omega⟩
  unfold Wf
  exact ⟨by omega, by omega, fun _ => rfl, by omega, fun _ => rfl, rising_nil, by
    simp only [WfL, and_true]
    exact right_two (hx.at (by omega)) (right_star (hx.at (by omega)) (by omega)) (by omega) 2 (.inl rfl)⟩

theorem argOk_one {n : Int} {l : List (Nd × Bool)} {y : Nd} {b : Bool} (h : ArgOk n l) (hr : RightX y) (hi : insideB n y = true) : ArgOk n [(y, b)] :=
  ⟨h.1, h.2.1, by simp, fun e he => by rw [List.mem_singleton.1 he]; exact ⟨hr, hi⟩⟩

/-- one that fits the same is built to the same -/
theorem built_eq {x y : Nd} {b : Bool} {n : Nat} {m m' : List (List Nat) × List (Option Nat)} (hx : RightX x) (hy : RightX y) (h : ∀ row, fitB x row = fitB y row) (h1 : Built (autoE [(x, b)]) outN n (some m)) (h2 : Built (autoE [(y, b)]) outN n (some m')) : m = m' := by
  refine built_same ?_ h1 h2
  rw [lang_N (fun e he => by rw [List.mem_singleton.1 he]; exact hx), lang_N (fun e he => by rw [List.mem_singleton.1 he]; exact hy), tells_same h]

/-- an argument of one expression -/
theorem one_expr {w : World} {x : Nd} {a b c : Value} (hn : NodeIs w x a b c) (wh : Bool) (T : TypeId) : ReadL (exprE (w.alloc (.cells #[a, b, c, .bool wh] T))) 4 (w.alloc (.cells #[a, b, c, .bool wh] T)) (.slice (some ⟨w.heap.size, 0, none⟩) 1 1) [(x, wh)] := by
  have hn' := hn.to (below_alloc1 w (.cells #[a, b, c, .bool wh] T)) (Nat.le_refl _)
  obtain ⟨op, pp, l, c1, q, m, d, rfl, rfl, rfl⟩ := hn.form
  exact ReadL.one w T (x, wh) [.int .i64 op, .slice pp l c1, .slice q m d, .bool wh] ⟨rfl, by simp [Value.oneCell']⟩ ⟨_, _, _, rfl, hn'⟩

theorem some_pairs {N N2 : List (List Nat)} {O O2 : List Nat} (h : (N, O.map some) = (N2, O2.map some)) : N = N2 ∧ O = O2 := by
  obtain ⟨h1, h2⟩ := Prod.mk.inj h
  exact ⟨h1, (List.map_inj_right (fun x y h => Option.some.inj h)).1 h2⟩
theorem two_allocs (w : World) (o1 o2 : Obj) (W : World) (hW : W = (w.alloc o1).alloc o2) : Below w.heap.size w W ∧ W.heap[w.heap.size]? = some o1 ∧ W.heap[w.heap.size + 1]? = some o2 := by
  have s1 : (w.alloc o1).heap.size = w.heap.size + 1 := by simp
  have b1 := below_alloc1 w o1
  have b2 := below_alloc1 (w.alloc o1) o2
  subst hW
  refine ⟨b1.trans (b2.mono (by omega)), ?_, ?_⟩
  · rw [b2.block _ (by omega)]; exact heap_alloc_new _ _
  · rw [← s1]; exact heap_alloc_new _ _

/-- no expression at all: it fits nothing but the empty row -/
theorem node_none (w : World) : NodeIs w (.mk 0 [] []) (.int .i64 0) (.slice none 0 0) (.slice none 0 0) := by
  rw [nodeIs_iff]
  exact ⟨rfl, Ints.nil _, by unfold R; simp, by unfold R; simp, [], ⟨by simp, none, 0, rfl, by simp, fun h => by simp at h⟩, rfl, fun i h => by simp at h⟩
end Go.Proofs.Yteamokljlcnicaa

/-
  dfa: a machine that was built, as one reads it cell by cell. No condition beyond what each theorem names.
-/
set_option linter.unusedVariables false
set_option linter.unusedSimpArgs false
namespace Go.Proofs.Yteamokljlcnicaa
open Go.RowKit Classical

def rowO (N : List (List Nat)) (i : Nat) : List Nat := N[i]?.getD []
theorem rowO_get {N : List (List Nat)} {i : Nat} (h : i < N.length) : N[i]? = some (rowO N i) := by
  unfold rowO
  rw [List.getElem?_eq_getElem h]
  rfl
theorem at0_get {l : List Nat} {i : Nat} (h : i < l.length) : l[i]? = some (at0 l i) := by
  unfold at0
  rw [List.getElem?_eq_getElem h]
  rfl

/-- the cells of a machine, in each later world -/
def MachV (w : World) (ob classes nn : Nat) (N : List (List Nat)) (O : List Nat) (bN oN cn bO oO co : Nat) : Prop := ∀ W, Below w.heap.size w W →
  W.cell? ⟨ob, 0, none⟩ = some (.int .i64 (classes : Nat)) ∧ W.cell? ⟨ob, 1, none⟩ = some (.slice (some ⟨bN, oN, none⟩) nn cn) ∧ W.cell? ⟨ob, 2, none⟩ = some (.slice (some ⟨bO, oO, none⟩) nn co) ∧
  (∀ i : Nat, i < nn → W.cell? ⟨bO, oO + i, none⟩ = some (.int .u64 (at0 O i : Nat))) ∧
  (∀ i : Nat, i < nn → ∃ b off cr, W.cell? ⟨bN, oN + i, none⟩ = some (.slice (some ⟨b, off, none⟩) classes cr) ∧ classes ≤ cr ∧ ∀ c : Nat, c < classes → W.cell? ⟨b, off + c, none⟩ = some (.int .i64 (at0 (rowO N i) c : Nat)))

theorem MachD.view {w : World} {ob classes nn : Nat} {N : List (List Nat)} {O : List Nat} (h : MachD w ob classes N O) (hok : OkN N O classes) (hn : N.length = nn) (h0 : 0 < nn) (hc : 0 < classes) :
    ∃ bN oN cn bO oO co, nn ≤ cn ∧ nn ≤ co ∧ MachV w ob classes nn N O bN oN cn bO oO co := by
  have hlo : O.length = nn := by rw [← hok.len, hn]
  obtain ⟨hob, pn, cn, po, co, e0, e1, e2, hcn, hco, gN, gO⟩ := h.get hn hlo
  obtain ⟨bN, oN, -, rfl, -, -, -⟩ := gN 0 _ (rowO_get (by omega))
  obtain ⟨bO, oO, rfl, -, -⟩ := gO 0 _ (at0_get (by omega))
  refine ⟨bN, oN, cn, bO, oO, co, hcn, hco, fun W hW => ⟨cell_below hW hob e0, cell_below hW hob e1, cell_below hW hob e2, fun i hi => ?_, fun i hi => ?_⟩⟩
  · obtain ⟨b, off, he, hb, hx⟩ := gO i _ (at0_get (by omega))
    cases he
    exact cell_below hW hb hx
  · obtain ⟨b, off, v, he, hb, hx, hv⟩ := gN i _ (rowO_get (by omega))
    cases he
    have hl : (natsI (rowO N i)).length = classes := by
      unfold natsI
      rw [List.length_map]
      exact (hok.row _ (List.mem_of_getElem? (rowO_get (by omega)))).1
    obtain ⟨p, cr, rfl, hcr, hg⟩ := hv.get
    obtain ⟨b', off', rfl, hb', hx'⟩ := hg (by omega)
    rw [hl] at hx hcr
    refine ⟨b', off', cr, cell_below hW hb hx, hcr, fun c hc2 => ?_⟩
    have := cell_below hW hb' (hx' c (by omega))
    rw [this]
    congr 2
    unfold natsI
    rw [List.getElem_map]
    have h2 := at0_get (l := rowO N i) (i := c) (by unfold natsI at hl; rw [List.length_map] at hl; omega)
    rw [List.getElem?_eq_getElem (by unfold natsI at hl; rw [List.length_map] at hl; omega)] at h2
    rw [Option.some.inj h2]
theorem exprs_to {w w' : World} {v : Value} {L : List (Nd × Bool)} (h : ReadL (exprE w) 4 w v L) (hb : Below w.heap.size w w') : ReadL (exprE w') 4 w' v L :=
  (h.below hb (Nat.le_refl _)).monoE (fun x r hr => by
    obtain ⟨a, b, c, rfl, hn⟩ := hr
    exact ⟨a, b, c, rfl, hn.to hb (Nat.le_refl _)⟩)
theorem bd_of {N : List (List Nat)} {O : List Nat} {classes : Nat} (h : OkN N O classes) (h4 : N.length ≤ 400) (hc : classes ≤ 24) : Bd N O :=
  ⟨by omega, by rw [← h.len]; omega, fun r hr => by rw [(h.row r hr).1]; omega⟩
end Go.Proofs.Yteamokljlcnicaa

/-
  dfa, plain: the expression of DfaLimits has just 2^(n+1) languages behind its rows. No program, no condition beyond what each theorem names.
-/
set_option linter.unusedVariables false
set_option linter.unusedSimpArgs false
namespace Go.Proofs.Yteamokljlcnicaa
open Classical

def s0 : Nd := .mk 1 [0] []
def s01 : Nd := .mk 1 [0, 1] []
def xN (n : Nat) : Nd := .mk 2 [] (s0 :: List.replicate n s01)

theorem xN_right {n : Nat} (hn : n ≤ 11) : RightX (xN n) := by
  have hc : cntL (List.replicate n s01) = n := by
    clear hn
    induction n with
    | zero => rfl
    | succ k ih => rw [List.replicate_succ, cntL, ih]; simp [s01, cnt, cntL]; omega
  refine ⟨?_, by unfold xN; rw [cnt, cntL, hc]; simp [s0, cnt, cntL]; omega⟩
  unfold xN Wf
  refine ⟨by omega, by omega, fun _ => rfl, by omega, by omega, rising_nil, ?_⟩
  rw [WfL_iff]
  intro y hy
  have r01 : rising [0, 1] := by
    intro i hi
    have h' : i = 0 ∨ i = 1 := by simp at hi; omega
    rcases h' with rfl | rfl <;> simp
  rcases List.mem_cons.1 hy with rfl | hy
  · unfold s0 Wf
    exact ⟨by omega, by omega, by omega, fun _ => rfl, by omega, rising_one 0 (by omega) (by omega), by simp only [WfL]⟩
  · rw [List.eq_of_mem_replicate hy]
    unfold s01 Wf
    exact ⟨by omega, by omega, by omega, fun _ => rfl, by omega, r01, by simp only [WfL]⟩
theorem xN_inside (n : Nat) : insideB 2 (xN n) = true := by
  unfold xN
  rw [insideB, insideL]
  have h : insideL 2 (List.replicate n s01) = true := by
    induction n with
    | zero => rfl
    | succ k ih => rw [List.replicate_succ, insideL, ih]; simp [s01, insideB, insideL]
  rw [h]
  simp [s0, insideB, insideL]

/-- a row of two classes -/
def Two (t : List Nat) : Prop := ∀ c ∈ t, c < 2
theorem seq_s01 {t : List Nat} (ht : Two t) : ∀ (n a b : Nat), a ≤ t.length → (Mseq (t.map fun (c : Nat) => (c : Int)) (List.replicate n s01) a b ↔ b = a + n ∧ b ≤ t.length)
  | 0, a, b, ha => by
    simp only [List.replicate_zero, Mseq]
    constructor
    · rintro rfl; exact ⟨rfl, ha⟩
    · rintro ⟨h, -⟩; omega
  | n + 1, a, b, ha => by
    rw [List.replicate_succ, Mseq]
    constructor
    · rintro ⟨c, h1, h2⟩
      obtain ⟨rfl, u, h3, -⟩ := (M_1 _ _).1 h1
      have h4 := (List.getElem?_eq_some_iff.1 h3).1
      rw [List.length_map] at h4
      obtain ⟨h5, h6⟩ := (seq_s01 ht n _ b (by omega)).1 h2
      exact ⟨by omega, h6⟩
    · rintro ⟨h1, h2⟩
      have hal : a < t.length := by omega
      refine ⟨a + 1, (M_1 _ _).2 ⟨rfl, (t[a] : Int), by rw [List.getElem?_map, List.getElem?_eq_getElem hal]; rfl, ?_⟩, (seq_s01 ht n _ b (by omega)).2 ⟨by omega, h2⟩⟩
      have := ht t[a] (List.getElem_mem _)
      have h7 : t[a] = 0 ∨ t[a] = 1 := by omega
      rcases h7 with h7 | h7 <;> simp [h7]

/-- does it fit some end of a row? -/
theorem fits_xN {n : Nat} {t : List Nat} (ht : Two t) : fitsE (xN n) false (t.map fun (c : Nat) => (c : Int)) = decide ((List.replicate (n + 1) 1 ++ t)[t.length]? = some 0) := by
  unfold fitsE
  rw [if_neg (by simp), Bool.eq_iff_iff, decide_eq_true_iff, decide_eq_true_iff, List.length_map]
  have hM : ∀ k, k ≤ t.length → (fitB (xN n) ((t.map fun (c : Nat) => (c : Int)).drop k) = true ↔ t[k]? = some 0 ∧ t.length = k + 1 + n) := fun k hk => by
    rw [fit_drop (by rw [List.length_map]; exact hk), List.length_map, xN, M_2, Mseq]
    constructor
    · rintro ⟨c, h1, h2⟩
      obtain ⟨rfl, u, h3, h4⟩ := (M_1 _ _).1 h1
      have h5 := (List.getElem?_eq_some_iff.1 h3).1
      rw [List.length_map] at h5
      obtain rfl : u = 0 := by simpa using h4
      obtain ⟨h6, -⟩ := (seq_s01 ht n _ _ (by omega)).1 h2
      rw [List.getElem?_map, List.getElem?_eq_getElem h5] at h3
      have h7 : ((t[k] : Nat) : Int) = 0 := Option.some.inj h3
      exact ⟨by rw [List.getElem?_eq_getElem h5]; congr 1; omega, h6⟩
    · rintro ⟨h1, h2⟩
      refine ⟨k + 1, (M_1 _ _).2 ⟨rfl, 0, by rw [List.getElem?_map, h1]; rfl, by simp⟩, (seq_s01 ht n _ _ (by omega)).2 ⟨h2, Nat.le_refl _⟩⟩
  constructor
  · rintro ⟨k, hk, h⟩
    obtain ⟨h1, h2⟩ := (hM k hk).1 h
    rw [List.getElem?_append_right (by simp; omega), List.length_replicate, show t.length - (n + 1) = k by omega]
    exact h1
  · intro h
    by_cases hl : t.length < n + 1
    · rw [List.getElem?_append_left (by simpa using hl), List.getElem?_replicate, if_pos hl] at h
      cases h
    · rw [List.getElem?_append_right (by simp; omega), List.length_replicate] at h
      exact ⟨t.length - (n + 1), by omega, (hM _ (by omega)).2 ⟨h, by omega⟩⟩

/-- what is left to be told when the last n + 1 were these -/
noncomputable def resW (W : List Nat) : List Nat → Option Nat := fun u => if ∀ c ∈ u, c < 2 then some (if (W ++ u)[u.length]? = some 0 then 1 else 0) else none

theorem lang_xN {n : Nat} (hn : n ≤ 11) : langA (autoE [(xN n, false)]) outN 2 (autoE [(xN n, false)]).start = resW (List.replicate (n + 1) 1) := by
  rw [lang_N (fun e he => by rw [List.mem_singleton.1 he]; exact xN_right hn)]
  funext t
  unfold tellsE resW
  by_cases ht : ∀ c ∈ t, c < 2
  · rw [if_pos ht, if_pos ht]
    simp only [List.map_cons, List.map_nil, fits_xN ht, Option.map_some]
    by_cases h : (List.replicate (n + 1) 1 ++ t)[t.length]? = some 0
    · rw [if_pos h, decide_eq_true h]; rfl
    · rw [if_neg h, decide_eq_false h]; rfl
  · rw [if_neg ht, if_neg ht]; rfl

/-- the last n + 1 of a row -/
def lastW (n : Nat) (t : List Nat) : List Nat := (List.replicate (n + 1) 1 ++ t).drop t.length
theorem run_res {n : Nat} {t : List Nat} (ht : Two t) : runA (langAuto (resW (List.replicate (n + 1) 1))) (resW (List.replicate (n + 1) 1)) t = resW (lastW n t) := by
  funext u
  rw [runLang]
  unfold resW lastW
  by_cases hu : ∀ c ∈ u, c < 2
  · rw [if_pos hu, if_pos (fun c hc => by
      rcases List.mem_append.1 hc with hc | hc
      · exact ht c hc
      · exact hu c hc)]
    have e : (List.replicate (n + 1) 1 ++ (t ++ u))[(t ++ u).length]? = ((List.replicate (n + 1) 1 ++ t).drop t.length ++ u)[u.length]? := by
      have e1 : (List.replicate (n + 1) 1 ++ t).drop t.length ++ u = (List.replicate (n + 1) 1 ++ (t ++ u)).drop t.length := by
        rw [← List.append_assoc, List.drop_append_of_le_length (l₁ := List.replicate (n + 1) 1 ++ t) (by simp)]
      rw [e1, List.getElem?_drop, List.length_append]
    rw [e]
  · rw [if_neg hu, if_neg (fun h => hu (fun c hc => h c (List.mem_append.2 (.inr hc))))]

def wordsN : Nat → List (List Nat)
  | 0 => [[]]
  | k + 1 => (wordsN k).map (0 :: ·) ++ (wordsN k).map (1 :: ·)
theorem words_length : ∀ k, (wordsN k).length = 2 ^ k
  | 0 => rfl
  | k + 1 => by rw [wordsN, List.length_append, List.length_map, List.length_map, words_length k, Nat.pow_succ]; omega
theorem mem_words : ∀ (k : Nat) (t : List Nat), t ∈ wordsN k ↔ t.length = k ∧ Two t
  | 0, t => by
    simp only [wordsN, List.mem_singleton]
    constructor
    · rintro rfl; exact ⟨rfl, fun c hc => by simp at hc⟩
    · rintro ⟨h, -⟩; exact List.eq_nil_of_length_eq_zero h
  | k + 1, t => by
    rw [wordsN, List.mem_append, List.mem_map, List.mem_map]
    constructor
    · rintro (⟨r, hr, rfl⟩ | ⟨r, hr, rfl⟩)
      · obtain ⟨h1, h2⟩ := (mem_words k r).1 hr
        exact ⟨by simp [h1], fun c hc => by
          rcases List.mem_cons.1 hc with rfl | hc
          · omega
          · exact h2 c hc⟩
      · obtain ⟨h1, h2⟩ := (mem_words k r).1 hr
        exact ⟨by simp [h1], fun c hc => by
          rcases List.mem_cons.1 hc with rfl | hc
          · omega
          · exact h2 c hc⟩
    · rintro ⟨h1, h2⟩
      match t, h1 with
      | c :: r, h1 =>
        have hr : r ∈ wordsN k := (mem_words k r).2 ⟨by simpa using h1, fun d hd => h2 d (by simp [hd])⟩
        have hc : c = 0 ∨ c = 1 := by have := h2 c (by simp); omega
        rcases hc with rfl | rfl
        · exact .inl ⟨r, hr, rfl⟩
        · exact .inr ⟨r, hr, rfl⟩
theorem words_nodup : ∀ k, (wordsN k).Nodup
  | 0 => by simp [wordsN]
  | k + 1 => by
    rw [wordsN, List.nodup_append]
    have h : ∀ a : Nat, ((wordsN k).map (a :: ·)).Nodup := fun a => List.Pairwise.map (a :: ·) (fun x y (h : x ≠ y) e => h (by injection e)) (words_nodup k)
    refine ⟨h 0, h 1, fun x hx y hy e => ?_⟩
    obtain ⟨r, -, rfl⟩ := List.mem_map.1 hx
    obtain ⟨r', -, rfl⟩ := List.mem_map.1 hy
    injection e with e1
    omega

theorem res_inj {k : Nat} {W V : List Nat} (hW : W ∈ wordsN k) (hV : V ∈ wordsN k) (h : resW W = resW V) : W = V := by
  obtain ⟨w1, w2⟩ := (mem_words k W).1 hW
  obtain ⟨v1, v2⟩ := (mem_words k V).1 hV
  refine List.ext_getElem (by omega) fun i h1 h2 => ?_
  have h3 := congrFun h (List.replicate i 0)
  unfold resW at h3
  have hz : ∀ c ∈ List.replicate i 0, c < 2 := fun c hc => by rw [List.eq_of_mem_replicate hc]; omega
  rw [if_pos hz, if_pos hz, List.length_replicate, List.getElem?_append_left h1, List.getElem?_append_left h2, List.getElem?_eq_getElem h1, List.getElem?_eq_getElem h2] at h3
  have a1 := w2 W[i] (List.getElem_mem _)
  have a2 := v2 V[i] (List.getElem_mem _)
  have h4 := Option.some.inj h3
  simp only [Option.some.injEq] at h4
  by_cases b1 : W[i] = 0
  · by_cases b2 : V[i] = 0
    · omega
    · rw [if_pos b1, if_neg b2] at h4; omega
  · by_cases b2 : V[i] = 0
    · rw [if_neg b1, if_pos b2] at h4; omega
    · omega

theorem last_word {n : Nat} {t : List Nat} (ht : Two t) : lastW n t ∈ wordsN (n + 1) := by
  refine (mem_words _ _).2 ⟨by unfold lastW; simp, fun c hc => ?_⟩
  unfold lastW at hc
  rcases List.mem_append.1 (List.mem_of_mem_drop hc) with hc | hc
  · rw [List.eq_of_mem_replicate hc]; omega
  · exact ht c hc
theorem last_self {n : Nat} {t : List Nat} (h : t.length = n + 1) : lastW n t = t := by
  unfold lastW
  rw [List.drop_left' (by simp [h])]

theorem res_count {n K : Nat} (ho : Over (langAuto (resW (List.replicate (n + 1) 1))) 2 K) : (cl (langAuto (resW (List.replicate (n + 1) 1))) 2 K).length = 2 ^ (n + 1) := by
  have h1 := sub_len (cl (langAuto (resW (List.replicate (n + 1) 1))) 2 K) ((wordsN (n + 1)).map resW) (cl_nodup _ _ _) (fun l hl => by
    obtain ⟨t, ht, rfl⟩ := cl_met _ _ _ l hl
    refine List.mem_map.2 ⟨lastW n t, last_word ht, ?_⟩
    exact (run_res ht).symm)
  have hinj : ((wordsN (n + 1)).map resW).Nodup := by
    have : ∀ l : List (List Nat), l.Nodup → (∀ x ∈ l, x ∈ wordsN (n + 1)) → (l.map resW).Nodup := by
      intro l
      induction l with
      | nil => intro _ _; simp
      | cons x r ih =>
        intro hn hs
        rw [List.nodup_cons] at hn
        rw [List.map_cons, List.nodup_cons]
        refine ⟨fun h => ?_, ih hn.2 (fun y hy => hs y (by simp [hy]))⟩
        obtain ⟨y, hy, e⟩ := List.mem_map.1 h
        rw [← res_inj (hs y (by simp [hy])) (hs x (by simp)) e] at hn
        exact hn.1 hy
    exact this _ (words_nodup _) (fun x hx => hx)
  have h2 := sub_len ((wordsN (n + 1)).map resW) (cl (langAuto (resW (List.replicate (n + 1) 1))) 2 K) hinj (fun l hl => by
    obtain ⟨t, ht, rfl⟩ := List.mem_map.1 hl
    obtain ⟨t1, t2⟩ := (mem_words _ _).1 ht
    have h3 := over_run ho t t2 (s := (langAuto (resW (List.replicate (n + 1) 1))).start) (List.mem_of_getElem? (cl_start _ _ _))
    have h4 : runA (langAuto (resW (List.replicate (n + 1) 1))) (resW (List.replicate (n + 1) 1)) t ∈ cl (langAuto (resW (List.replicate (n + 1) 1))) 2 K := h3
    rw [run_res t2, last_self t1] at h4
    exact h4)
  rw [List.length_map, words_length] at h1 h2
  omega

/-! ### how many states count -/
def setsC (S : List Sta) : Nat := (S.map (·.set)).count true
theorem setsC_join (L : List Sta) (i : Nat) (ts : List Int) : setsC (joinF L i ts) = setsC L := by
  unfold setsC joinF
  congr 1
  refine List.ext_getElem (by simp) fun j h1 h2 => ?_
  rw [List.getElem_map, List.getElem_map, List.getElem_modify]
  split <;> rfl
theorem setsC_app (L M : List Sta) : setsC (L ++ M) = setsC L + setsC M := by unfold setsC; rw [List.map_append, List.count_append]
theorem setsC_seq : ∀ (ps : List Nd) (L : List Sta) (a : Nat), (∀ p ∈ ps, ∃ c, p = .mk 1 c []) → setsC (seqF ps L a).1 = setsC L + ps.length
  | [], L, a, _ => by rw [seqF]; rfl
  | p :: r, L, a, h => by
    obtain ⟨c, rfl⟩ := h p (by simp)
    rw [seqF, setsC_seq r _ _ (fun q hq => h q (by simp [hq])), setsC_join]
    have : setsC (layF (.mk 1 c []) L) = setsC L + 1 := by
      rw [layF, if_pos rfl, setsC_app, setsC_app]
      rfl
    rw [this, List.length_cons]
    omega
theorem setsC_xN (n : Nat) : setsC (mach (xN n)) = n + 1 := by
  unfold mach xN
  rw [layF, if_neg (by omega), if_neg (by omega), if_pos rfl, setsC_join, setsC_seq _ _ _ (fun p hp => by
    rcases List.mem_cons.1 hp with rfl | hp
    · exact ⟨_, rfl⟩
    · rw [List.eq_of_mem_replicate hp]; exact ⟨_, rfl⟩)]
  have : setsC (([] ++ [z0]) ++ [z0]) = 0 := rfl
  rw [this, List.length_cons, List.length_replicate]
  omega
theorem countP_range (S : List Sta) : ((List.range S.length).filter fun k => (at_ S k).set).length = setsC S := by
  have h : (List.range S.length).map (fun k => (at_ S k).set) = S.map (·.set) := by
    refine List.ext_getElem (by simp) fun j h1 h2 => ?_
    rw [List.getElem_map, List.getElem_map, List.getElem_range]
    have : at_ S j = S[j]'(by simpa using h2) := by unfold at_; rw [List.getD_eq_getElem?_getD, List.getElem?_eq_getElem (by simpa using h2)]; rfl
    rw [this]
  unfold setsC
  rw [← h, List.count, List.countP_map, List.countP_eq_length_filter]
  congr 1
  refine List.filter_congr fun k _ => ?_
  simp
theorem core_few (S : List Sta) : (coreL S).length ≤ setsC S + 1 := by
  unfold coreL
  rw [List.length_map, ← countP_range S]
  have key : ∀ l : List Nat, l.Nodup → (l.filter fun k => decide (core S k)).length ≤ (l.filter fun k => (at_ S k).set).length + (if 1 ∈ l then 1 else 0) := by
    intro l
    induction l with
    | nil => intro _; simp
    | cons x r ih =>
      intro hn
      rw [List.nodup_cons] at hn
      have h := ih hn.2
      by_cases hc : core S x
      · rw [List.filter_cons_of_pos (by simpa using hc), List.length_cons]
        by_cases hs : (at_ S x).set = true
        · rw [List.filter_cons_of_pos (by simpa using hs), List.length_cons]
          by_cases h1 : 1 ∈ r
          · rw [if_pos h1] at h; rw [if_pos (by simp [h1])]; omega
          · rw [if_neg h1] at h; split <;> omega
        · rw [List.filter_cons_of_neg (by simpa using hs)]
          rcases hc with hc | rfl
          · exact (hs hc).elim
          · rw [if_neg hn.1] at h; rw [if_pos (by simp)]; omega
      · rw [List.filter_cons_of_neg (by simpa using hc)]
        have hs : ¬ (at_ S x).set = true := fun h => hc (.inl h)
        rw [List.filter_cons_of_neg (by simpa using hs)]
        by_cases h1 : 1 ∈ r
        · rw [if_pos h1] at h; rw [if_pos (by simp [h1])]; omega
        · rw [if_neg h1] at h; split <;> omega
  refine Nat.le_trans (key _ List.nodup_range) (Nat.add_le_add_left ?_ _)
  split <;> omega

/-! ### what is built -/
theorem limits_some {n : Nat} (hn : n ≤ 11) {N : List (List Nat)} {O : List Nat} (h : Built (autoE [(xN n, false)]) outN 2 (some (N, O.map some))) : O.length = 2 ^ (n + 1) ∧ 2 ^ (n + 1) ≤ 400 := by
  rcases h with ⟨h, -⟩ | ⟨hf, hle, he⟩
  · cases h
  obtain ⟨-, e2⟩ := Prod.mk.inj (Option.some.inj he)
  have ho := canon_over outN hf
  rw [lang_xN hn] at ho hle e2
  unfold canonL at hle
  unfold canonOut canonL at e2
  generalize 2000 = K at *
  have h1 := res_count ho
  have h2 := congrArg List.length e2
  rw [List.length_map, List.length_map] at h2
  omega
theorem limits_none {n : Nat} (hn : n ≤ 11) (h : Built (autoE [(xN n, false)]) outN 2 none) : 400 < 2 ^ (n + 1) := by
  rcases Nat.lt_or_ge 400 (2 ^ (n + 1)) with h4 | h4
  · exact h4
  have h7 : n ≤ 7 := by
    rcases Nat.lt_or_ge 7 n with h8 | h8
    · have : (2 : Nat) ^ 9 ≤ 2 ^ (n + 1) := Nat.pow_le_pow_right (by omega) (by omega)
      omega
    · exact h8
  have hf : ¬ TooMany (autoE [(xN n, false)]) 2 := few_sits _ _ _ (by
    have h1 := core_few (mach (xN n))
    rw [setsC_xN] at h1
    have : (2 : Nat) ^ (coreL (mach (xN n))).length ≤ 2 ^ 9 := Nat.pow_le_pow_right (by omega) (by omega)
    omega)
  rcases h with ⟨-, h⟩ | ⟨-, -, h⟩
  · have ho := canon_over outN hf
    rw [lang_xN hn] at ho h
    unfold canonL at h
    generalize 2000 = K at *
    have h1 := res_count ho
    rcases h with h | h
    · exact (hf h).elim
    · omega
  · cases h
end Go.Proofs.Yteamokljlcnicaa

/-
  DfaLimits: a machine of too many states is none. No condition beyond what each theorem names.
-/
set_option linter.unusedVariables false
set_option linter.unusedSimpArgs false
namespace Go.Proofs.Yteamokljlcnicaa
open Go.RowKit Classical

/-- where the parts' classes lie: not in the box, and not in the list of the parts -/
def FL (base G : Nat) (w : World) (pv : Value) (k : Nat) : Prop := base ≤ k ∧ k < w.heap.size ∧ k ≠ G ∧ pv.ownBlock ≠ some k

theorem nodeF_set {F : Nat → Prop} {w : World} {cls : List Int} {C n : Nat} (h : Ints w (.slice (some ⟨C, 0, none⟩) n n) cls) (hF : F C) (hb : cls.length * 8 ≤ R) : NodeF F w (.mk 1 cls []) (.int .i64 1) (.slice (some ⟨C, 0, none⟩) n n) (.slice none 0 0) := by
  rw [nodeF_iff]
  refine ⟨rfl, h, fun _ k hk => ?_, hb, by unfold R; simp, [], ⟨by simp, none, 0, rfl, by simp, fun h => by simp at h⟩, fun h => by simp at h, rfl, fun i h => by simp at h⟩
  have : C = k := by simpa [Value.ownBlock] using hk
  subst this
  exact hF

/-- the parts so far: one of the first class, and k of both -/
def limP (k : Nat) : List Nd := s0 :: List.replicate k s01
theorem limP_succ (k : Nat) : limP (k + 1) = limP k ++ [s01] := by
  unfold limP
  rw [List.replicate_succ', List.cons_append]
theorem limP_length (k : Nat) : (limP k).length = k + 1 := by simp [limP]

structure LimAt (base G : Nat) (w0 w : World) (k : Nat) (pv : Value) : Prop where
  box : w.heap[G]? = some (.cells #[.int .i64 2, .slice none 0 0, pv] 38)
  own : OwnL (nodeE (FL base G w pv) w) 38 3 base w pv (limP k)
  apart : pv.ownBlock ≠ some G
  base_le : base ≤ G
  below : Below base w0 w

theorem LimAt.node {base G : Nat} {w0 w : World} {k : Nat} {pv : Value} (h : LimAt base G w0 w k pv) (hk : k ≤ 11) : NodeIs w (xN k) (.int .i64 2) (.slice none 0 0) pv := by
  have h1 : NodeF (fun _ => True) w (xN k) (.int .i64 2) (.slice none 0 0) pv := by
    unfold xN
    rw [nodeF_iff]
    refine ⟨rfl, Ints.nil _, fun h => by simp at h, by unfold R; simp, by unfold R; simp; omega, ?_⟩
    exact ReadL.nodesF (h.own.read.monoE (fun x r hx => by
      obtain ⟨a, b, c, rfl, hn⟩ := hx
      exact ⟨a, b, c, rfl, NodeF.mono (fun _ _ => trivial) _ hn⟩)) (fun _ _ _ => trivial)
  exact h1.is

theorem pow_wrap {k : Nat} (h : k ≤ 11) : wrap64 ((2 : Int) ^ (k + 1)) = ((2 ^ (k + 1) : Nat) : Int) := by
  have h1 : (2 : Nat) ^ (k + 1) ≤ 4096 := Nat.le_trans (Nat.pow_le_pow_right (by omega) (by omega : k + 1 ≤ 12)) (by decide)
  have e : ((2 : Int) ^ (k + 1)) = ((2 ^ (k + 1) : Nat) : Int) := by simp
  rw [e]
  generalize 2 ^ (k + 1) = z at *
  unfold wrap64
  omega

set_option maxRecDepth 100000 in
set_option maxHeartbeats 16000000 in
theorem limits_law (w : World) (n : Int) : Calls Try.prog 6 #[.int .i64 n] w (Says true w) := by
  have HBIT := Lib.hid (bits_and_le n 65535 (by omega))
  obtain ⟨m, hm, hm11⟩ : ∃ m : Nat, (bits .and .i64 n 65535).tmod 12 = m ∧ m ≤ 11 := by
    have h1 : 0 ≤ bits .and .i64 n 65535 := HBIT.out.1
    have h2 := Int.tmod_lt_of_pos (bits .and .i64 n 65535) (show (0 : Int) < 12 by omega)
    have h3 := Int.tmod_nonneg 12 h1
    exact ⟨((bits .and .i64 n 65535).tmod 12).toNat, by omega, by omega⟩
  go_enter Try.func6, Try.ntmps6
  go_wp2_with fail
  refine (shown8 w).mono ?_
  rintro e w1 ⟨rfl, hb1⟩
  have HB1 := Lib.hid hb1
  clear hb1
  have hal := below_alloc1 w1 (.cells #[.int .i64 0] 3)
  have HAL := Lib.hid hal
  have HINT := Lib.hid (show Ints (w1.alloc (.cells #[.int .i64 0] 3)) (.slice (some ⟨w1.heap.size, 0, none⟩) 1 1) [0] from Raw.of_block (cs := [.int .i64 0]) (heap_alloc_new w1 _))
  clear hal
  go_wp2_with fail
  refine (set8_any _ _ [0] HINT.out (by unfold R; simp)).mono ?_
  rintro e w2 ⟨rfl, -, hb2⟩
  have HB2 := Lib.hid (HAL.out.trans (hb2.mono HAL.out.size))
  have HI2 := Lib.hid (HINT.out.to hb2 (Nat.le_refl _))
  have HCL := Lib.hid (show w1.heap.size < w2.heap.size by
    have h1 := hb2.size
    have h2 : (w1.alloc (.cells #[.int .i64 0] 3)).heap.size = w1.heap.size + 1 := by simp
    omega)
  clear hb2
  go_upto_region 4 with fail
  refine abs_wp fun W3 hW3 => ?_
  obtain ⟨bW, -, cW⟩ := two_allocs w2 _ _ W3 hW3
  obtain ⟨C, hC⟩ : ∃ C, C = w1.heap.size := ⟨_, rfl⟩
  obtain ⟨G, hG⟩ : ∃ G, G = w2.heap.size + 1 := ⟨_, rfl⟩
  have hL : LimAt C G w1 W3 0 (.slice (some ⟨w2.heap.size, 0, none⟩) 1 1) := by
    have hlt := HCL.out
    refine ⟨by rw [hG]; exact cW, ?_, ?_, ?_, ?_⟩
    · have hb := below_alloc1 (w2.alloc (.cells #[.int .i64 1, .slice (some ⟨w1.heap.size, 0, none⟩) 1 1, .slice none 0 0] 38)) (.cells #[.int .i64 2, .slice none 0 0, .slice (some ⟨w2.heap.size, 0, none⟩) 1 1] 38)
      have hi : Ints W3 (.slice (some ⟨w1.heap.size, 0, none⟩) 1 1) [0] := HI2.out.to bW (Nat.le_refl _)
      have hsz : W3.heap.size = w2.heap.size + 1 + 1 := by rw [hW3]; simp
      have hN : nodeE (FL C G W3 (.slice (some ⟨w2.heap.size, 0, none⟩) 1 1)) W3 s0 [.int .i64 1, .slice (some ⟨w1.heap.size, 0, none⟩) 1 1, .slice none 0 0] := ⟨_, _, _, rfl, nodeF_set hi ⟨by omega, by omega, by omega, by simp [Value.ownBlock]; omega⟩ (by unfold R; simp)⟩
      have h1 := OwnL.block1 (E := nodeE (FL C G W3 (.slice (some ⟨w2.heap.size, 0, none⟩) 1 1)) W3) (sz := 3) (base := C) w2 38 s0 [.int .i64 1, .slice (some ⟨w1.heap.size, 0, none⟩) 1 1, .slice none 0 0] ⟨rfl, by simp [Value.oneCell']⟩ hN (by omega)
      have h2 := h1.below hb (Nat.le_refl _)
      rw [hW3] at hN h2 ⊢
      exact h2
    · simp [Value.ownBlock]; omega
    · omega
    · rw [hC]; exact HB2.out.trans (bW.mono HB2.out.size)
  have HL := Lib.hid hL
  have HGE := Lib.hid hG
  have HCE := Lib.hid hC
  rw [← hG]
  clear hW3 bW cW hL hC hG hm
  go_wp2_with fail
  go_loopw [5] (fun i wz => ∃ k : Nat, i = .int .i64 k ∧ k ≤ m ∧ ∃ pv, LimAt C G w1 wz k pv) (fun i _ => m - (intOf i).toNat)
  case atStart => exact ⟨0, rfl, by omega, _, HL.out⟩
  case round =>
    obtain ⟨k, rfl, hk, pv, hl⟩ := hrel
    have HLA := Lib.hid hl
    by_cases hkm : k < m
    · have hki : (k : Int) < m := by omega
      obtain ⟨pq, cq, hpv⟩ := hl.own.form
      obtain ⟨nq, hnq⟩ : ∃ nq, nq = (limP k).length := ⟨_, rfl⟩
      rw [← hnq] at hpv
      subst hpv
      have HNQ := Lib.hid hnq
      clear hl hnq
      go_upto_region 7 with fail
      have HBX := Lib.hid HLA.out.box
      have HSS := Lib.hid (show ∀ W', Below wr.heap.size wr W' → W'.cell? ⟨G, 2, none⟩ = some (.slice pq nq cq) from fun W' h => (cells3 ((h.block G (at_lt HBX.out)).trans HBX.out)).2.2)
      refine wp_region_fin 7 (fun W' => W'.cell? ⟨G, 2, none⟩ = some (.slice pq nq cq)) (.reads [0, 1] (.one 2 (.one 3 (.one 4 (.one 5 (.reads [6] (.last 7))))))) 69 (by kernel_rfl) (by kernel_rfl) rfl (fun _ _ _ _ _ h => h) (HSS.out _ (Below.refl _ _).drew) ?_
      apply plan_reads
      · intro W' hW'
        repeat (refine wpRead_step (fun K hK => ?_); go_simp; refine hK _ ?_; clear hK K)
        exact wpRead_nil rfl
      refine abs_plan fun W0 hW0 => ?_
      have HB0 := Lib.hid (show Below wr.heap.size wr W0 by rw [hW0]; exact (Below.refl _ _).drew)
      clear hW0
      refine plan_one rfl ?_
      have HA1 := Lib.hid (below_alloc1 W0 (.cells #[.int .i64 0, .int .i64 1] 3))
      have HI1 := Lib.hid (show Ints (W0.alloc (.cells #[.int .i64 0, .int .i64 1] 3)) (.slice (some ⟨W0.heap.size, 0, none⟩) 2 2) [0, 1] from Raw.of_block (cs := [.int .i64 0, .int .i64 1]) (heap_alloc_new W0 _))
      have HB1a := Lib.hid (HB0.out.trans (HA1.out.mono HB0.out.size))
      go_wp2_with fail
      refine Then.mk (HSS.out _ HB1a.out) ?_
      refine plan_one rfl ?_
      go_wp2_with fail
      refine (set8_any _ _ [0, 1] HI1.out (by unfold R; simp)).mono ?_
      rintro e W2 ⟨rfl, -, hb2⟩
      have HB2a := Lib.hid (HB1a.out.trans (hb2.mono HB1a.out.size))
      have HI2a := Lib.hid (HI1.out.to hb2 (Nat.le_refl _))
      have HSZ := Lib.hid (show W0.heap.size < W2.heap.size by
        have h1 := hb2.size
        have h2 : (W0.alloc (.cells #[.int .i64 0, .int .i64 1] 3)).heap.size = W0.heap.size + 1 := by simp
        omega)
      clear hb2
      go_wp2_with fail
      refine Then.mk (HSS.out _ HB2a.out) ?_
      refine plan_one rfl ?_
      have HA3 := Lib.hid (below_alloc1 W2 (.cells #[.int .i64 1, .slice (some ⟨W0.heap.size, 0, none⟩) 2 2, .slice none 0 0] 38))
      have HB3a := Lib.hid (HB2a.out.trans (HA3.out.mono HB2a.out.size))
      go_wp2_with fail
      refine Then.mk (HSS.out _ HB3a.out) ?_
      refine abs_plan fun W3 hW3 => ?_
      have HBW3 := Lib.hid (show Below wr.heap.size wr W3 by rw [hW3]; exact HB3a.out)
      have HSZ3 := Lib.hid (show W2.heap.size < W3.heap.size by rw [hW3]; simp)
      have HGR := Lib.hid (at_lt HBX.out)
      have HNEW := Lib.hid (show ReadL (nodeE (FL C G W2 (.slice pq nq cq)) W3) 3 W3 (.slice (some ⟨W2.heap.size, 0, none⟩) 1 1) [s01] by
        have hi : Ints W3 (.slice (some ⟨W0.heap.size, 0, none⟩) 2 2) [0, 1] := by rw [hW3]; exact HI2a.out.to HA3.out (Nat.le_refl _)
        have h0 := HSZ.out
        have h1 := HB0.out.size
        have h2 := HGR.out
        have h3 := HLA.out.base_le
        have hF : FL C G W2 (.slice pq nq cq) W0.heap.size := ⟨by omega, by omega, by omega, fun he => by have := (HLA.out.own.lt _ he).2; omega⟩
        have hN : nodeE (FL C G W2 (.slice pq nq cq)) W3 s01 [.int .i64 1, .slice (some ⟨W0.heap.size, 0, none⟩) 2 2, .slice none 0 0] := ⟨_, _, _, rfl, nodeF_set hi hF (by unfold R; simp)⟩
        rw [hW3] at hN ⊢
        exact ReadL.one W2 _ _ _ ⟨rfl, by simp [Value.oneCell']⟩ hN)
      have HOLD := Lib.hid (show OwnL (nodeE (FL C G W2 (.slice pq nq cq)) W3) 38 3 C W3 (.slice pq nq cq) (limP k) from (HLA.out.own.below HBW3.out (Nat.le_refl _)).mono (fun x r hx => by
        obtain ⟨u0, u1, u2, rfl, hu⟩ := hx
        have h1 := HB2a.out.size
        exact ⟨u0, u1, u2, rfl, NodeF.mono (fun j ⟨f1, f2, f3, f4⟩ => ⟨f1, by omega, f3, f4⟩) _ (hu.below HBW3.out (Nat.le_refl _))⟩))
      have HLW := Lib.hid (show C ≤ W3.heap.size by have h1 := HBW3.out.size; have h2 := HGR.out; have h3 := HLA.out.base_le; omega)
      have hk11 : k ≤ 10 := by omega
      clear hW3
      refine plan_one rfl ?_
      refine wpList_append_nodes rfl (.tmp 23) (.tmp 26) rfl (.slice pq nq cq) (limP k) rfl HOLD.out (.slice (some ⟨W2.heap.size, 0, none⟩) 1 1) [s01] rfl HNEW.out (by rw [limP_length]; unfold R; simp; omega) HLW.out ?_
      intro p4 c4 w4 hown4 hg4 hlie4
      have hl4 : (limP k).length + [s01].length = nq + 1 := by rw [HNQ.out]; rfl
      rw [hl4] at hown4 hlie4 ⊢
      have HF4 := Lib.hid (show Fr (fun j => (Value.slice pq nq cq).ownBlock = some j) W3 w4 from Fr.grown (F := fun j => (Value.slice pq nq cq).ownBlock = some j) hg4 (fun k h => h))
      have HBO4 := Lib.hid (show w4.heap[G]? = some (.cells #[.int .i64 2, .slice none 0 0, .slice pq nq cq] 38) from (HF4.out.block G (by have h1 := HBW3.out.size; have h2 := HGR.out; omega) HLA.out.apart).trans ((HBW3.out.block G HGR.out).trans HBX.out))
      have HFR := Lib.hid (Fr.setCell (F := fun j => j = G) w4 (p := ⟨G, 2, none⟩) rfl (.slice p4 (nq + 1) c4))
      have HBO5 := Lib.hid (blk_set HBO4.out 2 (.slice p4 (nq + 1) c4))
      have HLA5 := Lib.hid (show LimAt C G w1 (w4.setCell ⟨G, 2, none⟩ (.slice p4 (nq + 1) c4)) (k + 1) (.slice p4 (nq + 1) c4) from by
        have hap : (Value.slice p4 (nq + 1) c4).ownBlock ≠ some G := fun he => by
          rcases hlie4 with h | h
          · exact HLA.out.apart (h ▸ he)
          · rw [he] at h
            injection h with h
            have h1 := HBW3.out.size
            have h2 := HGR.out
            omega
        refine ⟨HBO5.out, ?_, hap, HLA.out.base_le, ?_⟩
        · rw [limP_succ]
          refine (hown4.fr HFR.out (fun j hj he => hap (he ▸ hj))).mono fun x r hx => ?_
          obtain ⟨u0, u1, u2, rfl, hu⟩ := hx
          refine ⟨u0, u1, u2, rfl, NodeF.mono (fun j hj => ?_) _ ((hu.fr HF4.out (fun j hj he => hj.2.2.2 he)).fr HFR.out (fun j hj he => hj.2.2.1 he))⟩
          obtain ⟨f1, f2, f3, f4⟩ := hj
          have h1 := HF4.out.size
          have h2 := HFR.out.size
          have h3 := HSZ3.out
          refine ⟨f1, by omega, f3, fun he => ?_⟩
          rcases hlie4 with h | h
          · exact f4 (h ▸ he)
          · rw [he] at h
            injection h with h
            omega
        · have b1 := HLA.out.below.trans (HBW3.out.mono (by have h2 := HGR.out; have h3 := HLA.out.base_le; omega))
          have b2 := b1.trans (HF4.out.below HLW.out (fun j hj => (HLA.out.own.lt j hj).1))
          exact b2.trans (HFR.out.below (by have := HF4.out.size; have := HLW.out; omega) (fun j hj => by have hj : j = G := hj; rw [hj]; exact HLA.out.base_le)))
      have x2 := (cells3 HBO4.out).2.2
      have f2 := fz_at HBO4.out 2
      clear hown4 hg4 hlie4 hl4
      go_wp2_with fail
      refine Then.mk x2 ?_
      apply plan_reads
      · intro W' hW'
        repeat (refine wpRead_step (fun K hK => ?_); go_simp; refine hK _ ?_; clear hK K)
        exact wpRead_nil rfl
      refine plan_last rfl ?_
      go_wp2_with fail
      go_roundw
      case rel => exact ⟨k + 1, by go_num, by omega, _, HLA5.out⟩
      case measure => simp [intOf]; omega
    · have hki : ¬ (k : Int) < m := by omega
      obtain rfl : k = m := by omega
      obtain ⟨pq, cq, hpv⟩ := hl.own.form
      subst hpv
      obtain ⟨x0, x1, x2⟩ := cells3 hl.box
      have HAL2 := Lib.hid (below_alloc1 wr (.cells #[.int .i64 2, .slice none 0 0, .slice pq (limP k).length cq, .bool false] 40))
      have HBU := Lib.hid (build_any _ _ [(xN k, false)] 2 (one_expr (hl.node hm11) false 40) (by simp))
      have HWB := Lib.hid (HB1.out.trans (hl.below.mono (by rw [HCE.out]; exact HB1.out.size)))
      clear hl
      go_wp2_with fail
      refine HBU.out.mono ?_
      rintro e w4 ⟨hb4, hcase⟩
      have HB4 := Lib.hid (HWB.out.trans ((HAL2.out.trans (hb4.mono HAL2.out.size)).mono HWB.out.size))
      have hao : ArgOk 2 [(xN k, false)] := ⟨by omega, by omega, by simp, fun e he => by rw [List.mem_singleton.1 he]; exact ⟨xN_right hm11, xN_inside k⟩⟩
      clear hb4 HBU HAL2 x0 x1 x2
      rcases hcase with ⟨hno, -⟩ | ⟨-, hbu, rfl⟩ | ⟨-, ob, N, O, -, hbu, rfl, hmd⟩
      · exact (hno hao).elim
      · have h4 := limits_none hm11 hbu
        obtain ⟨st, hst⟩ : ∃ st : Nat, st = 2 ^ (k + 1) := ⟨_, rfl⟩
        have hp : wrap64 ((2 : Int) ^ (k + 1)) = (st : Int) := by rw [hst]; exact pow_wrap hm11
        rw [← hst] at h4
        have h4i : (400 : Int) < st := by omega
        clear hbu hao hst
        go_upto_region 10 with fail
        rw [hp]
        clear hp
        go_wp2_with fail
        go_ret
        exact ⟨rfl, HB4.out⟩
      · obtain ⟨h4, h5⟩ := limits_some hm11 hbu
        obtain ⟨st, hst⟩ : ∃ st : Nat, st = 2 ^ (k + 1) := ⟨_, rfl⟩
        have hp : wrap64 ((2 : Int) ^ (k + 1)) = (st : Int) := by rw [hst]; exact pow_wrap hm11
        rw [← hst] at h4 h5
        have h5i : ¬ (400 : Int) < st := by omega
        obtain ⟨nv, ov, h1, h2, h3⟩ := hmd
        obtain ⟨po, co, rfl, -, -⟩ := h3.at (by decide) h4
        obtain ⟨-, -, y2⟩ := cells3 h1
        clear hbu hao hst h1 h2 h3 h4
        go_upto_region 10 with fail
        rw [hp]
        clear hp
        go_wp2_with fail
        go_ret
        exact ⟨rfl, HB4.out⟩
end Go.Proofs.Yteamokljlcnicaa

/-
  DfaLimits answers true for every input, and leaves it as it was. No condition.
-/
set_option linter.unusedVariables false
namespace Go.Proofs.Yteamokljlcnicaa
open Go.ChangeShapes Go.WideShapes Go.ChangeAt Go.RowKit

theorem dfaLimits_params : ∀ t ∈ Try.f6.params.toList, Try.prog.readableRec t = true ∧ t < Try.prog.types.size := by
  rw [Try.params6]
  intro t ht
  simp at ht
  rcases ht with rfl
  all_goals exact ⟨by kernel_rfl, of_decide_eq_true (by kernel_rfl)⟩

set_option maxRecDepth 100000 in
theorem dfaLimits_lifted (os : Os) (started : os.Started) (H : Type) (enc : TypeId × Value → H) :
    ReturnsInHanded {} Try.checked os 6 .any (Rows.dfaLimitsSpec.pre6 enc Try.prog Try.f6 Rows.dfaLimitsRow.domain false) (Rows.dfaLimitsSpec.post enc Try.prog Try.f6 false true false false) := by
  refine returnsInHanded_of_change_sized (C := Try.checked) own started (by kernel_rfl) Try.func6
    (ChangeSpec.witness6 (enc := enc) (C := Try.checked) false ⟨#[], #[.int .i64 0], []⟩ 8 (by kernel_rfl) (by kernel_rfl) (by kernel_rfl) (by kernel_rfl)) ?_
  intro W base args ds gs before hval0 hW hcnd hsz0 _
  have hval : ∀ (j : Nat) t v, Try.f6.params[j]? = some t → args[j]? = some v → Value.okWide Try.prog W .any base t v := hval0
  have hW' := hW
  obtain ⟨p, q, hA0, hV, rfl, hfz, hnd⟩ := hW
  have hA : DataW.TrodAll enc Try.prog W 0 (fun _ => true) true Try.f6.params.toList args.toList ds p := hA0
  have hsz : (DataW.weightsEach Try.prog (Try.f6.params.toList ++ Rows.dfaLimitsSpec.plain.varTypes Try.prog) (ds ++ gs)).all (· ≤ reachBytes) = true := hsz0
  rw [Try.params6] at hA hval hsz
  obtain ⟨v0, vs0, d0, ds0, p0, q0, hargs, rfl, rfl, h0, rr0⟩ := trodAll_cons hA
  obtain ⟨rfl, rfl, rfl⟩ := trodAll_nil rr0
  obtain rfl : args = #[v0] := by cases args; simp_all
  obtain ⟨n0, rfl, rfl, rfl, hw0⟩ := open_int Try.underlying3 (hval 0 3 v0 rfl rfl) h0
  refine (limits_law W n0).mono fun e W' ⟨he, hb⟩ => ?_
  subst he
  refine ⟨_, rfl, law_post (t := 4) laidOut dfaLimits_params (by kernel_rfl) Try.underlying4 rfl ?_ hW' hb⟩
  intro ds hds
  match ds, hds with
  | [d0], _ => exact ⟨rfl, rfl, rfl⟩

theorem dfaLimits : Rows.DfaLimitsSaid :=
  OpenClaim.holds_of_wide 6 Try.f6 rfl rfl rfl rfl rfl rfl rfl ⟨rfl, rfl, rfl, rfl, rfl⟩ rfl rfl rfl rfl rfl (by kernel_rfl) Try.func6 (by kernel_rfl)
    (of_decide_eq_true (by kernel_rfl)) (by unfold Func.isWrapper; first | (rw [if_pos (by decide +kernel)]; kernel_rfl) | (rw [if_neg (by decide +kernel)]; exact ⟨rfl, rfl⟩))
    (fun os started H enc _ => dfaLimits_lifted os started H enc)
#print axioms dfaLimits
end Go.Proofs.Yteamokljlcnicaa

