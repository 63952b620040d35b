import Derived.Test.YteamokljlcnicaaEOm
import Derived.Test.YteamokljlcnicaaGA
import Derived.Test.YteamokljlcnicaaKV
import Derived.Test.YteamokljlcnicaaRows
/-
  dfa: Run of a machine. No condition beyond what each theorem names.
-/
set_option linter.unusedVariables false
set_option linter.unusedSimpArgs false
namespace Go.Proofs.Yteamokljlcnicaa
open Go.RowKit Classical

/-- classes that there are -/
def RowOk (classes : Nat) (row : List Int) : Prop := ∀ c ∈ row, 0 ≤ c ∧ c < classes
/-- a row's classes -/
def natsR (row : List Int) : List Nat := row.map Int.toNat
/-- the state behind the first k -/
def stA (N : List (List Nat)) (row : List Int) (k : Nat) : Nat := runN N 0 (natsR (row.take k))
/-- what Run tells -/
def runsN (N : List (List Nat)) (O : List Nat) (row : List Int) : List Nat := (List.range (row.length + 1)).map fun k => at0 O (stA N row k)

theorem runN_snoc (N : List (List Nat)) : ∀ (t : List Nat) (i c : Nat), runN N i (t ++ [c]) = goN N (runN N i t) c
  | [], _, _ => rfl
  | d :: t, i, c => runN_snoc N t (goN N i d) c
theorem stA_succ {N : List (List Nat)} {row : List Int} {k : Nat} (hk : k < row.length) : stA N row (k + 1) = goN N (stA N row k) (row[k]).toNat := by
  unfold stA natsR
  rw [List.take_succ_eq_append_getElem hk, List.map_append, List.map_cons, List.map_nil, runN_snoc]
theorem stA_lt {β : Type} {N : List (List Nat)} {O : List β} {classes : Nat} (h : OkN N O classes) (h0 : 0 < N.length) {row : List Int} (hr : RowOk classes row) : ∀ k, k ≤ row.length → stA N row k < N.length
  | 0, _ => h0
  | k + 1, hk => by
    rw [stA_succ (by omega)]
    have hc := hr row[k] (List.getElem_mem _)
    exact h.go (stA_lt h h0 hr k (by omega)) (by omega)

theorem made_u64 (n : Nat) : madeCells #[Value.int .u64 0] n = (List.replicate n (Value.int .u64 0)).toArray := by
  apply Array.ext
  · simp [madeCells]
  · intro i h1 h2
    have e : i % 1 = 0 := Nat.mod_one i
    simp [madeCells, e]
theorem make_u64 (t : TypeId) (ht : Try.prog.underlying t = some (.slice 50)) (w : World) (c : Int) (n : Nat) (hc : c = n) (hn : n ≤ 1000001) :
    (Instr.makeSlice t (.int .i64 c) (.int .i64 c)).run Try.prog w = .ok (.slice (some ⟨w.heap.size, 0, none⟩) n n) (w.alloc (.cells (List.replicate n (Value.int .u64 0)).toArray 50)) := by
  subst hc
  obtain ⟨i0, hi, hz0, hz1, hz2⟩ := info_parts infoU64
  have := run_make (P := Try.prog) w t 50 i0 (.int .u64 0) ht hi hz0 .i64 .i64 n n (by omega) (by omega) (by rw [hz2]; omega) (by omega)
  rw [hz1] at this
  simp only [Int.toNat_natCast, Nat.mul_one] at this
  rw [this, show (Value.int .u64 0).cells = #[Value.int .u64 0] from rfl, made_u64]

theorem readU {w : World} {g : Nat} {os : List Nat} {n : Nat} (h : VRow w g 50 (os.map fun (o : Nat) => Value.int .u64 o)) (hn : os.length = n) : ReadL u64E 1 w (.slice (some ⟨g, 0, none⟩) n n) os := by
  subst hn
  refine ReadL.block (cs := os.map fun (o : Nat) => Value.int .u64 o) h os (os.map fun (o : Nat) => [Value.int .u64 o]) ?_ rfl (by simp) (fun r hr => ?_) (fun i hi => ⟨_, by simp [hi], rfl⟩)
  · clear h
    induction os with
    | nil => rfl
    | cons x r ih => simp [ih]
  · obtain ⟨o, -, rfl⟩ := List.mem_map.1 hr
    simp [Value.oneCell']

def RunPost (w : World) (classes : Nat) (N : List (List Nat)) (O : List Nat) (row : List Int) (e : Ending) (w' : World) : Prop := Below w.heap.size w w' ∧
  ((RowOk classes row ∧ ∃ v, e = .returned (.tuple #[v, .int .i64 0]) ∧ ReadL u64E 1 w' v (runsN N O row)) ∨ (¬ RowOk classes row ∧ e = .returned (.tuple #[.slice none 0 0, .int .i64 1])))

set_option maxRecDepth 100000 in
set_option maxHeartbeats 8000000 in
theorem run_m (w : World) (ob classes : Nat) (N : List (List Nat)) (O : List Nat) (hM : MachD w ob classes N O) (hok : OkN N O classes) (h0 : 0 < N.length) (v : Value) (row : List Int) (hv : Ints w v row) (hl : row.length ≤ 1000000) :
    Calls Try.prog 22 #[.pointer (some ⟨ob, 0, none⟩), v] w (RunPost w classes N O row) := by
  obtain ⟨nn, hnn⟩ : ∃ nn, nn = N.length := ⟨_, rfl⟩
  obtain ⟨hol, pn, cn, po, co, m0, m1, m2, hcn, hco, hgn, hgo⟩ := hM.get hnn.symm (by rw [← hok.len, hnn])
  obtain ⟨p, cp, rfl, hcp, hx⟩ := hv.get
  have HN := Lib.hid hnn
  have HGN := Lib.hid hgn
  have HGO := Lib.hid hgo
  have HOK := Lib.hid hok
  have HX := Lib.hid hx
  have HM1 := Lib.hid (And.intro m1 m2)
  rw [← hnn] at h0
  have hmt : ∀ (w : World), (Instr.makeSlice 45 (.int .i64 ((row.length : Int) + 1)) (.int .i64 ((row.length : Int) + 1))).run Try.prog w = .ok (.slice (some ⟨w.heap.size, 0, none⟩) (row.length + 1) (row.length + 1)) (w.alloc (.cells (List.replicate (row.length + 1) (Value.int .u64 0)).toArray 50)) := fun w => make_u64 _ Try.underlying45 w _ _ (by omega) (by omega)
  clear hM hok hgn hgo hnn m1 m2 hv hx
  go_enter Try.func22, Try.ntmps22
  go_wp2_with fail
  go_loop [14] (fun i => ∃ k : Nat, i = .int .i64 k ∧ k ≤ row.length ∧ ∀ c ∈ row.take k, 0 ≤ c ∧ c < classes) (fun i => row.length - (intOf i).toNat)
  case atStart => exact ⟨0, rfl, by omega, by simp⟩
  case round =>
    obtain ⟨k, rfl, hk1, hs⟩ := hrel
    have HS := Lib.hid hs
    clear hs
    by_cases hk : k < row.length
    · obtain ⟨b, off, rfl, hb, hx⟩ := HX.out (by omega)
      obtain ⟨c, hc⟩ : ∃ c, c = row[k] := ⟨_, rfl⟩
      have d0 := hx k hk
      rw [← hc] at d0
      have HC := Lib.hid hc
      have hki : (k : Int) < row.length := by omega
      have hk0 : (0 : Int) ≤ k := by omega
      clear hx hc
      by_cases h1 : c < 0
      · have HNO := Lib.hid (show ¬ RowOk classes row from fun h => by have := (h c (by rw [HC.out]; exact List.getElem_mem hk)).1; omega)
        go_wp2_with fail
        go_ret2
        exact ⟨Below.refl _ _, .inr ⟨HNO.out, rfl⟩⟩
      · by_cases h2 : c < classes
        · have HS2 := Lib.hid (show ∀ c ∈ row.take (k + 1), 0 ≤ c ∧ c < classes from fun x hx => by
            rw [List.take_succ_eq_append_getElem hk] at hx
            rcases List.mem_append.1 hx with hx | hx
            · exact HS.out x hx
            · rw [List.mem_singleton.1 hx, ← HC.out]; omega)
          go_wp2_with fail
          go_round
          case rel => exact ⟨k + 1, by go_num, by omega, HS2.out⟩
          case measure => simp [intOf]; omega
        · have HNO := Lib.hid (show ¬ RowOk classes row from fun h => by have := (h c (by rw [HC.out]; exact List.getElem_mem hk)).2; omega)
          go_wp2_with fail
          go_ret2
          exact ⟨Below.refl _ _, .inr ⟨HNO.out, rfl⟩⟩
    · have hki : ¬ (k : Int) < row.length := by omega
      have HRO := Lib.hid (show RowOk classes row by have := HS.out; rwa [List.take_of_length_le (by omega)] at this)
      go_upto_region 8 with fail
      refine abs_wp fun W hW => ?_
      obtain ⟨g, hg⟩ : ∃ g, g = w.heap.size := ⟨_, rfl⟩
      have hal := below_alloc1 w (.cells (List.replicate (row.length + 1) (Value.int .u64 0)).toArray 50)
      have hW2 : W = w.alloc (.cells (List.replicate (row.length + 1) (Value.int .u64 0)).toArray 50) := by rw [hW]; simp
      have HV1 := Lib.hid (show VRow W g 50 (List.replicate (row.length + 1) (Value.int .u64 0)) by rw [hW2, hg]; exact heap_alloc_new _ _)
      have HB1 := Lib.hid (show Below w.heap.size w W by rw [hW2]; exact hal)
      have hg0 : w.heap.size ≤ g := by omega
      rw [← hg]
      clear hW hW2 hal hg
      have og : ∀ s, s < nn → ∃ b off, po = some ⟨b, off, none⟩ ∧ b < w.heap.size ∧ w.cell? ⟨b, off + s, none⟩ = some (.int .u64 (at0 O s : Nat)) := fun s hs => by
        have hsO : s < O.length := by rw [← HOK.out.len, ← HN.out]; exact hs
        refine HGO.out s (at0 O s) ?_
        unfold at0
        rw [List.getElem?_eq_getElem hsO]
        rfl
      have HOG := Lib.hid og
      obtain ⟨bo, oo, rfl, hbo, e0⟩ := og 0 h0
      obtain ⟨a0, ha0⟩ : ∃ a0, a0 = at0 O 0 := ⟨_, rfl⟩
      rw [← ha0] at e0
      have HA0 := Lib.hid ha0
      have e1 := cell_below HB1.out hbo e0
      have e2 := cell_below HB1.out hol HM1.out.2
      simp only [Nat.add_zero] at e1
      have z0 := HV1.out.cell (i := 0) (u := .int .u64 0) (by simp)
      have z1 := HV1.out.fz 0
      clear og ha0 e0
      go_upto_region 10 with fail
      refine abs_wp fun W2 hW2 => ?_
      have HV2 := Lib.hid (show VRow W2 g 50 ((((List.range (0 + 1)).map fun j => at0 O (stA N row j)).map fun (o : Nat) => Value.int .u64 o) ++ List.replicate (row.length - 0) (.int .u64 0)) by
        have h := HV1.out.set 0 (.int .u64 (a0 : Nat))
        rw [hW2]
        have e : (List.replicate (row.length + 1) (Value.int .u64 0)).set 0 (.int .u64 (a0 : Nat)) = ((((List.range (0 + 1)).map fun j => at0 O (stA N row j)).map fun (o : Nat) => Value.int .u64 o) ++ List.replicate (row.length - 0) (.int .u64 0)) := by
          rw [List.replicate_succ, List.set_cons_zero, HA0.out]
          rfl
        rw [e] at h
        exact h)
      have HB2 := Lib.hid (show Below w.heap.size w W2 by rw [hW2]; exact HB1.out.trans ((Fr.setCell (F := fun k => k = g) W rfl _).below HB1.out.size (fun k (hk : k = g) => by omega)))
      clear hW2 e1 e2 z0 z1
      go_wp2_with fail
      go_loopw [9, 44] (fun st i w1 => ∃ k : Nat, i = .int .i64 k ∧ k ≤ row.length ∧ st = .int .i64 (stA N row k : Nat) ∧ VRow w1 g 50 ((((List.range (k + 1)).map fun j => at0 O (stA N row j)).map fun (o : Nat) => Value.int .u64 o) ++ List.replicate (row.length - k) (.int .u64 0)) ∧ Below w.heap.size w w1) (fun _ i _ => row.length - (intOf i).toNat)
      case atStart => exact ⟨0, rfl, by omega, rfl, HV2.out, HB2.out⟩
      case round =>
        obtain ⟨k2, rfl, hk2, rfl, hv, hb⟩ := hrel
        have HV := Lib.hid hv
        have HB := Lib.hid hb
        clear hv
        by_cases hkk : k2 < row.length
        · obtain ⟨b, off, rfl, hbx, hx⟩ := HX.out (by omega)
          have hcr := HRO.out row[k2] (List.getElem_mem hkk)
          obtain ⟨c, hc⟩ : ∃ c : Nat, row[k2] = c := ⟨(row[k2]).toNat, by omega⟩
          have d0 := cell_below hb hbx (hx k2 hkk)
          rw [hc] at d0 hcr
          have hss := stA_lt HOK.out (by rw [← HN.out]; exact h0) HRO.out k2 hk2
          have hsn := stA_succ (N := N) hkk
          rw [hc, Int.toNat_natCast] at hsn
          obtain ⟨s, hs⟩ : ∃ s, s = stA N row k2 := ⟨_, rfl⟩
          obtain ⟨s2, hs2⟩ : ∃ s2, s2 = stA N row (k2 + 1) := ⟨_, rfl⟩
          have HS := Lib.hid hs
          have HS2 := Lib.hid hs2
          rw [← hs] at hss hsn ⊢
          rw [← hs2] at hsn
          have hc2 : c < classes := by omega
          have hs2l : s2 < nn := by rw [hsn, HN.out]; exact HOK.out.go hss hc2
          obtain ⟨r, hr⟩ : ∃ r, r = N[s] := ⟨_, rfl⟩
          have hrow := HOK.out.row r (by rw [hr]; exact List.getElem_mem hss)
          obtain ⟨bn, on, rv, rfl, hbn, d1, hrv⟩ := HGN.out s r (by rw [hr]; exact List.getElem?_eq_getElem hss)
          obtain ⟨pr, cr, rfl, hcr2, hrc⟩ := hrv.get
          have hrl : (natsI r).length = classes := by unfold natsI; rw [List.length_map]; exact hrow.1
          rw [hrl] at d1 hcr2
          obtain ⟨b2, o2, rfl, hb2l, hrc⟩ := hrc (by rw [hrl]; omega)
          have hcl : c < r.length := by rw [hrow.1]; exact hc2
          have hs2e : s2 = r[c] := by
            have h1 : N[s]? = some r := by rw [hr]; exact List.getElem?_eq_getElem hss
            rw [hsn]
            unfold goN
            rw [h1]
            show at0 r c = _
            unfold at0
            rw [List.getElem?_eq_getElem hcl]
            rfl
          have d3 : w.cell? ⟨b2, o2 + c, none⟩ = some (.int .i64 (s2 : Nat)) := by
            rw [hrc c (by rw [hrl]; exact hc2), hs2e]
            simp [natsI]
          obtain ⟨bo', oo', ho', hbo', d4⟩ := HOG.out s2 hs2l
          injection ho' with ho'
          injection ho' with ho1 ho2
          subst ho1 ho2
          obtain ⟨az, haz⟩ : ∃ az, az = at0 O s2 := ⟨_, rfl⟩
          rw [← haz] at d4
          have HAZ := Lib.hid haz
          have x1 := cell_below hb hbn d1
          have x3 := cell_below hb hb2l d3
          have x4 := cell_below hb hbo' d4
          have x5 := cell_below hb hol HM1.out.1
          have x6 := cell_below hb hol HM1.out.2
          have hsl : s < nn := by rw [HN.out]; exact hss
          have hsi : (s : Int) < nn := by omega
          have hs0 : (0 : Int) ≤ s := by omega
          have hs2i : (s2 : Int) < nn := by omega
          have hs20 : (0 : Int) ≤ s2 := by omega
          have hci : (c : Int) < classes := by omega
          have hc0 : (0 : Int) ≤ c := by omega
          have hki2 : (k2 : Int) < row.length := by omega
          have hki3 : (k2 : Int) + 1 < ((row.length + 1 : Nat) : Int) := by omega
          have hk20 : (0 : Int) ≤ k2 := by omega
          have hk21 : (0 : Int) ≤ (k2 : Int) + 1 := by omega
          have hnt : ((k2 : Int) + 1).toNat = k2 + 1 := by omega
          have hfl : (((List.range (k2 + 1)).map fun j => at0 O (stA N row j)).map fun (o : Nat) => Value.int .u64 o).length = k2 + 1 := by simp
          have z0 := HV.out.cell (i := k2 + 1) (u := .int .u64 0) (by rw [List.getElem?_append_right (by omega), hfl, Nat.sub_self, List.getElem?_replicate, if_pos (by omega)])
          have z1 := HV.out.fz (k2 + 1)
          have HFS := Lib.hid (fill_set (((List.range (k2 + 1)).map fun j => at0 O (stA N row j)).map fun (o : Nat) => Value.int .u64 o) (row.length - k2) (.int .u64 (az : Nat)) (.int .u64 0) hfl (by omega))
          clear hx hc hcr hs hs2 hsn hr hrow hrv hrl hrc hs2e d1 d3 d4 haz hfl hb hcl
          go_upto_region 15 with fail
          refine abs_wp fun W3 hW3 => ?_
          have HV3 := Lib.hid (show VRow W3 g 50 ((((List.range (k2 + 1 + 1)).map fun j => at0 O (stA N row j)).map fun (o : Nat) => Value.int .u64 o) ++ List.replicate (row.length - (k2 + 1)) (.int .u64 0)) by
            have h := HV.out.set (k2 + 1) (.int .u64 (az : Nat))
            rw [HFS.out] at h
            rw [hW3, List.range_succ, List.map_append, List.map_append, show row.length - (k2 + 1) = row.length - k2 - 1 by omega]
            have e : ([k2 + 1].map fun j => at0 O (stA N row j)).map (fun (o : Nat) => Value.int .u64 o) = [Value.int .u64 (az : Nat)] := by rw [HAZ.out, HS2.out]; rfl
            rw [e]
            exact h)
          have HB3 := Lib.hid (show Below w.heap.size w W3 by rw [hW3]; exact HB.out.trans ((Fr.setCell (F := fun k => k = g) wr rfl _).below HB.out.size (fun k (hk : k = g) => by omega)))
          clear hW3 z0 z1 d0 x1 x3 x4 x5 x6
          go_wp2_with fail
          go_roundw
          case rel => exact ⟨k2 + 1, by go_num, by omega, by rw [HS2.out], HV3.out, HB3.out⟩
          case measure => simp [intOf]; omega
        · have hkk2 : ¬ (k2 : Int) < row.length := by omega
          obtain rfl : row.length = k2 := by omega
          have HV9 := Lib.hid (show VRow wr g 50 ((runsN N O row).map fun (o : Nat) => Value.int .u64 o) by
            have := HV.out
            rw [Nat.sub_self, List.replicate_zero, List.append_nil] at this
            exact this)
          have HL9 := Lib.hid (show (runsN N O row).length = row.length + 1 by unfold runsN; simp)
          go_wp2_with fail
          go_ret2
          exact ⟨HB.out, .inl ⟨HRO.out, _, rfl, readU HV9.out HL9.out⟩⟩
end Go.Proofs.Yteamokljlcnicaa

/-
  foolscaplaw08: what must be in any case. No condition beyond what each theorem names.
-/
set_option linter.unusedVariables false
set_option linter.unusedSimpArgs false
namespace Go.Proofs.Yteamokljlcnicaa
open Go.RowKit Classical

theorem set8_any (w : World) (v : Value) (cls : List Int) (hv : Ints w v cls) (hb : cls.length * 8 ≤ R) : Calls Try.prog 21 #[v] w fun e w' =>
    e = .returned (.agg #[.int .i64 1, v, .slice none 0 0]) ∧ NodeIs w' (.mk 1 cls []) (.int .i64 1) v (.slice none 0 0) ∧ Below w.heap.size w w' := by
  obtain ⟨p, c, rfl, -, -⟩ := hv.get
  have HV := Lib.hid hv
  clear hv
  go_enter Try.func21, Try.ntmps21
  go_wp2
  have hbe : Below w.heap.size w (w.alloc (.cells #[.int .i64 1, .slice p cls.length c, .slice none 0 0] 38)) := below_alloc1 _ _
  refine bodyPost_ret (v := .agg #[.int .i64 1, .slice p cls.length c, .slice none 0 0]) (by simp [results, Try.results21, go_sem]) rfl ⟨rfl, ?_, ?_⟩
  · rw [nodeIs_iff]
    exact ⟨rfl, HV.out.to hbe (Nat.le_refl _), hb, by unfold R; simp, [], ⟨by simp, none, 0, rfl, by simp, fun h => by simp at h⟩, rfl, fun i h => by simp at h⟩
  · exact hbe

theorem x0_arg : ArgOk 2 [(x0, false)] := ⟨by omega, by omega, by simp, fun x hx => by
  rw [List.mem_singleton.1 hx]
  exact ⟨x0_right, by simp [x0, insideB, insideL]⟩⟩

set_option maxRecDepth 100000 in
set_option maxHeartbeats 8000000 in
theorem shown8 (w : World) : Calls Try.prog 12 #[] w (Says true w) := by
  go_enter Try.func12, Try.ntmps12
  go_wp2_with fail
  have hal := below_alloc1 w (.cells #[.int .i64 0] 3)
  have HAL := Lib.hid hal
  refine (set8_any _ _ [0] (Raw.of_block (cs := [.int .i64 0]) (heap_alloc_new w _)) (by unfold R; simp)).mono ?_
  rintro e w1 ⟨rfl, hn1, hb1⟩
  have HB1 := Lib.hid (HAL.out.trans (hb1.mono HAL.out.size))
  have HN1 := Lib.hid hn1
  clear hal hn1 hb1
  have hal1 := below_alloc1 w1 (.cells #[.int .i64 1, .slice (some ⟨w.heap.size, 0, none⟩) 1 1, .slice none 0 0, .bool false] 40)
  have HAL1 := Lib.hid hal1
  have HE := Lib.hid (show ReadL (exprE (w1.alloc (.cells #[.int .i64 1, .slice (some ⟨w.heap.size, 0, none⟩) 1 1, .slice none 0 0, .bool false] 40))) 4 (w1.alloc (.cells #[.int .i64 1, .slice (some ⟨w.heap.size, 0, none⟩) 1 1, .slice none 0 0, .bool false] 40)) (.slice (some ⟨w1.heap.size, 0, none⟩) 1 1) [(x0, false)] from
    ReadL.one w1 _ (x0, false) [.int .i64 1, .slice (some ⟨w.heap.size, 0, none⟩) 1 1, .slice none 0 0, .bool false] ⟨rfl, by simp [Value.oneCell']⟩ ⟨_, _, _, rfl, HN1.out.to hal1 (Nat.le_refl _)⟩)
  have HBU := Lib.hid (build_any _ _ [(x0, false)] 2 HE.out (by simp))
  clear hal1
  go_wp2_with fail
  refine HBU.out.mono ?_
  rintro e w2 ⟨hb2, hcase⟩
  have HB2 := Lib.hid (HB1.out.trans ((HAL1.out.trans (hb2.mono HAL1.out.size)).mono HB1.out.size))
  have hcase2 : ∃ ob, e = .returned (.tuple #[.pointer (some ⟨ob, 0, none⟩), .int .i64 0]) ∧ MachD w2 ob 2 [[1, 0], [1, 0]] [0, 1] := by
    rcases hcase with ⟨h, -⟩ | ⟨-, h, -⟩ | ⟨-, ob, N, O, -, h, he, hm⟩
    · exact absurd x0_arg h
    · have := built_det h built_x0
      cases this
    · have h1 := Option.some.inj (built_det h built_x0)
      obtain ⟨h2, h3⟩ := Prod.mk.inj h1
      have h4 : O = [0, 1] := by
        have : O.map some = [0, 1].map some := h3
        exact (List.map_inj_right (fun x y h => Option.some.inj h)).1 this
      rw [h2, h4] at hm
      exact ⟨ob, he, hm⟩
  obtain ⟨ob, rfl, hmd⟩ := hcase2
  have HMD := Lib.hid hmd
  clear hcase hb2 hmd
  have HBU2 := Lib.hid (build_any w2 (.slice none 0 0) [] 0 ⟨[], ⟨none, 0, rfl, by simp, fun h => by simp at h⟩, rfl, by simp, fun i h => by simp at h⟩ (by simp))
  go_wp2_with fail
  refine HBU2.out.mono ?_
  rintro e w3 ⟨hb3, hcase⟩
  have HB3 := Lib.hid (HB2.out.trans (hb3.mono HB2.out.size))
  have HMD3 := Lib.hid (HMD.out.to hb3)
  have hno : ¬ ArgOk 0 ([] : List (Nd × Bool)) := by rintro ⟨h, -⟩; omega
  rcases hcase with ⟨-, rfl⟩ | ⟨h, -⟩ | ⟨h, -⟩
  · obtain ⟨hol, pn, cn, po, co, m0, m1, m2, -, -, hgn, hgo⟩ := HMD3.out.get (nn := 2) rfl rfl
    obtain ⟨bn, on, v0, rfl, -, n0, i0⟩ := hgn 0 _ rfl
    obtain ⟨bn', on', v1, hb, -, n1, i1⟩ := hgn 1 _ rfl
    injection hb with hb
    injection hb with e1 e2
    subst e1 e2
    obtain ⟨bo, oo, rfl, -, o0⟩ := hgo 0 _ rfl
    obtain ⟨bo', oo', hb, -, o1⟩ := hgo 1 _ rfl
    injection hb with hb
    injection hb with e1 e2
    subst e1 e2
    obtain ⟨q0, c0, rfl, -, j0⟩ := i0.get
    obtain ⟨b0, k0, rfl, -, j0⟩ := j0 (by simp [natsI])
    have a0 := j0 0 (by simp [natsI])
    have a1 := j0 1 (by simp [natsI])
    have hok : OkN [[1, 0], [1, 0]] [0, 1] 2 := ⟨rfl, fun r hr => by
      simp at hr
      subst hr
      exact ⟨rfl, fun n hn => by simp at hn; rcases hn with rfl | rfl <;> simp⟩⟩
    have HS1 := Lib.hid (step_m w3 ob 2 _ _ HMD3.out hok 1 0)
    have HS2 := Lib.hid (step_m w3 ob 2 _ _ HMD3.out hok 1 1)
    have HS3 := Lib.hid (step_m w3 ob 2 _ _ HMD3.out hok 5 0)
    have HS4 := Lib.hid (step_m w3 ob 2 _ _ HMD3.out hok 0 (-1))
    rw [show stepI [[1, 0], [1, 0]] 2 1 0 = 1 by decide] at HS1
    rw [show stepI [[1, 0], [1, 0]] 2 1 1 = 0 by decide] at HS2
    rw [show stepI [[1, 0], [1, 0]] 2 5 0 = 0 by decide] at HS3
    rw [show stepI [[1, 0], [1, 0]] 2 0 (-1) = 0 by decide] at HS4
    have hbd : Bd [[1, 0], [1, 0]] [0, 1] := ⟨by simp, by simp, fun r hr => by simp at hr; subst hr; simp⟩
    have HEQ := Lib.hid (equal_m w3 ob ob 2 2 _ _ _ _ HMD3.out HMD3.out hbd hbd)
    rw [show decide (2 = 2 ∧ ([0, 1] : List Nat) = [0, 1] ∧ ([[1, 0], [1, 0]] : List (List Nat)) = [[1, 0], [1, 0]]) = true from decide_eq_true ⟨rfl, rfl, rfl⟩] at HEQ
    simp only [natsI, List.map_cons, List.map_nil, List.getElem_cons_zero, List.getElem_cons_succ, List.length_cons, List.length_nil, Nat.add_zero] at n0 n1 o0 o1 a0 a1
    clear hgn hgo hno hb3 hok hbd i0 i1 j0
    go_wp2_with fail
    refine HS1.out.mono ?_
    rintro e wz ⟨rfl, rfl⟩
    go_wp2_with fail
    refine HS2.out.mono ?_
    rintro e wz ⟨rfl, rfl⟩
    go_wp2_with fail
    refine HS3.out.mono ?_
    rintro e wz ⟨rfl, rfl⟩
    go_wp2_with fail
    refine HS4.out.mono ?_
    rintro e wz ⟨rfl, rfl⟩
    go_wp2_with fail
    refine HEQ.out.mono ?_
    rintro e w9 ⟨rfl, hb9⟩
    have HB9 := Lib.hid (HB3.out.trans (hb9.mono HB3.out.size))
    clear hb9
    go_wp2_with fail
    go_ret
    exact ⟨rfl, HB9.out⟩
  · exact absurd h hno
  · exact absurd h hno
end Go.Proofs.Yteamokljlcnicaa

/-
  DfaBeginnings: what comes later does not matter. No condition beyond what each theorem names.
-/
set_option linter.unusedVariables false
set_option linter.unusedSimpArgs false
namespace Go.Proofs.Yteamokljlcnicaa
open Go.RowKit Classical

theorem OwnL.exprs {base : Nat} {w w' : World} {T : TypeId} {v : Value} {L : List (Nd × Bool)} (h : OwnL (exprE w) T 4 base w' v L) (hb : Below w.heap.size w w') : ReadL (exprE w') 4 w' v L :=
  h.read.monoE (fun x r hr => by
    obtain ⟨a, b, c, rfl, hn⟩ := hr
    exact ⟨a, b, c, rfl, hn.to hb (Nat.le_refl _)⟩)

theorem stA_take (N : List (List Nat)) (row : List Int) {k j : Nat} (h : j ≤ k) : stA N (row.take k) j = stA N row j := by
  unfold stA
  rw [List.take_take, Nat.min_eq_left h]
theorem runs_get {N : List (List Nat)} {O : List Nat} {row : List Int} {k : Nat} (h : k ≤ row.length) : (runsN N O row)[k]? = some (at0 O (stA N row k)) := by
  unfold runsN
  rw [List.getElem?_map, List.getElem?_range (by omega)]
  rfl
theorem runs_length (N : List (List Nat)) (O : List Nat) (row : List Int) : (runsN N O row).length = row.length + 1 := by unfold runsN; simp
theorem stepI_st {β : Type} {N : List (List Nat)} {O : List β} {classes : Nat} (h : OkN N O classes) (h0 : 0 < N.length) {row : List Int} (hr : RowOk classes row) {k : Nat} (hk : k < row.length) : stepI N classes (stA N row k : Nat) row[k] = stA N row (k + 1) := by
  have h1 := stA_lt h h0 hr k (by omega)
  have h2 := hr row[k] (List.getElem_mem hk)
  unfold stepI
  rw [if_pos (by omega), Int.toNat_natCast, stA_succ hk]
theorem RowOk.take {classes : Nat} {row : List Int} (h : RowOk classes row) (k : Nat) : RowOk classes (row.take k) := fun c hc => h c (List.mem_of_mem_take hc)

set_option maxRecDepth 100000 in
set_option maxHeartbeats 8000000 in
theorem beginnings_law (w : World) (n : Int) (v : Value) (l : List (Nd × Bool)) (v2 : Value) (t : List Int) (at_ : Int) (hv : ReadL (exprE w) 4 w v l) (hl : l.length ≤ maxLen) (hv2 : Ints w v2 t) (hn : t.length ≤ 9223372036854775807) :
    Calls Try.prog 11 #[.int .i64 n, v, v2, .int .i64 at_] w (Says true w) := by
  obtain ⟨p, cp, rfl, -, -⟩ := hv.at (by decide) rfl
  obtain ⟨pt, ct, rfl, hct, hxt⟩ := hv2.get
  have HL := Lib.hid hv
  have HV := Lib.hid hv2
  have HLL := Lib.hid hl
  clear hv hv2 hxt hl
  go_enter Try.func11, Try.ntmps11
  go_wp2_with fail
  refine (shown8 w).mono ?_
  rintro e w1 ⟨rfl, hb1⟩
  have HB1 := Lib.hid hb1
  clear hb1
  obtain ⟨row, hrow⟩ : ∃ row, row = t.take 30 := ⟨_, rfl⟩
  have hrl : row.length = min t.length 30 := by rw [hrow, List.length_take, Nat.min_comm]
  go_upto_region 2 with fail
  go_cut [2] (fun rv wx => Ints w rv row ∧ wx = w1)
  case first =>
    cases pt with
    | none =>
      have h0 : t = [] := by
        obtain ⟨p', c', he, -, hx⟩ := HV.out
        injection he with he1 he2 he3
        subst he1
        cases t with
        | nil => rfl
        | cons x r => obtain ⟨b, off, e, -⟩ := hx (by simp); cases e
      subst h0
      have HI := Lib.hid (show Ints w (.slice none 0 ct) row by rw [hrow]; exact HV.out)
      clear hrow hrl
      go_wp2_with fail
      go_meet
      case rel => exact ⟨HI.out, rfl⟩
    | some ad =>
      by_cases h40 : t.length ≤ 30
      · have h41 : ¬ (30 : Int) < t.length := by omega
        have HI := Lib.hid (show Ints w (.slice (some ad) (min (t.length : Int) 30).toNat ct) row by rw [hrow, List.take_of_length_le h40, show (min (t.length : Int) 30).toNat = t.length by omega]; exact HV.out)
        clear hrow hrl
        go_wp2_with fail
        go_meet
        case rel => exact ⟨HI.out, rfl⟩
      · have h41 : (30 : Int) < t.length := by omega
        have HI := Lib.hid (show Ints w (.slice (some ad) (min (t.length : Int) 30).toNat ct) row by rw [hrow, show (min (t.length : Int) 30).toNat = 30 by omega]; exact HV.out.take (by omega))
        clear hrow hrl
        go_wp2_with fail
        go_meet
        case rel => exact ⟨HI.out, rfl⟩
  case rest =>
    obtain ⟨hi, rfl⟩ := hcut
    obtain ⟨pr, cr, rfl, hcr, hxr⟩ := hi.get
    have hr30 : row.length ≤ 30 := by omega
    have HI := Lib.hid hi
    have HXR := Lib.hid hxr
    have HFEW := Lib.hid (few_law wc (.slice p l.length cp) l ((HL.out.below HB1.out (Nat.le_refl _)).monoE (fun x r hr => by
      obtain ⟨a, b, c, rfl, hn⟩ := hr
      exact ⟨a, b, c, rfl, hn.to HB1.out (Nat.le_refl _)⟩)) HLL.out)
    obtain ⟨L, hL⟩ : ∃ L, L = fewL l := ⟨_, rfl⟩
    rw [← hL] at HFEW
    have hL8 : L.length ≤ 8 := by rw [hL]; exact fewL_length l
    clear hi hxr hrow hrl hL
    go_wp2_with fail
    refine HFEW.out.mono ?_
    rintro e w2 ⟨va, vb, rfl, hoa, hob, hb2⟩
    have HB2 := Lib.hid (HB1.out.trans (hb2.mono HB1.out.size))
    have HBU := Lib.hid (build_any w2 va L n (hoa.exprs hb2) (by omega))
    obtain ⟨pa, ca, hva⟩ := hoa.form
    subst hva
    obtain ⟨pb, cb, hvb⟩ := hob.form
    subst hvb
    clear hb2 hoa hob
    go_wp2_with fail
    refine HBU.out.mono ?_
    rintro e w3 ⟨hb3, hcase⟩
    have HB3 := Lib.hid (HB2.out.trans (hb3.mono HB2.out.size))
    clear hb3
    rcases hcase with ⟨-, rfl⟩ | ⟨-, -, rfl⟩ | ⟨hao, ob, N, O, -, hbu, rfl, hmd⟩
    · go_wp2_with fail
      go_ret
      exact ⟨rfl, HB3.out⟩
    · go_wp2_with fail
      go_ret
      exact ⟨rfl, HB3.out⟩
    · obtain ⟨hok, hpos, h400, -⟩ := built_bits (fun e he => (hao.2.2.2 e he).1) hbu
      obtain ⟨cn, hcn⟩ : ∃ cn, cn = n.toNat := ⟨_, rfl⟩
      rw [← hcn] at hmd hok
      have HMD := Lib.hid hmd
      have HOK := Lib.hid hok
      have HPOS := Lib.hid hpos
      have HRUN := Lib.hid (run_m w3 ob cn N O hmd hok hpos _ row (HI.out.to HB3.out (Nat.le_refl _)) (by omega))
      have h400' := h400
      clear hao hbu hmd hok hpos hcn h400
      go_wp2_with fail
      refine HRUN.out.mono ?_
      rintro e w4 ⟨hb4, hcase⟩
      have HB4 := Lib.hid (HB3.out.trans (hb4.mono HB3.out.size))
      have HMD4 := Lib.hid (HMD.out.to hb4)
      clear hb4
      rcases hcase with ⟨hro, vo, rfl, hvo⟩ | ⟨-, rfl⟩
      · obtain ⟨po, co, rfl, hco, hgo⟩ := hvo.at (by decide) (runs_length N O row)
        have HRO := Lib.hid hro
        have HGO := Lib.hid hgo
        have HBIT := Lib.hid (bits_and_le at_ 65535 (by omega))
        clear hro hvo hgo
        obtain ⟨k, hk, hkl⟩ : ∃ k : Nat, (bits .and .i64 at_ 65535).tmod ((row.length : Int) + 1) = k ∧ k ≤ row.length := by
          have h1 : 0 ≤ bits .and .i64 at_ 65535 := HBIT.out.1
          have h2 := Int.tmod_lt_of_pos (bits .and .i64 at_ 65535) (show (0 : Int) < (row.length : Int) + 1 by omega)
          have h3 := Int.tmod_nonneg ((row.length : Int) + 1) h1
          exact ⟨((bits .and .i64 at_ 65535).tmod ((row.length : Int) + 1)).toNat, by omega, by omega⟩
        go_upto_region 11 with fail
        have hki : (k : Int) ≤ row.length := by omega
        have hk0 : (0 : Int) ≤ k := by omega
        have HIT := Lib.hid ((HI.out.to HB4.out (Nat.le_refl _)).take hkl)
        have HTL := Lib.hid (show (row.take k).length = k by rw [List.length_take]; omega)
        have HRUN2 := Lib.hid (run_m w4 ob cn N O HMD4.out HOK.out HPOS.out _ (row.take k) HIT.out (by rw [HTL.out]; omega))
        clear hk HBIT
        go_cut [17, 18] (fun v e wx => e = .int .i64 0 ∧ ReadL u64E 1 wx v (runsN N O (row.take k)) ∧ Below w4.heap.size w4 wx)
        case first =>
          cases pr with
          | none =>
            have hr0 : row.length = 0 := by
              by_cases h : 0 < row.length
              · obtain ⟨b, off, h, -⟩ := HXR.out h
                cases h
              · omega
            have HR0 := Lib.hid hr0
            obtain rfl : k = 0 := by omega
            clear hr0 hki hk0
            go_wp2_with fail
            refine HRUN2.out.mono ?_
            rintro e w5 ⟨hb5, hcase⟩
            rcases hcase with ⟨-, v5, rfl, hv5⟩ | ⟨hno, -⟩
            · have HV5 := Lib.hid hv5
              have HB5 := Lib.hid hb5
              clear hv5 hb5
              go_wp2_with fail
              go_meet
              case rel => exact ⟨rfl, HV5.out, HB5.out⟩
            · exact (hno (HRO.out.take 0)).elim
          | some ad =>
            go_wp2_with fail
            refine HRUN2.out.mono ?_
            rintro e w5 ⟨hb5, hcase⟩
            rcases hcase with ⟨-, v5, rfl, hv5⟩ | ⟨hno, -⟩
            · have HV5 := Lib.hid hv5
              have HB5 := Lib.hid hb5
              clear hv5 hb5
              go_wp2_with fail
              go_meet
              case rel => exact ⟨rfl, HV5.out, HB5.out⟩
            · exact (hno (HRO.out.take k)).elim
        case rest =>
          obtain ⟨rfl, hv5, hb5⟩ := hcut
          obtain ⟨p5, c5, rfl, hc5, hg5⟩ := hv5.at (by decide) (show _ = k + 1 by rw [runs_length, HTL.out])
          have HB5 := Lib.hid hb5
          have HREAD := Lib.hid (show ∀ W, Below wc.heap.size wc W → ∀ j : Nat, j ≤ k → ∃ b off b' off', p5 = some ⟨b, off, none⟩ ∧ po = some ⟨b', off', none⟩ ∧ W.cell? ⟨b, off + j, none⟩ = some (.int .u64 (at0 O (stA N row j) : Nat)) ∧ W.cell? ⟨b', off' + j, none⟩ = some (.int .u64 (at0 O (stA N row j) : Nat)) from fun W hW j hj => by
            have e1 := runs_get (N := N) (O := O) (row := row.take k) (k := j) (by rw [HTL.out]; exact hj)
            rw [stA_take N row hj] at e1
            obtain ⟨b, off, r, rfl, hbl, hc, rfl⟩ := hg5 j _ e1
            obtain ⟨b', off', r', rfl, hbl', hc', rfl⟩ := HGO.out j _ (runs_get (by omega))
            have d1 := hc 0 _ rfl
            have d2 := hc' 0 _ rfl
            simp only [Nat.mul_one, Nat.add_zero] at d1 d2
            exact ⟨b, off, b', off', rfl, rfl, cell_below hW hbl d1, cell_below (hb5.trans (hW.mono hb5.size)) hbl' d2⟩)
          have HREAD2 := Lib.hid (show ∀ W, Below wc.heap.size wc W → ∀ j : Nat, j ≤ row.length → ∃ b' off', po = some ⟨b', off', none⟩ ∧ W.cell? ⟨b', off' + j, none⟩ = some (.int .u64 (at0 O (stA N row j) : Nat)) from fun W hW j hj => by
            obtain ⟨b', off', r', rfl, hbl', hc', rfl⟩ := HGO.out j _ (runs_get hj)
            have d2 := hc' 0 _ rfl
            simp only [Nat.mul_one, Nat.add_zero] at d2
            exact ⟨b', off', rfl, cell_below (hb5.trans (hW.mono hb5.size)) hbl' d2⟩)
          have HROW := Lib.hid (show ∀ W, Below wc.heap.size wc W → ∀ j : Nat, (h : j < row.length) → ∃ b off, pr = some ⟨b, off, none⟩ ∧ W.cell? ⟨b, off + j, none⟩ = some (.int .i64 row[j]) from fun W hW j hj => by
            obtain ⟨b, off, rfl, hb, hx⟩ := HXR.out (by omega)
            exact ⟨b, off, rfl, cell_below ((HB4.out.trans (hb5.mono HB4.out.size)).trans (hW.mono (Nat.le_trans HB4.out.size hb5.size))) hb (hx j hj)⟩)
          have HMDW := Lib.hid (show ∀ W, Below wc.heap.size wc W → MachD W ob cn N O from fun W hW => (HMD4.out.to hb5).to hW)
          have HBW := Lib.hid (show ∀ W, Below wc.heap.size wc W → Below w.heap.size w W from fun W hW => (HB4.out.trans (hb5.mono HB4.out.size)).trans (hW.mono (Nat.le_trans HB4.out.size hb5.size)))
          clear hv5 hb5 hg5 HIT HRUN2 HRUN HFEW HBU
          have hki : (k : Int) ≤ row.length := by omega
          go_wp2_with fail
          go_loopw [19, 20] (fun st i wz => ∃ j : Nat, i = .int .i64 j ∧ j ≤ k ∧ st = .int .i64 (stA N row j : Nat) ∧ Below wc.heap.size wc wz) (fun _ i _ => k - (intOf i).toNat)
          case atStart => exact ⟨0, rfl, by omega, rfl, Below.refl _ _⟩
          case round =>
            obtain ⟨j, rfl, hj, rfl, hb⟩ := hrel
            have HB := Lib.hid hb
            by_cases hjk : j < k
            · obtain ⟨b, off, b', off', rfl, rfl, d1, d2⟩ := HREAD.out _ hb j hj
              obtain ⟨o, ho⟩ : ∃ o, o = at0 O (stA N row j) := ⟨_, rfl⟩
              rw [← ho] at d1 d2
              obtain ⟨s, hs⟩ : ∃ s, s = stA N row j := ⟨_, rfl⟩
              rw [← hs]
              have HS := Lib.hid hs
              have hji : (j : Int) < k := by omega
              have hjr : j < row.length := by omega
              have hjri : (j : Int) < row.length := by omega
              have hji2 : (j : Int) < (k : Int) + 1 := by omega
              have hji3 : (j : Int) < (row.length : Int) + 1 := by omega
              have hj0 : (0 : Int) ≤ j := by omega
              clear hb ho hs
              go_upto_region 18 with fail
              go_quiet (fail)
              go_upto_region 20 with fail
              refine abs_wp fun W2 hW2 => ?_
              have HB2 := Lib.hid (show Below wc.heap.size wc W2 by rw [hW2]; exact ⟨HB.out.os, HB.out.tape, HB.out.output, HB.out.size, HB.out.block⟩)
              clear hW2 d1 d2
              obtain ⟨br, offr, rfl, d3⟩ := HROW.out W2 HB2.out j hjr
              have HSTEP := Lib.hid (step_m W2 ob cn N O (HMDW.out W2 HB2.out) HOK.out (s : Nat) row[j])
              rw [HS.out, stepI_st HOK.out HPOS.out HRO.out hjr, ← HS.out] at HSTEP
              obtain ⟨c, hc⟩ : ∃ c, c = row[j] := ⟨_, rfl⟩
              rw [← hc] at d3 HSTEP
              obtain ⟨s2, hs2⟩ : ∃ s2, s2 = stA N row (j + 1) := ⟨_, rfl⟩
              rw [← hs2] at HSTEP
              have HS2 := Lib.hid hs2
              clear hc hs2
              go_wp2_with fail
              refine HSTEP.out.mono ?_
              rintro e w6 ⟨rfl, rfl⟩
              go_wp2_with fail
              go_round
              case rel => exact ⟨j + 1, by go_num, by omega, by rw [HS2.out], HB2.out⟩
              case measure => simp [intOf]; omega
            · obtain rfl : j = k := by omega
              have hji : ¬ (j : Int) < j := by omega
              clear hb
              go_wp2_with fail
              go_loopw [19, 21] (fun st i wz => ∃ j2 : Nat, i = .int .i64 j2 ∧ j2 ≤ row.length ∧ st = .int .i64 (stA N row j2 : Nat) ∧ Below wc.heap.size wc wz) (fun _ i _ => row.length - (intOf i).toNat)
              case atStart => exact ⟨j, rfl, by omega, rfl, HB.out⟩
              case round =>
                obtain ⟨j2, rfl, hj2, rfl, hb2⟩ := hrel
                have HB2 := Lib.hid hb2
                by_cases hjr : j2 < row.length
                · obtain ⟨br, offr, rfl, d3⟩ := HROW.out _ hb2 j2 hjr
                  have HSTEP := Lib.hid (step_m wr ob cn N O (HMDW.out _ hb2) HOK.out (stA N row j2 : Nat) row[j2])
                  rw [stepI_st HOK.out HPOS.out HRO.out hjr] at HSTEP
                  obtain ⟨nn, hnn⟩ : ∃ nn, nn = N.length := ⟨_, rfl⟩
                  obtain ⟨hol, pn, cn', pm, cm, m0, m1, m2, -, -, -, hgo⟩ := (HMDW.out _ hb2).get hnn.symm (by rw [← HOK.out.len, hnn])
                  have hlt := stA_lt HOK.out HPOS.out HRO.out (j2 + 1) (by omega)
                  obtain ⟨b', off', rfl, d2⟩ := HREAD2.out _ hb2 (j2 + 1) (by omega)
                  obtain ⟨c, hc⟩ : ∃ c, c = row[j2] := ⟨_, rfl⟩
                  rw [← hc] at d3 HSTEP
                  obtain ⟨s, hs⟩ : ∃ s, s = stA N row j2 := ⟨_, rfl⟩
                  rw [← hs] at HSTEP ⊢
                  obtain ⟨s2, hs2⟩ : ∃ s2, s2 = stA N row (j2 + 1) := ⟨_, rfl⟩
                  rw [← hs2] at HSTEP d2 hlt
                  have HS2 := Lib.hid hs2
                  rw [← hnn] at hlt
                  have hsO : s2 < O.length := by rw [← HOK.out.len, ← hnn]; exact hlt
                  obtain ⟨bm, om, rfl, hbm, d1⟩ := hgo s2 (at0 O s2) (by unfold at0; rw [List.getElem?_eq_getElem hsO]; rfl)
                  obtain ⟨o, ho⟩ : ∃ o, o = at0 O s2 := ⟨_, rfl⟩
                  rw [← ho] at d1 d2
                  have hs20 : (0 : Int) ≤ s2 := by omega
                  have hs21 : ¬ (s2 : Int) < 0 := by omega
                  have hs22 : (s2 : Int) < nn := by omega
                  have hs23 : ¬ (nn : Int) ≤ s2 := by omega
                  have hj20 : (0 : Int) ≤ j2 := by omega
                  obtain ⟨jn, hjn⟩ : ∃ jn, jn = j2 + 1 := ⟨_, rfl⟩
                  rw [← hjn] at d2
                  have hj21 : (0 : Int) ≤ jn := by omega
                  have hjri : (j2 : Int) < row.length := by omega
                  have hji3 : (jn : Int) < (row.length : Int) + 1 := by omega
                  have hwr : IntKind.i64.wrap ((j2 : Int) + 1) = (jn : Int) := (IntWalk.i64_in _ (by omega)).trans (by omega)
                  have HJN := Lib.hid hjn
                  clear hjn
                  clear hb2 hgo hc hs hs2 hnn ho m0 m1
                  go_wp2_with fail
                  refine HSTEP.out.mono ?_
                  rintro e w6 ⟨rfl, rfl⟩
                  go_upto_region 25 with fail
                  go_quiet (fail)
                  go_wp2_with fail
                  exact ⟨⟨jn, rfl, by omega, by rw [HS2.out, HJN.out], ⟨HB2.out.os, HB2.out.tape, HB2.out.output, HB2.out.size, HB2.out.block⟩⟩, by have := HJN.out; simp [intOf]; omega⟩
                · have hjri : ¬ (j2 : Int) < row.length := by omega
                  obtain ⟨b, off, b', off', rfl, rfl, d1, d2⟩ := HREAD.out _ hb2 j (by omega)
                  obtain ⟨o, ho⟩ : ∃ o, o = at0 O (stA N row j) := ⟨_, rfl⟩
                  rw [← ho] at d1 d2
                  have hji2 : (j : Int) < (j : Int) + 1 := by omega
                  have hji3 : (j : Int) < (row.length : Int) + 1 := by omega
                  have hj0 : (0 : Int) ≤ j := by omega
                  clear hb2 ho
                  go_upto_region 27 with fail
                  go_quiet (fail)
                  go_wp2_with fail
                  go_ret
                  exact ⟨rfl, HBW.out _ ⟨HB2.out.os, HB2.out.tape, HB2.out.output, HB2.out.size, HB2.out.block⟩⟩
      · go_wp2_with fail
        go_ret
        exact ⟨rfl, HB4.out⟩
end Go.Proofs.Yteamokljlcnicaa

/-
  dfa, plain: languages whose answers are told otherwise; what is built of expressions turned round, of one more that never fits, of the last one twice (DfaTurns, DfaMore). No program, no condition beyond what each theorem names.
-/
set_option linter.unusedVariables false
set_option linter.unusedSimpArgs false
namespace Go.Proofs.Yteamokljlcnicaa
open Classical

section
variable {σ β γ : Type}
theorem hom_glang (l0 : List Nat → Option β) (g : β → γ) (classes : Nat) (hinj : ∀ t u x y, l0 t = some x → l0 u = some y → g x = g y → x = y) : Hom (langAuto l0) (langAuto fun t => (l0 t).map g) classes (fun l t => (l t).map g) where
  start := rfl
  step := fun t _ c _ => rfl
  inj := fun t u _ _ h => by
    funext v
    have h2 := congrFun h v
    have e1 : runA (langAuto l0) (langAuto l0).start t v = l0 (t ++ v) := runLang l0 t l0 v
    have e2 : runA (langAuto l0) (langAuto l0).start u v = l0 (u ++ v) := runLang l0 u l0 v
    simp only [e1, e2] at h2
    rw [e1, e2]
    cases ht : l0 (t ++ v) with
    | none => cases hu : l0 (u ++ v) with
      | none => rfl
      | some y => rw [ht, hu] at h2; cases h2
    | some x => cases hu : l0 (u ++ v) with
      | none => rw [ht, hu] at h2; cases h2
      | some y =>
        rw [ht, hu] at h2
        rw [hinj _ _ _ _ ht hu (Option.some.inj h2)]

theorem place_hom {σ τ : Type} {A : Auto σ} {B : Auto τ} {classes : Nat} {f : σ → τ} (H : Hom A B classes f) {L : List σ} (hL : ∀ x ∈ L, MetA A classes x) {y : σ} (hy : MetA A classes y) : place (L.map f) (f y) = place L y := by
  have h := place_map (f := f) (g := id) (x := y) (l := L) (fun z hz => by
    obtain ⟨t, ht, e1⟩ := hL z hz
    obtain ⟨u, hu, e2⟩ := hy
    constructor
    · intro h
      rw [e1, e2] at h ⊢
      exact H.inj t u ht hu h
    · intro h
      have h : z = y := h
      rw [h])
  rw [h]
  simp

/-- what is built, where the answers are told otherwise, but apart as they were -/
theorem built_g {A : Auto σ} {out : σ → β} (g : β → γ) {classes : Nat} (hinj : ∀ t u x y, langA A out classes A.start t = some x → langA A out classes A.start u = some y → g x = g y → x = y) {r : Option (List (List Nat) × List (Option β))} (h : Built A out classes r) :
    Built A (fun s => g (out s)) classes (r.map fun p => (p.1, p.2.map (Option.map g))) := by
  have hl : langA A (fun s => g (out s)) classes A.start = fun t => (langA A out classes A.start t).map g := lang_map A out g classes A.start
  obtain ⟨l0, hl0⟩ : ∃ l0, l0 = langA A out classes A.start := ⟨_, rfl⟩
  unfold Built at h ⊢
  rw [hl]
  rw [← hl0] at h hinj ⊢
  have H := hom_glang l0 g classes hinj
  obtain ⟨hc, hm⟩ := cl_map H 2000
  have hL : canonL (fun t => (l0 t).map g) classes 2000 = (canonL l0 classes 2000).map (fun l t => (l t).map g) := hc.symm
  have hm' : ∀ x ∈ canonL l0 classes 2000, MetA (langAuto l0) classes x := hm
  have hlen : (canonL (fun t => (l0 t).map g) classes 2000).length = (canonL l0 classes 2000).length := by rw [hL, List.length_map]
  clear hc hm
  generalize 2000 = K at *
  rcases h with ⟨rfl, h⟩ | ⟨h1, h2, rfl⟩
  · exact .inl ⟨rfl, by rw [hlen]; exact h⟩
  · refine .inr ⟨h1, by rw [hlen]; exact h2, ?_⟩
    rw [Option.map_some]
    congr 1
    refine Prod.ext ?_ ?_
    · show canonNext l0 classes K = canonNext _ classes K
      unfold canonNext
      rw [hL]
      unfold nextsOf
      rw [List.map_map]
      refine List.map_congr_left fun s hs => List.map_congr_left fun c hcr => ?_
      have hcc : c < classes := List.mem_range.1 hcr
      exact (place_hom H hm' ((hm' s hs).step hcc)).symm
    · show (canonOut l0 classes K).map (Option.map g) = canonOut _ classes K
      unfold canonOut
      rw [hL, List.map_map, List.map_map]
      rfl
end

/-! ### turned round -/
/-- the first n bits, turned round -/
def turnN (n v : Nat) : Nat := bitsL ((List.range n).map fun k => v.testBit (n - 1 - k))
theorem turn_bits {bs : List Bool} {n : Nat} (h : bs.length = n) : turnN n (bitsL bs) = bitsL bs.reverse := by
  unfold turnN
  congr 1
  refine List.ext_getElem (by simp [h]) fun i h1 h2 => ?_
  have hi : i < n := by simpa using h1
  rw [List.getElem_map, List.getElem_range, bitsL_get bs (n - 1 - i) (by omega), List.getElem_reverse]
  congr 1
  omega
theorem lang_shape {l : List (Nd × Bool)} (hl : ∀ e ∈ l, RightX e.1) {classes : Nat} {t : List Nat} {x : Nat} (h : langA (autoE l) outN classes (autoE l).start t = some x) : ∃ bs : List Bool, bs.length = l.length ∧ x = bitsL bs := by
  have h : (tellsE l classes t).map bitsL = some x := by rw [lang_N hl] at h; exact h
  unfold tellsE at h
  split at h
  · exact ⟨_, by simp, (Option.some.inj h).symm⟩
  · cases h
theorem built_turn {l : List (Nd × Bool)} (hl : ∀ e ∈ l, RightX e.1) {classes : Nat} {r : Option (List (List Nat) × List (Option Nat))} (h : Built (autoE l) outN classes r) :
    Built (autoE l.reverse) outN classes (r.map fun p => (p.1, p.2.map (Option.map (turnN l.length)))) := by
  have h1 := built_g (turnN l.length) (fun t u x y hx hy e => by
    obtain ⟨bs, hb, rfl⟩ := lang_shape hl hx
    obtain ⟨cs, hc, rfl⟩ := lang_shape hl hy
    rw [turn_bits hb, turn_bits hc] at e
    have := bitsL_inj (by simp [hb, hc]) e
    rw [List.reverse_inj.1 this]) h
  refine (built_hom (hom_turn l classes) ?_).1 h1
  rw [lang_map (autoE l) outN (turnN l.length) classes (autoE l).start, lang_N hl, lang_N (fun e he => hl e (List.mem_reverse.1 he))]
  funext t
  show ((tellsE l classes t).map bitsL).map (turnN l.length) = (tellsE l.reverse classes t).map bitsL
  unfold tellsE
  by_cases ht : ∀ c ∈ t, c < classes
  · rw [if_pos ht, if_pos ht]
    simp only [Option.map_some]
    rw [turn_bits (by simp), List.map_reverse]
  · rw [if_neg ht, if_neg ht]
    rfl

/-! ### one bit -/
theorem bit_at (o c : Nat) (ho : o < 2 ^ 64) : bits .and .u64 ((o : Int) / 2 ^ c) 1 = ((if o.testBit c then 1 else 0 : Nat) : Int) := by
  have e : ((o : Int) / 2 ^ c) = ((o / 2 ^ c : Nat) : Int) := by simp
  have hlt : o / 2 ^ c < 2 ^ 64 := Nat.lt_of_le_of_lt (Nat.div_le_self _ _) ho
  have h := u64_and_nat (o / 2 ^ c) 1 (by omega) (by omega)
  rw [e]
  refine h.trans ?_
  rw [Nat.and_one_is_mod, Nat.testBit_eq_decide_div_mod_eq]
  congr 1
  by_cases h2 : o / 2 ^ c % 2 = 1
  · simp [h2]
  · simp [h2]; omega
theorem turn_testBit {n v k : Nat} (hk : k < n) : (turnN n v).testBit k = v.testBit (n - 1 - k) := by
  unfold turnN
  rw [bitsL_get _ k (by simpa using hk), List.getElem_map, List.getElem_range]
theorem turn_lt (n v : Nat) : turnN n v < 2 ^ n := by
  have := bitsL_lt ((List.range n).map fun k => v.testBit (n - 1 - k))
  rw [List.length_map, List.length_range] at this
  exact this
theorem wrap_small (c : Nat) (h : c < 64) : min (IntKind.u64.wrap (c : Int)).toNat 64 = c := by
  have e : (c : Int) % 18446744073709551616 = c := by omega
  have : IntKind.u64.wrap (c : Int) = c := by
    show (if (false && decide ((c : Int) % 18446744073709551616 ≥ 9223372036854775808)) = true then (c : Int) % 18446744073709551616 - 18446744073709551616 else (c : Int) % 18446744073709551616) = c
    rw [e]
    simp
  rw [this]
  omega
/-- a bit, and its own in what is turned round -/
theorem bit_turn (o n c : Nat) (ho : o < 2 ^ n) (hn : n ≤ 64) (hc : c < n) :
    (bits .and .u64 ((o : Int) / 2 ^ c) 1 != bits .and .u64 ((turnN n o : Nat) / 2 ^ min (IntKind.u64.wrap ((n - 1 - c : Nat) : Int)).toNat 64) 1) = false := by
  have h64 : (2 : Nat) ^ n ≤ 2 ^ 64 := Nat.pow_le_pow_right (by omega) hn
  have ht := turn_lt n o
  rw [wrap_small _ (by omega), bit_at o c (by omega), bit_at _ _ (by omega), turn_testBit (by omega), show n - 1 - (n - 1 - c) = c by omega]
  simp
end Go.Proofs.Yteamokljlcnicaa

/-
  dfa, plain: one more expression that never fits; the last expression twice (DfaMore). No program, no condition beyond what each theorem names.
-/
set_option linter.unusedVariables false
set_option linter.unusedSimpArgs false
namespace Go.Proofs.Yteamokljlcnicaa
open Classical

theorem never_right : RightX neverX := by
  refine ⟨?_, by simp [neverX, cnt, cntL]⟩
  unfold neverX Wf
  simp [WfL, rising]
theorem never_inside (n : Int) : insideB n neverX = true := by
  simp [neverX, insideB, insideL]
theorem fits_never (row : List Int) : fitsE neverX false row = false := by
  have h : ∀ r : List Int, fitB neverX r = false := fun r => by
    rw [Bool.eq_false_iff]
    intro h
    rw [fitB_iff] at h
    simp [neverX, M, Malt] at h
  unfold fitsE
  simp [h]
theorem built_never {l : List (Nd × Bool)} (hl : ∀ e ∈ l, RightX e.1) {classes : Nat} {r : Option (List (List Nat) × List (Option Nat))} : Built (autoE l) outN classes r ↔ Built (autoE (l ++ [(neverX, false)])) outN classes r := by
  refine built_hom (hom_never l classes) ?_
  rw [lang_N hl, lang_N (fun e he => by
    rcases List.mem_append.1 he with he | he
    · exact hl e he
    · rw [List.mem_singleton.1 he]; exact never_right)]
  funext t
  show (tellsE l classes t).map bitsL = (tellsE (l ++ [(neverX, false)]) classes t).map bitsL
  unfold tellsE
  by_cases ht : ∀ c ∈ t, c < classes
  · rw [if_pos ht, if_pos ht, List.map_append, List.map_cons, List.map_nil, fits_never]
    simp only [Option.map_some]
    rw [bitsL_snoc]
    simp
  · rw [if_neg ht, if_neg ht]
theorem argOk_never {n : Int} {l : List (Nd × Bool)} (h : ArgOk n l) (h8 : l.length ≤ 8) : ArgOk n (l ++ [(neverX, false)]) :=
  ⟨h.1, h.2.1, by simp; omega, fun x hx => by
    rcases List.mem_append.1 hx with hx | hx
    · exact h.2.2.2 x hx
    · rw [List.mem_singleton.1 hx]; exact ⟨never_right, never_inside n⟩⟩

/-- the last of n + 1 bits, once more behind them -/
def againN (n v : Nat) : Nat := v + (if v.testBit n then 2 ^ (n + 1) else 0)
theorem again_bits {bs : List Bool} {b : Bool} {n : Nat} (h : bs.length = n) : againN n (bitsL (bs ++ [b])) = bitsL (bs ++ [b] ++ [b]) := by
  unfold againN
  have e : (bitsL (bs ++ [b])).testBit n = b := by
    rw [bitsL_get _ n (by simp; omega)]
    subst h
    simp
  rw [e, bitsL_snoc (bs ++ [b]) b]
  simp [h]
theorem lang_shape2 {l : List (Nd × Bool)} {e : Nd × Bool} (hl : ∀ x ∈ l ++ [e], RightX x.1) {classes : Nat} {t : List Nat} {x : Nat} (h : langA (autoE (l ++ [e])) outN classes (autoE (l ++ [e])).start t = some x) : ∃ (bs : List Bool) (b : Bool), bs.length = l.length ∧ x = bitsL (bs ++ [b]) := by
  have h : (tellsE (l ++ [e]) classes t).map bitsL = some x := by rw [lang_N hl] at h; exact h
  unfold tellsE at h
  split at h
  · rw [List.map_append, List.map_cons, List.map_nil] at h
    exact ⟨_, _, by simp, (Option.some.inj h).symm⟩
  · cases h
theorem built_again {l : List (Nd × Bool)} {e : Nd × Bool} (hl : ∀ x ∈ l ++ [e], RightX x.1) {classes : Nat} {r : Option (List (List Nat) × List (Option Nat))} (h : Built (autoE (l ++ [e])) outN classes r) :
    Built (autoE (l ++ [e] ++ [e])) outN classes (r.map fun p => (p.1, p.2.map (Option.map (againN l.length)))) := by
  have h1 := built_g (againN l.length) (fun t u x y hx hy he => by
    obtain ⟨bs, b, hb, rfl⟩ := lang_shape2 hl hx
    obtain ⟨cs, c, hc, rfl⟩ := lang_shape2 hl hy
    rw [again_bits hb, again_bits hc] at he
    have := bitsL_inj (by simp [hb, hc]) he
    rw [(List.append_inj' this rfl).1]) h
  refine (built_hom (hom_again l e classes) ?_).1 h1
  rw [lang_map (autoE (l ++ [e])) outN (againN l.length) classes (autoE (l ++ [e])).start, lang_N hl, lang_N (fun x hx => by
    rcases List.mem_append.1 hx with hx | hx
    · exact hl x hx
    · rw [List.mem_singleton.1 hx]; exact hl e (by simp))]
  funext t
  show ((tellsE (l ++ [e]) classes t).map bitsL).map (againN l.length) = (tellsE (l ++ [e] ++ [e]) classes t).map bitsL
  unfold tellsE
  by_cases ht : ∀ c ∈ t, c < classes
  · rw [if_pos ht, if_pos ht]
    simp only [Option.map_some, List.map_append, List.map_cons, List.map_nil]
    rw [again_bits (by simp)]
  · rw [if_neg ht, if_neg ht]
    rfl
theorem argOk_again {n : Int} {l : List (Nd × Bool)} {e : Nd × Bool} (h : ArgOk n (l ++ [e])) (h8 : (l ++ [e]).length ≤ 8) : ArgOk n (l ++ [e] ++ [e]) :=
  ⟨h.1, h.2.1, by simp at h8 ⊢; omega, fun x hx => by
    rcases List.mem_append.1 hx with hx | hx
    · exact h.2.2.2 x hx
    · rw [List.mem_singleton.1 hx]; exact h.2.2.2 e (by simp)⟩
theorem again_or {o ns kk lb : Nat} (hk : kk + 1 = ns) (hn : ns ≤ 8) (ho : o < 2 ^ ns) (hlb : lb = if o.testBit kk then 1 else 0) : (((againN kk o : Nat) : Int) != bits .or .u64 (o : Int) (IntKind.u64.wrap ((lb : Int) * 2 ^ ns))) = false := by
  have hp : (2 : Nat) ^ ns ≤ 2 ^ 8 := Nat.pow_le_pow_right (by omega) hn
  have hl : lb ≤ 1 := by rw [hlb]; split <;> omega
  have hm : lb * 2 ^ ns ≤ 1 * 2 ^ 8 := Nat.mul_le_mul hl hp
  have e1 : ((lb : Int) * 2 ^ ns) = ((lb * 2 ^ ns : Nat) : Int) := by simp
  rw [e1, IntWalk.u64_in _ (by omega), u64_or_nat _ _ (by omega) (by omega)]
  have e2 : againN kk o = o ||| lb * 2 ^ ns := by
    unfold againN
    rw [hk, hlb]
    split
    · have h3 := Nat.two_pow_add_eq_or_of_lt ho 1
      rw [Nat.mul_one] at h3
      rw [Nat.one_mul, Nat.or_comm, ← h3]
      omega
    · simp
  rw [e2]
  simp
/-- what a state of a built machine tells is what some row is told -/
theorem built_out {l : List (Nd × Bool)} (hl : ∀ e ∈ l, RightX e.1) {classes : Nat} {N : List (List Nat)} {O : List Nat} (h : Built (autoE l) outN classes (some (N, O.map some))) :
    ∀ o ∈ O, ∃ t : List Nat, (∀ c ∈ t, c < classes) ∧ o = bitsL (l.map fun e => fitsE e.1 e.2 (t.map fun (c : Nat) => (c : Int))) := by
  rcases h with ⟨h, -⟩ | ⟨-, -, he⟩
  · cases h
  obtain ⟨-, e2⟩ := Prod.mk.inj (Option.some.inj he)
  unfold canonOut canonL at e2
  generalize 2000 = K at *
  intro o ho
  have h1 : some o ∈ O.map some := List.mem_map.2 ⟨o, ho, rfl⟩
  rw [e2] at h1
  obtain ⟨L, hL, h2⟩ := List.mem_map.1 h1
  obtain ⟨t, ht, rfl⟩ := cl_met _ _ _ L hL
  refine ⟨t, ht, ?_⟩
  have h3 := runLang (langA (autoE l) outN classes (autoE l).start) t (langA (autoE l) outN classes (autoE l).start) []
  have h4 : langA (autoE l) outN classes (autoE l).start (t ++ []) = some o := h3.symm.trans h2
  rw [lang_N hl, List.append_nil] at h4
  have h5 : (tellsE l classes t).map bitsL = some o := h4
  unfold tellsE at h5
  rw [if_pos ht] at h5
  exact (Option.some.inj h5).symm
theorem built_lt {l : List (Nd × Bool)} (hl : ∀ e ∈ l, RightX e.1) {classes : Nat} {N : List (List Nat)} {O : List Nat} (h : Built (autoE l) outN classes (some (N, O.map some))) : ∀ o ∈ O, o < 2 ^ l.length := fun o ho => by
  obtain ⟨t, -, rfl⟩ := built_out hl h o ho
  have := bitsL_lt (l.map fun e => fitsE e.1 e.2 (t.map fun (c : Nat) => (c : Int)))
  rwa [List.length_map] at this
end Go.Proofs.Yteamokljlcnicaa

/-
  dfa: a machine that was built, as one reads it cell by cell. No condition beyond what each theorem names.
-/
set_option linter.unusedVariables false
set_option linter.unusedSimpArgs false
namespace Go.Proofs.Yteamokljlcnicaa
open Go.RowKit Classical

def rowO (N : List (List Nat)) (i : Nat) : List Nat := N[i]?.getD []
theorem rowO_get {N : List (List Nat)} {i : Nat} (h : i < N.length) : N[i]? = some (rowO N i) := by
  unfold rowO
  rw [List.getElem?_eq_getElem h]
  rfl
theorem at0_get {l : List Nat} {i : Nat} (h : i < l.length) : l[i]? = some (at0 l i) := by
  unfold at0
  rw [List.getElem?_eq_getElem h]
  rfl

/-- the cells of a machine, in each later world -/
def MachV (w : World) (ob classes nn : Nat) (N : List (List Nat)) (O : List Nat) (bN oN cn bO oO co : Nat) : Prop := ∀ W, Below w.heap.size w W →
  W.cell? ⟨ob, 0, none⟩ = some (.int .i64 (classes : Nat)) ∧ W.cell? ⟨ob, 1, none⟩ = some (.slice (some ⟨bN, oN, none⟩) nn cn) ∧ W.cell? ⟨ob, 2, none⟩ = some (.slice (some ⟨bO, oO, none⟩) nn co) ∧
  (∀ i : Nat, i < nn → W.cell? ⟨bO, oO + i, none⟩ = some (.int .u64 (at0 O i : Nat))) ∧
  (∀ i : Nat, i < nn → ∃ b off cr, W.cell? ⟨bN, oN + i, none⟩ = some (.slice (some ⟨b, off, none⟩) classes cr) ∧ classes ≤ cr ∧ ∀ c : Nat, c < classes → W.cell? ⟨b, off + c, none⟩ = some (.int .i64 (at0 (rowO N i) c : Nat)))

theorem MachD.view {w : World} {ob classes nn : Nat} {N : List (List Nat)} {O : List Nat} (h : MachD w ob classes N O) (hok : OkN N O classes) (hn : N.length = nn) (h0 : 0 < nn) (hc : 0 < classes) :
    ∃ bN oN cn bO oO co, nn ≤ cn ∧ nn ≤ co ∧ MachV w ob classes nn N O bN oN cn bO oO co := by
  have hlo : O.length = nn := by rw [← hok.len, hn]
  obtain ⟨hob, pn, cn, po, co, e0, e1, e2, hcn, hco, gN, gO⟩ := h.get hn hlo
  obtain ⟨bN, oN, -, rfl, -, -, -⟩ := gN 0 _ (rowO_get (by omega))
  obtain ⟨bO, oO, rfl, -, -⟩ := gO 0 _ (at0_get (by omega))
  refine ⟨bN, oN, cn, bO, oO, co, hcn, hco, fun W hW => ⟨cell_below hW hob e0, cell_below hW hob e1, cell_below hW hob e2, fun i hi => ?_, fun i hi => ?_⟩⟩
  · obtain ⟨b, off, he, hb, hx⟩ := gO i _ (at0_get (by omega))
    cases he
    exact cell_below hW hb hx
  · obtain ⟨b, off, v, he, hb, hx, hv⟩ := gN i _ (rowO_get (by omega))
    cases he
    have hl : (natsI (rowO N i)).length = classes := by
      unfold natsI
      rw [List.length_map]
      exact (hok.row _ (List.mem_of_getElem? (rowO_get (by omega)))).1
    obtain ⟨p, cr, rfl, hcr, hg⟩ := hv.get
    obtain ⟨b', off', rfl, hb', hx'⟩ := hg (by omega)
    rw [hl] at hx hcr
    refine ⟨b', off', cr, cell_below hW hb hx, hcr, fun c hc2 => ?_⟩
    have := cell_below hW hb' (hx' c (by omega))
    rw [this]
    congr 2
    unfold natsI
    rw [List.getElem_map]
    have h2 := at0_get (l := rowO N i) (i := c) (by unfold natsI at hl; rw [List.length_map] at hl; omega)
    rw [List.getElem?_eq_getElem (by unfold natsI at hl; rw [List.length_map] at hl; omega)] at h2
    rw [Option.some.inj h2]
end Go.Proofs.Yteamokljlcnicaa

/-
  DfaMore: an expression that never fits changes nothing; the last one twice changes the bits alone. No condition beyond what each theorem names.
-/
set_option linter.unusedVariables false
set_option linter.unusedSimpArgs false
namespace Go.Proofs.Yteamokljlcnicaa
open Go.RowKit Classical

theorem exprs_to {w w' : World} {v : Value} {L : List (Nd × Bool)} (h : ReadL (exprE w) 4 w v L) (hb : Below w.heap.size w w') : ReadL (exprE w') 4 w' v L :=
  (h.below hb (Nat.le_refl _)).monoE (fun x r hr => by
    obtain ⟨a, b, c, rfl, hn⟩ := hr
    exact ⟨a, b, c, rfl, hn.to hb (Nat.le_refl _)⟩)
theorem bd_of {N : List (List Nat)} {O : List Nat} {classes : Nat} (h : OkN N O classes) (h4 : N.length ≤ 400) (hc : classes ≤ 24) : Bd N O :=
  ⟨by omega, by rw [← h.len]; omega, fun r hr => by rw [(h.row r hr).1]; omega⟩

set_option maxRecDepth 100000 in
set_option maxHeartbeats 8000000 in
theorem more_law (w : World) (n : Int) (v : Value) (l : List (Nd × Bool)) (hv : ReadL (exprE w) 4 w v l) (hl : l.length ≤ maxLen) :
    Calls Try.prog 7 #[.int .i64 n, v] w (Says true w) := by
  obtain ⟨p, cp, rfl, -, -⟩ := hv.at (by decide) rfl
  have HL := Lib.hid hv
  have HLL := Lib.hid hl
  clear hv hl
  go_enter Try.func7, Try.ntmps7
  go_wp2_with fail
  refine (shown8 w).mono ?_
  rintro e w1 ⟨rfl, hb1⟩
  have HB1 := Lib.hid hb1
  have HFEW := Lib.hid (few_law w1 (.slice p l.length cp) l (exprs_to HL.out hb1) HLL.out)
  clear hb1
  obtain ⟨L, hL⟩ : ∃ L, L = fewL l := ⟨_, rfl⟩
  rw [← hL] at HFEW
  have hL8 : L.length ≤ 8 := by rw [hL]; exact fewL_length l
  clear hL
  go_wp2_with fail
  refine HFEW.out.mono ?_
  rintro e w2 ⟨va, vb, rfl, hoa, hob, hb2⟩
  have HB2 := Lib.hid (HB1.out.trans (hb2.mono HB1.out.size))
  have HRA := Lib.hid (hoa.exprs hb2)
  obtain ⟨pb, cb, hvb⟩ := hob.form
  subst hvb
  obtain ⟨ns, hns⟩ : ∃ ns, ns = L.length := ⟨_, rfl⟩
  rw [← hns] at hL8
  obtain ⟨pa, ca, rfl, hca, -⟩ := HRA.out.at (by decide) hns.symm
  have HBU := Lib.hid (build_any w2 (.slice pa ns ca) L n HRA.out (by omega))
  have HNS := Lib.hid hns
  clear hb2 hoa hob hns
  go_wp2_with fail
  refine HBU.out.mono ?_
  rintro e w3 ⟨hb3, hcase⟩
  have HB3 := Lib.hid (HB2.out.trans (hb3.mono HB2.out.size))
  have HRA3 := Lib.hid (exprs_to HRA.out hb3)
  clear hb3
  rcases hcase with ⟨-, rfl⟩ | ⟨-, -, rfl⟩ | ⟨hao, ob, N, O, -, hbu, rfl, hmd⟩
  · go_wp2_with fail
    go_ret
    exact ⟨rfl, HB3.out⟩
  · go_wp2_with fail
    go_ret
    exact ⟨rfl, HB3.out⟩
  · have HAO := Lib.hid hao
    have HBUI := Lib.hid hbu
    have HMD := Lib.hid hmd
    have HAL0 := Lib.hid (below_alloc1 w3 (.cells #[] 40))
    have HOW0 := Lib.hid (OwnL.made (E := exprE w3) (T := 40) (sz := 4) w3 (Nat.le_refl _))
    clear hao hbu hmd HBU
    go_wp2_with (refine stop_at (.call { callee := .builtin .append, args := #[.tmp 38, .tmp 39], argTypes := #[24, 24] }) rfl ?_)
    refine ⟨?_⟩
    refine wpList_append_exprs rfl (.tmp 38) (.tmp 39) rfl (.slice (some ⟨w3.heap.size, 0, none⟩) 0 0) [] 0 rfl rfl HOW0.out _ L ns HNS.out.symm rfl (HRA3.out.below HAL0.out (Nat.le_refl _)) (by omega) HAL0.out.size ?_
    intro p4 c4 w4 hown4 hg4 hlie4
    have hf4 : Fr (fun j => (Value.slice (some ⟨w3.heap.size, 0, none⟩) 0 0).ownBlock = some j) w3 w4 := (Fr.of_below HAL0.out _).trans (Fr.grown (F := fun j => (Value.slice (some ⟨w3.heap.size, 0, none⟩) 0 0).ownBlock = some j) hg4 (fun k h => h)) (fun _ _ h => h)
    have HB4 := Lib.hid (hf4.below (Nat.le_refl _) (fun j hj => (HOW0.out.lt j hj).1))
    have HO4 := Lib.hid hown4
    have HALN := Lib.hid (below_alloc1 w4 (.cells #[.int .i64 3, .slice none 0 0, .slice none 0 0, .bool false] 40))
    have HNV := Lib.hid (show exprE w3 (neverX, false) [.int .i64 3, .slice none 0 0, .slice none 0 0, .bool false] from ⟨_, _, _, rfl, by
      unfold neverX
      rw [nodeIs_iff]
      exact ⟨rfl, ⟨none, 0, rfl, Nat.le_refl _, fun h => by simp at h⟩, by unfold R; simp, by unfold R; simp, [], ⟨by simp, none, 0, rfl, by simp, fun h => by simp at h⟩, rfl, fun i h => by simp at h⟩⟩)
    clear hown4 hg4 hlie4 hf4
    go_wp2_with (refine stop_at (.call { callee := .builtin .append, args := #[.tmp 40, .tmp 43], argTypes := #[24, 24] }) rfl ?_)
    refine ⟨?_⟩
    have HO4' := Lib.hid (show OwnL (exprE w3) 40 4 w3.heap.size w4 (.slice p4 ns c4) L by have := HO4.out; rwa [Nat.zero_add, List.nil_append] at this)
    refine wpList_append_exprs rfl (.tmp 40) (.tmp 43) rfl (.slice p4 ns c4) L ns HNS.out.symm rfl (HO4'.out.below HALN.out (Nat.le_refl _)) _ [(neverX, false)] 1 rfl rfl (ReadL.one w4 _ (neverX, false) [.int .i64 3, .slice none 0 0, .slice none 0 0, .bool false] ⟨rfl, by simp [Value.oneCell']⟩ HNV.out) (by omega) (Nat.le_trans HB4.out.size HALN.out.size) ?_
    intro p5 c5 w5 hown5 hg5 hlie5
    have hf5 : Fr (fun j => (Value.slice p4 ns c4).ownBlock = some j) w4 w5 := (Fr.of_below HALN.out _).trans (Fr.grown (F := fun j => (Value.slice p4 ns c4).ownBlock = some j) hg5 (fun k h => h)) (fun _ _ h => h)
    have HB5 := Lib.hid (HB4.out.trans (hf5.below HB4.out.size (fun j hj => (HO4'.out.lt j hj).1)))
    have HBW5 := Lib.hid (HB3.out.trans (HB5.out.mono HB3.out.size))
    have HBU2 := Lib.hid (build_any w5 (.slice p5 (ns + 1) c5) (L ++ [(neverX, false)]) n (hown5.exprs HB5.out) (by rw [List.length_append, ← HNS.out]; simp; omega))
    clear hown5 hg5 hlie5 hf5
    go_wp2_with fail
    refine HBU2.out.mono ?_
    rintro e w6 ⟨hb6, hcase⟩
    have HB6 := Lib.hid (HBW5.out.trans (hb6.mono HBW5.out.size))
    have HB36 := Lib.hid (HB5.out.trans (hb6.mono HB5.out.size))
    have hrx : ∀ e ∈ L, RightX e.1 := fun e he => (HAO.out.2.2.2 e he).1
    rcases hcase with ⟨hno, -⟩ | ⟨-, hbu2, -⟩ | ⟨-, ob2, N2, O2, -, hbu2, rfl, hmd2⟩
    · exact (hno (argOk_never HAO.out (by rw [← HNS.out]; omega))).elim
    · have := built_det ((built_never hrx).1 HBUI.out) hbu2
      cases this
    · have hdet := Option.some.inj (built_det ((built_never hrx).1 HBUI.out) hbu2)
      obtain ⟨hdn, hdo⟩ := Prod.mk.inj hdet
      have hdo2 : O = O2 := (List.map_inj_right (fun x y h => Option.some.inj h)).1 hdo
      subst hdn hdo2
      obtain ⟨hok, hpos, h400, -⟩ := built_bits hrx HBUI.out
      have HLO := Lib.hid (built_lt hrx HBUI.out)
      have h24 : n.toNat ≤ 24 := by have := HAO.out.2.1; omega
      have HEQ := Lib.hid (equal_m w6 ob ob2 n.toNat n.toNat N N O O ((HMD.out.to HB36.out)) hmd2 (bd_of hok h400 h24) (bd_of hok h400 h24))
      have HOK := Lib.hid hok
      have HPOS := Lib.hid hpos
      have HMD6 := Lib.hid (HMD.out.to HB36.out)
      have hd : decide (n.toNat = n.toNat ∧ O = O ∧ N = N) = true := by simp
      rw [hd] at HEQ
      have H400 := Lib.hid h400
      have H24 := Lib.hid h24
      clear hb6 hbu2 hmd2 hdet hdo hok hpos hd hrx h400 h24
      go_wp2_with fail
      refine HEQ.out.mono ?_
      rintro e w7 ⟨rfl, hb7⟩
      have HB7 := Lib.hid (HB6.out.trans (hb7.mono HB6.out.size))
      have HB37 := Lib.hid (HB36.out.trans (hb7.mono HB36.out.size))
      have HMD7 := Lib.hid (HMD6.out.to hb7)
      clear hb7
      by_cases hn0 : ns = 0
      · subst hn0
        go_wp2_with fail
        go_ret
        exact ⟨rfl, HB7.out⟩
      · have hni : ¬ (ns : Int) = 0 := by omega
        have hL0 : L ≠ [] := by
          intro h
          have := HNS.out
          rw [h] at this
          exact hn0 this
        obtain ⟨P, x, hPx⟩ : ∃ P x, L = P ++ [x] := ⟨L.dropLast, L.getLast hL0, (List.dropLast_concat_getLast hL0).symm⟩
        have HPX := Lib.hid hPx
        obtain ⟨kk, hkk⟩ : ∃ kk : Nat, kk + 1 = ns := ⟨ns - 1, by omega⟩
        have HKK := Lib.hid hkk
        have hpl : P.length = kk := by
          have := HNS.out
          rw [hPx, List.length_append, List.length_singleton] at this
          omega
        have HRA7 := Lib.hid (exprs_to HRA3.out HB37.out)
        obtain ⟨p', c', he, -, hx7⟩ := HRA7.out.at (by decide) HNS.out.symm
        injection he with he1 he2 he3
        subst he1
        clear he2 he3
        obtain ⟨bl, ol, row4, rfl, hbl, hcell, a, b, c, rfl, hnd⟩ := hx7 kk x (by rw [hPx, ← hpl]; simp)
        have d0 := hcell 0 _ rfl
        have d1 := hcell 1 _ rfl
        have d2 := hcell 2 _ rfl
        have d3 := hcell 3 _ rfl
        simp only [Nat.add_zero] at d0
        obtain ⟨op, q0, m0, c0, q1, m1, c1, rfl, rfl, rfl⟩ := hnd.form
        obtain ⟨x2, hx2⟩ : ∃ x2, x2 = x.2 := ⟨_, rfl⟩
        rw [← hx2] at d3
        have HE7 := Lib.hid (show exprE w7 x [.int .i64 op, .slice q0 m0 c0, .slice q1 m1 c1, .bool x2] from ⟨_, _, _, by rw [hx2], hnd⟩)
        have HD7 := Lib.hid (And.intro d0 (And.intro d1 (And.intro d2 d3)))
        have hwr : IntKind.i64.wrap ((ns : Int) - 1) = (kk : Int) := (IntWalk.i64_in _ (by omega)).trans (by omega)
        have hkn : (kk : Int) < ns := by omega
        have hk0 : (0 : Int) ≤ kk := by omega
        have HBL := Lib.hid hbl
        clear hL0 hPx hkk hpl hx7 hcell hnd hx2 d0 d1 d2 d3 hbl
        go_upto_region 13 with fail
        go_cut [14, 15] (fun mv ev wx => ∃ w8, Below w7.heap.size w7 w8 ∧ BuildPost w8 n (L ++ [x]) (.returned (.tuple #[mv, ev])) wx)
        case first =>
          as_aux_lemma =>
            refine wp_region_plan (fun W => Below w7.heap.size w7 W) (.reads [0, 2, 4, 5, 6, 7, 8] (.two 1 (.two 3 (.one 9 (.one 10 (.one 11 (.reads [12, 13, 14, 15, 16] .done)))) 9 (.one 3 (.one 10 (.one 11 (.reads [12, 13, 14, 15, 16] .done))))) 9 (.one 1 (.one 3 (.one 10 (.one 11 (.reads [12, 13, 14, 15, 16] .done))))))) 196 (by kernel_rfl) (by kernel_rfl) rfl (fun _ _ _ _ _ h => h) (below_drewN (Below.refl _ _) (Nat.le_refl _) 1) ?_
            apply plan_reads
            · intro W hW
              obtain ⟨a1, a2, a3, a4⟩ := HD7.out
              have b1 := cell_below hW HBL.out a1
              have b2 := cell_below hW HBL.out a2
              have b3 := cell_below hW HBL.out a3
              have b4 := cell_below hW HBL.out a4
              clear hW a1 a2 a3 a4
              repeat (refine wpRead_step (fun K hK => ?_); go_simp; refine hK _ ?_; clear hK K)
              exact wpRead_nil rfl
            refine abs_plan fun W0 hW0 => ?_
            have HB0 := Lib.hid (show Below w7.heap.size w7 W0 by rw [hW0]; exact below_drewN (Below.refl _ _) (Nat.le_refl _) 1)
            clear hW0
            refine plan_two rfl rfl ?_ ?_
            --WAYS
            · have HAL1 := Lib.hid (below_alloc1 W0 (.cells #[] 40))
              have HW1 := Lib.hid (OwnL.made (E := exprE w7) (T := 40) (sz := 4) W0 HB0.out.size)
              have HU1 := Lib.hid (HB0.out.trans (HAL1.out.mono HB0.out.size))
              go_wp2_with fail
              refine Then.mk HU1.out ?_
              refine abs_plan fun U1 hU1 => ?_
              have HX1 := Lib.hid (show OwnL (exprE w7) 40 4 w7.heap.size U1 (.slice (some ⟨W0.heap.size, 0, none⟩) 0 0) [] by rw [hU1]; exact HW1.out)
              have HV1 := Lib.hid (show Below w7.heap.size w7 U1 by rw [hU1]; exact HU1.out)
              clear hU1 HAL1 HW1 HU1
              refine plan_two rfl rfl ?_ ?_
              · refine wpList_append_exprs rfl (.tmp 71) (.tmp 72) rfl (.slice (some ⟨W0.heap.size, 0, none⟩) 0 0) [] 0 rfl rfl HX1.out _ L ns HNS.out.symm rfl (HRA7.out.below HV1.out (Nat.le_refl _)) (by omega) HV1.out.size ?_
                intro p2 c2 U2 hown2 hg2 hlie2
                have hf2 : Fr (fun j => (.slice (some ⟨W0.heap.size, 0, none⟩) 0 0 : Value).ownBlock = some j) U1 U2 := Fr.grown (F := fun j => (.slice (some ⟨W0.heap.size, 0, none⟩) 0 0 : Value).ownBlock = some j) hg2 (fun k h => h)
                have HV2 := Lib.hid (HV1.out.trans (hf2.below HV1.out.size (fun j hj => (HX1.out.lt j hj).1)))
                have HX2 := Lib.hid (show OwnL (exprE w7) 40 4 w7.heap.size U2 (.slice p2 ns c2) L by rwa [Nat.zero_add, List.nil_append] at hown2)
                try rw [Nat.zero_add]
                clear hown2 hg2 hlie2 hf2
                go_wp2_with fail
                refine Then.mk HV2.out ?_
                refine plan_one rfl ?_
                have HAL3 := Lib.hid (below_alloc1 U2 (.cells #[.int .i64 op, .slice q0 m0 c0, .slice q1 m1 c1, .bool x2] 40))
                have HU3 := Lib.hid (HV2.out.trans (HAL3.out.mono HV2.out.size))
                have HY3 := Lib.hid (ReadL.one (E := exprE w7) U2 40 x [.int .i64 op, .slice q0 m0 c0, .slice q1 m1 c1, .bool x2] ⟨rfl, by simp [Value.oneCell']⟩ HE7.out)
                go_wp2_with fail
                refine Then.mk HU3.out ?_
                refine abs_plan fun U3 hU3 => ?_
                have HR3 := Lib.hid (show ReadL (exprE w7) 4 U3 (.slice (some ⟨U2.heap.size, 0, none⟩) 1 1) [x] by rw [hU3]; exact HY3.out)
                have HV3 := Lib.hid (show Below w7.heap.size w7 U3 by rw [hU3]; exact HU3.out)
                have HZ3 := Lib.hid (show U2.heap.size < U3.heap.size by rw [hU3]; simp)
                have HX3 := Lib.hid (show OwnL (exprE w7) 40 4 w7.heap.size U3 (.slice p2 ns c2) L by rw [hU3]; exact HX2.out.below HAL3.out (Nat.le_refl _))
                clear hU3 HAL3 HU3 HY3
                refine plan_one rfl ?_
                refine wpList_append_exprs rfl (.tmp 73) (.tmp 79) rfl (.slice p2 ns c2) L ns HNS.out.symm rfl HX3.out _ [x] 1 rfl rfl HR3.out (by omega) HV3.out.size ?_
                intro p8 c8 V8 hown8 hg8 hlie8
                have hf8 : Fr (fun j => (.slice p2 ns c2 : Value).ownBlock = some j) U3 V8 := Fr.grown (F := fun j => (.slice p2 ns c2 : Value).ownBlock = some j) hg8 (fun k h => h)
                have HV8 := Lib.hid (HV3.out.trans (hf8.below HV3.out.size (fun j hj => (HX3.out.lt j hj).1)))
                have HBU8 := Lib.hid (build_any V8 (.slice p8 (ns + 1) c8) (L ++ [x]) n (hown8.exprs HV8.out) (by rw [List.length_append, ← HNS.out]; simp; omega))
                clear hown8 hg8 hlie8 hf8
                go_wp2_with fail
                refine Then.mk HV8.out ?_
                refine plan_one rfl ?_
                go_wp2_with fail
                refine HBU8.out.mono ?_
                rintro e w9 hpost
                have HV9 := Lib.hid (HV8.out.trans (hpost.1.mono HV8.out.size))
                have HPOST := Lib.hid hpost
                obtain ⟨mv, ev, rfl⟩ : ∃ mv ev, e = .returned (.tuple #[.pointer mv, .int .i64 ev]) := by
                  rcases hpost.2 with ⟨-, h⟩ | ⟨-, -, h⟩ | ⟨-, ob, N, O, -, -, h, -⟩ <;> exact ⟨_, _, h⟩
                clear hpost
                go_wp2_with fail
                refine Then.mk HV9.out ?_
                apply plan_reads
                · intro W hW
                  repeat (refine wpRead_step (fun K hK => ?_); go_simp; refine hK _ ?_; clear hK K)
                  exact wpRead_nil rfl
                refine plan_done ?_
                go_wp2_with fail
                go_meet
                case rel => exact ⟨V8, HV8.out, HPOST.out⟩
              · have HAL2 := Lib.hid (below_alloc1 U1 (.cells #[.int .i64 op, .slice q0 m0 c0, .slice q1 m1 c1, .bool x2] 40))
                have HU2 := Lib.hid (HV1.out.trans (HAL2.out.mono HV1.out.size))
                have HY2 := Lib.hid (ReadL.one (E := exprE w7) U1 40 x [.int .i64 op, .slice q0 m0 c0, .slice q1 m1 c1, .bool x2] ⟨rfl, by simp [Value.oneCell']⟩ HE7.out)
                go_wp2_with fail
                refine Then.mk HU2.out ?_
                refine abs_plan fun U2 hU2 => ?_
                have HR2 := Lib.hid (show ReadL (exprE w7) 4 U2 (.slice (some ⟨U1.heap.size, 0, none⟩) 1 1) [x] by rw [hU2]; exact HY2.out)
                have HV2 := Lib.hid (show Below w7.heap.size w7 U2 by rw [hU2]; exact HU2.out)
                have HZ2 := Lib.hid (show U1.heap.size < U2.heap.size by rw [hU2]; simp)
                have HX2 := Lib.hid (show OwnL (exprE w7) 40 4 w7.heap.size U2 (.slice (some ⟨W0.heap.size, 0, none⟩) 0 0) [] by rw [hU2]; exact HX1.out.below HAL2.out (Nat.le_refl _))
                clear hU2 HAL2 HU2 HY2
                refine plan_one rfl ?_
                refine wpList_append_exprs rfl (.tmp 71) (.tmp 72) rfl (.slice (some ⟨W0.heap.size, 0, none⟩) 0 0) [] 0 rfl rfl HX2.out _ L ns HNS.out.symm rfl (HRA7.out.below HV2.out (Nat.le_refl _)) (by omega) HV2.out.size ?_
                intro p3 c3 U3 hown3 hg3 hlie3
                have hf3 : Fr (fun j => (.slice (some ⟨W0.heap.size, 0, none⟩) 0 0 : Value).ownBlock = some j) U2 U3 := Fr.grown (F := fun j => (.slice (some ⟨W0.heap.size, 0, none⟩) 0 0 : Value).ownBlock = some j) hg3 (fun k h => h)
                have HV3 := Lib.hid (HV2.out.trans (hf3.below HV2.out.size (fun j hj => (HX2.out.lt j hj).1)))
                have HX3 := Lib.hid (show OwnL (exprE w7) 40 4 w7.heap.size U3 (.slice p3 ns c3) L by rwa [Nat.zero_add, List.nil_append] at hown3)
                have HR3 := Lib.hid (show ReadL (exprE w7) 4 U3 (.slice (some ⟨U1.heap.size, 0, none⟩) 1 1) [x] from HR2.out.fr hf3 (fun k hk hk2 => by simp [Value.ownBlock] at hk; have := (HX1.out.lt k hk2).2; omega))
                try rw [Nat.zero_add]
                clear hown3 hg3 hlie3 hf3
                go_wp2_with fail
                refine Then.mk HV3.out ?_
                refine plan_one rfl ?_
                refine wpList_append_exprs rfl (.tmp 73) (.tmp 79) rfl (.slice p3 ns c3) L ns HNS.out.symm rfl HX3.out _ [x] 1 rfl rfl HR3.out (by omega) HV3.out.size ?_
                intro p8 c8 V8 hown8 hg8 hlie8
                have hf8 : Fr (fun j => (.slice p3 ns c3 : Value).ownBlock = some j) U3 V8 := Fr.grown (F := fun j => (.slice p3 ns c3 : Value).ownBlock = some j) hg8 (fun k h => h)
                have HV8 := Lib.hid (HV3.out.trans (hf8.below HV3.out.size (fun j hj => (HX3.out.lt j hj).1)))
                have HBU8 := Lib.hid (build_any V8 (.slice p8 (ns + 1) c8) (L ++ [x]) n (hown8.exprs HV8.out) (by rw [List.length_append, ← HNS.out]; simp; omega))
                clear hown8 hg8 hlie8 hf8
                go_wp2_with fail
                refine Then.mk HV8.out ?_
                refine plan_one rfl ?_
                go_wp2_with fail
                refine HBU8.out.mono ?_
                rintro e w9 hpost
                have HV9 := Lib.hid (HV8.out.trans (hpost.1.mono HV8.out.size))
                have HPOST := Lib.hid hpost
                obtain ⟨mv, ev, rfl⟩ : ∃ mv ev, e = .returned (.tuple #[.pointer mv, .int .i64 ev]) := by
                  rcases hpost.2 with ⟨-, h⟩ | ⟨-, -, h⟩ | ⟨-, ob, N, O, -, -, h, -⟩ <;> exact ⟨_, _, h⟩
                clear hpost
                go_wp2_with fail
                refine Then.mk HV9.out ?_
                apply plan_reads
                · intro W hW
                  repeat (refine wpRead_step (fun K hK => ?_); go_simp; refine hK _ ?_; clear hK K)
                  exact wpRead_nil rfl
                refine plan_done ?_
                go_wp2_with fail
                go_meet
                case rel => exact ⟨V8, HV8.out, HPOST.out⟩
            · have HAL1 := Lib.hid (below_alloc1 W0 (.cells #[.int .i64 op, .slice q0 m0 c0, .slice q1 m1 c1, .bool x2] 40))
              have HU1 := Lib.hid (HB0.out.trans (HAL1.out.mono HB0.out.size))
              have HY1 := Lib.hid (ReadL.one (E := exprE w7) W0 40 x [.int .i64 op, .slice q0 m0 c0, .slice q1 m1 c1, .bool x2] ⟨rfl, by simp [Value.oneCell']⟩ HE7.out)
              go_wp2_with fail
              refine Then.mk HU1.out ?_
              refine abs_plan fun U1 hU1 => ?_
              have HR1 := Lib.hid (show ReadL (exprE w7) 4 U1 (.slice (some ⟨W0.heap.size, 0, none⟩) 1 1) [x] by rw [hU1]; exact HY1.out)
              have HV1 := Lib.hid (show Below w7.heap.size w7 U1 by rw [hU1]; exact HU1.out)
              have HZ1 := Lib.hid (show W0.heap.size < U1.heap.size by rw [hU1]; simp)
              clear hU1 HAL1 HU1 HY1
              refine plan_one rfl ?_
              have HAL2 := Lib.hid (below_alloc1 U1 (.cells #[] 40))
              have HW2 := Lib.hid (OwnL.made (E := exprE w7) (T := 40) (sz := 4) U1 HV1.out.size)
              have HU2 := Lib.hid (HV1.out.trans (HAL2.out.mono HV1.out.size))
              go_wp2_with fail
              refine Then.mk HU2.out ?_
              refine abs_plan fun U2 hU2 => ?_
              have HX2 := Lib.hid (show OwnL (exprE w7) 40 4 w7.heap.size U2 (.slice (some ⟨U1.heap.size, 0, none⟩) 0 0) [] by rw [hU2]; exact HW2.out)
              have HV2 := Lib.hid (show Below w7.heap.size w7 U2 by rw [hU2]; exact HU2.out)
              have HR2 := Lib.hid (show ReadL (exprE w7) 4 U2 (.slice (some ⟨W0.heap.size, 0, none⟩) 1 1) [x] by rw [hU2]; exact HR1.out.below HAL2.out (Nat.le_refl _))
              have HS2 := Lib.hid (show W0.heap.size < U1.heap.size from HZ1.out)
              clear hU2 HAL2 HW2 HU2
              refine plan_one rfl ?_
              refine wpList_append_exprs rfl (.tmp 71) (.tmp 72) rfl (.slice (some ⟨U1.heap.size, 0, none⟩) 0 0) [] 0 rfl rfl HX2.out _ L ns HNS.out.symm rfl (HRA7.out.below HV2.out (Nat.le_refl _)) (by omega) HV2.out.size ?_
              intro p3 c3 U3 hown3 hg3 hlie3
              have hf3 : Fr (fun j => (.slice (some ⟨U1.heap.size, 0, none⟩) 0 0 : Value).ownBlock = some j) U2 U3 := Fr.grown (F := fun j => (.slice (some ⟨U1.heap.size, 0, none⟩) 0 0 : Value).ownBlock = some j) hg3 (fun k h => h)
              have HV3 := Lib.hid (HV2.out.trans (hf3.below HV2.out.size (fun j hj => (HX2.out.lt j hj).1)))
              have HX3 := Lib.hid (show OwnL (exprE w7) 40 4 w7.heap.size U3 (.slice p3 ns c3) L by rwa [Nat.zero_add, List.nil_append] at hown3)
              have HR3 := Lib.hid (show ReadL (exprE w7) 4 U3 (.slice (some ⟨W0.heap.size, 0, none⟩) 1 1) [x] from HR2.out.fr hf3 (fun k hk hk2 => by simp [Value.ownBlock] at hk hk2; have := HS2.out; omega))
              try rw [Nat.zero_add]
              clear hown3 hg3 hlie3 hf3
              go_wp2_with fail
              refine Then.mk HV3.out ?_
              refine plan_one rfl ?_
              refine wpList_append_exprs rfl (.tmp 73) (.tmp 79) rfl (.slice p3 ns c3) L ns HNS.out.symm rfl HX3.out _ [x] 1 rfl rfl HR3.out (by omega) HV3.out.size ?_
              intro p8 c8 V8 hown8 hg8 hlie8
              have hf8 : Fr (fun j => (.slice p3 ns c3 : Value).ownBlock = some j) U3 V8 := Fr.grown (F := fun j => (.slice p3 ns c3 : Value).ownBlock = some j) hg8 (fun k h => h)
              have HV8 := Lib.hid (HV3.out.trans (hf8.below HV3.out.size (fun j hj => (HX3.out.lt j hj).1)))
              have HBU8 := Lib.hid (build_any V8 (.slice p8 (ns + 1) c8) (L ++ [x]) n (hown8.exprs HV8.out) (by rw [List.length_append, ← HNS.out]; simp; omega))
              clear hown8 hg8 hlie8 hf8
              go_wp2_with fail
              refine Then.mk HV8.out ?_
              refine plan_one rfl ?_
              go_wp2_with fail
              refine HBU8.out.mono ?_
              rintro e w9 hpost
              have HV9 := Lib.hid (HV8.out.trans (hpost.1.mono HV8.out.size))
              have HPOST := Lib.hid hpost
              obtain ⟨mv, ev, rfl⟩ : ∃ mv ev, e = .returned (.tuple #[.pointer mv, .int .i64 ev]) := by
                rcases hpost.2 with ⟨-, h⟩ | ⟨-, -, h⟩ | ⟨-, ob, N, O, -, -, h, -⟩ <;> exact ⟨_, _, h⟩
              clear hpost
              go_wp2_with fail
              refine Then.mk HV9.out ?_
              apply plan_reads
              · intro W hW
                repeat (refine wpRead_step (fun K hK => ?_); go_simp; refine hK _ ?_; clear hK K)
                exact wpRead_nil rfl
              refine plan_done ?_
              go_wp2_with fail
              go_meet
              case rel => exact ⟨V8, HV8.out, HPOST.out⟩
            --END
        case rest =>
          as_aux_lemma =>
            obtain ⟨w8, hb8, hb9, hcase⟩ := hcut
            have HBC := Lib.hid (hb8.trans (hb9.mono hb8.size))
            have HBWC := Lib.hid (HB7.out.trans (HBC.out.mono HB7.out.size))
            clear hb8 hb9
            rcases hcase with ⟨hno, -⟩ | ⟨-, -, he⟩ | ⟨-, ob3, N3, O3, -, hbu3, he, hmd3⟩
            · have hao' : ArgOk n (P ++ [x]) := by rw [← HPX.out]; exact HAO.out
              have hao2 := argOk_again hao' (by rw [← HPX.out, ← HNS.out]; omega)
              rw [← HPX.out] at hao2
              exact (hno hao2).elim
            · cases he
              go_wp2_with fail
              go_ret
              exact ⟨rfl, HBWC.out⟩
            · cases he
              have hbu1 : Built (autoE (P ++ [x])) outN n.toNat (some (N, O.map some)) := by rw [← HPX.out]; exact HBUI.out
              have hag := built_again (by rw [← HPX.out]; exact fun e he => (HAO.out.2.2.2 e he).1) hbu1
              rw [← HPX.out] at hag
              have hdet := Option.some.inj (built_det hag hbu3)
              obtain ⟨hdn, hdo⟩ := Prod.mk.inj hdet
              subst hdn
              have hpl : P.length = kk := by
                have := HNS.out
                rw [HPX.out, List.length_append, List.length_singleton] at this
                have := HKK.out
                omega
              have hO3 : O3 = O.map (againN kk) := by
                have : (O.map (againN P.length)).map some = O3.map some := by rw [← hdo, List.map_map, List.map_map]; rfl
                rw [← hpl]
                exact ((List.map_inj_right (fun x y h => Option.some.inj h)).1 this).symm
              obtain ⟨nn, hnn⟩ : ∃ nn, nn = N.length := ⟨_, rfl⟩
              obtain ⟨cls, hcls⟩ : ∃ cls, cls = n.toNat := ⟨_, rfl⟩
              have hn0 : 0 < nn := by rw [hnn]; exact HPOS.out
              have hcp : 0 < cls := by have := HAO.out.1; omega
              have hn4 : nn ≤ 400 := by rw [hnn]; exact H400.out
              have hc4 : cls ≤ 24 := by rw [hcls]; exact H24.out
              have hok := HOK.out
              have hmd1 := HMD7.out.to HBC.out
              rw [← hcls] at hmd1 hmd3 hok
              have hok3 : OkN N O3 cls := ⟨by rw [hO3, List.length_map]; exact hok.len, hok.row⟩
              obtain ⟨bN, oN, cn, bO, oO, co, hcn, hco, hv1⟩ := hmd1.view hok hnn.symm hn0 hcp
              obtain ⟨bN3, oN3, cn3, bO3, oO3, co3, hcn3, hco3, hv3⟩ := hmd3.view hok3 hnn.symm hn0 hcp
              have HV1 := Lib.hid hv1
              have HV3 := Lib.hid hv3
              have HLT := Lib.hid (show ∀ j : Nat, j < nn → at0 O j < 2 ^ ns ∧ at0 O3 j = againN kk (at0 O j) from fun j hj => by
                have hjo : j < O.length := by rw [← hok.len, ← hnn]; exact hj
                refine ⟨?_, ?_⟩
                · have h := HLO.out (O[j]) (List.getElem_mem hjo)
                  have e0 : at0 O j = O[j] := by unfold at0; rw [List.getElem?_eq_getElem hjo]; rfl
                  rw [e0, HNS.out]
                  exact h
                · rw [hO3]
                  unfold at0
                  rw [List.getElem?_map, List.getElem?_eq_getElem hjo]
                  rfl)
              clear hv1 hv3 hbu1 hag hdet hdo hpl hO3 hnn hcls hok hok3 hmd1 hmd3 hbu3
              have hwr : IntKind.i64.wrap ((ns : Int) - 1) = (kk : Int) := (IntWalk.i64_in _ (by have := HKK.out; omega)).trans (by have := HKK.out; omega)
              have hk0 : (0 : Int) ≤ kk := by omega
              obtain ⟨-, m1, m2, -, -⟩ := HV1.out wc (Below.refl _ _)
              obtain ⟨-, q1, q2, -, -⟩ := HV3.out wc (Below.refl _ _)
              go_upto_region 16 with fail
              go_quiet (fail)
              have HW := Lib.hid (Below.refl wc.heap.size wc)
              clear m1 m2 q1 q2
              go_wp2_with fail
              go_loopw [16] (fun i wz => ∃ j : Nat, i = .int .i64 j ∧ j ≤ nn ∧ Below wc.heap.size wc wz) (fun i _ => nn - (intOf i).toNat)
              case atStart => exact ⟨0, rfl, by omega, ⟨HW.out.os, HW.out.tape, HW.out.output, HW.out.size, HW.out.block⟩⟩
              case round =>
                obtain ⟨j, rfl, hj, hb⟩ := hrel
                have HB := Lib.hid hb
                obtain ⟨-, m1, m2, mO, mN⟩ := HV1.out wr hb
                have mN' := mN
                obtain ⟨-, q1, q2, qO, qN⟩ := HV3.out wr hb
                have qN' := qN
                by_cases hjr : j < nn
                · have hji : (j : Int) < nn := by omega
                  have hj0 : (0 : Int) ≤ j := by omega
                  have d1 := mO j hjr
                  have d3 := qO j hjr
                  obtain ⟨g1, g2⟩ := HLT.out j hjr
                  obtain ⟨o, ho⟩ : ∃ o, o = at0 O j := ⟨_, rfl⟩
                  obtain ⟨o3, ho3⟩ : ∃ o3, o3 = at0 O3 j := ⟨_, rfl⟩
                  rw [← ho] at d1 g1 g2
                  rw [← ho3] at d3 g2
                  have HO := Lib.hid (And.intro g1 g2)
                  clear hb mO mN qO qN ho ho3 g1 g2
                  go_upto_region 22 with fail
                  rw [bit_at o kk (by have h := (HO.out).1; exact Nat.lt_of_lt_of_le h (Nat.pow_le_pow_right (by omega) (by omega)))]
                  obtain ⟨lb, hlb⟩ : ∃ lb : Nat, lb = if o.testBit kk then 1 else 0 := ⟨_, rfl⟩
                  rw [← hlb]
                  have HLB := Lib.hid hlb
                  clear hlb
                  obtain ⟨nb, offn, crn, k1, k2, k3⟩ := mN' j hjr
                  obtain ⟨qb, offq, crq, l1, l2, l3⟩ := qN' j hjr
                  have hw5 : IntKind.u64.wrap (ns : Int) = (ns : Int) := IntWalk.u64_in _ (by omega)
                  have hn64 : ns ≤ 64 := by omega
                  have hni64 : (ns : Int) ≤ 64 := by omega
                  have hni0 : (0 : Int) ≤ ns := by omega
                  have hx1 : ((o3 : Int) != bits .or .u64 (o : Int) (IntKind.u64.wrap ((lb : Int) * 2 ^ ns))) = false := by rw [(HO.out).2]; exact again_or HKK.out hL8 (HO.out).1 HLB.out
                  go_quiet (fail)
                  have HK := Lib.hid (And.intro k3 l3)
                  clear d1 d3 m1 m2 q1 q2 k1 k3 l1 l3 hx1 hw5
                  go_wp2_with fail
                  go_loopw [18] (fun i wz => ∃ c : Nat, i = .int .i64 c ∧ c ≤ cls ∧ Below wc.heap.size wc wz) (fun i _ => cls - (intOf i).toNat)
                  case atStart => exact ⟨0, rfl, by omega, ⟨HB.out.os, HB.out.tape, HB.out.output, HB.out.size, HB.out.block⟩⟩
                  case round =>
                    obtain ⟨c, rfl, hc, hb⟩ := hrel
                    have HB2 := Lib.hid hb
                    obtain ⟨-, m1, m2, -, mN⟩ := HV1.out wr hb
                    obtain ⟨-, q1, q2, -, qN⟩ := HV3.out wr hb
                    obtain ⟨nb, offn, crn, k1, k2, k3⟩ := mN j hjr
                    obtain ⟨qb, offq, crq, l1, l2, l3⟩ := qN j hjr
                    by_cases hcn : c < cls
                    · have hci : (c : Int) < cls := by omega
                      have hc0 : (0 : Int) ≤ c := by omega
                      have d1 := k3 c hcn
                      have d3 := l3 c hcn
                      obtain ⟨tt, htt⟩ : ∃ tt, tt = at0 (rowO N j) c := ⟨_, rfl⟩
                      rw [← htt] at d1 d3
                      clear hb mN qN htt k3 l3
                      go_upto_region 27 with fail
                      go_quiet (fail)
                      go_wp2_with fail
                      exact ⟨⟨c + 1, by go_num, by omega, ⟨HB2.out.os, HB2.out.tape, HB2.out.output, HB2.out.size, HB2.out.block⟩⟩, by simp [intOf]; omega⟩
                    · have hci : ¬ (c : Int) < cls := by omega
                      clear hb mN qN k3 l3
                      go_wp2_with fail
                      go_roundw
                      case rel => exact ⟨j + 1, by go_num, by omega, HB2.out⟩
                      case measure => simp [intOf]; omega
                · have hji : ¬ (j : Int) < nn := by omega
                  clear hb mO mN qO qN
                  go_wp2_with fail
                  go_ret
                  exact ⟨rfl, HBWC.out.trans (HB.out.mono HBWC.out.size)⟩
end Go.Proofs.Yteamokljlcnicaa

/-
  DfaMore answers true for every input, and leaves it as it was. No condition.
-/
set_option linter.unusedVariables false
namespace Go.Proofs.Yteamokljlcnicaa
open Go.ChangeShapes Go.WideShapes Go.ChangeAt Go.RowKit

theorem dfaMore_params : ∀ t ∈ Try.f7.params.toList, Try.prog.readableRec t = true ∧ t < Try.prog.types.size := by
  rw [Try.params7]
  intro t ht
  simp at ht
  rcases ht with rfl | rfl
  all_goals exact ⟨by kernel_rfl, of_decide_eq_true (by kernel_rfl)⟩

set_option maxRecDepth 100000 in
theorem dfaMore_lifted (os : Os) (started : os.Started) (H : Type) (enc : TypeId × Value → H) :
    ReturnsInHanded {} Try.checked os 7 .any (Rows.dfaMoreSpec.pre6 enc Try.prog Try.f7 Rows.dfaMoreRow.domain false) (Rows.dfaMoreSpec.post enc Try.prog Try.f7 false true false false) := by
  refine returnsInHanded_of_change_sized (C := Try.checked) own started (by kernel_rfl) Try.func7
    (ChangeSpec.witness6 (enc := enc) (C := Try.checked) false ⟨#[], #[.int .i64 0, .slice none 0 0], []⟩ 8 (by kernel_rfl) (by kernel_rfl) (by kernel_rfl) (by kernel_rfl)) ?_
  intro W base args ds gs before hval0 hW hcnd hsz0 _
  have hval : ∀ (j : Nat) t v, Try.f7.params[j]? = some t → args[j]? = some v → Value.okWide Try.prog W .any base t v := hval0
  have hW' := hW
  obtain ⟨p, q, hA0, hV, rfl, hfz, hnd⟩ := hW
  have hA : DataW.TrodAll enc Try.prog W 0 (fun _ => true) true Try.f7.params.toList args.toList ds p := hA0
  have hsz : (DataW.weightsEach Try.prog (Try.f7.params.toList ++ Rows.dfaMoreSpec.plain.varTypes Try.prog) (ds ++ gs)).all (· ≤ reachBytes) = true := hsz0
  rw [Try.params7] at hA hval hsz
  obtain ⟨v0, vs0, d0, ds0, p0, q0, hargs, rfl, rfl, h0, rr0⟩ := trodAll_cons hA
  obtain ⟨v1, vs1, d1, ds1, p1, q1, rfl, rfl, rfl, h1, rr1⟩ := trodAll_cons rr0
  obtain ⟨rfl, rfl, rfl⟩ := trodAll_nil rr1
  obtain rfl : args = #[v0, v1] := by cases args; simp_all
  obtain ⟨n0, rfl, rfl, rfl, hw0⟩ := open_int Try.underlying3 (hval 0 3 v0 rfl rfl) h0
  have hs1 := sized_arg hsz 1 22 d1 rfl rfl
  obtain ⟨l1, hx1, hb1⟩ := exprs_open (hval 1 22 v1 rfl rfl) h1 hs1
  refine (more_law W n0 v1 l1 hx1 hb1).mono fun e W' ⟨he, hb⟩ => ?_
  subst he
  refine ⟨_, rfl, law_post (t := 4) laidOut dfaMore_params (by kernel_rfl) Try.underlying4 rfl ?_ hW' hb⟩
  intro ds hds
  match ds, hds with
  | [d0, d1], _ => exact ⟨rfl, rfl, rfl⟩

theorem dfaMore : Rows.DfaMoreSaid :=
  OpenClaim.holds_of_wide 7 Try.f7 rfl rfl rfl rfl rfl rfl rfl ⟨rfl, rfl, rfl, rfl, rfl⟩ rfl rfl rfl rfl rfl (by kernel_rfl) Try.func7 (by kernel_rfl)
    (of_decide_eq_true (by kernel_rfl)) (by unfold Func.isWrapper; first | (rw [if_pos (by decide +kernel)]; kernel_rfl) | (rw [if_neg (by decide +kernel)]; exact ⟨rfl, rfl⟩))
    (fun os started H enc _ => dfaMore_lifted os started H enc)
#print axioms dfaMore
end Go.Proofs.Yteamokljlcnicaa

