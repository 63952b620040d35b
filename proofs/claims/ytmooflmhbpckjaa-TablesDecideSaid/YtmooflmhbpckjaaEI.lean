/-
  dfa: parted: of each state a number that it has together with those that tell the same of all rows. No condition beyond what each theorem names.
-/
import Derived.Test.YtmooflmhbpckjaaEH
set_option linter.unusedVariables false
set_option linter.unusedSimpArgs false
namespace Go.Proofs.Ytmooflmhbpckjaa
open Go.RowKit Go.Maps Classical

section
variable {σ τ : Type}
/-- finer keys are no fewer -/
theorem distinct_le {l : List σ} {m : List τ} (hlen : l.length = m.length) (hfine : ∀ i j (hi : i < l.length) (hj : j < l.length), l[i] = l[j] → m[i]'(by omega) = m[j]'(by omega)) : (distinct m).length ≤ (distinct l).length := by
  by_cases h0 : m.length = 0
  · have : m = [] := List.eq_nil_of_length_eq_zero h0
    subst this
    simp [distinct]
  · let g : σ → τ := fun x => if hx : x ∈ l then m[place l x]'(by have := place_lt hx; omega) else m[0]'(by omega)
    have h1 : ∀ y ∈ distinct m, y ∈ (distinct l).map g := fun y hy => by
      obtain ⟨k, hk, rfl⟩ := List.getElem_of_mem (distinct_mem.1 hy)
      have hkl : k < l.length := by omega
      have hx : l[k] ∈ l := List.getElem_mem hkl
      refine List.mem_map.2 ⟨l[k], distinct_mem.2 hx, ?_⟩
      have h2 := place_get hx
      have h3 := place_lt hx
      rw [List.getElem?_eq_getElem h3] at h2
      show (if hx : l[k] ∈ l then m[place l l[k]]'(by have := place_lt hx; omega) else m[0]'(by omega)) = _
      rw [dif_pos hx]
      exact hfine _ _ h3 hkl (Option.some.inj h2)
    have := sub_len _ _ (distinct_nodup m) h1
    rwa [List.length_map] at this
theorem distinct_len (l : List σ) : (distinct l).length ≤ l.length := sub_len _ _ (distinct_nodup l) (fun x hx => distinct_mem.1 hx)
theorem nums_small {l : List σ} {n : Nat} (h : n ∈ nums l) : n < l.length := by
  obtain ⟨x, hx, rfl⟩ := List.mem_map.1 h
  exact Nat.lt_of_lt_of_le (place_lt (distinct_mem.2 hx)) (distinct_len l)
end

theorem at0_small {p : List Nat} {b : Nat} (h : ∀ n ∈ p, n < b) (hb : 0 < b) (i : Nat) : at0 p i < b := by
  unfold at0
  cases hp : p[i]? with
  | none => exact hb
  | some n => exact h n (List.mem_of_getElem? hp)

theorem parts_small {β : Type} {N : List (List Nat)} {O : List β} {classes : Nat} (h : OkN N O classes) : ∀ k, ∀ n ∈ partsN N O k, n < N.length
  | 0, n, hn => by have := nums_small hn; rw [h.len]; exact this
  | k + 1, n, hn => by have := nums_small hn; rwa [keysL_length] at this

theorem keysL_at {N : List (List Nat)} {p : List Nat} {i : Nat} (hi : i < N.length) : (keysL N p)[i]? = some (at0 p i :: N[i].map (at0 p)) := by
  rw [List.getElem?_eq_getElem (by rw [keysL_length]; exact hi), keysL_get hi]

/-- once it is no finer it is the last one: for the numbers that are handed back -/
theorem parts_done {β : Type} {N : List (List Nat)} {O : List β} {classes k : Nat} (h : OkN N O classes) (hc : (distinct (keysL N (partsN N O k))).length ≤ (distinct (partsN N O k)).length) {i j : Nat} (hi : i < N.length) (hj : j < N.length) :
    at0 (partsN N O (k + 1)) i = at0 (partsN N O (k + 1)) j ↔ TellSame N O classes i j := by
  rw [parts_succ h k hi hj]
  constructor
  · intro e
    exact (parts_last h hc hi hj).1 e.1
  · intro e
    refine ⟨(parts_last h hc hi hj).2 e, fun c hcc => (parts_last h hc (h.go hi hcc) (h.go hj hcc)).2 fun t ht => ?_⟩
    exact e (c :: t) (fun d hd => by rcases List.mem_cons.1 hd with rfl | hd; exact hcc; exact ht d hd)

theorem parts_fine {β : Type} {N : List (List Nat)} {O : List β} {classes : Nat} (h : OkN N O classes) (k : Nat) : (distinct (partsN N O k)).length ≤ (distinct (keysL N (partsN N O k))).length := by
  have hl := partsN_length h k
  refine distinct_le (by rw [keysL_length, hl]) (fun a b ha hb hab => ?_)
  rw [keysL_length] at ha hb
  have := ((keys_eq h ha hb).1 hab).1
  unfold at0 at this
  rwa [List.getElem?_eq_getElem (by omega), List.getElem?_eq_getElem (by omega)] at this

/-! ### the walk -/
def litU (o : Nat) : Lit := .int .u64 (o : Nat)
theorem litU_inj (x y : Nat) (_ : True) (_ : True) (h : litU x = litU y) : x = y := by
  unfold litU at h
  injection h with _ h
  omega
theorem litU_wf {o : Nat} (h : o < 2 ^ 64) : (litU o).wf = true := by
  exact WalkArith.wf_u64 (by omega)
theorem NumMap.size {K : TypeId} {w : World} {b : Nat} {ks : List Lit} (h : NumMap K w b ks) : Maps.size (numD (H := Unit) ks) = ks.length := (num_facts (H := Unit) _ ks rfl h.1 h.2.1).2.1
/-- the text of one key -/
def keyK (k : List Nat) : Lit := nameK [natsI k]
theorem natsI_inj {a b : List Nat} (h : natsI a = natsI b) : a = b := by
  unfold natsI at h
  exact (List.map_inj_right (fun x y h => by omega)).1 h
theorem small_natsI {k : List Nat} (h : ∀ n ∈ k, n < 65280) : Small16 (natsI k) := fun n hn => by
  obtain ⟨m, hm, rfl⟩ := List.mem_map.1 hn
  have := h m hm
  omega
theorem keyK_inj (x y : List Nat) (hx : ∀ n ∈ x, n < 65280) (hy : ∀ n ∈ y, n < 65280) (h : keyK x = keyK y) : x = y := by
  have h1 := nameK_inj (fun xs hxs => by rw [List.mem_singleton.1 hxs]; exact small_natsI hx) (fun xs hxs => by rw [List.mem_singleton.1 hxs]; exact small_natsI hy) h
  injection h1 with h1
  exact natsI_inj h1

theorem infoE_machine : True := trivial

/-- what a machine's cells read as -/
theorem MachD.get {w : World} {ob classes : Nat} {N : List (List Nat)} {O : List Nat} (h : MachD w ob classes N O) {nn : Nat} (hN : N.length = nn) (hO : O.length = nn) : ob < w.heap.size ∧ ∃ pn cn po co, w.cell? ⟨ob, 0, none⟩ = some (.int .i64 (classes : Nat)) ∧ w.cell? ⟨ob, 1, none⟩ = some (.slice pn nn cn) ∧ w.cell? ⟨ob, 2, none⟩ = some (.slice po nn co) ∧ nn ≤ cn ∧ nn ≤ co ∧
    (∀ (i : Nat) r, N[i]? = some r → ∃ b off v, pn = some ⟨b, off, none⟩ ∧ b < w.heap.size ∧ w.cell? ⟨b, off + i, none⟩ = some v ∧ Ints w v (natsI r)) ∧
    (∀ (i : Nat) o, O[i]? = some o → ∃ b off, po = some ⟨b, off, none⟩ ∧ b < w.heap.size ∧ w.cell? ⟨b, off + i, none⟩ = some (.int .u64 (o : Nat))) := by
  obtain ⟨nv, ov, h1, h2, h3⟩ := h
  obtain ⟨pn, cn, rfl, g1, g2⟩ := h2.at (by decide) hN
  obtain ⟨po, co, rfl, g3, g4⟩ := h3.at (by decide) hO
  obtain ⟨m0, m1, m2⟩ := cells3 h1
  refine ⟨at_lt h1, pn, cn, po, co, m0, m1, m2, g1, g3, fun i r hr => ?_, fun i o ho => ?_⟩
  · obtain ⟨b, off, row, rfl, k1, k2, v, rfl, -, k3, -⟩ := g2 i r hr
    exact ⟨b, off, v, rfl, k1, by have := k2 0 v rfl; simpa using this, k3⟩
  · obtain ⟨b, off, row, rfl, k1, k2, k3⟩ := g4 i o ho
    have k3 : row = [.int .u64 (o : Nat)] := k3
    subst k3
    exact ⟨b, off, rfl, k1, by have := k2 0 _ rfl; simpa using this⟩

def PartPost (w : World) (N : List (List Nat)) (O : List Nat) (classes : Nat) (e : Ending) (w' : World) : Prop :=
  ∃ gp p, e = .returned (.slice (some ⟨gp, 0, none⟩) N.length N.length) ∧ w.heap.size ≤ gp ∧ VRow w' gp 3 ((natsI p).map (.int .i64)) ∧ p.length = N.length ∧ (∀ n ∈ p, n < N.length) ∧ (∀ i j, i < N.length → j < N.length → (at0 p i = at0 p j ↔ TellSame N O classes i j)) ∧ Below w.heap.size w w'

set_option maxRecDepth 100000 in
set_option maxHeartbeats 8000000 in
theorem parted_any (w : World) (ob classes : Nat) (N : List (List Nat)) (O : List Nat) (hM : MachD w ob classes N O) (hok : OkN N O classes) (hn : N.length ≤ 2000) (hc : classes ≤ 24) (hO : ∀ o ∈ O, o < 2 ^ 64) :
    Calls Try.prog 60 #[.pointer (some ⟨ob, 0, none⟩)] w (PartPost w N O classes) := by
  obtain ⟨nn, hnn⟩ : ∃ nn, nn = N.length := ⟨_, rfl⟩
  obtain ⟨hol, pn, cn, po, co, m0, m1, m2, hcn, hco, hgn, hgo⟩ := hM.get hnn.symm (by rw [← hok.len, hnn])
  have HN := Lib.hid hnn
  have HON := Lib.hid (show O.length = nn by rw [← hok.len, hnn])
  have HGN := Lib.hid hgn
  have HGO := Lib.hid hgo
  have HOK := Lib.hid hok
  have HOS := Lib.hid hO
  have hn2 : nn ≤ 2000 := by omega
  have HM0 := Lib.hid (And.intro m1 m2)
  have hmm := @run_makeMap Try.prog
  have hmt : ∀ (w : World), (Instr.makeSlice 46 (.int .i64 (nn : Nat)) (.int .i64 (nn : Nat))).run Try.prog w = .ok (.slice (some ⟨w.heap.size, 0, none⟩) nn nn) (w.alloc (.cells (List.replicate nn (Value.int .i64 0)).toArray 3)) := fun w => make_ints _ Try.underlying46 w _ nn rfl (by omega)
  clear hM hok hn hO hgn hgo hnn
  go_enter Try.func60, Try.ntmps60
  go_upto_region 3 with fail
  refine abs_wp fun W hW => ?_
  obtain ⟨gp, hgp⟩ : ∃ gp, gp = w.heap.size := ⟨_, rfl⟩
  obtain ⟨mb, hmb⟩ : ∃ mb, mb = w.heap.size + 1 := ⟨_, rfl⟩
  have hal1 := below_alloc1 w (.cells (List.replicate nn (Value.int .i64 0)).toArray 3)
  have s1 : (w.alloc (.cells (List.replicate nn (Value.int .i64 0)).toArray 3)).heap.size = w.heap.size + 1 := by simp
  have hal2 := below_alloc1 (w.alloc (.cells (List.replicate nn (Value.int .i64 0)).toArray 3)) (.map #[] 0)
  have hW2 : W = (w.alloc (.cells (List.replicate nn (Value.int .i64 0)).toArray 3)).alloc (.map #[] 0) := by rw [hW]; simp
  have HB0 := Lib.hid (show Below w.heap.size w W by rw [hW2]; exact hal1.trans (hal2.mono (by omega)))
  have HV0 := Lib.hid (show VRow W gp 3 (List.replicate nn (Value.int .i64 0)) by rw [hW2, hgp]; exact (hal2.block _ (by rw [s1]; omega)).trans (heap_alloc_new _ _))
  have HM1 := Lib.hid (show NumMap 37 W mb [] by rw [hW2, hmb, ← s1]; exact NumMap.new _ _)
  have hgp0 : w.heap.size ≤ gp := by omega
  have hmb0 : w.heap.size ≤ mb := by omega
  have hgm : gp ≠ mb := by omega
  have HEQ := Lib.hid (And.intro hgp hmb)
  rw [← hmb, ← hgp]
  clear hW hW2 hal1 s1 hal2 hgp hmb
  have HKP := Lib.hid (fun (l : List Nat) (o : Nat) => key_place (P := fun _ => True) (f := litU) litU_inj (l := l) (s := o) (fun _ _ => trivial) trivial)
  have y2 := cell_below HB0.out hol m2
  clear m0 m1 m2
  go_wp2_with fail
  clear y2
  go_loopw [27] (fun i w1 => ∃ k : Nat, i = .int .i64 k ∧ k ≤ nn ∧ VRow w1 gp 3 ((natsI ((nums O).take k)).map (.int .i64) ++ List.replicate (nn - k) (.int .i64 0)) ∧ NumMap 37 w1 mb ((distinct (O.take k)).map litU) ∧ Below w.heap.size w w1) (fun i _ => nn - (intOf i).toNat)
  case atStart => exact ⟨0, rfl, by omega, HV0.out, HM1.out, HB0.out⟩
  case round =>
    obtain ⟨k, rfl, hk1, hv, hnm, hb⟩ := hrel
    have HV := Lib.hid hv
    have HNM := Lib.hid hnm
    have HB := Lib.hid hb
    have hbs := hb.size
    clear hv hnm
    by_cases hk : k < nn
    · have hkO : k < O.length := by rw [HON.out]; exact hk
      obtain ⟨o, ho⟩ : ∃ o, o = O[k] := ⟨_, rfl⟩
      have hgo : O[k]? = some o := by rw [ho]; exact List.getElem?_eq_getElem hkO
      obtain ⟨bo, oo, rfl, hbo, d0⟩ := HGO.out k o hgo
      have d1 := cell_below hb hbo d0
      have hos := HOS.out o (by rw [ho]; exact List.getElem_mem hkO)
      have HD := Lib.hid (show distinct (O.take (k + 1)) = putS (distinct (O.take k)) o by rw [List.take_succ_eq_append_getElem hkO, distinct_snoc, ho])
      have HT := Lib.hid (show place (distinct (O.take k)) o = (nums O)[k]'(by rw [nums_length]; exact hkO) by rw [ho]; exact nums_take hkO)
      have hdl : (distinct (O.take k)).length ≤ nn := by have := distinct_len (O.take k); rw [List.length_take] at this; omega
      have HNU := Lib.hid (number_u64 wr mb ((distinct (O.take k)).map litU) (o : Nat) HNM.out (litU_wf hos) (by rw [List.length_map]; omega))
      obtain ⟨n', hn'⟩ : ∃ n', n' = (nums O)[k]'(by rw [nums_length]; exact hkO) := ⟨_, rfl⟩
      have HNT := Lib.hid (show (nums O).take (k + 1) = (nums O).take k ++ [n'] by rw [List.take_succ_eq_append_getElem (by rw [nums_length]; exact hkO), hn'])
      have hn's : n' ≤ 2000 := by have := nums_small (l := O) (n := n') (by rw [hn']; exact List.getElem_mem _); rw [HON.out] at this; omega
      rw [← hn'] at HT
      have HNU2 := Lib.hid (show Calls Try.prog 81 #[.map (some mb), .int .u64 (o : Nat)] wr fun e w' => (∃ b, e = .returned (.tuple #[.int .i64 (n' : Nat), .bool b])) ∧ NumMap 37 w' mb ((distinct (O.take (k + 1))).map litU) ∧ wr.grownBy w' (some mb) by
        refine HNU.out.mono ?_
        rintro e w' ⟨h1, h2, h3⟩
        obtain ⟨e1, e2, -⟩ := HKP.out (distinct (O.take k)) o
        have e1' : place ((distinct (O.take k)).map litU) (Lit.int .u64 (o : Nat)) = n' := by rw [← HT.out, ← e1]; rfl
        have e2' : putS ((distinct (O.take k)).map litU) (Lit.int .u64 (o : Nat)) = (distinct (O.take (k + 1))).map litU := by rw [HD.out, ← e2]; rfl
        rw [e1'] at h1
        rw [e2'] at h2
        exact ⟨⟨_, h1⟩, h2, h3⟩)
      have hkk : (k : Int) < nn := by omega
      have hk0 : (0 : Int) ≤ k := by omega
      have HLT := Lib.hid (show (nums O).length = nn by rw [nums_length, HON.out])
      clear ho hgo d0 hos HNU hn' hkO
      go_wp2_with fail
      refine HNU2.out.mono ?_
      rintro e w2 ⟨⟨bf, rfl⟩, hnm2, hg2⟩
      have hf2 : Fr (fun k => k = mb) wr w2 := Fr.grown (F := fun k => k = mb) hg2 (fun k h => by injection h with h; exact h.symm)
      have HV2 := Lib.hid (HV.out.fr hf2 hgm)
      have HNM2 := Lib.hid hnm2
      have HB2 := Lib.hid (HB.out.trans (hf2.below hbs (fun k (hk : k = mb) => by omega)))
      have hfl : ((natsI ((nums O).take k)).map (Value.int .i64)).length = k := by simp [natsI, HLT.out]; omega
      have HFS := Lib.hid (fill_set ((natsI ((nums O).take k)).map (Value.int .i64)) (nn - k) (.int .i64 (n' : Nat)) (.int .i64 0) hfl (by omega))
      have z0 := HV2.out.cell (i := k) (u := .int .i64 0) (by rw [List.getElem?_append_right (by omega), hfl, Nat.sub_self, List.getElem?_replicate, if_pos (by omega)])
      have z1 := HV2.out.fz k
      clear hnm2 hg2 hf2 hfl hb d1
      go_upto_region 7 with fail
      refine abs_wp fun W3 hW3 => ?_
      have HV3 := Lib.hid (show VRow W3 gp 3 ((natsI ((nums O).take (k + 1))).map (.int .i64) ++ List.replicate (nn - (k + 1)) (.int .i64 0)) by
        have h := HV2.out.set k (.int .i64 (n' : Nat))
        rw [HFS.out] at h
        rw [hW3, HNT.out]
        have e : (natsI ((nums O).take k ++ [n'])).map (Value.int .i64) = (natsI ((nums O).take k)).map (Value.int .i64) ++ [.int .i64 (n' : Nat)] := by simp [natsI]
        rw [e, show nn - (k + 1) = nn - k - 1 by omega]
        exact h)
      have hf3 : Fr (fun q => q = gp) w2 W3 := by rw [hW3]; exact Fr.setCell (F := fun q => q = gp) w2 rfl _
      have HNM3 := Lib.hid (HNM2.out.fr hf3 (fun h => hgm h.symm))
      have HB3 := Lib.hid (HB2.out.trans (hf3.below HB2.out.size (fun k (hk : k = gp) => by omega)))
      clear hW3 hf3 z0 z1
      go_wp2_with fail
      go_roundw
      case rel => exact ⟨k + 1, by go_num, by omega, HV3.out, HNM3.out, HB3.out⟩
      case measure => simp [intOf]; omega
    · have hkk : ¬ (k : Int) < nn := by omega
      obtain rfl : nn = k := by omega
      have hv0 := HV.out
      rw [Nat.sub_self, List.replicate_zero, List.append_nil, List.take_of_length_le (show (nums O).length ≤ nn by rw [nums_length, HON.out]; exact Nat.le_refl _)] at hv0
      have HVV := Lib.hid hv0
      have hnm0 := HNM.out
      rw [List.take_of_length_le (show O.length ≤ nn by rw [HON.out]; exact Nat.le_refl _)] at hnm0
      have HSZ := Lib.hid (show Maps.size (numD (H := Unit) ((distinct O).map litU)) = (distinct O).length by rw [hnm0.size, List.length_map])
      have hown := hnm0.2.2
      have hdl : (distinct O).length ≤ nn := by have := distinct_len O; rw [HON.out] at this; exact this
      clear hv0 hnm0
      go_wp2_with (first | (at_len; refine wpList_len_own _ rfl _ 154 rfl 37 3 Try.underlying154 _ mb ((distinct O).map litU).length _ rfl hown ?_; rw [HSZ.out]) | fail)
      clear hown
      go_loopw [3, 7] (fun u m w1 => ∃ (k g cnt : Nat), u = .slice (some ⟨g, 0, none⟩) nn nn ∧ m = .int .i64 cnt ∧ w.heap.size ≤ g ∧ VRow w1 g 3 ((natsI (partsN N O k)).map (.int .i64)) ∧ cnt ≤ (distinct (partsN N O k)).length ∧ cnt ≤ nn ∧ Below w.heap.size w w1) (fun _ m _ => nn - (intOf m).toNat)
      case atStart => exact ⟨0, gp, (distinct O).length, rfl, rfl, hgp0, HVV.out, nums_count O, hdl, HB.out⟩
      case round =>
        clear hb hbs
        obtain ⟨k, g, cnt, rfl, rfl, hg0, hv, hcn1, hcn2, hb⟩ := hrel
        have hgl := hv.lt
        obtain ⟨p, hp⟩ : ∃ p, p = partsN N O k := ⟨_, rfl⟩
        rw [← hp] at hv hcn1
        have HP := Lib.hid hp
        have HV1 := Lib.hid hv
        have HB1 := Lib.hid hb
        have hbs := hb.size
        have HPL := Lib.hid (show p.length = nn by rw [hp, partsN_length HOK.out, HN.out])
        have HPS := Lib.hid (show ∀ n ∈ p, n < nn by rw [hp, HN.out]; exact parts_small HOK.out k)
        clear hp hv
        go_upto_region 11 with fail
        refine abs_wp fun W2 hW2 => ?_
        obtain ⟨m2, hm2⟩ : ∃ m2, m2 = wr.heap.size := ⟨_, rfl⟩
        obtain ⟨gf, hgf⟩ : ∃ gf, gf = wr.heap.size + 1 := ⟨_, rfl⟩
        have hal1 := below_alloc1 wr (.map #[] 0)
        have s1 : (wr.alloc (.map #[] 0)).heap.size = wr.heap.size + 1 := by simp
        have hal2 := below_alloc1 (wr.alloc (.map #[] 0)) (.cells (List.replicate nn (Value.int .i64 0)).toArray 3)
        have hW3 : W2 = (wr.alloc (.map #[] 0)).alloc (.cells (List.replicate nn (Value.int .i64 0)).toArray 3) := by rw [hW2]; simp
        have hbe : Below wr.heap.size wr W2 := by rw [hW3]; exact hal1.trans (hal2.mono (by omega))
        have HBE := Lib.hid hbe
        have HB2 := Lib.hid (hb.trans (hbe.mono hbs))
        have HVF := Lib.hid (show VRow W2 gf 3 (List.replicate nn (Value.int .i64 0)) by rw [hW3, hgf, ← s1]; exact heap_alloc_new _ _)
        have HNF := Lib.hid (show NumMap 9 W2 m2 [] by rw [hW3, hm2]; exact (NumMap.new _ _).fr (Fr.of_belowB hal2) (by omega))
        have HVP := Lib.hid (HV1.out.fr (Fr.of_belowB hbe) (by omega))
        have hm20 : w.heap.size ≤ m2 := by omega
        have hgf0 : w.heap.size ≤ gf := by omega
        have hgm2 : gf ≠ m2 := by omega
        have hgg : g ≠ gf := by omega
        have hggm : g ≠ m2 := by omega
        rw [← hgf, ← hm2]
        have y1 := cell_below HB2.out hol HM0.out.1
        obtain ⟨K, hK⟩ : ∃ K, K = keysL N p := ⟨_, rfl⟩
        have HK := Lib.hid hK
        have HKL := Lib.hid (show K.length = nn by rw [hK, keysL_length, HN.out])
        have HKS := Lib.hid (show ∀ x ∈ K, ∀ n ∈ x, n < 65280 by
          intro x hx n hn
          rw [hK] at hx
          obtain ⟨i, hi, rfl⟩ := List.getElem_of_mem hx
          rw [keysL_length] at hi
          rw [keysL_get hi] at hn
          have hpos : 0 < nn := by rw [HN.out]; omega
          have h65 : ∀ q, at0 p q < 65280 := fun q => Nat.lt_of_lt_of_le (at0_small HPS.out hpos q) (by omega)
          rcases List.mem_cons.1 hn with rfl | hn
          · exact h65 _
          · obtain ⟨q, -, rfl⟩ := List.mem_map.1 hn
            exact h65 _)
        have HKP2 := Lib.hid (fun (l : List (List Nat)) (hl : ∀ x ∈ l, ∀ n ∈ x, n < 65280) (x : List Nat) (hx : ∀ n ∈ x, n < 65280) => key_place (P := fun x : List Nat => ∀ n ∈ x, n < 65280) (f := keyK) keyK_inj (l := l) (s := x) hl hx)
        clear hW2 hW3 hal1 s1 hal2 hbe hm2 hgf hb hK hgl hbs
        go_wp2_with fail
        clear y1
        go_loopw [53] (fun i w3 => ∃ k : Nat, i = .int .i64 k ∧ k ≤ nn ∧ VRow w3 gf 3 ((natsI ((nums K).take k)).map (.int .i64) ++ List.replicate (nn - k) (.int .i64 0)) ∧ NumMap 9 w3 m2 ((distinct (K.take k)).map keyK) ∧ VRow w3 g 3 ((natsI p).map (.int .i64)) ∧ Below w.heap.size w w3) (fun i _ => nn - (intOf i).toNat)
        case atStart => exact ⟨0, rfl, by omega, HVF.out, HNF.out, HVP.out, HB2.out⟩
        case round =>
          obtain ⟨i, rfl, hi1, hvf, hnf, hvp, hb3⟩ := hrel
          have HVF3 := Lib.hid hvf
          have HNF3 := Lib.hid hnf
          have HVP3 := Lib.hid hvp
          have HB3 := Lib.hid hb3
          have hb3s := hb3.size
          clear hvf hnf hvp
          by_cases hi : i < nn
          · have hiN : i < N.length := by rw [← HN.out]; exact hi
            obtain ⟨r, hr⟩ : ∃ r, r = N[i] := ⟨_, rfl⟩
            obtain ⟨bn, on, rv, rfl, hbn, d0, hrv⟩ := HGN.out i r (by rw [hr]; exact List.getElem?_eq_getElem hiN)
            have d1 := cell_below hb3 hbn d0
            have hrow := HOK.out.row r (by rw [hr]; exact List.getElem_mem hiN)
            have HROW := Lib.hid hrow
            have HKI := Lib.hid (show K[i]? = some (at0 p i :: r.map (at0 p)) by rw [HK.out, hr]; exact keysL_at hiN)
            obtain ⟨pr, cr, rfl, hcr, hrc⟩ := hrv.get
            have hrl : (natsI r).length = classes := by unfold natsI; rw [List.length_map]; exact hrow.1
            have HRC := Lib.hid hrc
            rw [hrl] at d1 hcr
            obtain ⟨a0, ha0⟩ : ∃ a0, a0 = at0 p i := ⟨_, rfl⟩
            have e0 : ((natsI p).map (Value.int .i64))[i]? = some (.int .i64 (a0 : Nat)) := by
              unfold natsI
              rw [List.map_map, List.getElem?_map, ha0]
              unfold at0
              rw [List.getElem?_eq_getElem (by rw [HPL.out]; exact hi)]
              rfl
            have d2 := HVP3.out.cell e0
            have HA0 := Lib.hid ha0
            have hii : (i : Int) < nn := by omega
            have hi0 : (0 : Int) ≤ i := by omega
            have hrlH := Lib.hid hrl
            clear hr d0 hrv hrow hrc ha0 e0 hrl
            go_upto_region 15 with fail
            refine abs_wp fun W4 hW4 => ?_
            obtain ⟨B4, hB4⟩ : ∃ B4, B4 = wr.heap.size := ⟨_, rfl⟩
            have hal := below_alloc1 wr (.cells #[Value.int .i64 (a0 : Nat)] 3)
            have HA4 := Lib.hid (show Below wr.heap.size wr W4 by rw [hW4]; exact hal)
            have HOK4 := Lib.hid (show OwnL intE 3 1 B4 W4 (.slice (some ⟨B4, 0, none⟩) 1 1) (natsI (a0 :: (r.take 0).map (at0 p))) by
              rw [hW4, hB4]
              exact OwnL.block1 (E := intE) wr 3 (a0 : Int) [.int .i64 (a0 : Nat)] ⟨rfl, by simp [Value.oneCell']⟩ rfl (Nat.le_refl _))
            have hgfl := HVF3.out.lt
            have hggl := HVP3.out.lt
            have hm2l := HNF3.out.lt
            have HVF4 := Lib.hid (HVF3.out.fr (Fr.of_belowB HA4.out) (by omega))
            have HVP4 := Lib.hid (HVP3.out.fr (Fr.of_belowB HA4.out) (by omega))
            have HNF4 := Lib.hid (HNF3.out.fr (Fr.of_belowB HA4.out) (by omega))
            have HBW4 := Lib.hid (HB3.out.trans (HA4.out.mono hb3s))
            have hB40 : w.heap.size ≤ B4 := by omega
            have hW4s := HA4.out.size
            have hB4s : B4 ≤ W4.heap.size := by omega
            rw [← hB4]
            rw [← hB4] at hgfl hggl hm2l
            clear hW4 hB4 hal hW4s hb3s hb3
            go_wp2_with fail
            clear d1 d2
            go_loopw [12, 65] (fun u j w5 => ∃ m : Nat, j = .int .i64 m ∧ m ≤ classes ∧ (∃ ys, ys = natsI (a0 :: (r.take m).map (at0 p)) ∧ OwnL intE 3 1 B4 w5 u ys) ∧ Below B4 W4 w5) (fun _ j _ => classes - (intOf j).toNat)
            case atStart => exact ⟨0, rfl, by omega, ⟨_, rfl, HOK4.out⟩, Below.refl _ _⟩
            case round =>
              obtain ⟨m, rfl, hm1, ⟨ys, hys, hoy⟩, hb5⟩ := hrel
              obtain ⟨pu, cu, hu⟩ := hoy.form
              subst hu
              have HYS := Lib.hid hys
              have HOY := Lib.hid hoy
              have HB5 := Lib.hid hb5
              have hb5s := hb5.size
              have hyl : ys.length = m + 1 := by rw [hys]; unfold natsI; rw [List.length_map, List.length_cons, List.length_map, List.length_take, HROW.out.1]; omega
              have HYL := Lib.hid hyl
              clear hys hoy hyl
              by_cases hm : m < classes
              · have hmr : m < r.length := by rw [HROW.out.1]; exact hm
                obtain ⟨b2, o2, rfl, hb2l, hrc⟩ := HRC.out (by rw [hrlH.out]; omega)
                obtain ⟨n', hn'⟩ : ∃ n', n' = r[m] := ⟨_, rfl⟩
                have d3 : w.cell? ⟨b2, o2 + m, none⟩ = some (.int .i64 (n' : Nat)) := by
                  have := hrc m (by rw [hrlH.out]; exact hm)
                  rw [this]
                  simp [natsI, hn']
                have d4 := cell_below (HBW4.out.trans (hb5.mono hB40)) hb2l d3
                have hnn' : n' < nn := by rw [HN.out, hn']; exact HROW.out.2 _ (List.getElem_mem hmr)
                obtain ⟨a1, ha1⟩ : ∃ a1, a1 = at0 p n' := ⟨_, rfl⟩
                have e1 : ((natsI p).map (Value.int .i64))[n']? = some (.int .i64 (a1 : Nat)) := by
                  unfold natsI
                  rw [List.map_map, List.getElem?_map, ha1]
                  unfold at0
                  rw [List.getElem?_eq_getElem (by rw [HPL.out]; exact hnn')]
                  rfl
                have d5 := (HVP4.out.fr (Fr.of_belowB hb5) (by omega)).cell e1
                have HTK := Lib.hid (show natsI (a0 :: (r.take (m + 1)).map (at0 p)) = ys ++ [(a1 : Int)] by
                  rw [HYS.out, List.take_succ_eq_append_getElem hmr, ha1, hn']
                  unfold natsI
                  simp only [List.map_append, List.map_cons, List.map_nil, List.cons_append])
                have hnni : (n' : Int) < nn := by omega
                have hn0 : (0 : Int) ≤ n' := by omega
                have hmi : (m : Int) < classes := by omega
                have hm0 : (0 : Int) ≤ m := by omega
                have hap := below_alloc1 wr (.cells #[.int .i64 (a1 : Nat)] 3)
                have HNEW := Lib.hid (ReadL.one (E := intE) (sz := 1) wr 3 (a1 : Int) [.int .i64 (a1 : Nat)] (by simp [Value.oneCell']) rfl)
                have HAP := Lib.hid hap
                clear hrc d3 ha1 e1 hn' hb5 hap
                go_wp2_with (refine stop_at (.call { callee := .builtin .append, args := #[.tmp 69, .tmp 74], argTypes := #[46, 46] }) rfl ?_)
                refine ⟨?_⟩
                refine wpList_append_ints rfl (.tmp 69) (.tmp 74) rfl _ ys rfl (base := B4) (HOY.out.below HAP.out (Nat.le_refl _)) _ [(a1 : Int)] rfl HNEW.out (by have := HYL.out; simp; omega) (by have := HAP.out.size; omega) ?_
                intro p6 c6 w6 hown6 hg6 hlie6
                have HREL := Lib.hid (show OwnL intE 3 1 B4 w6 (.slice p6 (ys.length + [(a1 : Int)].length) c6) (ys ++ [(a1 : Int)]) ∧ Below B4 W4 w6 by
                  refine ⟨hown6, ?_⟩
                  have h1 := HB5.out.trans (HAP.out.mono (by omega))
                  exact h1.trans ((Fr.grown (F := fun q => (Value.slice pu ys.length cu).ownBlock = some q) hg6 (fun q h => h)).below (by have := h1.size; omega) (fun q hq => (HOY.out.lt q hq).1)))
                clear hown6 hg6 hlie6 d4 d5
                go_wp2_with fail
                go_roundw
                case rel => exact ⟨m + 1, by go_num, by omega, ⟨_, HTK.out.symm, HREL.out.1⟩, HREL.out.2⟩
                case measure => simp [intOf]; omega
              · have hmi : ¬ (m : Int) < classes := by omega
                obtain rfl : classes = m := by omega
                obtain ⟨key, hkey⟩ : ∃ key, key = at0 p i :: r.map (at0 p) := ⟨_, rfl⟩
                have hyk : ys = natsI key := by rw [HYS.out, hkey, List.take_of_length_le (by rw [HROW.out.1]; exact Nat.le_refl _), HA0.out]
                have HKI2 := Lib.hid (show K[i]? = some key by rw [hkey]; exact HKI.out)
                have hiK : i < K.length := by rw [HKL.out]; exact hi
                have hKi : K[i] = key := by have := HKI2.out; rw [List.getElem?_eq_getElem hiK] at this; exact Option.some.inj this
                have hks := HKS.out key (by rw [← hKi]; exact List.getElem_mem hiK)
                have HKSI := Lib.hid hks
                have hyl2 : ys.length ≤ 1000 := by have := HYL.out; omega
                have HKLN := Lib.hid (show (natsI key).length ≤ 1000 by rw [← hyk]; exact hyl2)
                have hal := below_alloc1 wr (.cells #[Value.slice pu ys.length cu] 46)
                have HAL := Lib.hid hal
                have HLL := Lib.hid (show LLF (fun _ => True) (wr.alloc (.cells #[Value.slice pu ys.length cu] 46)) (.slice (some ⟨wr.heap.size, 0, none⟩) 1 1) [natsI key] from
                  ⟨ReadL.one wr _ (natsI key) [Value.slice pu ys.length cu] ⟨rfl, by simp [Value.oneCell']⟩ ⟨_, rfl, rfl, by rw [← hyk]; exact (HOY.out.below hal (Nat.le_refl _)).read.ints, fun _ _ _ => trivial⟩, fun _ _ _ => trivial⟩)
                have HNM := Lib.hid (name_any _ (wr.alloc (.cells #[Value.slice pu ys.length cu] 46)) _ [natsI key] HLL.out (by simp) (fun xs hxs => by rw [List.mem_singleton.1 hxs]; exact ⟨by rw [← hyk]; exact hyl2, small_natsI hks⟩))
                have HD := Lib.hid (show distinct (K.take (i + 1)) = putS (distinct (K.take i)) key by rw [List.take_succ_eq_append_getElem hiK, distinct_snoc, hKi])
                have HT := Lib.hid (show place (distinct (K.take i)) key = (nums K)[i]'(by rw [nums_length]; exact hiK) by rw [← hKi]; exact nums_take hiK)
                have hdl2 : (distinct (K.take i)).length ≤ nn := by have := distinct_len (K.take i); rw [List.length_take] at this; omega
                obtain ⟨n', hn'⟩ : ∃ n', n' = (nums K)[i]'(by rw [nums_length]; exact hiK) := ⟨_, rfl⟩
                have HNT := Lib.hid (show (nums K).take (i + 1) = (nums K).take i ++ [n'] by rw [List.take_succ_eq_append_getElem (by rw [nums_length]; exact hiK), hn'])
                have hn's : n' ≤ 2000 := by have := nums_small (l := K) (n := n') (by rw [hn']; exact List.getElem_mem _); rw [HKL.out] at this; omega
                rw [← hn'] at HT
                have HLT := Lib.hid (show (nums K).length = nn by rw [nums_length, HKL.out])
                clear hkey hyk hKi hks hal hn' hyl2
                go_wp2_with fail
                refine HNM.out.mono ?_
                rintro e w6 ⟨rfl, hb6⟩
                have HB6 := Lib.hid (HB5.out.trans ((HAL.out.trans (hb6.mono HAL.out.size)).mono (by omega)))
                clear hb6
                have HNF6 := Lib.hid (HNF4.out.fr (Fr.of_belowB HB6.out) (by omega))
                have HVF6 := Lib.hid (HVF4.out.fr (Fr.of_belowB HB6.out) (by omega))
                have HVP6 := Lib.hid (HVP4.out.fr (Fr.of_belowB HB6.out) (by omega))
                have HBW6 := Lib.hid (HBW4.out.trans (HB6.out.mono hB40))
                have hbw6 := HBW6.out.size
                have hsz : (strOf (nameL [natsI key])).size ≤ maxLen := by
                  rw [strOf_size]
                  have h1 := nameL_length (xss := [natsI key]) (fun xs hxs => by rw [List.mem_singleton.1 hxs]; exact HKLN.out)
                  unfold maxLen
                  simp at h1
                  omega
                have HNU := Lib.hid (number_str w6 m2 ((distinct (K.take i)).map keyK) (strOf (nameL [natsI key])) HNF6.out hsz (by rw [List.length_map]; omega))
                have HNU2 := Lib.hid (show Calls Try.prog 58 #[.map (some m2), .string (strOf (nameL [natsI key]))] w6 fun e w' => (∃ b, e = .returned (.tuple #[.int .i64 (n' : Nat), .bool b])) ∧ NumMap 9 w' m2 ((distinct (K.take (i + 1))).map keyK) ∧ w6.grownBy w' (some m2) by
                  refine HNU.out.mono ?_
                  rintro e w' ⟨h1, h2, h3⟩
                  obtain ⟨e1, e2, -⟩ := HKP2.out (distinct (K.take i)) (fun x hx => HKS.out x (List.mem_of_mem_take (distinct_mem.1 hx))) key HKSI.out
                  have e1' : place ((distinct (K.take i)).map keyK) (Lit.string (strOf (nameL [natsI key])).data.toList) = n' := by rw [← HT.out, ← e1]; rfl
                  have e2' : putS ((distinct (K.take i)).map keyK) (Lit.string (strOf (nameL [natsI key])).data.toList) = (distinct (K.take (i + 1))).map keyK := by rw [HD.out, ← e2]; rfl
                  rw [e1'] at h1
                  rw [e2'] at h2
                  exact ⟨⟨_, h1⟩, h2, h3⟩)
                clear hsz HNU
                go_wp2_with fail
                refine HNU2.out.mono ?_
                rintro e w7 ⟨⟨bf, rfl⟩, hnm7, hg7⟩
                have hf7 : Fr (fun k => k = m2) w6 w7 := Fr.grown (F := fun k => k = m2) hg7 (fun k h => by injection h with h; exact h.symm)
                have HVF7 := Lib.hid (HVF6.out.fr hf7 hgm2)
                have HVP7 := Lib.hid (HVP6.out.fr hf7 hggm)
                have HNF7 := Lib.hid hnm7
                have HBW7 := Lib.hid (HBW6.out.trans (hf7.below hbw6 (fun k (hk : k = m2) => by omega)))
                have hfl : ((natsI ((nums K).take i)).map (Value.int .i64)).length = i := by simp [natsI, HLT.out]; omega
                have HFS := Lib.hid (fill_set ((natsI ((nums K).take i)).map (Value.int .i64)) (nn - i) (.int .i64 (n' : Nat)) (.int .i64 0) hfl (by omega))
                have z0 := HVF7.out.cell (i := i) (u := .int .i64 0) (by rw [List.getElem?_append_right (by omega), hfl, Nat.sub_self, List.getElem?_replicate, if_pos (by omega)])
                have z1 := HVF7.out.fz i
                clear hnm7 hg7 hf7 hfl
                go_upto_region 21 with fail
                refine abs_wp fun W8 hW8 => ?_
                have hf8 : Fr (fun q => q = gf) w7 W8 := by rw [hW8]; exact Fr.setCell (F := fun q => q = gf) w7 rfl _
                have HVF8 := Lib.hid (show VRow W8 gf 3 ((natsI ((nums K).take (i + 1))).map (.int .i64) ++ List.replicate (nn - (i + 1)) (.int .i64 0)) by
                  have h := HVF7.out.set i (.int .i64 (n' : Nat))
                  rw [HFS.out] at h
                  rw [hW8, HNT.out]
                  have e : (natsI ((nums K).take i ++ [n'])).map (Value.int .i64) = (natsI ((nums K).take i)).map (Value.int .i64) ++ [.int .i64 (n' : Nat)] := by simp [natsI]
                  rw [e, show nn - (i + 1) = nn - i - 1 by omega]
                  exact h)
                have HVP8 := Lib.hid (HVP7.out.fr hf8 hgg)
                have HNF8 := Lib.hid (HNF7.out.fr hf8 (fun h => hgm2 h.symm))
                have HBW8 := Lib.hid (HBW7.out.trans (hf8.below HBW7.out.size (fun k (hk : k = gf) => by omega)))
                clear hW8 hf8 z0 z1
                go_wp2_with fail
                go_roundw
                case rel => exact ⟨i + 1, by go_num, by omega, HVF8.out, HNF8.out, HVP8.out, HBW8.out⟩
                case measure => simp [intOf]; omega
          · have hii : ¬ (i : Int) < nn := by omega
            obtain rfl : nn = i := by omega
            have hv9 := HVF3.out
            rw [Nat.sub_self, List.replicate_zero, List.append_nil, List.take_of_length_le (show (nums K).length ≤ nn by rw [nums_length, HKL.out]; exact Nat.le_refl _)] at hv9
            have HV9 := Lib.hid hv9
            have hnf9 := HNF3.out
            rw [List.take_of_length_le (show K.length ≤ nn by rw [HKL.out]; exact Nat.le_refl _)] at hnf9
            have HSZ2 := Lib.hid (show Maps.size (numD (H := Unit) ((distinct K).map keyK)) = (distinct K).length by rw [hnf9.size, List.length_map])
            have hown := hnf9.2.2
            have hdl2 : (distinct K).length ≤ nn := by have := distinct_len K; rw [HKL.out] at this; exact this
            have HGE := Lib.hid (show (distinct p).length ≤ (distinct K).length by have := parts_fine HOK.out k; rwa [← HP.out, ← HK.out] at this)
            have HPN := Lib.hid (show nums K = partsN N O (k + 1) by rw [partsN, ← HP.out, ← HK.out])
            obtain ⟨ck, hck⟩ : ∃ ck, ck = (distinct K).length := ⟨_, rfl⟩
            rw [← hck] at HSZ2 hdl2 HGE
            have HCK := Lib.hid hck
            have hge := HGE.out
            clear hv9 hnf9 hck hb3
            by_cases hstop : ck = cnt
            · have hsi : (ck : Int) = cnt := by omega
              go_wp2_with (first | (at_len; refine wpList_len_own _ rfl _ 121 rfl 9 3 Try.underlying121 _ m2 ((distinct K).map keyK).length _ rfl hown ?_; rw [HSZ2.out]) | fail)
              go_ret
              rw [HPN.out] at HV9
              refine ⟨gf, _, by rw [← HN.out]; rfl, hgf0, HV9.out, partsN_length HOK.out _, parts_small HOK.out _, fun i j hi hj => parts_done HOK.out ?_ hi hj, HB3.out⟩
              rw [← HP.out, ← HK.out, ← HCK.out, hstop]
              exact hcn1
            · have hsi : ¬ (ck : Int) = cnt := by omega
              go_wp2_with (first | (at_len; refine wpList_len_own _ rfl _ 121 rfl 9 3 Try.underlying121 _ m2 ((distinct K).map keyK).length _ rfl hown ?_; rw [HSZ2.out]) | fail)
              go_roundw
              case rel => exact ⟨k + 1, gf, ck, rfl, rfl, hgf0, by rw [← HPN.out]; exact HV9.out, by rw [← HPN.out, HCK.out]; exact nums_count K, hdl2, HB3.out⟩
              case measure => simp [intOf]; omega
end Go.Proofs.Ytmooflmhbpckjaa
