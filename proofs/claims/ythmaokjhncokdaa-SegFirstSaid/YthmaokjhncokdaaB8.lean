import Derived.Test.YthmaokjhncokdaaB7
/-
  dfa: parted: of each state a number that it has together with those that tell the same of all rows. No condition beyond what each theorem names.
-/
set_option linter.unusedVariables false
set_option linter.unusedSimpArgs false
namespace Go.Proofs.Ythmaokjhncokdaa
open Go.RowKit Go.Maps Classical

section
variable {σ τ : Type}
/-- finer keys are no fewer -/
theorem distinct_le {l : List σ} {m : List τ} (hlen : l.length = m.length) (hfine : ∀ i j (hi : i < l.length) (hj : j < l.length), l[i] = l[j] → m[i]'(by omega) = m[j]'(by omega)) : (distinct m).length ≤ (distinct l).length := by
  by_cases h0 : m.length = 0
  · have : m = [] := List.eq_nil_of_length_eq_zero h0
    subst this
    simp [distinct]
  · let g : σ → τ := fun x => if hx : x ∈ l then m[place l x]'(by have := place_lt hx; omega) else m[0]'(by omega)
    have h1 : ∀ y ∈ distinct m, y ∈ (distinct l).map g := fun y hy => by
      obtain ⟨k, hk, rfl⟩ := List.getElem_of_mem (distinct_mem.1 hy)
      have hkl : k < l.length := by omega
      have hx : l[k] ∈ l := List.getElem_mem hkl
      refine List.mem_map.2 ⟨l[k], distinct_mem.2 hx, ?_⟩
      have h2 := place_get hx
      have h3 := place_lt hx
      rw [List.getElem?_eq_getElem h3] at h2
      show (if hx : l[k] ∈ l then m[place l l[k]]'(by have := place_lt hx; omega) else m[0]'(by omega)) = _
      rw [dif_pos hx]
      exact hfine _ _ h3 hkl (Option.some.inj h2)
    have := sub_len _ _ (distinct_nodup m) h1
    rwa [List.length_map] at this
theorem distinct_len (l : List σ) : (distinct l).length ≤ l.length := sub_len _ _ (distinct_nodup l) (fun x hx => distinct_mem.1 hx)
theorem nums_small {l : List σ} {n : Nat} (h : n ∈ nums l) : n < l.length := by
  obtain ⟨x, hx, rfl⟩ := List.mem_map.1 h
  exact Nat.lt_of_lt_of_le (place_lt (distinct_mem.2 hx)) (distinct_len l)
end

theorem at0_small {p : List Nat} {b : Nat} (h : ∀ n ∈ p, n < b) (hb : 0 < b) (i : Nat) : at0 p i < b := by
  unfold at0
  cases hp : p[i]? with
  | none => exact hb
  | some n => exact h n (List.mem_of_getElem? hp)

theorem parts_small {β : Type} {N : List (List Nat)} {O : List β} {classes : Nat} (h : OkN N O classes) : ∀ k, ∀ n ∈ partsN N O k, n < N.length
  | 0, n, hn => by have := nums_small hn; rw [h.len]; exact this
  | k + 1, n, hn => by have := nums_small hn; rwa [keysL_length] at this

theorem keysL_at {N : List (List Nat)} {p : List Nat} {i : Nat} (hi : i < N.length) : (keysL N p)[i]? = some (at0 p i :: N[i].map (at0 p)) := by
  rw [List.getElem?_eq_getElem (by rw [keysL_length]; exact hi), keysL_get hi]

/-- once it is no finer it is the last one: for the numbers that are handed back -/
theorem parts_done {β : Type} {N : List (List Nat)} {O : List β} {classes k : Nat} (h : OkN N O classes) (hc : (distinct (keysL N (partsN N O k))).length ≤ (distinct (partsN N O k)).length) {i j : Nat} (hi : i < N.length) (hj : j < N.length) :
    at0 (partsN N O (k + 1)) i = at0 (partsN N O (k + 1)) j ↔ TellSame N O classes i j := by
  rw [parts_succ h k hi hj]
  constructor
  · intro e
    exact (parts_last h hc hi hj).1 e.1
  · intro e
    refine ⟨(parts_last h hc hi hj).2 e, fun c hcc => (parts_last h hc (h.go hi hcc) (h.go hj hcc)).2 fun t ht => ?_⟩
    exact e (c :: t) (fun d hd => by rcases List.mem_cons.1 hd with rfl | hd; exact hcc; exact ht d hd)

theorem parts_fine {β : Type} {N : List (List Nat)} {O : List β} {classes : Nat} (h : OkN N O classes) (k : Nat) : (distinct (partsN N O k)).length ≤ (distinct (keysL N (partsN N O k))).length := by
  have hl := partsN_length h k
  refine distinct_le (by rw [keysL_length, hl]) (fun a b ha hb hab => ?_)
  rw [keysL_length] at ha hb
  have := ((keys_eq h ha hb).1 hab).1
  unfold at0 at this
  rwa [List.getElem?_eq_getElem (by omega), List.getElem?_eq_getElem (by omega)] at this

/-! ### the walk -/
def litU (o : Nat) : Lit := .int .u64 (o : Nat)
theorem litU_inj (x y : Nat) (_ : True) (_ : True) (h : litU x = litU y) : x = y := by
  unfold litU at h
  injection h with _ h
  omega
theorem litU_wf {o : Nat} (h : o < 2 ^ 64) : (litU o).wf = true := by
  exact WalkArith.wf_u64 (by omega)
theorem NumMap.size {K : TypeId} {w : World} {b : Nat} {ks : List Lit} (h : NumMap K w b ks) : Maps.size (numD (H := Unit) ks) = ks.length := (num_facts (H := Unit) _ ks rfl h.1 h.2.1).2.1
/-- the text of one key -/
def keyK (k : List Nat) : Lit := nameK [natsI k]
theorem natsI_inj {a b : List Nat} (h : natsI a = natsI b) : a = b := by
  unfold natsI at h
  exact (List.map_inj_right (fun x y h => by omega)).1 h
theorem small_natsI {k : List Nat} (h : ∀ n ∈ k, n < 65280) : Small16 (natsI k) := fun n hn => by
  obtain ⟨m, hm, rfl⟩ := List.mem_map.1 hn
  have := h m hm
  omega
theorem keyK_inj (x y : List Nat) (hx : ∀ n ∈ x, n < 65280) (hy : ∀ n ∈ y, n < 65280) (h : keyK x = keyK y) : x = y := by
  have h1 := nameK_inj (fun xs hxs => by rw [List.mem_singleton.1 hxs]; exact small_natsI hx) (fun xs hxs => by rw [List.mem_singleton.1 hxs]; exact small_natsI hy) h
  injection h1 with h1
  exact natsI_inj h1

theorem infoE_machine : True := trivial

/-- what a machine's cells read as -/
theorem MachD.get {w : World} {ob classes : Nat} {N : List (List Nat)} {O : List Nat} (h : MachD w ob classes N O) {nn : Nat} (hN : N.length = nn) (hO : O.length = nn) : ob < w.heap.size ∧ ∃ pn cn po co, w.cell? ⟨ob, 0, none⟩ = some (.int .i64 (classes : Nat)) ∧ w.cell? ⟨ob, 1, none⟩ = some (.slice pn nn cn) ∧ w.cell? ⟨ob, 2, none⟩ = some (.slice po nn co) ∧ nn ≤ cn ∧ nn ≤ co ∧
    (∀ (i : Nat) r, N[i]? = some r → ∃ b off v, pn = some ⟨b, off, none⟩ ∧ b < w.heap.size ∧ w.cell? ⟨b, off + i, none⟩ = some v ∧ Ints w v (natsI r)) ∧
    (∀ (i : Nat) o, O[i]? = some o → ∃ b off, po = some ⟨b, off, none⟩ ∧ b < w.heap.size ∧ w.cell? ⟨b, off + i, none⟩ = some (.int .u64 (o : Nat))) := by
  obtain ⟨nv, ov, h1, h2, h3⟩ := h
  obtain ⟨pn, cn, rfl, g1, g2⟩ := h2.at (by decide) hN
  obtain ⟨po, co, rfl, g3, g4⟩ := h3.at (by decide) hO
  obtain ⟨m0, m1, m2⟩ := cells3 h1
  refine ⟨at_lt h1, pn, cn, po, co, m0, m1, m2, g1, g3, fun i r hr => ?_, fun i o ho => ?_⟩
  · obtain ⟨b, off, row, rfl, k1, k2, v, rfl, -, k3, -⟩ := g2 i r hr
    exact ⟨b, off, v, rfl, k1, by have := k2 0 v rfl; simpa using this, k3⟩
  · obtain ⟨b, off, row, rfl, k1, k2, k3⟩ := g4 i o ho
    have k3 : row = [.int .u64 (o : Nat)] := k3
    subst k3
    exact ⟨b, off, rfl, k1, by have := k2 0 _ rfl; simpa using this⟩

def PartPost (w : World) (N : List (List Nat)) (O : List Nat) (classes : Nat) (e : Ending) (w' : World) : Prop :=
  ∃ gp p, e = .returned (.slice (some ⟨gp, 0, none⟩) N.length N.length) ∧ w.heap.size ≤ gp ∧ VRow w' gp 3 ((natsI p).map (.int .i64)) ∧ p.length = N.length ∧ (∀ n ∈ p, n < N.length) ∧ (∀ i j, i < N.length → j < N.length → (at0 p i = at0 p j ↔ TellSame N O classes i j)) ∧ Below w.heap.size w w'

set_option maxRecDepth 100000 in
set_option maxHeartbeats 8000000 in
theorem parted_any (w : World) (ob classes : Nat) (N : List (List Nat)) (O : List Nat) (hM : MachD w ob classes N O) (hok : OkN N O classes) (hn : N.length ≤ 2000) (hc : classes ≤ 24) (hO : ∀ o ∈ O, o < 2 ^ 64) :
    Calls Try.prog 86 #[.pointer (some ⟨ob, 0, none⟩)] w (PartPost w N O classes) := by
  obtain ⟨nn, hnn⟩ : ∃ nn, nn = N.length := ⟨_, rfl⟩
  obtain ⟨hol, pn, cn, po, co, m0, m1, m2, hcn, hco, hgn, hgo⟩ := hM.get hnn.symm (by rw [← hok.len, hnn])
  have HN := Lib.hid hnn
  have HON := Lib.hid (show O.length = nn by rw [← hok.len, hnn])
  have HGN := Lib.hid hgn
  have HGO := Lib.hid hgo
  have HOK := Lib.hid hok
  have HOS := Lib.hid hO
  have hn2 : nn ≤ 2000 := by omega
  have HM0 := Lib.hid (And.intro m1 m2)
  have hmm := @run_makeMap Try.prog
  have hmt : ∀ (w : World), (Instr.makeSlice 46 (.int .i64 (nn : Nat)) (.int .i64 (nn : Nat))).run Try.prog w = .ok (.slice (some ⟨w.heap.size, 0, none⟩) nn nn) (w.alloc (.cells (List.replicate nn (Value.int .i64 0)).toArray 3)) := fun w => make_ints _ Try.underlying46 w _ nn rfl (by omega)
  clear hM hok hn hO hgn hgo hnn
  go_enter Try.func86, Try.ntmps86
  go_upto_region 3 with fail
  refine abs_wp fun W hW => ?_
  obtain ⟨gp, hgp⟩ : ∃ gp, gp = w.heap.size := ⟨_, rfl⟩
  obtain ⟨mb, hmb⟩ : ∃ mb, mb = w.heap.size + 1 := ⟨_, rfl⟩
  have hal1 := below_alloc1 w (.cells (List.replicate nn (Value.int .i64 0)).toArray 3)
  have s1 : (w.alloc (.cells (List.replicate nn (Value.int .i64 0)).toArray 3)).heap.size = w.heap.size + 1 := by simp
  have hal2 := below_alloc1 (w.alloc (.cells (List.replicate nn (Value.int .i64 0)).toArray 3)) (.map #[] 0)
  have hW2 : W = (w.alloc (.cells (List.replicate nn (Value.int .i64 0)).toArray 3)).alloc (.map #[] 0) := by rw [hW]; simp
  have HB0 := Lib.hid (show Below w.heap.size w W by rw [hW2]; exact hal1.trans (hal2.mono (by omega)))
  have HV0 := Lib.hid (show VRow W gp 3 (List.replicate nn (Value.int .i64 0)) by rw [hW2, hgp]; exact (hal2.block _ (by rw [s1]; omega)).trans (heap_alloc_new _ _))
  have HM1 := Lib.hid (show NumMap 37 W mb [] by rw [hW2, hmb, ← s1]; exact NumMap.new _ _)
  have hgp0 : w.heap.size ≤ gp := by omega
  have hmb0 : w.heap.size ≤ mb := by omega
  have hgm : gp ≠ mb := by omega
  have HEQ := Lib.hid (And.intro hgp hmb)
  rw [← hmb, ← hgp]
  clear hW hW2 hal1 s1 hal2 hgp hmb
  have HKP := Lib.hid (fun (l : List Nat) (o : Nat) => key_place (P := fun _ => True) (f := litU) litU_inj (l := l) (s := o) (fun _ _ => trivial) trivial)
  have y2 := cell_below HB0.out hol m2
  clear m0 m1 m2
  go_wp2_with fail
  clear y2
  go_loopw [27] (fun i w1 => ∃ k : Nat, i = .int .i64 k ∧ k ≤ nn ∧ VRow w1 gp 3 ((natsI ((nums O).take k)).map (.int .i64) ++ List.replicate (nn - k) (.int .i64 0)) ∧ NumMap 37 w1 mb ((distinct (O.take k)).map litU) ∧ Below w.heap.size w w1) (fun i _ => nn - (intOf i).toNat)
  case atStart => exact ⟨0, rfl, by omega, HV0.out, HM1.out, HB0.out⟩
  case round =>
    obtain ⟨k, rfl, hk1, hv, hnm, hb⟩ := hrel
    have HV := Lib.hid hv
    have HNM := Lib.hid hnm
    have HB := Lib.hid hb
    have hbs := hb.size
    clear hv hnm
    by_cases hk : k < nn
    · have hkO : k < O.length := by rw [HON.out]; exact hk
      obtain ⟨o, ho⟩ : ∃ o, o = O[k] := ⟨_, rfl⟩
      have hgo : O[k]? = some o := by rw [ho]; exact List.getElem?_eq_getElem hkO
      obtain ⟨bo, oo, rfl, hbo, d0⟩ := HGO.out k o hgo
      have d1 := cell_below hb hbo d0
      have hos := HOS.out o (by rw [ho]; exact List.getElem_mem hkO)
      have HD := Lib.hid (show distinct (O.take (k + 1)) = putS (distinct (O.take k)) o by rw [List.take_succ_eq_append_getElem hkO, distinct_snoc, ho])
      have HT := Lib.hid (show place (distinct (O.take k)) o = (nums O)[k]'(by rw [nums_length]; exact hkO) by rw [ho]; exact nums_take hkO)
      have hdl : (distinct (O.take k)).length ≤ nn := by have := distinct_len (O.take k); rw [List.length_take] at this; omega
      have HNU := Lib.hid (number_u64 wr mb ((distinct (O.take k)).map litU) (o : Nat) HNM.out (litU_wf hos) (by rw [List.length_map]; omega))
      obtain ⟨n', hn'⟩ : ∃ n', n' = (nums O)[k]'(by rw [nums_length]; exact hkO) := ⟨_, rfl⟩
      have HNT := Lib.hid (show (nums O).take (k + 1) = (nums O).take k ++ [n'] by rw [List.take_succ_eq_append_getElem (by rw [nums_length]; exact hkO), hn'])
      have hn's : n' ≤ 2000 := by have := nums_small (l := O) (n := n') (by rw [hn']; exact List.getElem_mem _); rw [HON.out] at this; omega
      rw [← hn'] at HT
      have HNU2 := Lib.hid (show Calls Try.prog 107 #[.map (some mb), .int .u64 (o : Nat)] wr fun e w' => (∃ b, e = .returned (.tuple #[.int .i64 (n' : Nat), .bool b])) ∧ NumMap 37 w' mb ((distinct (O.take (k + 1))).map litU) ∧ wr.grownBy w' (some mb) by
        refine HNU.out.mono ?_
        rintro e w' ⟨h1, h2, h3⟩
        obtain ⟨e1, e2, -⟩ := HKP.out (distinct (O.take k)) o
        have e1' : place ((distinct (O.take k)).map litU) (Lit.int .u64 (o : Nat)) = n' := by rw [← HT.out, ← e1]; rfl
        have e2' : putS ((distinct (O.take k)).map litU) (Lit.int .u64 (o : Nat)) = (distinct (O.take (k + 1))).map litU := by rw [HD.out, ← e2]; rfl
        rw [e1'] at h1
        rw [e2'] at h2
        exact ⟨⟨_, h1⟩, h2, h3⟩)
      have hkk : (k : Int) < nn := by omega
      have hk0 : (0 : Int) ≤ k := by omega
      have HLT := Lib.hid (show (nums O).length = nn by rw [nums_length, HON.out])
      clear ho hgo d0 hos HNU hn' hkO
      go_wp2_with fail
      refine HNU2.out.mono ?_
      rintro e w2 ⟨⟨bf, rfl⟩, hnm2, hg2⟩
      have hf2 : Fr (fun k => k = mb) wr w2 := Fr.grown (F := fun k => k = mb) hg2 (fun k h => by injection h with h; exact h.symm)
      have HV2 := Lib.hid (HV.out.fr hf2 hgm)
      have HNM2 := Lib.hid hnm2
      have HB2 := Lib.hid (HB.out.trans (hf2.below hbs (fun k (hk : k = mb) => by omega)))
      have hfl : ((natsI ((nums O).take k)).map (Value.int .i64)).length = k := by simp [natsI, HLT.out]; omega
      have HFS := Lib.hid (fill_set ((natsI ((nums O).take k)).map (Value.int .i64)) (nn - k) (.int .i64 (n' : Nat)) (.int .i64 0) hfl (by omega))
      have z0 := HV2.out.cell (i := k) (u := .int .i64 0) (by rw [List.getElem?_append_right (by omega), hfl, Nat.sub_self, List.getElem?_replicate, if_pos (by omega)])
      have z1 := HV2.out.fz k
      clear hnm2 hg2 hf2 hfl hb d1
      go_upto_region 7 with fail
      refine abs_wp fun W3 hW3 => ?_
      have HV3 := Lib.hid (show VRow W3 gp 3 ((natsI ((nums O).take (k + 1))).map (.int .i64) ++ List.replicate (nn - (k + 1)) (.int .i64 0)) by
        have h := HV2.out.set k (.int .i64 (n' : Nat))
        rw [HFS.out] at h
        rw [hW3, HNT.out]
        have e : (natsI ((nums O).take k ++ [n'])).map (Value.int .i64) = (natsI ((nums O).take k)).map (Value.int .i64) ++ [.int .i64 (n' : Nat)] := by simp [natsI]
        rw [e, show nn - (k + 1) = nn - k - 1 by omega]
        exact h)
      have hf3 : Fr (fun q => q = gp) w2 W3 := by rw [hW3]; exact Fr.setCell (F := fun q => q = gp) w2 rfl _
      have HNM3 := Lib.hid (HNM2.out.fr hf3 (fun h => hgm h.symm))
      have HB3 := Lib.hid (HB2.out.trans (hf3.below HB2.out.size (fun k (hk : k = gp) => by omega)))
      clear hW3 hf3 z0 z1
      go_wp2_with fail
      go_roundw
      case rel => exact ⟨k + 1, by go_num, by omega, HV3.out, HNM3.out, HB3.out⟩
      case measure => simp [intOf]; omega
    · have hkk : ¬ (k : Int) < nn := by omega
      obtain rfl : nn = k := by omega
      have hv0 := HV.out
      rw [Nat.sub_self, List.replicate_zero, List.append_nil, List.take_of_length_le (show (nums O).length ≤ nn by rw [nums_length, HON.out]; exact Nat.le_refl _)] at hv0
      have HVV := Lib.hid hv0
      have hnm0 := HNM.out
      rw [List.take_of_length_le (show O.length ≤ nn by rw [HON.out]; exact Nat.le_refl _)] at hnm0
      have HSZ := Lib.hid (show Maps.size (numD (H := Unit) ((distinct O).map litU)) = (distinct O).length by rw [hnm0.size, List.length_map])
      have hown := hnm0.2.2
      have hdl : (distinct O).length ≤ nn := by have := distinct_len O; rw [HON.out] at this; exact this
      clear hv0 hnm0
      go_wp2_with (first | (at_len; refine wpList_len_own _ rfl _ 172 rfl 37 3 Try.underlying172 _ mb ((distinct O).map litU).length _ rfl hown ?_; rw [HSZ.out]) | fail)
      clear hown
      go_loopw [3, 7] (fun u m w1 => ∃ (k g cnt : Nat), u = .slice (some ⟨g, 0, none⟩) nn nn ∧ m = .int .i64 cnt ∧ w.heap.size ≤ g ∧ VRow w1 g 3 ((natsI (partsN N O k)).map (.int .i64)) ∧ cnt ≤ (distinct (partsN N O k)).length ∧ cnt ≤ nn ∧ Below w.heap.size w w1) (fun _ m _ => nn - (intOf m).toNat)
      case atStart => exact ⟨0, gp, (distinct O).length, rfl, rfl, hgp0, HVV.out, nums_count O, hdl, HB.out⟩
      case round =>
        clear hb hbs
        obtain ⟨k, g, cnt, rfl, rfl, hg0, hv, hcn1, hcn2, hb⟩ := hrel
        have hgl := hv.lt
        obtain ⟨p, hp⟩ : ∃ p, p = partsN N O k := ⟨_, rfl⟩
        rw [← hp] at hv hcn1
        have HP := Lib.hid hp
        have HV1 := Lib.hid hv
        have HB1 := Lib.hid hb
        have hbs := hb.size
        have HPL := Lib.hid (show p.length = nn by rw [hp, partsN_length HOK.out, HN.out])
        have HPS := Lib.hid (show ∀ n ∈ p, n < nn by rw [hp, HN.out]; exact parts_small HOK.out k)
        clear hp hv
        go_upto_region 11 with fail
        refine abs_wp fun W2 hW2 => ?_
        obtain ⟨m2, hm2⟩ : ∃ m2, m2 = wr.heap.size := ⟨_, rfl⟩
        obtain ⟨gf, hgf⟩ : ∃ gf, gf = wr.heap.size + 1 := ⟨_, rfl⟩
        have hal1 := below_alloc1 wr (.map #[] 0)
        have s1 : (wr.alloc (.map #[] 0)).heap.size = wr.heap.size + 1 := by simp
        have hal2 := below_alloc1 (wr.alloc (.map #[] 0)) (.cells (List.replicate nn (Value.int .i64 0)).toArray 3)
        have hW3 : W2 = (wr.alloc (.map #[] 0)).alloc (.cells (List.replicate nn (Value.int .i64 0)).toArray 3) := by rw [hW2]; simp
        have hbe : Below wr.heap.size wr W2 := by rw [hW3]; exact hal1.trans (hal2.mono (by omega))
        have HBE := Lib.hid hbe
        have HB2 := Lib.hid (hb.trans (hbe.mono hbs))
        have HVF := Lib.hid (show VRow W2 gf 3 (List.replicate nn (Value.int .i64 0)) by rw [hW3, hgf, ← s1]; exact heap_alloc_new _ _)
        have HNF := Lib.hid (show NumMap 9 W2 m2 [] by rw [hW3, hm2]; exact (NumMap.new _ _).fr (Fr.of_belowB hal2) (by omega))
        have HVP := Lib.hid (HV1.out.fr (Fr.of_belowB hbe) (by omega))
        have hm20 : w.heap.size ≤ m2 := by omega
        have hgf0 : w.heap.size ≤ gf := by omega
        have hgm2 : gf ≠ m2 := by omega
        have hgg : g ≠ gf := by omega
        have hggm : g ≠ m2 := by omega
        rw [← hgf, ← hm2]
        have y1 := cell_below HB2.out hol HM0.out.1
        obtain ⟨K, hK⟩ : ∃ K, K = keysL N p := ⟨_, rfl⟩
        have HK := Lib.hid hK
        have HKL := Lib.hid (show K.length = nn by rw [hK, keysL_length, HN.out])
        have HKS := Lib.hid (show ∀ x ∈ K, ∀ n ∈ x, n < 65280 by
          intro x hx n hn
          rw [hK] at hx
          obtain ⟨i, hi, rfl⟩ := List.getElem_of_mem hx
          rw [keysL_length] at hi
          rw [keysL_get hi] at hn
          have hpos : 0 < nn := by rw [HN.out]; omega
          have h65 : ∀ q, at0 p q < 65280 := fun q => Nat.lt_of_lt_of_le (at0_small HPS.out hpos q) (by omega)
          rcases List.mem_cons.1 hn with rfl | hn
          · exact h65 _
          · obtain ⟨q, -, rfl⟩ := List.mem_map.1 hn
            exact h65 _)
        have HKP2 := Lib.hid (fun (l : List (List Nat)) (hl : ∀ x ∈ l, ∀ n ∈ x, n < 65280) (x : List Nat) (hx : ∀ n ∈ x, n < 65280) => key_place (P := fun x : List Nat => ∀ n ∈ x, n < 65280) (f := keyK) keyK_inj (l := l) (s := x) hl hx)
        clear hW2 hW3 hal1 s1 hal2 hbe hm2 hgf hb hK hgl hbs
        go_wp2_with fail
        clear y1
        go_loopw [53] (fun i w3 => ∃ k : Nat, i = .int .i64 k ∧ k ≤ nn ∧ VRow w3 gf 3 ((natsI ((nums K).take k)).map (.int .i64) ++ List.replicate (nn - k) (.int .i64 0)) ∧ NumMap 9 w3 m2 ((distinct (K.take k)).map keyK) ∧ VRow w3 g 3 ((natsI p).map (.int .i64)) ∧ Below w.heap.size w w3) (fun i _ => nn - (intOf i).toNat)
        case atStart => exact ⟨0, rfl, by omega, HVF.out, HNF.out, HVP.out, HB2.out⟩
        case round =>
          obtain ⟨i, rfl, hi1, hvf, hnf, hvp, hb3⟩ := hrel
          have HVF3 := Lib.hid hvf
          have HNF3 := Lib.hid hnf
          have HVP3 := Lib.hid hvp
          have HB3 := Lib.hid hb3
          have hb3s := hb3.size
          clear hvf hnf hvp
          by_cases hi : i < nn
          · have hiN : i < N.length := by rw [← HN.out]; exact hi
            obtain ⟨r, hr⟩ : ∃ r, r = N[i] := ⟨_, rfl⟩
            obtain ⟨bn, on, rv, rfl, hbn, d0, hrv⟩ := HGN.out i r (by rw [hr]; exact List.getElem?_eq_getElem hiN)
            have d1 := cell_below hb3 hbn d0
            have hrow := HOK.out.row r (by rw [hr]; exact List.getElem_mem hiN)
            have HROW := Lib.hid hrow
            have HKI := Lib.hid (show K[i]? = some (at0 p i :: r.map (at0 p)) by rw [HK.out, hr]; exact keysL_at hiN)
            obtain ⟨pr, cr, rfl, hcr, hrc⟩ := hrv.get
            have hrl : (natsI r).length = classes := by unfold natsI; rw [List.length_map]; exact hrow.1
            have HRC := Lib.hid hrc
            rw [hrl] at d1 hcr
            obtain ⟨a0, ha0⟩ : ∃ a0, a0 = at0 p i := ⟨_, rfl⟩
            have e0 : ((natsI p).map (Value.int .i64))[i]? = some (.int .i64 (a0 : Nat)) := by
              unfold natsI
              rw [List.map_map, List.getElem?_map, ha0]
              unfold at0
              rw [List.getElem?_eq_getElem (by rw [HPL.out]; exact hi)]
              rfl
            have d2 := HVP3.out.cell e0
            have HA0 := Lib.hid ha0
            have hii : (i : Int) < nn := by omega
            have hi0 : (0 : Int) ≤ i := by omega
            have hrlH := Lib.hid hrl
            clear hr d0 hrv hrow hrc ha0 e0 hrl
            go_upto_region 15 with fail
            refine abs_wp fun W4 hW4 => ?_
            obtain ⟨B4, hB4⟩ : ∃ B4, B4 = wr.heap.size := ⟨_, rfl⟩
            have hal := below_alloc1 wr (.cells #[Value.int .i64 (a0 : Nat)] 3)
            have HA4 := Lib.hid (show Below wr.heap.size wr W4 by rw [hW4]; exact hal)
            have HOK4 := Lib.hid (show OwnL intE 3 1 B4 W4 (.slice (some ⟨B4, 0, none⟩) 1 1) (natsI (a0 :: (r.take 0).map (at0 p))) by
              rw [hW4, hB4]
              exact OwnL.block1 (E := intE) wr 3 (a0 : Int) [.int .i64 (a0 : Nat)] ⟨rfl, by simp [Value.oneCell']⟩ rfl (Nat.le_refl _))
            have hgfl := HVF3.out.lt
            have hggl := HVP3.out.lt
            have hm2l := HNF3.out.lt
            have HVF4 := Lib.hid (HVF3.out.fr (Fr.of_belowB HA4.out) (by omega))
            have HVP4 := Lib.hid (HVP3.out.fr (Fr.of_belowB HA4.out) (by omega))
            have HNF4 := Lib.hid (HNF3.out.fr (Fr.of_belowB HA4.out) (by omega))
            have HBW4 := Lib.hid (HB3.out.trans (HA4.out.mono hb3s))
            have hB40 : w.heap.size ≤ B4 := by omega
            have hW4s := HA4.out.size
            have hB4s : B4 ≤ W4.heap.size := by omega
            rw [← hB4]
            rw [← hB4] at hgfl hggl hm2l
            clear hW4 hB4 hal hW4s hb3s hb3
            go_wp2_with fail
            clear d1 d2
            go_loopw [12, 65] (fun u j w5 => ∃ m : Nat, j = .int .i64 m ∧ m ≤ classes ∧ (∃ ys, ys = natsI (a0 :: (r.take m).map (at0 p)) ∧ OwnL intE 3 1 B4 w5 u ys) ∧ Below B4 W4 w5) (fun _ j _ => classes - (intOf j).toNat)
            case atStart => exact ⟨0, rfl, by omega, ⟨_, rfl, HOK4.out⟩, Below.refl _ _⟩
            case round =>
              obtain ⟨m, rfl, hm1, ⟨ys, hys, hoy⟩, hb5⟩ := hrel
              obtain ⟨pu, cu, hu⟩ := hoy.form
              subst hu
              have HYS := Lib.hid hys
              have HOY := Lib.hid hoy
              have HB5 := Lib.hid hb5
              have hb5s := hb5.size
              have hyl : ys.length = m + 1 := by rw [hys]; unfold natsI; rw [List.length_map, List.length_cons, List.length_map, List.length_take, HROW.out.1]; omega
              have HYL := Lib.hid hyl
              clear hys hoy hyl
              by_cases hm : m < classes
              · have hmr : m < r.length := by rw [HROW.out.1]; exact hm
                obtain ⟨b2, o2, rfl, hb2l, hrc⟩ := HRC.out (by rw [hrlH.out]; omega)
                obtain ⟨n', hn'⟩ : ∃ n', n' = r[m] := ⟨_, rfl⟩
                have d3 : w.cell? ⟨b2, o2 + m, none⟩ = some (.int .i64 (n' : Nat)) := by
                  have := hrc m (by rw [hrlH.out]; exact hm)
                  rw [this]
                  simp [natsI, hn']
                have d4 := cell_below (HBW4.out.trans (hb5.mono hB40)) hb2l d3
                have hnn' : n' < nn := by rw [HN.out, hn']; exact HROW.out.2 _ (List.getElem_mem hmr)
                obtain ⟨a1, ha1⟩ : ∃ a1, a1 = at0 p n' := ⟨_, rfl⟩
                have e1 : ((natsI p).map (Value.int .i64))[n']? = some (.int .i64 (a1 : Nat)) := by
                  unfold natsI
                  rw [List.map_map, List.getElem?_map, ha1]
                  unfold at0
                  rw [List.getElem?_eq_getElem (by rw [HPL.out]; exact hnn')]
                  rfl
                have d5 := (HVP4.out.fr (Fr.of_belowB hb5) (by omega)).cell e1
                have HTK := Lib.hid (show natsI (a0 :: (r.take (m + 1)).map (at0 p)) = ys ++ [(a1 : Int)] by
                  rw [HYS.out, List.take_succ_eq_append_getElem hmr, ha1, hn']
                  unfold natsI
                  simp only [List.map_append, List.map_cons, List.map_nil, List.cons_append])
                have hnni : (n' : Int) < nn := by omega
                have hn0 : (0 : Int) ≤ n' := by omega
                have hmi : (m : Int) < classes := by omega
                have hm0 : (0 : Int) ≤ m := by omega
                have hap := below_alloc1 wr (.cells #[.int .i64 (a1 : Nat)] 3)
                have HNEW := Lib.hid (ReadL.one (E := intE) (sz := 1) wr 3 (a1 : Int) [.int .i64 (a1 : Nat)] (by simp [Value.oneCell']) rfl)
                have HAP := Lib.hid hap
                clear hrc d3 ha1 e1 hn' hb5 hap
                go_wp2_with (refine stop_at (.call { callee := .builtin .append, args := #[.tmp 69, .tmp 74], argTypes := #[46, 46] }) rfl ?_)
                refine ⟨?_⟩
                refine wpList_append_ints rfl (.tmp 69) (.tmp 74) rfl _ ys rfl (base := B4) (HOY.out.below HAP.out (Nat.le_refl _)) _ [(a1 : Int)] rfl HNEW.out (by have := HYL.out; simp; omega) (by have := HAP.out.size; omega) ?_
                intro p6 c6 w6 hown6 hg6 hlie6
                have HREL := Lib.hid (show OwnL intE 3 1 B4 w6 (.slice p6 (ys.length + [(a1 : Int)].length) c6) (ys ++ [(a1 : Int)]) ∧ Below B4 W4 w6 by
                  refine ⟨hown6, ?_⟩
                  have h1 := HB5.out.trans (HAP.out.mono (by omega))
                  exact h1.trans ((Fr.grown (F := fun q => (Value.slice pu ys.length cu).ownBlock = some q) hg6 (fun q h => h)).below (by have := h1.size; omega) (fun q hq => (HOY.out.lt q hq).1)))
                clear hown6 hg6 hlie6 d4 d5
                go_wp2_with fail
                go_roundw
                case rel => exact ⟨m + 1, by go_num, by omega, ⟨_, HTK.out.symm, HREL.out.1⟩, HREL.out.2⟩
                case measure => simp [intOf]; omega
              · have hmi : ¬ (m : Int) < classes := by omega
                obtain rfl : classes = m := by omega
                obtain ⟨key, hkey⟩ : ∃ key, key = at0 p i :: r.map (at0 p) := ⟨_, rfl⟩
                have hyk : ys = natsI key := by rw [HYS.out, hkey, List.take_of_length_le (by rw [HROW.out.1]; exact Nat.le_refl _), HA0.out]
                have HKI2 := Lib.hid (show K[i]? = some key by rw [hkey]; exact HKI.out)
                have hiK : i < K.length := by rw [HKL.out]; exact hi
                have hKi : K[i] = key := by have := HKI2.out; rw [List.getElem?_eq_getElem hiK] at this; exact Option.some.inj this
                have hks := HKS.out key (by rw [← hKi]; exact List.getElem_mem hiK)
                have HKSI := Lib.hid hks
                have hyl2 : ys.length ≤ 1000 := by have := HYL.out; omega
                have HKLN := Lib.hid (show (natsI key).length ≤ 1000 by rw [← hyk]; exact hyl2)
                have hal := below_alloc1 wr (.cells #[Value.slice pu ys.length cu] 46)
                have HAL := Lib.hid hal
                have HLL := Lib.hid (show LLF (fun _ => True) (wr.alloc (.cells #[Value.slice pu ys.length cu] 46)) (.slice (some ⟨wr.heap.size, 0, none⟩) 1 1) [natsI key] from
                  ⟨ReadL.one wr _ (natsI key) [Value.slice pu ys.length cu] ⟨rfl, by simp [Value.oneCell']⟩ ⟨_, rfl, rfl, by rw [← hyk]; exact (HOY.out.below hal (Nat.le_refl _)).read.ints, fun _ _ _ => trivial⟩, fun _ _ _ => trivial⟩)
                have HNM := Lib.hid (name_any _ (wr.alloc (.cells #[Value.slice pu ys.length cu] 46)) _ [natsI key] HLL.out (by simp) (fun xs hxs => by rw [List.mem_singleton.1 hxs]; exact ⟨by rw [← hyk]; exact hyl2, small_natsI hks⟩))
                have HD := Lib.hid (show distinct (K.take (i + 1)) = putS (distinct (K.take i)) key by rw [List.take_succ_eq_append_getElem hiK, distinct_snoc, hKi])
                have HT := Lib.hid (show place (distinct (K.take i)) key = (nums K)[i]'(by rw [nums_length]; exact hiK) by rw [← hKi]; exact nums_take hiK)
                have hdl2 : (distinct (K.take i)).length ≤ nn := by have := distinct_len (K.take i); rw [List.length_take] at this; omega
                obtain ⟨n', hn'⟩ : ∃ n', n' = (nums K)[i]'(by rw [nums_length]; exact hiK) := ⟨_, rfl⟩
                have HNT := Lib.hid (show (nums K).take (i + 1) = (nums K).take i ++ [n'] by rw [List.take_succ_eq_append_getElem (by rw [nums_length]; exact hiK), hn'])
                have hn's : n' ≤ 2000 := by have := nums_small (l := K) (n := n') (by rw [hn']; exact List.getElem_mem _); rw [HKL.out] at this; omega
                rw [← hn'] at HT
                have HLT := Lib.hid (show (nums K).length = nn by rw [nums_length, HKL.out])
                clear hkey hyk hKi hks hal hn' hyl2
                go_wp2_with fail
                refine HNM.out.mono ?_
                rintro e w6 ⟨rfl, hb6⟩
                have HB6 := Lib.hid (HB5.out.trans ((HAL.out.trans (hb6.mono HAL.out.size)).mono (by omega)))
                clear hb6
                have HNF6 := Lib.hid (HNF4.out.fr (Fr.of_belowB HB6.out) (by omega))
                have HVF6 := Lib.hid (HVF4.out.fr (Fr.of_belowB HB6.out) (by omega))
                have HVP6 := Lib.hid (HVP4.out.fr (Fr.of_belowB HB6.out) (by omega))
                have HBW6 := Lib.hid (HBW4.out.trans (HB6.out.mono hB40))
                have hbw6 := HBW6.out.size
                have hsz : (strOf (nameL [natsI key])).size ≤ maxLen := by
                  rw [strOf_size]
                  have h1 := nameL_length (xss := [natsI key]) (fun xs hxs => by rw [List.mem_singleton.1 hxs]; exact HKLN.out)
                  unfold maxLen
                  simp at h1
                  omega
                have HNU := Lib.hid (number_str w6 m2 ((distinct (K.take i)).map keyK) (strOf (nameL [natsI key])) HNF6.out hsz (by rw [List.length_map]; omega))
                have HNU2 := Lib.hid (show Calls Try.prog 84 #[.map (some m2), .string (strOf (nameL [natsI key]))] w6 fun e w' => (∃ b, e = .returned (.tuple #[.int .i64 (n' : Nat), .bool b])) ∧ NumMap 9 w' m2 ((distinct (K.take (i + 1))).map keyK) ∧ w6.grownBy w' (some m2) by
                  refine HNU.out.mono ?_
                  rintro e w' ⟨h1, h2, h3⟩
                  obtain ⟨e1, e2, -⟩ := HKP2.out (distinct (K.take i)) (fun x hx => HKS.out x (List.mem_of_mem_take (distinct_mem.1 hx))) key HKSI.out
                  have e1' : place ((distinct (K.take i)).map keyK) (Lit.string (strOf (nameL [natsI key])).data.toList) = n' := by rw [← HT.out, ← e1]; rfl
                  have e2' : putS ((distinct (K.take i)).map keyK) (Lit.string (strOf (nameL [natsI key])).data.toList) = (distinct (K.take (i + 1))).map keyK := by rw [HD.out, ← e2]; rfl
                  rw [e1'] at h1
                  rw [e2'] at h2
                  exact ⟨⟨_, h1⟩, h2, h3⟩)
                clear hsz HNU
                go_wp2_with fail
                refine HNU2.out.mono ?_
                rintro e w7 ⟨⟨bf, rfl⟩, hnm7, hg7⟩
                have hf7 : Fr (fun k => k = m2) w6 w7 := Fr.grown (F := fun k => k = m2) hg7 (fun k h => by injection h with h; exact h.symm)
                have HVF7 := Lib.hid (HVF6.out.fr hf7 hgm2)
                have HVP7 := Lib.hid (HVP6.out.fr hf7 hggm)
                have HNF7 := Lib.hid hnm7
                have HBW7 := Lib.hid (HBW6.out.trans (hf7.below hbw6 (fun k (hk : k = m2) => by omega)))
                have hfl : ((natsI ((nums K).take i)).map (Value.int .i64)).length = i := by simp [natsI, HLT.out]; omega
                have HFS := Lib.hid (fill_set ((natsI ((nums K).take i)).map (Value.int .i64)) (nn - i) (.int .i64 (n' : Nat)) (.int .i64 0) hfl (by omega))
                have z0 := HVF7.out.cell (i := i) (u := .int .i64 0) (by rw [List.getElem?_append_right (by omega), hfl, Nat.sub_self, List.getElem?_replicate, if_pos (by omega)])
                have z1 := HVF7.out.fz i
                clear hnm7 hg7 hf7 hfl
                go_upto_region 21 with fail
                refine abs_wp fun W8 hW8 => ?_
                have hf8 : Fr (fun q => q = gf) w7 W8 := by rw [hW8]; exact Fr.setCell (F := fun q => q = gf) w7 rfl _
                have HVF8 := Lib.hid (show VRow W8 gf 3 ((natsI ((nums K).take (i + 1))).map (.int .i64) ++ List.replicate (nn - (i + 1)) (.int .i64 0)) by
                  have h := HVF7.out.set i (.int .i64 (n' : Nat))
                  rw [HFS.out] at h
                  rw [hW8, HNT.out]
                  have e : (natsI ((nums K).take i ++ [n'])).map (Value.int .i64) = (natsI ((nums K).take i)).map (Value.int .i64) ++ [.int .i64 (n' : Nat)] := by simp [natsI]
                  rw [e, show nn - (i + 1) = nn - i - 1 by omega]
                  exact h)
                have HVP8 := Lib.hid (HVP7.out.fr hf8 hgg)
                have HNF8 := Lib.hid (HNF7.out.fr hf8 (fun h => hgm2 h.symm))
                have HBW8 := Lib.hid (HBW7.out.trans (hf8.below HBW7.out.size (fun k (hk : k = gf) => by omega)))
                clear hW8 hf8 z0 z1
                go_wp2_with fail
                go_roundw
                case rel => exact ⟨i + 1, by go_num, by omega, HVF8.out, HNF8.out, HVP8.out, HBW8.out⟩
                case measure => simp [intOf]; omega
          · have hii : ¬ (i : Int) < nn := by omega
            obtain rfl : nn = i := by omega
            have hv9 := HVF3.out
            rw [Nat.sub_self, List.replicate_zero, List.append_nil, List.take_of_length_le (show (nums K).length ≤ nn by rw [nums_length, HKL.out]; exact Nat.le_refl _)] at hv9
            have HV9 := Lib.hid hv9
            have hnf9 := HNF3.out
            rw [List.take_of_length_le (show K.length ≤ nn by rw [HKL.out]; exact Nat.le_refl _)] at hnf9
            have HSZ2 := Lib.hid (show Maps.size (numD (H := Unit) ((distinct K).map keyK)) = (distinct K).length by rw [hnf9.size, List.length_map])
            have hown := hnf9.2.2
            have hdl2 : (distinct K).length ≤ nn := by have := distinct_len K; rw [HKL.out] at this; exact this
            have HGE := Lib.hid (show (distinct p).length ≤ (distinct K).length by have := parts_fine HOK.out k; rwa [← HP.out, ← HK.out] at this)
            have HPN := Lib.hid (show nums K = partsN N O (k + 1) by rw [partsN, ← HP.out, ← HK.out])
            obtain ⟨ck, hck⟩ : ∃ ck, ck = (distinct K).length := ⟨_, rfl⟩
            rw [← hck] at HSZ2 hdl2 HGE
            have HCK := Lib.hid hck
            have hge := HGE.out
            clear hv9 hnf9 hck hb3
            by_cases hstop : ck = cnt
            · have hsi : (ck : Int) = cnt := by omega
              go_wp2_with (first | (at_len; refine wpList_len_own _ rfl _ 144 rfl 9 3 Try.underlying144 _ m2 ((distinct K).map keyK).length _ rfl hown ?_; rw [HSZ2.out]) | fail)
              go_ret
              rw [HPN.out] at HV9
              refine ⟨gf, _, by rw [← HN.out]; rfl, hgf0, HV9.out, partsN_length HOK.out _, parts_small HOK.out _, fun i j hi hj => parts_done HOK.out ?_ hi hj, HB3.out⟩
              rw [← HP.out, ← HK.out, ← HCK.out, hstop]
              exact hcn1
            · have hsi : ¬ (ck : Int) = cnt := by omega
              go_wp2_with (first | (at_len; refine wpList_len_own _ rfl _ 144 rfl 9 3 Try.underlying144 _ m2 ((distinct K).map keyK).length _ rfl hown ?_; rw [HSZ2.out]) | fail)
              go_roundw
              case rel => exact ⟨k + 1, gf, ck, rfl, rfl, hgf0, by rw [← HPN.out]; exact HV9.out, by rw [← HPN.out, HCK.out]; exact nums_count K, hdl2, HB3.out⟩
              case measure => simp [intOf]; omega
end Go.Proofs.Ythmaokjhncokdaa

/-
  dfa: what least has while it goes through the states. No condition beyond what each theorem names.
-/
set_option linter.unusedVariables false
set_option linter.unusedSimpArgs false
namespace Go.Proofs.Ythmaokjhncokdaa
open Go.RowKit Go.Maps Classical

def litI (o : Nat) : Lit := .int .i64 (o : Nat)
theorem litI_inj {x y : Nat} (h : litI x = litI y) : x = y := by
  unfold litI at h
  injection h with _ h
  omega

/-- the machine that is made, the map of numbers, and the list of states that were met -/
structure LSt (base : Nat) (w : World) (mb ob classes : Nat) (F : Nat → Prop) (mv nv ov : Value) (ks : List Lit) (M : List Nat) (N : List (List Nat)) (O : List Nat) : Prop where
  m : MSt base w ob classes F nv ov N O
  num : NumMap 3 w mb ks
  mb0 : base ≤ mb
  met : OwnL intE 3 1 base w mv (natsI M)
  foot : ∀ k, F k → k ≠ mb ∧ mv.ownBlock ≠ some k

section
variable {base : Nat} {w w' : World} {mb ob classes : Nat} {F G : Nat → Prop} {mv nv ov : Value} {ks : List Lit} {M : List Nat} {N : List (List Nat)} {O : List Nat}
theorem LSt.fr (h : LSt base w mb ob classes F mv nv ov ks M N O) (hf : Fr G w w') (hG : ∀ k, k < w.heap.size → G k → ¬ F k ∧ k ≠ ob ∧ k ≠ mb ∧ mv.ownBlock ≠ some k ∧ nv.ownBlock ≠ some k ∧ ov.ownBlock ≠ some k) : LSt base w' mb ob classes F mv nv ov ks M N O := by
  refine ⟨h.m.fr hf (fun k hk g => ?_), h.num.fr hf (fun g => (hG mb h.num.lt g).2.2.1 rfl), h.mb0, ?_, h.foot⟩
  · obtain ⟨h1, h2, h3, h4, h5, h6⟩ := hG k hk g
    exact ⟨h1, h2, h5, h6⟩
  · exact h.met.fr hf (fun k hk g => (hG k (h.met.lt k hk).2 g).2.2.2.1 hk)
theorem LSt.below (h : LSt base w mb ob classes F mv nv ov ks M N O) (hb : Below w.heap.size w w') : LSt base w' mb ob classes F mv nv ov ks M N O :=
  h.fr (Fr.of_belowB hb) (fun k hk hg => by omega)
/-- the map alone has turned -/
theorem LSt.newK (h : LSt base w mb ob classes F mv nv ov ks M N O) {ks' : List Lit} (hg : w.grownBy w' (some mb)) (hn : NumMap 3 w' mb ks') : LSt base w' mb ob classes F mv nv ov ks' M N O := by
  have hf : Fr (fun k => k = mb) w w' := Fr.grown (F := fun k => k = mb) hg (fun k h => by injection h with h; exact h.symm)
  have hne : ∀ {α : Type} {E : α → List Value → Prop} {T : TypeId} {v : Value} {xs : List α}, OwnL E T 1 base w v xs → v.ownBlock ≠ some mb := fun {α E T v xs} ho hk => by
    obtain ⟨cs, hcs⟩ := ho.blkT mb hk
    exact h.num.notAt hcs rfl
  refine ⟨h.m.fr hf (fun k hk (g : k = mb) => ?_), hn, h.mb0, h.met.fr hf (fun k hk (g : k = mb) => hne h.met (by rw [hk, g])), h.foot⟩
  subst g
  exact ⟨fun hF => (h.foot k hF).1 rfl, fun e => h.num.notAt h.m.mach e.symm, hne h.m.next, hne h.m.outs⟩
/-- a state was appended -/
theorem LSt.newM (h : LSt base w mb ob classes F mv nv ov ks M N O) {mv' : Value} {M' : List Nat} (hf : Fr (fun k => mv.ownBlock = some k) w w')
    (hown : OwnL intE 3 1 base w' mv' (natsI M')) (hl : mv'.ownBlock = mv.ownBlock ∨ ∀ k, mv'.ownBlock = some k → w.heap.size ≤ k) : LSt base w' mb ob classes F mv' nv ov ks M' N O := by
  refine ⟨h.m.fr hf (fun k hk g => ⟨fun hF => (h.foot k hF).2 g, fun e => ?_, fun e => ?_, fun e => ?_⟩), h.num.fr hf (fun g => ?_), h.mb0, hown, fun k hk => ⟨(h.foot k hk).1, fun hk2 => ?_⟩⟩
  · subst e; exact h.met.notAt h.m.mach (by decide) g
  · obtain ⟨cs, hcs⟩ := h.m.next.blkT k e
    exact h.met.notAt hcs (by decide) g
  · obtain ⟨cs, hcs⟩ := h.m.outs.blkT k e
    exact h.met.notAt hcs (by decide) g
  · obtain ⟨cs, hcs⟩ := h.met.blkT mb g
    exact h.num.notAt hcs rfl
  · rcases hl with hl | hl
    · exact (h.foot k hk).2 (hl ▸ hk2)
    · have := hl k hk2
      have := (h.m.foot k hk).2.1
      omega
theorem LSt.put (h : LSt base w mb ob classes F mv nv ov ks M N O) {g : Nat} {vs : List Value} (hv : VRow w g 3 vs) (hg : ¬ F g) (hmv : mv.ownBlock ≠ some g) (i : Nat) (u : Value) : LSt base (w.setCell ⟨g, i, none⟩ u) mb ob classes F mv nv ov ks M N O := by
  have hf : Fr (fun k => k = g) w (w.setCell ⟨g, i, none⟩ u) := Fr.setCell (F := fun k => k = g) w rfl _
  refine h.fr hf (fun k _ (e : k = g) => ?_)
  subst e
  exact ⟨hg, fun e => hv.not_mach h.m.mach e, h.num.notAt hv, hmv, h.m.next.notAt hv (by decide), h.m.outs.notAt hv (by decide)⟩
theorem LSt.newN (h : LSt base w mb ob classes F mv nv ov ks M N O) (hbw : base ≤ w.heap.size) {F' : Nat → Prop} (hF : ∀ k, F k → F' k) (hX : ∀ k, F' k → F k ∨ (base ≤ k ∧ k < w.heap.size ∧ k ≠ ob ∧ nv.ownBlock ≠ some k ∧ ov.ownBlock ≠ some k ∧ k ≠ mb ∧ mv.ownBlock ≠ some k)) {w1 w2 : World} {nv' : Value} {N' : List (List Nat)} (hf : Fr (fun k => nv.ownBlock = some k) w w1)
    (hown : OwnL (nrowE F' w) 46 1 base w1 nv' N') (hl : nv'.ownBlock = nv.ownBlock ∨ ∀ k, nv'.ownBlock = some k → w.heap.size ≤ k) (h2 : w2 = w1.setCell ⟨ob, 1, none⟩ nv') : LSt base w2 mb ob classes F' mv nv' ov ks M N' O ∧ Fr (fun k => nv.ownBlock = some k ∨ k = ob) w w2 := by
  have hm := h.m.more hF (fun k hk => by
    rcases hX k hk with h1 | ⟨h1, h2, h3, h4, h5, -⟩
    · exact .inl h1
    · exact .inr ⟨h1, h2, h3, h4, h5⟩)
  obtain ⟨k1, k2⟩ := hm.newN hbw hf hown hl h2
  refine ⟨⟨k1, h.num.fr k2 (fun g => ?_), h.mb0, h.met.fr k2 (fun k hk g => ?_), fun k hk => ?_⟩, k2⟩
  · rcases g with g | g
    · obtain ⟨cs, hcs⟩ := h.m.next.blkT mb g
      exact h.num.notAt hcs rfl
    · exact h.num.notAt h.m.mach g.symm
  · rcases g with g | g
    · obtain ⟨cs, hcs⟩ := h.met.blkT k hk
      exact h.m.next.notAt hcs (by decide) g
    · exact h.met.notAt h.m.mach (by decide) (by rw [hk, g])
  · rcases hX k hk with h1 | ⟨-, -, -, -, -, h1, h2⟩
    · exact h.foot k h1
    · exact ⟨h1, h2⟩
theorem LSt.newO (h : LSt base w mb ob classes F mv nv ov ks M N O) (hbw : base ≤ w.heap.size) {w1 w2 : World} {ov' : Value} {O' : List Nat} (hf : Fr (fun k => ov.ownBlock = some k) w w1)
    (hown : OwnL u64E 37 1 base w1 ov' O') (hl : ov'.ownBlock = ov.ownBlock ∨ ∀ k, ov'.ownBlock = some k → w.heap.size ≤ k) (h2 : w2 = w1.setCell ⟨ob, 2, none⟩ ov') : LSt base w2 mb ob classes F mv nv ov' ks M N O' ∧ Fr (fun k => ov.ownBlock = some k ∨ k = ob) w w2 := by
  obtain ⟨k1, k2⟩ := h.m.newO hbw hf hown hl h2
  refine ⟨⟨k1, h.num.fr k2 (fun g => ?_), h.mb0, h.met.fr k2 (fun k hk g => ?_), h.foot⟩, k2⟩
  · rcases g with g | g
    · obtain ⟨cs, hcs⟩ := h.m.outs.blkT mb g
      exact h.num.notAt hcs rfl
    · exact h.num.notAt h.m.mach g.symm
  · rcases g with g | g
    · obtain ⟨cs, hcs⟩ := h.met.blkT k hk
      exact h.m.outs.notAt hcs (by decide) g
    · exact h.met.notAt h.m.mach (by decide) (by rw [hk, g])
end

/-! ### the law of least -/
section
variable {N : List (List Nat)} {O : List Nat} {classes : Nat} {p : List Nat}
/-- marks that tell apart what the states' languages do: places and new ones -/
theorem mark_place (hp : ∀ i j, i < N.length → j < N.length → (at0 p i = at0 p j ↔ TellSame N O classes i j)) {M : List Nat} (hM : ∀ x ∈ M, x < N.length) {n : Nat} (hn : n < N.length) :
    place (M.map fun x => litI (at0 p x)) (litI (at0 p n)) = place (M.map (langN N O classes)) (langN N O classes n) ∧ (litI (at0 p n) ∈ M.map (fun x => litI (at0 p x)) ↔ langN N O classes n ∈ M.map (langN N O classes)) := by
  have h : ∀ y ∈ M, (fun x => litI (at0 p x)) y = (fun x => litI (at0 p x)) n ↔ langN N O classes y = langN N O classes n := fun y hy => by
    rw [langN_eq, ← hp y n (hM y hy) hn]
    exact ⟨fun e => litI_inj e, fun e => congrArg litI e⟩
  exact ⟨place_map (f := fun x => litI (at0 p x)) (g := langN N O classes) (x := n) (l := M) h, mem_map_iff (f := fun x => litI (at0 p x)) (g := langN N O classes) (x := n) (l := M) h⟩
end
end Go.Proofs.Ythmaokjhncokdaa

/-
  dfa: least: the machine with as few states as can be, numbered as they are met. No condition beyond what each theorem names.
-/
set_option linter.unusedVariables false
set_option linter.unusedSimpArgs false
namespace Go.Proofs.Ythmaokjhncokdaa
open Go.RowKit Go.Maps Classical

/-- the least machine is the language's -/
def LeastPost (w : World) (N : List (List Nat)) (O : List Nat) (classes : Nat) (e : Ending) (w' : World) : Prop :=
  ∃ ob O', w.heap.size ≤ ob ∧ e = .returned (.pointer (some ⟨ob, 0, none⟩)) ∧ MachD w' ob classes (canonNext (langN N O classes 0) classes 2000) O' ∧ O'.map some = canonOut (langN N O classes 0) classes 2000 ∧ Below w.heap.size w w'

set_option maxRecDepth 100000 in
set_option maxHeartbeats 8000000 in
theorem least_any (w : World) (mo classes : Nat) (N : List (List Nat)) (O : List Nat) (hM : MachD w mo classes N O) (hok : OkN N O classes) (h0 : 0 < N.length) (hn : N.length ≤ 2000) (hc : classes ≤ 24) (hO : ∀ o ∈ O, o < 2 ^ 64) :
    Calls Try.prog 59 #[.pointer (some ⟨mo, 0, none⟩)] w (LeastPost w N O classes) := by
  have HPA := Lib.hid (parted_any w mo classes N O hM hok hn hc hO)
  have HMD := Lib.hid hM
  have HOK := Lib.hid hok
  have hmm := @run_makeMap Try.prog
  have hmt : ∀ (w : World), (Instr.makeSlice 46 (.int .i64 (classes : Nat)) (.int .i64 (classes : Nat))).run Try.prog w = .ok (.slice (some ⟨w.heap.size, 0, none⟩) classes classes) (w.alloc (.cells (List.replicate classes (Value.int .i64 0)).toArray 3)) := fun w => make_ints _ Try.underlying46 w _ classes rfl (by omega)
  clear hM hok hO
  go_enter Try.func59, Try.ntmps59
  go_wp2_with fail
  refine HPA.out.mono ?_
  rintro e w1 ⟨gp, p, rfl, hgp0, hvp, hpl, hps, hpt, hb1⟩
  obtain ⟨nn, hnn⟩ : ∃ nn, nn = N.length := ⟨_, rfl⟩
  rw [← hnn] at hn h0 hpl hps ⊢
  obtain ⟨hol, pn, cn, po, co, m0, m1, m2, hcn, hco, hgn, hgo⟩ := (HMD.out.to hb1).get hnn.symm (by rw [← HOK.out.len, hnn])
  have HN := Lib.hid hnn
  have HGN := Lib.hid hgn
  have HGO := Lib.hid hgo
  have HVP := Lib.hid hvp
  have HPL := Lib.hid hpl
  have HPS := Lib.hid hps
  have HPT := Lib.hid hpt
  have HM0 := Lib.hid m0
  have HM1 := Lib.hid m1
  have HM2 := Lib.hid m2
  have HB1 := Lib.hid hb1
  have hb1s := hb1.size
  have hgpl := hvp.lt
  have pget : ∀ (w2 : World) (_ : VRow w2 gp 3 ((natsI p).map (Value.int .i64))) (i : Nat) (_ : i < nn), w2.cell? ⟨gp, i, none⟩ = some (.int .i64 (at0 p i : Nat)) := fun w2 hv i hi => by
    refine hv.cell ?_
    unfold natsI
    rw [List.map_map, List.getElem?_map]
    unfold at0
    rw [List.getElem?_eq_getElem (by rw [HPL.out]; exact hi)]
    rfl
  have HPG := Lib.hid pget
  obtain ⟨a0, ha0⟩ : ∃ a0, a0 = at0 p 0 := ⟨_, rfl⟩
  have d0 := pget w1 hvp 0 h0
  rw [← ha0] at d0
  have HA0 := Lib.hid ha0
  have ha0s : a0 < nn := by rw [ha0]; exact at0_small hps h0 0
  have HWF := Lib.hid (show (Lit.int .i64 (a0 : Nat)).wf = true from WalkArith.wf_i64 (by omega))
  have HKEY := Lib.hid (keyOf_int_mk (P := Try.prog) (k := 3) Try.underlying3 HWF.out)
  have hwf0 : (Lit.int .i64 0).wf = true := by decide
  obtain ⟨mb, hmb⟩ : ∃ mb, mb = w1.heap.size := ⟨_, rfl⟩
  have hal := below_alloc1 w1 (.map #[] 0)
  have HAL := Lib.hid hal
  have HNEW := Lib.hid (show NumMap 3 (w1.alloc (.map #[] 0)) mb [] by rw [hmb]; exact NumMap.new _ _)
  have d1 := cell_below hal hgpl d0
  have HMB := Lib.hid hmb
  clear hgn hgo hvp hpl hps hpt hnn m0 m1 m2 hal d0 pget ha0 hb1
  go_wp2_with (first | (refine stop_at (.insert 150 (.tmp 15) (.tmp 18) (.const (.int .i64 0))) rfl ?_) | fail)
  refine ⟨?_⟩
  rw [← hmb]
  clear hmb
  refine wpList_insert_own _ rfl _ _ _ 150 rfl 3 3 lawI Try.underlying150 _ mb 0 _ rfl HNEW.out.2.2 (by unfold maxLen; omega) _ _ (litI a0) rfl rfl HKEY.out _ [] (plainElem_int Try.underlying3 hwf0) ?_
  intro w3 hown3 hg3
  have HN3 := Lib.hid (show NumMap 3 w3 mb [litI a0] from ⟨by simp, fun k hk => by rw [List.mem_singleton.1 hk]; trivial, hown3⟩)
  have hf3 : Fr (fun k => k = mb) (w1.alloc (.map #[] 0)) w3 := Fr.grown (F := fun k => k = mb) hg3 (fun k h => by injection h with h; exact h.symm)
  have HB3 := Lib.hid (show Below w1.heap.size w1 w3 from HAL.out.trans (hf3.below HAL.out.size (fun k (hk : k = mb) => by have := HMB.out; omega)))
  have HBS := Lib.hid HB3.out.size
  clear hown3 hg3 hf3 d1
  go_upto_region 4 with fail
  refine abs_wp fun W4 hW4 => ?_
  have hal4 := below_alloc1 w3 (.cells #[Value.int .i64 0] 3)
  have HB4 := Lib.hid (show Below w1.heap.size w1 W4 by rw [hW4]; exact HB3.out.trans (hal4.mono HBS.out))
  have HN4 := Lib.hid (show NumMap 3 W4 mb [litI a0] by rw [hW4]; exact HN3.out.fr (Fr.of_belowB hal4) (by have := HN3.out.lt; omega))
  have HO4 := Lib.hid (show OwnL intE 3 1 w1.heap.size W4 (.slice (some ⟨w3.heap.size, 0, none⟩) 1 1) (natsI [0]) by
    rw [hW4]
    exact OwnL.block1 (E := intE) w3 3 (0 : Int) [.int .i64 0] ⟨rfl, by simp [Value.oneCell']⟩ rfl HBS.out)
  have y0 := cell_below HB4.out hol HM0.out
  have HW4S := Lib.hid (show W4.heap.size = w3.heap.size + 1 by rw [hW4]; simp)
  clear hW4 hal4
  go_upto_region 5 with fail
  refine abs_wp fun W hW => ?_
  obtain ⟨ob, hob⟩ : ∃ ob, ob = W4.heap.size := ⟨_, rfl⟩
  have hal5 := below_alloc1 W4 (.cells #[.int .i64 (classes : Nat), .slice none 0 0, .slice none 0 0] 77)
  obtain ⟨g, hg⟩ : ∃ g, g = langN N O classes := ⟨_, rfl⟩
  have HG := Lib.hid hg
  have hbs3 := HBS.out
  have hW4s := HW4S.out
  have hmbe := HMB.out
  have HLS := Lib.hid (show LSt w1.heap.size W mb ob classes (fun _ => False) (.slice (some ⟨w3.heap.size, 0, none⟩) 1 1) (.slice none 0 0) (.slice none 0 0) ([0].map fun x => litI (at0 p x)) [0] (nextsAt (langAuto (g 0)) classes 0) (([0].take 0).map (at0 O)) by
    rw [hW, hob]
    refine ⟨⟨heap_alloc_new _ _, by omega, OwnL.nil _, OwnL.nil _, fun k hk => hk.elim⟩, ?_, by omega, OwnL.below HO4.out hal5 (Nat.le_refl _), fun k hk => hk.elim⟩
    rw [List.map_cons, List.map_nil, ← HA0.out]
    exact HN4.out.fr (Fr.of_belowB hal5) (by have := HN4.out.lt; omega))
  have HBW := Lib.hid (show Below w1.heap.size w1 W by rw [hW]; exact HB4.out.trans (hal5.mono (by omega)))
  have hob0 : w1.heap.size ≤ ob := by omega
  rw [← hob]
  have hmb0 : w1.heap.size ≤ mb := by omega
  clear hW hal5 hob hW4s y0 hg hmbe
  go_wp2_with fail
  go_loopw [5, 7] (fun u i w2 => ∃ (n : Nat) (M : List Nat) (F : Nat → Prop) (nv ov : Value), i = .int .i64 n ∧ n ≤ M.length ∧ M.map g = cl (langAuto (g 0)) classes n ∧ (∀ x ∈ M, x < nn) ∧ LSt w1.heap.size w2 mb ob classes F u nv ov (M.map fun x => litI (at0 p x)) M (nextsAt (langAuto (g 0)) classes n) ((M.take n).map (at0 O)) ∧ Below w1.heap.size w1 w2) (fun _ i _ => nn - (intOf i).toNat)
  case atStart => exact ⟨0, [0], _, _, _, rfl, by simp, rfl, fun x hx => by rw [List.mem_singleton.1 hx]; exact h0, HLS.out, HBW.out⟩
  case round =>
    obtain ⟨n, M, F, nv, ov, rfl, hn1, hmg, hml, hls, hbn⟩ := hrel
    obtain ⟨q, hq⟩ : ∃ q, q = M.length := ⟨_, rfl⟩
    obtain ⟨pm, cm, hu⟩ := hls.met.form
    have hql : (natsI M).length = q := by unfold natsI; rw [List.length_map, hq]
    rw [hql] at hu
    subst hu
    have HQ := Lib.hid hq
    have HQL := Lib.hid hql
    have HMG := Lib.hid hmg
    have HML := Lib.hid hml
    have HLS2 := Lib.hid hls
    have HBN := Lib.hid hbn
    have hbns := hbn.size
    have hqn : q ≤ nn := by
      have h1 := sub_len _ ((List.range nn).map litI) hls.num.1 (fun y hy => by
        obtain ⟨x, hx, rfl⟩ := List.mem_map.1 hy
        exact List.mem_map.2 ⟨at0 p x, List.mem_range.2 (at0_small HPS.out h0 x), rfl⟩)
      rw [List.length_map, List.length_map, List.length_range] at h1
      omega
    rw [← hq] at hn1
    clear hq hql hmg hml hls
    by_cases hni : n < q
    · have hnl : n < M.length := by rw [← HQ.out]; exact hni
      obtain ⟨s, hs⟩ : ∃ s, s = M[n] := ⟨_, rfl⟩
      have HS := Lib.hid (show M[n]? = some s by rw [hs]; exact List.getElem?_eq_getElem hnl)
      have hsn : s < nn := HML.out s (by rw [hs]; exact List.getElem_mem hnl)
      have hnii : (n : Int) < q := by omega
      have hn0 : (0 : Int) ≤ n := by omega
      have y0 := cell_below hbn hol HM0.out
      clear hs hnl
      go_upto_region 9 with fail
      refine abs_wp fun W1 hW1 => ?_
      obtain ⟨gx, hgx⟩ : ∃ gx, gx = wr.heap.size := ⟨_, rfl⟩
      have hal := below_alloc1 wr (.cells (List.replicate classes (Value.int .i64 0)).toArray 3)
      have hW2 : W1 = wr.alloc (.cells (List.replicate classes (Value.int .i64 0)).toArray 3) := by rw [hW1]; simp
      have HV1 := Lib.hid (show VRow W1 gx 3 (List.replicate classes (Value.int .i64 0)) by rw [hW2, hgx]; exact heap_alloc_new _ _)
      have HL1 := Lib.hid (show LSt w1.heap.size W1 mb ob classes F (.slice pm q cm) nv ov (M.map fun x => litI (at0 p x)) M (nextsAt (langAuto (g 0)) classes n) ((M.take n).map (at0 O)) by rw [hW2]; exact HLS2.out.below hal)
      have HBW1 := Lib.hid (show Below w1.heap.size w1 W1 by rw [hW2]; exact HBN.out.trans (hal.mono hbns))
      have HGF := Lib.hid (show ¬ F gx by intro h; have := (HLS2.out.m.foot gx h).2.1; omega)
      have HGM := Lib.hid (show (Value.slice pm q cm).ownBlock ≠ some gx by intro h; have := (HLS2.out.met.lt gx h).2; omega)
      have hg0 : w1.heap.size ≤ gx := by omega
      rw [← hgx]
      obtain ⟨L, hL⟩ : ∃ L, L = cl (langAuto (g 0)) classes n := ⟨_, rfl⟩
      have HLE := Lib.hid hL
      obtain ⟨N', hN'⟩ : ∃ N', N' = nextsAt (langAuto (g 0)) classes n := ⟨_, rfl⟩
      obtain ⟨O', hO'⟩ : ∃ O', O' = (M.take n).map (at0 O) := ⟨_, rfl⟩
      rw [← hN', ← hO'] at HL1
      have HN' := Lib.hid hN'
      have HO' := Lib.hid hO'
      have HLG := Lib.hid (show L[n]? = some (g s) by rw [hL, ← HMG.out, List.getElem?_map, HS.out]; rfl)
      -- what is read
      have hsN : s < N.length := by rw [← HN.out]; exact hsn
      obtain ⟨r, hr⟩ : ∃ r, r = N[s] := ⟨_, rfl⟩
      have HR := Lib.hid hr
      have HROW := Lib.hid (HOK.out.row r (by rw [hr]; exact List.getElem_mem hsN))
      obtain ⟨bn, on, rv, rfl, hbnl, e0, hrv⟩ := HGN.out s r (by rw [hr]; exact List.getElem?_eq_getElem hsN)
      obtain ⟨pr, cr, rfl, hcr, hrc⟩ := hrv.get
      have hrl : (natsI r).length = classes := by unfold natsI; rw [List.length_map]; exact HROW.out.1
      have HRC := Lib.hid hrc
      have HRL := Lib.hid hrl
      rw [hrl] at e0 hcr
      have e1 := cell_below HBW1.out hbnl e0
      have e2 := cell_below HBW1.out hol HM1.out
      obtain ⟨pm3, cm3, he, hqm, hxx⟩ := HL1.out.met.read.at (by decide) HQL.out
      injection he with i1 i2 i3
      subst i1 i3
      obtain ⟨bm, om, row, rfl, hbml, hcell, hrow⟩ := hxx n (s : Int) (by unfold natsI; rw [List.getElem?_map, HS.out]; rfl)
      have hrow : row = [.int .i64 (s : Nat)] := hrow
      subst hrow
      have e3 : W1.cell? ⟨bm, om + n, none⟩ = some (.int .i64 (s : Nat)) := by have := hcell 0 _ rfl; simpa using this
      have hsi : (s : Int) < nn := by omega
      have hs0 : (0 : Int) ≤ s := by omega
      have hdr : ∀ nq, Fr (fun _ => False) W1 (W1.drewN nq) := fun nq => (Fr.refl (fun _ => False) W1).drewN nq
      have HDR := Lib.hid hdr
      clear hW1 hW2 hal hgx hL hN' hO' hr hrv hrc hrl e0 i2 hxx hcell hdr y0
      go_quiet (fail)
      clear e1 e2 e3
      go_wp2_with fail
      go_loopw [5, 49] (fun u j w2 => ∃ (c : Nat) (M2 : List Nat), j = .int .i64 c ∧ c ≤ classes ∧ M2.map g = rowS (langAuto (g 0)) (g s) L c ∧ (∀ x ∈ M2, x < nn) ∧ M <+: M2 ∧ LSt w1.heap.size w2 mb ob classes F u nv ov (M2.map fun x => litI (at0 p x)) M2 N' O' ∧ VRow w2 gx 3 ((natsI (rowN (langAuto (g 0)) L (g s) c)).map (.int .i64) ++ List.replicate (classes - c) (.int .i64 0)) ∧ u.ownBlock ≠ some gx ∧ Below w1.heap.size w1 w2) (fun _ j _ => classes - (intOf j).toNat)
      case atStart => exact ⟨0, M, rfl, by omega, by rw [HMG.out, HLE.out]; rfl, HML.out, List.prefix_refl _, HL1.out.fr (HDR.out _) (fun _ _ h => h.elim), HV1.out, HGM.out, HBW1.out.trans ((HDR.out _).below HBW1.out.size (fun _ h => h.elim))⟩
      case round =>
        obtain ⟨c, M2, rfl, hc1, hm2, hml2, hpre, hls, hv, hgm, hb2⟩ := hrel
        obtain ⟨q2, hq2⟩ : ∃ q2, q2 = M2.length := ⟨_, rfl⟩
        obtain ⟨pm2, cm2, hu⟩ := hls.met.form
        have hql2 : (natsI M2).length = q2 := by unfold natsI; rw [List.length_map, hq2]
        rw [hql2] at hu
        subst hu
        have HQ2 := Lib.hid hq2
        have HQL2 := Lib.hid hql2
        have HM2G := Lib.hid hm2
        have HML2 := Lib.hid hml2
        have HPRE := Lib.hid hpre
        have HL2 := Lib.hid hls
        have HV2 := Lib.hid hv
        have HGM2 := Lib.hid hgm
        have HB2 := Lib.hid hb2
        have hb2s := hb2.size
        have hqn2 : q2 ≤ nn := by
          have h1 := sub_len _ ((List.range nn).map litI) hls.num.1 (fun y hy => by
            obtain ⟨x, hx, rfl⟩ := List.mem_map.1 hy
            exact List.mem_map.2 ⟨at0 p x, List.mem_range.2 (at0_small HPS.out h0 x), rfl⟩)
          rw [List.length_map, List.length_map, List.length_range] at h1
          omega
        clear hq2 hql2 hm2 hml2 hpre hls hv hgm
        by_cases hcc : c < classes
        · have hcr2 : c < r.length := by rw [HROW.out.1]; exact hcc
          obtain ⟨b2, o2, rfl, hb2l, hrc⟩ := HRC.out (by rw [HRL.out]; omega)
          obtain ⟨n', hn'⟩ : ∃ n', n' = r[c] := ⟨_, rfl⟩
          have d3 : w1.cell? ⟨b2, o2 + c, none⟩ = some (.int .i64 (n' : Nat)) := by
            have := hrc c (by rw [HRL.out]; exact hcc)
            rw [this]
            simp [natsI, hn']
          have d4 := cell_below hb2 hb2l d3
          have hnn' : n' < nn := by rw [HN.out, hn']; exact HROW.out.2 _ (List.getElem_mem hcr2)
          have d5 := HPG.out wr (HVP.out.fr (Fr.of_belowB hb2) (by omega)) n' hnn'
          have HGO2 := Lib.hid (show goN N s c = n' by
            have h1 : N[s]? = some r := by rw [HR.out]; exact List.getElem?_eq_getElem hsN
            unfold goN
            rw [h1]
            show at0 r c = n'
            unfold at0
            rw [List.getElem?_eq_getElem hcr2, hn']
            rfl)
          have HST := Lib.hid (show g n' = (langAuto (g 0)).step (g s) c by rw [HG.out, ← HGO2.out]; exact langN_step N O hcc s)
          obtain ⟨a1, ha1⟩ : ∃ a1, a1 = at0 p n' := ⟨_, rfl⟩
          have ha1s : a1 < nn := by rw [ha1]; exact at0_small HPS.out h0 _
          rw [← ha1] at d5
          have HNU := Lib.hid (number_int wr mb (M2.map fun x => litI (at0 p x)) (a1 : Nat) HL2.out.num (WalkArith.wf_i64 (by omega)) (by rw [List.length_map, ← HQ2.out]; omega))
          have hmp := mark_place (p := p) (classes := classes) HPT.out (M := M2) (fun x hx => by rw [← HN.out]; exact HML2.out x hx) (n := n') (by rw [← HN.out]; exact hnn')
          rw [← HG.out, ← ha1, HM2G.out, HST.out] at hmp
          obtain ⟨L2, hL2⟩ : ∃ L2, L2 = rowS (langAuto (g 0)) (g s) L c := ⟨_, rfl⟩
          obtain ⟨s', hs'⟩ : ∃ s', s' = (langAuto (g 0)).step (g s) c := ⟨_, rfl⟩
          rw [← hL2, ← hs'] at hmp
          have HMP := Lib.hid hmp
          have HL2E := Lib.hid hL2
          have HSE := Lib.hid hs'
          obtain ⟨k', hk'⟩ : ∃ k', k' = place L2 s' := ⟨_, rfl⟩
          have HK := Lib.hid hk'
          have hk'l : k' ≤ 2000 := by
            rw [hk']
            have := place_le L2 s'
            have h2 : L2.length = q2 := by rw [hL2, ← HM2G.out, List.length_map, ← HQ2.out]
            omega
          have HROWS := Lib.hid (show rowN (langAuto (g 0)) L (g s) (c + 1) = rowN (langAuto (g 0)) L (g s) c ++ [k'] by rw [rowN_snoc, HK.out, HL2E.out, HSE.out])
          have HPUT := Lib.hid (show rowS (langAuto (g 0)) (g s) L (c + 1) = putS L2 s' by rw [rowS, ← HL2E.out, HSE.out])
          have HNU2 := Lib.hid (show Calls Try.prog 87 #[.map (some mb), .int .i64 (a1 : Nat)] wr fun e w' => e = .returned (.tuple #[.int .i64 (k' : Nat), .bool (!decide (s' ∈ L2))]) ∧ NumMap 3 w' mb (putS (M2.map fun x => litI (at0 p x)) (litI a1)) ∧ wr.grownBy w' (some mb) by
            refine HNU.out.mono ?_
            rintro e w' ⟨h1, h2, h3⟩
            have e1' : place (M2.map fun x => litI (at0 p x)) (Lit.int .i64 (a1 : Nat)) = k' := by rw [HK.out, ← HMP.out.1]; rfl
            have e3 : (Lit.int .i64 (a1 : Nat) ∈ M2.map fun x => litI (at0 p x)) ↔ s' ∈ L2 := HMP.out.2
            rw [e1', show decide (Lit.int .i64 (a1 : Nat) ∈ M2.map fun x => litI (at0 p x)) = decide (s' ∈ L2) by simp only [e3]] at h1
            exact ⟨h1, h2, h3⟩)
          have hcci : (c : Int) < classes := by omega
          have hc0 : (0 : Int) ≤ c := by omega
          have hnni : (n' : Int) < nn := by omega
          have hn'0 : (0 : Int) ≤ n' := by omega
          have HA1 := Lib.hid ha1
          clear hrc d3 hn' hb2 ha1 hmp hL2 hs' hk' HNU
          by_cases hfresh : s' ∈ L2
          · have hdec : decide (s' ∈ L2) = true := decide_eq_true hfresh
            rw [hdec] at HNU2
            have HFR := Lib.hid hfresh
            clear hdec hfresh
            go_wp2_with fail
            refine HNU2.out.mono ?_
            rintro e w6 ⟨rfl, hnm6, hg6⟩
            have hmem : litI a1 ∈ M2.map fun x => litI (at0 p x) := HMP.out.2.2 HFR.out
            rw [putS, if_pos hmem] at hnm6
            have HL6 := Lib.hid (HL2.out.newK hg6 hnm6)
            have hf6 : Fr (fun k => k = mb) wr w6 := Fr.grown (F := fun k => k = mb) hg6 (fun k h => by injection h with h; exact h.symm)
            have hgmb : ¬ gx = mb := fun h => HL2.out.num.notAt HV2.out h
            have HV6 := Lib.hid (HV2.out.fr hf6 hgmb)
            have HB6 := Lib.hid (HB2.out.trans (hf6.below hb2s (fun k (hk : k = mb) => by omega)))
            have hrl := rowN_length (langAuto (g 0)) L (g s) c
            have hfl : ((natsI (rowN (langAuto (g 0)) L (g s) c)).map (Value.int .i64)).length = c := by simp [natsI, hrl]
            have HFS := Lib.hid (fill_set ((natsI (rowN (langAuto (g 0)) L (g s) c)).map (Value.int .i64)) (classes - c) (.int .i64 (k' : Nat)) (.int .i64 0) hfl (by omega))
            have z0 := HV6.out.cell (i := c) (u := .int .i64 0) (by rw [List.getElem?_append_right (by omega), hfl, Nat.sub_self, List.getElem?_replicate, if_pos (by omega)])
            have z1 := HV6.out.fz c
            clear hnm6 hg6 hf6 hgmb hmem hrl hfl d4 d5
            go_upto_region 16 with fail
            refine abs_wp fun W8 hW8 => ?_
            have HL8 := Lib.hid (show LSt w1.heap.size W8 mb ob classes F (.slice pm2 q2 cm2) nv ov (M2.map fun x => litI (at0 p x)) M2 N' O' by rw [hW8]; exact HL6.out.put HV6.out HGF.out HGM2.out c _)
            have HV8 := Lib.hid (show VRow W8 gx 3 ((natsI (rowN (langAuto (g 0)) L (g s) (c + 1))).map (.int .i64) ++ List.replicate (classes - (c + 1)) (.int .i64 0)) by
              have h := HV6.out.set c (.int .i64 k')
              rw [HFS.out] at h
              rw [hW8, HROWS.out]
              have e : (natsI (rowN (langAuto (g 0)) L (g s) c ++ [k'])).map (Value.int .i64) = (natsI (rowN (langAuto (g 0)) L (g s) c)).map (Value.int .i64) ++ [.int .i64 (k' : Nat)] := by simp [natsI]
              rw [e, show classes - (c + 1) = classes - c - 1 by omega]
              exact h)
            have HB8 := Lib.hid (show Below w1.heap.size w1 W8 by rw [hW8]; exact HB6.out.trans ((Fr.setCell (F := fun k => k = gx) w6 rfl _).below HB6.out.size (fun k (hk : k = gx) => by omega)))
            have HMS := Lib.hid (show M2.map g = rowS (langAuto (g 0)) (g s) L (c + 1) by rw [HPUT.out, putS, if_pos HFR.out, HL2E.out, HM2G.out])
            clear hW8 z0 z1
            go_wp2_with fail
            go_roundw
            case rel => exact ⟨c + 1, M2, by go_num, by omega, HMS.out, HML2.out, HPRE.out, HL8.out, HV8.out, HGM2.out, HB8.out⟩
            case measure => simp [intOf]; omega
          · have hdec : decide (s' ∈ L2) = false := decide_eq_false hfresh
            rw [hdec] at HNU2
            have HFR := Lib.hid hfresh
            clear hdec hfresh
            go_wp2_with fail
            refine HNU2.out.mono ?_
            rintro e w6 ⟨rfl, hnm6, hg6⟩
            have hmem : ¬ litI a1 ∈ M2.map fun x => litI (at0 p x) := fun h => HFR.out (HMP.out.2.1 h)
            rw [putS, if_neg hmem] at hnm6
            have hks : (M2.map fun x => litI (at0 p x)) ++ [litI a1] = (M2 ++ [n']).map fun x => litI (at0 p x) := by rw [List.map_append, List.map_cons, List.map_nil, HA1.out]
            rw [hks] at hnm6
            have HL6 := Lib.hid (HL2.out.newK hg6 hnm6)
            have hf6 : Fr (fun k => k = mb) wr w6 := Fr.grown (F := fun k => k = mb) hg6 (fun k h => by injection h with h; exact h.symm)
            have hgmb : ¬ gx = mb := fun h => HL2.out.num.notAt HV2.out h
            have HV6 := Lib.hid (HV2.out.fr hf6 hgmb)
            have HB6 := Lib.hid (HB2.out.trans (hf6.below hb2s (fun k (hk : k = mb) => by omega)))
            have hal6 := below_alloc1 w6 (.cells #[Value.int .i64 (n' : Nat)] 3)
            have HAL6 := Lib.hid hal6
            have hbw6 := HB6.out.size
            have HO6 := Lib.hid (show OwnL intE 3 1 w1.heap.size (w6.alloc (.cells #[Value.int .i64 (n' : Nat)] 3)) (.slice pm2 q2 cm2) (natsI M2) from HL6.out.met.below hal6 (Nat.le_refl _))
            clear hnm6 hg6 hf6 hgmb hmem hks hal6 d4 d5
            go_wp2_with (refine stop_at (.call { callee := .builtin .append, args := #[.tmp 64, .tmp 66], argTypes := #[46, 46] }) rfl ?_)
            refine ⟨?_⟩
            refine wpList_append_ints rfl (.tmp 64) (.tmp 66) rfl (.slice pm2 q2 cm2) (natsI M2) rfl HO6.out _ [(n' : Int)] rfl (ReadL.one (E := intE) w6 _ (n' : Int) [Value.int .i64 (n' : Nat)] ⟨rfl, by simp [Value.oneCell']⟩ rfl) (by rw [HQL2.out]; simp; omega) (Nat.le_trans hbw6 HAL6.out.size) ?_
            rw [HQL2.out]
            intro p7 c7 w7 hown7 hg7 hlie7
            have hf7 : Fr (fun k => (Value.slice pm2 q2 cm2).ownBlock = some k) w6 w7 := (Fr.of_below HAL6.out _).trans (Fr.grown (F := fun k => (Value.slice pm2 q2 cm2).ownBlock = some k) hg7 (fun k h => h)) (fun _ _ h => h)
            have e7 : natsI (M2 ++ [n']) = natsI M2 ++ [(n' : Int)] := by simp [natsI]
            have hl7 : (Value.slice p7 (q2 + [(n' : Int)].length) c7).ownBlock = (Value.slice pm2 q2 cm2).ownBlock ∨ ∀ k, (Value.slice p7 (q2 + [(n' : Int)].length) c7).ownBlock = some k → w6.heap.size ≤ k := by
              rcases hlie7 with h | h
              · exact .inl h
              · refine .inr fun k hk => ?_
                rw [h] at hk
                have := Option.some.inj hk
                have := HAL6.out.size
                omega
            have HL7 := Lib.hid (show LSt w1.heap.size w7 mb ob classes F (.slice p7 (q2 + 1) c7) nv ov ((M2 ++ [n']).map fun x => litI (at0 p x)) (M2 ++ [n']) N' O' from HL6.out.newM hf7 (by rw [e7]; exact hown7) hl7)
            have HV7 := Lib.hid (HV6.out.fr hf7 HGM2.out)
            have hgx6 := HV6.out.lt
            have HGM7 := Lib.hid (show (Value.slice p7 (q2 + 1) c7).ownBlock ≠ some gx from fun hk => by
              rcases hl7 with h | h
              · exact HGM2.out (h ▸ hk)
              · have := h gx hk; omega)
            have HB7 := Lib.hid (HB6.out.trans (hf7.below hbw6 (fun k hk => (HL6.out.met.lt k hk).1)))
            have hrl := rowN_length (langAuto (g 0)) L (g s) c
            have hfl : ((natsI (rowN (langAuto (g 0)) L (g s) c)).map (Value.int .i64)).length = c := by simp [natsI, hrl]
            have HFS := Lib.hid (fill_set ((natsI (rowN (langAuto (g 0)) L (g s) c)).map (Value.int .i64)) (classes - c) (.int .i64 (k' : Nat)) (.int .i64 0) hfl (by omega))
            have z0 := HV7.out.cell (i := c) (u := .int .i64 0) (by rw [List.getElem?_append_right (by omega), hfl, Nat.sub_self, List.getElem?_replicate, if_pos (by omega)])
            have z1 := HV7.out.fz c
            clear hown7 hg7 hlie7 hf7 e7 hl7 hgx6 hrl hfl
            go_upto_region 16 with fail
            refine abs_wp fun W8 hW8 => ?_
            have HL8 := Lib.hid (show LSt w1.heap.size W8 mb ob classes F (.slice p7 (q2 + 1) c7) nv ov ((M2 ++ [n']).map fun x => litI (at0 p x)) (M2 ++ [n']) N' O' by rw [hW8]; exact HL7.out.put HV7.out HGF.out HGM7.out c _)
            have HV8 := Lib.hid (show VRow W8 gx 3 ((natsI (rowN (langAuto (g 0)) L (g s) (c + 1))).map (.int .i64) ++ List.replicate (classes - (c + 1)) (.int .i64 0)) by
              have h := HV7.out.set c (.int .i64 k')
              rw [HFS.out] at h
              rw [hW8, HROWS.out]
              have e : (natsI (rowN (langAuto (g 0)) L (g s) c ++ [k'])).map (Value.int .i64) = (natsI (rowN (langAuto (g 0)) L (g s) c)).map (Value.int .i64) ++ [.int .i64 (k' : Nat)] := by simp [natsI]
              rw [e, show classes - (c + 1) = classes - c - 1 by omega]
              exact h)
            have HB8 := Lib.hid (show Below w1.heap.size w1 W8 by rw [hW8]; exact HB7.out.trans ((Fr.setCell (F := fun k => k = gx) w7 rfl _).below HB7.out.size (fun k (hk : k = gx) => by omega)))
            have HMS := Lib.hid (show (M2 ++ [n']).map g = rowS (langAuto (g 0)) (g s) L (c + 1) by rw [HPUT.out, putS, if_neg HFR.out, List.map_append, HM2G.out, ← HL2E.out, List.map_cons, List.map_nil, HST.out, HSE.out])
            have HMX := Lib.hid (show ∀ x ∈ M2 ++ [n'], x < nn from fun x hx => by
              rcases List.mem_append.1 hx with h | h
              · exact HML2.out x h
              · rw [List.mem_singleton.1 h]; exact hnn')
            clear hW8 z0 z1
            go_wp2_with fail
            go_roundw
            case rel => exact ⟨c + 1, M2 ++ [n'], by go_num, by omega, HMS.out, HMX.out, HPRE.out.trans (List.prefix_append _ _), HL8.out, HV8.out, HGM7.out, HB8.out⟩
            case measure => simp [intOf]; omega
        · have hcci : ¬ (c : Int) < classes := by omega
          obtain rfl : classes = c := by omega
          have hcl1 : cl (langAuto (g 0)) classes (n + 1) = rowS (langAuto (g 0)) (g s) L classes := by rw [cl_succ (A := langAuto (g 0)) (s := g s) (by rw [← HLE.out]; exact HLG.out), ← HLE.out]
          have HCL := Lib.hid hcl1
          have hV9 := HV2.out
          rw [Nat.sub_self, List.replicate_zero, List.append_nil] at hV9
          have HV9 := Lib.hid hV9
          have HNS := Lib.hid (show nextsAt (langAuto (g 0)) classes (n + 1) = N' ++ [rowN (langAuto (g 0)) L (g s) classes] by rw [nextsAt_succ (s := g s) (by rw [← HLE.out]; exact HLG.out), HN'.out, ← HLE.out])
          have hqq : q ≤ q2 := by have := HPRE.out.length_le; rw [← HQ.out, ← HQ2.out] at this; exact this
          have hs2 : M2[n]? = some s := by
            obtain ⟨rr, hrr⟩ := HPRE.out
            rw [← hrr, List.getElem?_append_left (by rw [← HQ.out]; exact hni)]
            exact HS.out
          have HS2 := Lib.hid hs2
          have HOS := Lib.hid (show (M2.take (n + 1)).map (at0 O) = O' ++ [at0 O s] by
            obtain ⟨rr, hrr⟩ := HPRE.out
            obtain ⟨hn2l, hn2e⟩ := List.getElem?_eq_some_iff.1 hs2
            rw [List.take_succ_eq_append_getElem hn2l, List.map_append, hn2e, ← hrr, List.take_append_of_le_length (by rw [← HQ.out]; omega), HO'.out]
            rfl)
          have hNl : N'.length = n := by
            rw [HN'.out]
            unfold nextsAt
            rw [List.length_map, List.length_take, ← HMG.out, List.length_map, ← HQ.out]
            omega
          have hOl : O'.length = n := by
            rw [HO'.out, List.length_map, List.length_take, ← HQ.out]
            omega
          have HNL := Lib.hid hNl
          have HOL := Lib.hid hOl
          obtain ⟨pn2, cn2, hnv⟩ := HL2.out.m.next.form
          obtain ⟨po2, co2, hov⟩ := HL2.out.m.outs.form
          rw [hNl] at hnv
          rw [hOl] at hov
          obtain ⟨m0, m1, m2⟩ := cells3 HL2.out.m.mach
          have f1 := fz_at HL2.out.m.mach 1
          have HNV := Lib.hid hnv
          have HOV := Lib.hid hov
          rw [hnv] at m1
          rw [hov] at m2
          have hal := below_alloc1 wr (.cells #[Value.slice (some ⟨gx, 0, none⟩) classes classes] 46)
          have HAL := Lib.hid hal
          have hgl := HV2.out.lt
          have HEN := Lib.hid (show nrowE (fun k => F k ∨ k = gx) wr (rowN (langAuto (g 0)) L (g s) classes) [Value.slice (some ⟨gx, 0, none⟩) classes classes] by
            have hrl := rowN_length (langAuto (g 0)) L (g s) classes
            have hnl2 : (natsI (rowN (langAuto (g 0)) L (g s) classes)).length = classes := by simp [natsI, hrl]
            refine ⟨_, rfl, rfl, ?_, fun _ k hk => .inr (by injection hk with hk; exact hk.symm)⟩
            have h := Raw.of_block (n := classes) (cs := (natsI (rowN (langAuto (g 0)) L (g s) classes)).map (Value.int .i64)) HV9.out
            unfold Ints
            rw [hnl2]
            exact h)
          have HON := Lib.hid (show OwnL (nrowE (fun k => F k ∨ k = gx) wr) 46 1 w1.heap.size (wr.alloc (.cells #[Value.slice (some ⟨gx, 0, none⟩) classes classes] 46)) (.slice pn2 n cn2) N' by
            rw [← hnv]
            exact OwnL.mono (OwnL.below HL2.out.m.next hal (Nat.le_refl _)) (fun x r hr => rowE.mono hr (fun k hk => .inl hk)))
          clear hnv hov hNl hOl hcl1 hV9 hs2
          go_wp2_with (refine stop_at (.call { callee := .builtin .append, args := #[.tmp 77, .tmp 79], argTypes := #[75, 75] }) rfl ?_)
          refine ⟨?_⟩
          refine wpList_append_nrows rfl (.tmp 77) (.tmp 79) rfl (.slice pn2 n cn2) N' n HNL.out rfl HON.out _ (rowN (langAuto (g 0)) L (g s) classes) rfl (ReadL.one wr _ _ [Value.slice (some ⟨gx, 0, none⟩) classes classes] ⟨rfl, by simp [Value.oneCell']⟩ HEN.out) (by omega) (Nat.le_trans hb2s HAL.out.size) ?_
          intro p7 c7 w7 hown7 hg7 hlie7
          have hf7 : Fr (fun k => (Value.slice pn2 n cn2).ownBlock = some k) wr w7 := (Fr.of_below HAL.out _).trans (Fr.grown (F := fun k => (Value.slice pn2 n cn2).ownBlock = some k) hg7 (fun k h => h)) (fun _ _ h => h)
          have hob7 := (hf7.block ob (at_lt HL2.out.m.mach) (by rw [← HNV.out]; exact HL2.out.m.next.notAt HL2.out.m.mach (by decide))).trans HL2.out.m.mach
          obtain ⟨y0, y1, y2⟩ := cells3 hob7
          have f7 := fz_at hob7 1
          have HF7 := Lib.hid hf7
          have HOW7 := Lib.hid hown7
          have HLI7 := Lib.hid hlie7
          clear hown7 hg7 hlie7 hf7 hob7 m0 m1 m2 f1 hal
          go_upto_region 18 with fail
          refine abs_wp fun W9 hW9 => ?_
          have h9 := HL2.out.newN hb2s (F' := fun k => F k ∨ k = gx) (fun k hk => .inl hk) (fun k hk => by
            rcases hk with hk | hk
            · exact .inl hk
            · subst hk
              exact .inr ⟨hg0, hgl, fun e => HV2.out.not_mach HL2.out.m.mach e, HL2.out.m.next.notAt HV2.out (by decide), HL2.out.m.outs.notAt HV2.out (by decide), HL2.out.num.notAt HV2.out, HGM2.out⟩) (w1 := w7) (w2 := W9) (nv' := .slice p7 (n + 1) c7) (N' := N' ++ [rowN (langAuto (g 0)) L (g s) classes]) (by rw [HNV.out]; exact HF7.out) HOW7.out (by
            rw [HNV.out]
            rcases HLI7.out with h | h
            · exact .inl h
            · refine .inr fun k hk => ?_
              rw [h] at hk
              have := Option.some.inj hk
              have := HAL.out.size
              omega) hW9
          have HL9 := Lib.hid h9.1
          have HB9 := Lib.hid (HB2.out.trans (h9.2.below hb2s (fun k hk => by
            rcases hk with hk | hk
            · exact (HL2.out.m.next.lt k hk).1
            · rw [hk]; exact hob0)))
          clear h9 hW9 y0 y1 y2 f7
          have hb9s := HB9.out.size
          have hni2 : (n : Int) < q2 := by omega
          obtain ⟨pm3, cm3, he, hqm2, hxx⟩ := HL9.out.met.read.at (by decide) HQL2.out
          injection he with i1 i2 i3
          subst i1 i3
          obtain ⟨bm2, om2, row, rfl, hbml2, hcell, hrow2⟩ := hxx n (s : Int) (by unfold natsI; rw [List.getElem?_map, HS2.out]; rfl)
          have hrow2 : row = [.int .i64 (s : Nat)] := hrow2
          subst hrow2
          have d0 : W9.cell? ⟨bm2, om2 + n, none⟩ = some (.int .i64 (s : Nat)) := by have := hcell 0 _ rfl; simpa using this
          have hsO : s < O.length := by rw [← HOK.out.len]; exact hsN
          obtain ⟨oz, hoz⟩ : ∃ oz, oz = at0 O s := ⟨_, rfl⟩
          have hOs : O[s]? = some oz := by rw [hoz]; unfold at0; rw [List.getElem?_eq_getElem hsO]; rfl
          obtain ⟨bo, oo, rfl, hbol, e4⟩ := HGO.out s oz hOs
          have e5 := cell_below HB9.out hbol e4
          have e6 := cell_below HB9.out hol HM2.out
          obtain ⟨m0, m1, m2⟩ := cells3 HL9.out.m.mach
          rw [HOV.out] at m2
          have HOZ := Lib.hid hoz
          have HSS := Lib.hid (show W9.cell? ⟨ob, 2, none⟩ = some (.slice po2 n co2) ∧ W9.cell? ⟨mo, 2, none⟩ = some (.slice (some ⟨bo, oo, none⟩) nn co) ∧ W9.cell? ⟨bm2, om2 + n, none⟩ = some (.int .i64 (s : Nat)) ∧ W9.cell? ⟨bo, oo + s, none⟩ = some (.int .u64 (oz : Nat)) from ⟨m2, e6, d0, e5⟩)
          have keep : ∀ W' : World, Fr (fun k => (Value.slice po2 n co2).ownBlock = some k) W9 W' → W'.cell? ⟨ob, 2, none⟩ = some (.slice po2 n co2) ∧ W'.cell? ⟨mo, 2, none⟩ = some (.slice (some ⟨bo, oo, none⟩) nn co) ∧ W'.cell? ⟨bm2, om2 + n, none⟩ = some (.int .i64 (s : Nat)) ∧ W'.cell? ⟨bo, oo + s, none⟩ = some (.int .u64 (oz : Nat)) := fun W' hf => by
            have old : ∀ k, k < w1.heap.size → ¬ (Value.slice po2 n co2).ownBlock = some k := fun k hk h => by
              rw [← HOV.out] at h
              have := (HL9.out.m.outs.lt k h).1
              omega
            refine ⟨hf.cell (p := ⟨ob, 2, none⟩) (by rw [← HOV.out]; exact HL9.out.m.outs.notAt HL9.out.m.mach (by decide)) m2, hf.cell (p := ⟨mo, 2, none⟩) (old mo hol) e6, hf.cell (p := ⟨bm2, om2 + n, none⟩) (fun h => ?_) d0, hf.cell (p := ⟨bo, oo + s, none⟩) (old bo hbol) e5⟩
            obtain ⟨cs, hcs⟩ := HL9.out.met.blkT bm2 rfl
            exact HL9.out.m.outs.notAt hcs (by decide) (by rw [HOV.out]; exact h)
          have HKEEP := Lib.hid keep
          clear hxx hcell i2 d0 e4 e5 e6 m0 m1 m2 hoz hOs keep
          refine wp_region_fin 19 (fun W => W.cell? ⟨ob, 2, none⟩ = some (.slice po2 n co2) ∧ W.cell? ⟨mo, 2, none⟩ = some (.slice (some ⟨bo, oo, none⟩) nn co) ∧ W.cell? ⟨bm2, om2 + n, none⟩ = some (.int .i64 (s : Nat)) ∧ W.cell? ⟨bo, oo + s, none⟩ = some (.int .u64 (oz : Nat))) (.reads [0, 1, 2, 3, 4, 5, 6, 7, 8, 9, 10, 11, 12, 13, 14] (.one 15 (.one 16 (.one 17 (.one 18 (.last 19)))))) 103 (by kernel_rfl) (by kernel_rfl) rfl (fun _ _ _ _ _ h => h) HSS.out ?_
          apply plan_reads
          · intro W hW
            obtain ⟨k0, k1, k2, k3⟩ := hW
            repeat (refine wpRead_step (fun K hK => ?_); go_simp; refine hK _ ?_; clear hK K)
            exact wpRead_nil rfl
          refine abs_plan fun WA hWA => ?_
          have hd9 : Fr (fun _ => False) W9 WA := by rw [hWA]; exact (Fr.refl (fun _ => False) _).drew
          have HLA := Lib.hid (HL9.out.fr hd9 (fun _ _ h => h.elim))
          have HBA := Lib.hid (HB9.out.trans (hd9.below hb9s (fun _ h => h.elim)))
          have HD9 := Lib.hid hd9
          have hbas := HBA.out.size
          clear hWA hd9
          refine plan_one rfl ?_
          have halA := below_alloc1 WA (.cells #[Value.int .u64 (oz : Nat)] 37)
          have HALA := Lib.hid halA
          have HS1 := Lib.hid (HKEEP.out _ ((HD9.out.mono (fun _ _ h => h.elim)).trans (Fr.of_below halA _) (fun _ _ h => h)))
          have HOO := Lib.hid (show OwnL u64E 37 1 w1.heap.size (WA.alloc (.cells #[Value.int .u64 (oz : Nat)] 37)) (.slice po2 n co2) O' by rw [← HOV.out]; exact OwnL.below HLA.out.m.outs halA (Nat.le_refl _))
          clear halA
          go_wp2_with fail
          refine Then.mk HS1.out ?_
          refine plan_one rfl ?_
          refine wpList_append_u64 rfl (.tmp 87) (.tmp 98) rfl (.slice po2 n co2) O' n HOL.out rfl HOO.out _ oz rfl (ReadL.one WA _ oz [Value.int .u64 (oz : Nat)] ⟨rfl, by simp [Value.oneCell']⟩ rfl) (by omega) (Nat.le_trans hbas HALA.out.size) ?_
          intro pB cB wB hownB hgB hlieB
          have hfB : Fr (fun k => (Value.slice po2 n co2).ownBlock = some k) WA wB := (Fr.of_below HALA.out _).trans (Fr.grown (F := fun k => (Value.slice po2 n co2).ownBlock = some k) hgB (fun k h => h)) (fun _ _ h => h)
          have HFB := Lib.hid hfB
          have hobB := (hfB.block ob (at_lt HLA.out.m.mach) (by rw [← HOV.out]; exact HLA.out.m.outs.notAt HLA.out.m.mach (by decide))).trans HLA.out.m.mach
          have HSB := Lib.hid (HKEEP.out wB ((HD9.out.mono (fun _ _ h => h.elim)).trans hfB (fun _ _ h => h)))
          have HOB := Lib.hid hobB
          have HOWB := Lib.hid hownB
          have HLIB := Lib.hid hlieB
          clear hownB hgB hlieB hfB hobB
          go_wp2_with fail
          refine Then.mk HSB.out ?_
          refine plan_one rfl ?_
          go_wp2_with fail
          refine Then.mk HSB.out ?_
          refine plan_one rfl ?_
          go_wp2_with fail
          refine Then.mk HSB.out ?_
          refine plan_last rfl ?_
          obtain ⟨y0, y1, y2⟩ := cells3 HOB.out
          have fB := fz_at HOB.out 2
          go_wp2_with fail
          have hC := HLA.out.newO hbas (w1 := wB) (w2 := wB.setCell ⟨ob, 2, none⟩ (.slice pB (n + 1) cB)) (ov' := .slice pB (n + 1) cB) (O' := O' ++ [oz]) (by rw [HOV.out]; exact HFB.out) HOWB.out (by
            rw [HOV.out]
            rcases HLIB.out with h | h
            · exact .inl h
            · refine .inr fun k hk => ?_
              rw [h] at hk
              have := Option.some.inj hk
              have := HALA.out.size
              omega) rfl
          go_roundw
          case rel =>
            refine ⟨n + 1, M2, (fun k => F k ∨ k = gx), .slice p7 (n + 1) c7, .slice pB (n + 1) cB, by go_num, by rw [← HQ2.out]; omega, by rw [HCL.out]; exact HM2G.out, HML2.out, ?_, HBA.out.trans (hC.2.below hbas (fun k hk => ?_))⟩
            · rw [HNS.out, HOS.out, ← HOZ.out]
              exact hC.1
            · rcases hk with hk | hk
              · exact (HLA.out.m.outs.lt k hk).1
              · rw [hk]; exact hob0
          case measure => simp [intOf]; omega
    · have hnii : ¬ (n : Int) < q := by omega
      obtain rfl : q = n := by omega
      have hlen : (cl (langAuto (g 0)) classes q).length = q := by rw [← HMG.out, List.length_map, ← HQ.out]
      have hov : Over (langAuto (g 0)) classes q := by unfold Over; rw [hlen]; exact Nat.le_refl _
      have HSAME := Lib.hid (show cl (langAuto (g 0)) classes 2000 = cl (langAuto (g 0)) classes q from over_mono hov (by omega))
      have HNX := Lib.hid (nextsAt_over hov)
      clear hlen hov
      go_wp2_with fail
      go_ret
      refine ⟨ob, (M.take q).map (at0 O), by omega, rfl, ?_, ?_, HB1.out.trans (HBN.out.mono hb1s)⟩
      · have h := HLS2.out.m.machD
        rw [HNX.out, ← HSAME.out] at h
        rw [HG.out] at h
        exact h
      · rw [List.take_of_length_le (by rw [← HQ.out]; exact Nat.le_refl _), canonOut, canonL, ← HG.out, HSAME.out, ← HMG.out, List.map_map, List.map_map]
        apply List.map_congr_left
        intro x hx
        have hxO : x < O.length := by rw [← HOK.out.len, ← HN.out]; exact HML.out x hx
        show some (at0 O x) = g x []
        rw [HG.out]
        unfold langN at0
        rw [if_pos (by simp)]
        show some (O[x]?.getD 0) = O[x]?
        rw [List.getElem?_eq_getElem hxO]
        rfl
end Go.Proofs.Ythmaokjhncokdaa

/-
  dfa.Build: what New makes, with where it lies. No condition beyond what each theorem names.
-/
set_option linter.unusedVariables false
set_option linter.unusedSimpArgs false
namespace Go.Proofs.Ythmaokjhncokdaa
open Go.RowKit

/-- a machine all of whose blocks lie in F -/
def MachF (F : Nat → Prop) (w : World) (m : Nat) (S : List Sta) : Prop := ∀ (G : Nat → Prop) (w' : World), Fr G w w' → (∀ k, F k → ¬ G k) → MachR w' m S
theorem MachF.is {F : Nat → Prop} {w : World} {m : Nat} {S : List Sta} (h : MachF F w m S) : MachR w m S := h (fun _ => False) w (Fr.refl _ _) (fun _ _ h => h)
theorem MachF.fr {F G : Nat → Prop} {w w' : World} {m : Nat} {S : List Sta} (h : MachF F w m S) (hf : Fr G w w') (hg : ∀ k, F k → ¬ G k) : MachF F w' m S := fun G' w'' hf' hg' =>
  h (fun k => G k ∨ G' k) w'' ((hf.mono (fun k _ h => .inl h)).trans hf' (fun k _ h => .inr h)) (fun k hk h => by
    rcases h with h | h
    · exact hg k hk h
    · exact hg' k hk h)
theorem MachF.mono {F F' : Nat → Prop} {w : World} {m : Nat} {S : List Sta} (h : MachF F w m S) (hF : ∀ k, F k → F' k) : MachF F' w m S := fun G w' hf hg => h G w' hf (fun k hk => hg k (hF k hk))

theorem Mach.readG {base m : Nat} {w w' : World} {L : List Sta} {f l : Int} {G : Nat → Prop} (h : Mach base w m L f l) (hf : Fr G w w') (hG : ∀ k, k < w.heap.size → G k → k = m ∨ k < base) (hm : ∀ lv a b, w.heap[m]? = some (.cells #[lv, a, b] 135) → w'.heap[m]? = some (.cells #[lv, .int .i64 0, .int .i64 1] 135)) : MachR w' m L := by
  obtain ⟨lv, Ls, h1, h2, h3, h4, h5, -⟩ := h
  have ne : ∀ {α : Type} {E : α → List Value → Prop} {T : TypeId} {sz : Nat} {v : Value} {xs : List α}, OwnL E T sz base w v xs → T ≠ 135 → OwnL E T sz base w' v xs := fun {α E T sz v xs} h hT =>
    h.fr hf (fun k hk he => by
      have hlt := h.lt k hk
      rcases hG k hlt.2 he with he | he
      · exact h.notAt h2 hT (by rw [hk]; exact congrArg some he)
      · omega)
  refine ⟨lv, hm _ _ _ h2, ?_⟩
  rw [← h3]
  refine ReadL.map (·.s) (ne h4 (by decide)).read (fun x hx r hr => ?_)
  have hr : r = [x.fv, .bool x.s.set, x.tv] := hr
  exact ⟨x.fv, x.tv, hr, (ne (h5 x hx).1 (by decide)).read.ints, (ne (h5 x hx).2 (by decide)).read.ints⟩

theorem Mach.readF {base m : Nat} {w w1 : World} {L : List Sta} {f l : Int} (h : Mach base w m L f l) (hf : Fr (fun k => k = m) w w1) (hm : ∀ lv a b, w.heap[m]? = some (.cells #[lv, a, b] 135) → w1.heap[m]? = some (.cells #[lv, .int .i64 0, .int .i64 1] 135)) : MachF (fun k => base ≤ k ∧ k < w1.heap.size) w1 m L := fun G w' hf' hg' => by
  have hbm : base ≤ m := by obtain ⟨lv, Ls, h1, -⟩ := h; exact h1
  refine h.readG (G := fun k => k = m ∨ G k) ((hf.mono (fun k _ h => .inl h)).trans hf' (fun k _ h => .inr h)) (fun k hk hG => ?_) (fun lv a b hh => ?_)
  · rcases hG with hG | hG
    · exact .inl hG
    · refine .inr (Nat.lt_of_not_le fun hb => hg' k ⟨hb, Nat.lt_of_lt_of_le hk hf.size⟩ hG)
  · have h1 := hm lv a b hh
    exact (hf'.block m (at_lt h1) (fun hG => hg' m ⟨hbm, at_lt h1⟩ hG)).trans h1

def NewPostF (w : World) (x : Nd) (e : Ending) (w' : World) : Prop :=
  Below w.heap.size w w' ∧ ((rightB x = true ∧ ∃ m, w.heap.size ≤ m ∧ e = .returned (.tuple #[.pointer (some ⟨m, 0, none⟩), .int .i64 0]) ∧ MachF (fun k => w.heap.size ≤ k ∧ k < w'.heap.size) w' m (mach x)) ∨ (rightB x = false ∧ e = .returned (.tuple #[.pointer none, .int .i64 1])))

set_option maxRecDepth 100000 in
set_option maxHeartbeats 4000000 in
theorem new_foot (x : Nd) (w : World) (a b c : Value) (hx : NodeIs w x a b c) :
    Calls Try.prog 56 #[.agg #[a, b, c]] w (NewPostF w x) := by
  have HX := Lib.hid hx
  obtain ⟨op, pp, l, c1, q, m, d, rfl, rfl, rfl⟩ := hx.form
  clear hx
  go_enter Try.func56, Try.ntmps56
  go_upto_region 1 with fail
  refine abs_wp fun W hW => ?_
  obtain ⟨B, hB⟩ : ∃ B, B = w.heap.size := ⟨_, rfl⟩
  have hbox : W.heap[B]? = some (.cells #[.int .i64 op, .slice pp l c1, .slice q m d] 52) := by rw [hW, hB]; exact heap_alloc_new _ _
  have hbe : Below w.heap.size w W := by rw [hW]; exact below_alloc1 _ _
  rw [← hB]
  have HBE := Lib.hid hbe
  have HBOX := Lib.hid hbox
  obtain ⟨x0, x1, x2⟩ := cells3 hbox
  have HD := Lib.hid (right_any x W _ _ _ (HX.out.to hbe (Nat.le_refl _)))
  clear hW hbox hbe hB
  go_wp2_with fail
  refine HD.out.mono ?_
  rintro e w1 ⟨rfl, hb1⟩
  have HB1 := Lib.hid (HBE.out.trans (hb1.mono HBE.out.size))
  have HBOX1 := Lib.hid ((hb1.block _ (at_lt HBOX.out)).trans HBOX.out)
  clear hb1 x0 x1 x2
  obtain ⟨x0, x1, x2⟩ := cells3 HBOX1.out
  cases hr : rightB x
  · have HR := Lib.hid hr
    clear hr
    go_wp2_with fail
    go_ret2
    exact ⟨HB1.out, .inr ⟨HR.out, rfl⟩⟩
  · have HR := Lib.hid hr
    clear hr
    have HG := Lib.hid (show Good x from Wf_good x 1 (rightB_iff.1 HR.out).1)
    have HC := Lib.hid (show cnt x ≤ 400 from (rightB_iff.1 HR.out).2)
    go_upto_region 4 with fail
    refine abs_wp fun W2 hW2 => ?_
    obtain ⟨mb, hmb⟩ : ∃ mb, mb = w1.heap.size := ⟨_, rfl⟩
    have hbm : Below w1.heap.size w1 W2 := by rw [hW2]; exact below_alloc1 _ _
    have hmach : Mach w.heap.size W2 mb [] 0 0 := by rw [hW2, hmb]; exact mach_new _ _ HB1.out.size
    have HMB := Lib.hid (show w.heap.size ≤ mb by rw [hmb]; exact HB1.out.size)
    rw [← hmb]
    have HB2 := Lib.hid (HB1.out.trans (hbm.mono HB1.out.size))
    have HBOX2 := Lib.hid ((hbm.block _ (at_lt HBOX1.out)).trans HBOX1.out)
    have HL := Lib.hid (lay_any x HG.out w.heap.size W2 mb [] 0 0 _ _ _ (NodeF.below HB2.out (Nat.le_refl _) _ HX.out.foot) hmach (by have := HC.out; simp; omega) (by have := HC.out; simp [edges]; omega))
    clear hW2 hmb hbm hmach x0 x1 x2
    obtain ⟨x0, x1, x2⟩ := cells3 HBOX2.out
    go_wp2_with fail
    refine HL.out.mono ?_
    rintro e w3 ⟨rfl, hm3, hb3, hk3⟩
    obtain ⟨lv, Ls, hm4⟩ := id hm3
    have HM4 := Lib.hid hm4.2.1
    have HM3 := Lib.hid hm3
    have HB3 := Lib.hid (HB2.out.trans hb3)
    clear hm3 hb3 hk3 hm4 x0 x1 x2
    obtain ⟨y0, y1, y2⟩ := cells3 HM4.out
    have f1 := fz_at HM4.out 1
    have f2 := fz_at HM4.out 2
    simp only [List.length_nil]
    go_upto_region 6 with fail
    refine abs_wp fun W4 hW4 => ?_
    have h5 : ∀ lv a b, w3.heap[mb]? = some (.cells #[lv, a, b] 135) → W4.heap[mb]? = some (.cells #[lv, .int .i64 0, .int .i64 1] 135) := fun lv' a b h => by
      have k1 := blk_set h 1 (.int .i64 0)
      have k2 := blk_set k1 2 (.int .i64 1)
      rw [hW4]
      exact k2
    have h6 : Fr (fun k => k = mb) w3 W4 := by
      rw [hW4]
      exact (Fr.setCell (F := fun k => k = mb) _ rfl _).trans (Fr.setCell (F := fun k => k = mb) _ rfl _) (fun _ _ h => h)
    have H7 := Lib.hid (show Below w.heap.size w W4 from HB3.out.trans (h6.below HB3.out.size (fun k hk => by have hk : k = mb := hk; have := HMB.out; omega)))
    have H8 := Lib.hid (show MachF (fun k => w.heap.size ≤ k ∧ k < W4.heap.size) W4 mb (mach x) from HM3.out.readF h6 h5)
    clear hW4 h5 h6 y0 y1 y2 f1 f2
    go_wp2_with fail
    go_ret2
    exact ⟨H7.out, .inl ⟨HR.out, mb, HMB.out, rfl, H8.out⟩⟩
end Go.Proofs.Ythmaokjhncokdaa

/-
  dfa.Build: the least machine of expressions. No condition beyond what each theorem names.
-/
set_option linter.unusedVariables false
set_option linter.unusedSimpArgs false
namespace Go.Proofs.Ythmaokjhncokdaa
open Go.RowKit Classical

/-- which fit in a situation, as bits -/
def outN (s : List (List Int)) : Nat := bitsL (outE s)

/-- arguments that may be -/
def ArgOk (n : Int) (l : List (Nd × Bool)) : Prop := 1 ≤ n ∧ n ≤ 24 ∧ l.length ≤ 64 ∧ ∀ x ∈ l, RightX x.1 ∧ insideB n x.1 = true

def BuildPost (w : World) (n : Int) (l : List (Nd × Bool)) (e : Ending) (w' : World) : Prop := Below w.heap.size w w' ∧
  ((¬ ArgOk n l ∧ e = .returned (.tuple #[.pointer none, .int .i64 1])) ∨
   (ArgOk n l ∧ Built (autoE l) outN n.toNat none ∧ e = .returned (.tuple #[.pointer none, .int .i64 7])) ∨
   (ArgOk n l ∧ ∃ ob N O, w.heap.size ≤ ob ∧ Built (autoE l) outN n.toNat (some (N, O.map some)) ∧ e = .returned (.tuple #[.pointer (some ⟨ob, 0, none⟩), .int .i64 0]) ∧ MachD w' ob n.toNat N O))

def machFE (F : Nat → Prop) (w : World) (S : List Sta) (row : List Value) : Prop := ∃ m, row = [.pointer (some ⟨m, 0, none⟩)] ∧ MachF F w m S
theorem machFE.fr {F G : Nat → Prop} {w w' : World} {S : List Sta} {row : List Value} (h : machFE F w S row) (hf : Fr G w w') (hg : ∀ k, F k → ¬ G k) : machFE F w' S row := by
  obtain ⟨m, rfl, h⟩ := h
  exact ⟨m, rfl, h.fr hf hg⟩
theorem machFE.mono {F G : Nat → Prop} {w : World} {S : List Sta} {row : List Value} (h : machFE F w S row) (hg : ∀ k, F k → G k) : machFE G w S row := by
  obtain ⟨m, rfl, h⟩ := h
  exact ⟨m, rfl, h.mono hg⟩

/-- a builder that is being filled -/
structure BSt (base : Nat) (w : World) (bb : Nat) (F : Nat → Prop) (lv mv : Value) (Ss : List (List Sta)) : Prop where
  at0 : w.heap[bb]? = some (.cells #[lv, mv] 105)
  base0 : base ≤ bb
  list : OwnL (machFE F w) 106 1 base w mv Ss
  foot : ∀ k, F k → base ≤ k ∧ k < w.heap.size ∧ k ≠ bb ∧ mv.ownBlock ≠ some k

theorem BSt.below {base : Nat} {w w' : World} {bb : Nat} {F : Nat → Prop} {lv mv : Value} {Ss : List (List Sta)} (h : BSt base w bb F lv mv Ss) (hb : Below w.heap.size w w') : BSt base w' bb F lv mv Ss :=
  ⟨(hb.block _ (at_lt h.at0)).trans h.at0, h.base0, OwnL.mono (OwnL.below h.list hb (Nat.le_refl _)) (fun x r hr => hr.fr (Fr.of_belowB hb) (fun k hk hG => by have := (h.foot k hk).2.1; omega)), fun k hk => by
    obtain ⟨h1, h2, h3⟩ := h.foot k hk
    exact ⟨h1, Nat.lt_of_lt_of_le h2 hb.size, h3⟩⟩
/-- more blocks are kept -/
theorem BSt.more {base : Nat} {w : World} {bb : Nat} {F F' : Nat → Prop} {lv mv : Value} {Ss : List (List Sta)} (h : BSt base w bb F lv mv Ss) (hF : ∀ k, F k → F' k) (hX : ∀ k, F' k → base ≤ k ∧ k < w.heap.size ∧ k ≠ bb ∧ mv.ownBlock ≠ some k) : BSt base w bb F' lv mv Ss :=
  ⟨h.at0, h.base0, h.list.mono (fun x r hr => machFE.mono hr hF), hX⟩
/-- a machine was appended, and the variable stored -/
theorem BSt.newM {base : Nat} {w w1 w2 : World} {bb : Nat} {F : Nat → Prop} {lv mv mv' : Value} {Ss Ss' : List (List Sta)} (h : BSt base w bb F lv mv Ss) (hbw : base ≤ w.heap.size) (hf : Fr (fun k => mv.ownBlock = some k) w w1)
    (hown : OwnL (machFE F w) 106 1 base w1 mv' Ss') (hl : mv'.ownBlock = mv.ownBlock ∨ ∀ k, mv'.ownBlock = some k → w.heap.size ≤ k) (h2 : w2 = w1.setCell ⟨bb, 1, none⟩ mv') : BSt base w2 bb F lv mv' Ss' ∧ Below base w w2 := by
  have hb1 := (hf.block bb (at_lt h.at0) (h.list.notAt h.at0 (by decide))).trans h.at0
  have hf2 : Fr (fun k => k = bb) w1 w2 := by rw [h2]; exact Fr.setCell (F := fun k => k = bb) w1 rfl _
  have hf12 : Fr (fun k => mv.ownBlock = some k ∨ k = bb) w w2 := (hf.mono (fun k _ h => .inl h)).trans hf2 (fun k _ h => .inr h)
  refine ⟨⟨?_, h.base0, OwnL.mono (OwnL.fr hown hf2 (fun k hk (he : k = bb) => hown.notAt hb1 (by decide) (by rw [hk, he]))) (fun x r hr => machFE.fr hr hf12 (fun k hk hg => ?_)), fun k hk => ?_⟩, hf12.below hbw (fun k hk => ?_)⟩
  · have := blk_set hb1 1 mv'
    rw [h2]
    exact this
  · obtain ⟨-, -, h3, h4⟩ := h.foot k hk
    rcases hg with hg | hg
    · exact h4 hg
    · exact h3 hg
  · obtain ⟨h1, h3, h4, h5⟩ := h.foot k hk
    refine ⟨h1, Nat.lt_of_lt_of_le h3 hf12.size, h4, fun hk2 => ?_⟩
    rcases hl with hl | hl
    · exact h5 (hl ▸ hk2)
    · have := hl k hk2; omega
  · rcases hk with hk | hk
    · exact (h.list.lt k hk).1
    · rw [hk]; exact h.base0

theorem BSt.builder {base : Nat} {w0 w : World} {bb : Nat} {F : Nat → Prop} {lv mv : Value} {l : List (Nd × Bool)} (h : BSt base w bb F lv mv (l.map fun e => mach e.1)) (hl : ReadL (exprE w0) 4 w0 lv l) (hb : Below w0.heap.size w0 w) : BuilderR w bb l := by
  refine ⟨lv, mv, h.at0, (hl.below hb (Nat.le_refl _)).monoE (fun x r hr => ?_), (OwnL.read h.list).monoE (fun x r hr => ?_)⟩
  · obtain ⟨a, b, c, rfl, hn⟩ := hr
    exact ⟨a, b, c, rfl, hn.to hb (Nat.le_refl _)⟩
  · obtain ⟨m, rfl, hm⟩ := hr
    exact ⟨m, rfl, hm.is⟩

theorem infoPtr : (Try.prog.info? 106).map (fun i => (i.zero, i.size, i.bytes)) = some (some (.pointer none), 1, 8) := by kernel_rfl
section
variable {ops : Array Oper} {rest : List Oper} {o : Oper} {a : Act} {w : World} {Q : Exit → Act → World → Prop} {base : Nat}
theorem wpList_append_machs {E : List Sta → List Value → Prop} (hgd : o.guard = none) (s x : Operand) (ho : o.op = .call { callee := .builtin .append, args := #[s, x], argTypes := #[103, 103] })
    (v : Value) (xs : List (List Sta)) (n : Nat) (hn : xs.length = n) (hs : a.eval s = v) (hown : OwnL E 106 1 base w v xs) (xv : Value) (y : List Sta) (hx : a.eval x = xv) (hr : ReadL E 1 w xv [y]) (hlen : n + 1 ≤ 1000000) (hbase : base ≤ w.heap.size)
    (h : ∀ p c w', OwnL E 106 1 base w' (.slice p (n + 1) c) (xs ++ [y]) → w.grownBy w' v.ownBlock → ((Value.slice p (n + 1) c).ownBlock = v.ownBlock ∨ (Value.slice p (n + 1) c).ownBlock = some w.heap.size) → wpList Try.prog ops Q rest (a.put o.dst (.slice p (n + 1) c)) w') : wpList Try.prog ops Q (o :: rest) a w := by
  subst hn
  obtain ⟨i0, hi, hz0, hz1, hz2⟩ := info_parts infoPtr
  exact wpList_append_L hgd s x 103 ho i0 _ 8 Try.underlying103 hi hz0 hz1 hz2 rfl (by decide) v xs hs hown xv [y] hx hr (by unfold maxLen; simp; omega) (by simp; omega) hbase h
end

section
variable {σ β : Type}
theorem few_nice {A : Auto σ} {classes K : Nat} (out : σ → β) (ho : Over A classes K) (hk : (cl A classes K).length ≤ K) : (nextsOf A classes (cl A classes K)).length ≤ K := by
  rw [nextsOf, List.length_map]; exact hk
theorem canonOut_length (l0 : List Nat → Option β) (classes K : Nat) : (canonOut l0 classes K).length = (canonL l0 classes K).length := by unfold canonOut; rw [List.length_map]
end
/-- of situations that are not too many: the machine of all -/
theorem all_nice {l : List (Nd × Bool)} (hr : ∀ e ∈ l, RightX e.1) (h64 : l.length ≤ 64) {classes : Nat} (hf : ¬ TooMany (autoE l) classes) (N : List (List Nat)) (O : List Nat) (hN : N = nextsOf (autoE l) classes (cl (autoE l) classes 2000)) (hO : O = (cl (autoE l) classes 2000).map outN) :
    OkN N O classes ∧ 0 < N.length ∧ N.length ≤ 2000 ∧ (∀ o ∈ O, o < 2 ^ 64) ∧ langN N O classes 0 = langA (autoE l) outN classes (autoE l).start := by
  have ho := over_of_few hf
  have hlen : (cl (autoE l) classes 2000).length ≤ 2000 := Nat.le_of_not_lt fun h => hf ⟨2000, h⟩
  generalize 2000 = K at *
  subst hN hO
  obtain ⟨h1, h2⟩ := all_ok outN ho
  refine ⟨h1, h2, few_nice outN ho hlen, fun o hoo => ?_, all_lang outN ho⟩
  obtain ⟨s, hs, rfl⟩ := List.mem_map.1 hoo
  have hok := cl_allP (A := autoE l) (P := SitOk l) (fun s hs c => hs.step hr c) (SitOk.start hr) classes K s hs
  have h3 := bitsL_lt (outE s)
  have h4 : (outE s).length ≤ 64 := by unfold outE; rw [List.length_map, hok.1]; exact h64
  exact Nat.lt_of_lt_of_le h3 (Nat.pow_le_pow_right (by omega) h4)

theorem built_of {l : List (Nd × Bool)} {cn : Nat} (hf : ¬ TooMany (autoE l) cn) {N : List (List Nat)} {O : List Nat} (hN : N = canonNext (langA (autoE l) outN cn (autoE l).start) cn 2000) (hO : O.map some = canonOut (langA (autoE l) outN cn (autoE l).start) cn 2000) :
    (400 < O.length → Built (autoE l) outN cn none) ∧ (¬ 400 < O.length → Built (autoE l) outN cn (some (N, O.map some))) := by
  have hl : O.length = (canonL (langA (autoE l) outN cn (autoE l).start) cn 2000).length := by
    rw [← canonOut_length, ← hO, List.length_map]
  refine ⟨fun h => .inl ⟨rfl, .inr (by rw [← hl]; exact h)⟩, fun h => .inr ⟨hf, by rw [← hl]; omega, by rw [hN, hO]⟩⟩

theorem built_many {l : List (Nd × Bool)} {cn : Nat} (hf : TooMany (autoE l) cn) : Built (autoE l) outN cn none := .inl ⟨rfl, .inl hf⟩

set_option maxRecDepth 100000 in
set_option maxHeartbeats 8000000 in
theorem build_any (w : World) (v : Value) (l : List (Nd × Bool)) (n : Int) (hv : ReadL (exprE w) 4 w v l) (hlen : l.length ≤ 1000000) :
    Calls Try.prog 41 #[.int .i64 n, v] w (BuildPost w n l) := by
  obtain ⟨p, cp, rfl, hcp, hx⟩ := hv.at (by decide) rfl
  have HX := Lib.hid hx
  have HV := Lib.hid hv
  clear hx hv
  by_cases harg : n < 1 ∨ 24 < n ∨ 64 < l.length
  · have HNO := Lib.hid (show ¬ ArgOk n l by rintro ⟨h1, h2, h3, -⟩; omega)
    by_cases h1 : n < 1
    · clear harg
      go_enter Try.func41, Try.ntmps41
      go_wp2_with fail
      go_ret2
      exact ⟨Below.refl _ _, .inl ⟨HNO.out, rfl⟩⟩
    · by_cases h2 : 24 < n
      · clear harg
        go_enter Try.func41, Try.ntmps41
        go_wp2_with fail
        go_ret2
        exact ⟨Below.refl _ _, .inl ⟨HNO.out, rfl⟩⟩
      · have h3 : (64 : Int) < l.length := by omega
        clear harg
        go_enter Try.func41, Try.ntmps41
        go_wp2_with fail
        go_ret2
        exact ⟨Below.refl _ _, .inl ⟨HNO.out, rfl⟩⟩
  · have h1 : ¬ n < 1 := by omega
    have h2 : ¬ 24 < n := by omega
    have h3 : ¬ (64 : Int) < l.length := by omega
    have h4 : l.length ≤ 64 := by omega
    clear harg
    go_enter Try.func41, Try.ntmps41
    go_upto_region 4 with fail
    refine abs_wp fun W hW => ?_
    obtain ⟨bb, hbb⟩ : ∃ bb, bb = w.heap.size := ⟨_, rfl⟩
    have hal := below_alloc1 w (.cells #[.slice p l.length cp, .slice none 0 0] 105)
    have HBS := Lib.hid (show BSt w.heap.size W bb (fun _ => False) (.slice p l.length cp) (.slice none 0 0) ((l.take 0).map fun e => mach e.1) by
      rw [hW, hbb]
      exact ⟨heap_alloc_new _ _, Nat.le_refl _, OwnL.nil _, fun k hk => hk.elim⟩)
    have HBW := Lib.hid (show Below w.heap.size w W by rw [hW]; exact hal)
    rw [← hbb]
    have HBB := Lib.hid hbb
    clear hW hal hbb
    go_wp2_with fail
    go_loopw [29] (fun i w1 => ∃ (k : Nat) (F : Nat → Prop) (mv : Value), i = .int .i64 k ∧ k ≤ l.length ∧ BSt w.heap.size w1 bb F (.slice p l.length cp) mv ((l.take k).map fun e => mach e.1) ∧ Below w.heap.size w w1 ∧ ∀ x ∈ l.take k, RightX x.1 ∧ insideB n x.1 = true) (fun i _ => l.length - (intOf i).toNat)
    case atStart => exact ⟨0, _, _, rfl, by omega, HBS.out, HBW.out, by simp⟩
    case round =>
      obtain ⟨k, F, mv, rfl, hk1, hbs, hb, hok⟩ := hrel
      have HBS1 := Lib.hid hbs
      have HB := Lib.hid hb
      have HOK := Lib.hid hok
      have hbz := hb.size
      clear hbs hok
      by_cases hk : k < l.length
      · obtain ⟨x, hx⟩ : ∃ x, x = l[k] := ⟨_, rfl⟩
        have HXK := Lib.hid (show l[k]? = some x by rw [hx]; exact List.getElem?_eq_getElem hk)
        have HTK := Lib.hid (show l.take (k + 1) = l.take k ++ [x] by rw [List.take_succ_eq_append_getElem hk, hx])
        have HXM := Lib.hid (show x ∈ l by rw [hx]; exact List.getElem_mem hk)
        obtain ⟨bl, ol, row, rfl, hbl, hcell, a, b, c, rfl, hnd⟩ := HX.out k x HXK.out
        have d0 := cell_below hb hbl (hcell 0 _ rfl)
        have d1 := cell_below hb hbl (hcell 1 _ rfl)
        have d2 := cell_below hb hbl (hcell 2 _ rfl)
        have d3 := cell_below hb hbl (hcell 3 _ rfl)
        simp only [Nat.add_zero] at d0
        obtain ⟨op, q0, m0, c0, q1, m1, c1, rfl, rfl, rfl⟩ := hnd.form
        have HND := Lib.hid hnd
        obtain ⟨x2, hx2⟩ : ∃ x2, x2 = x.2 := ⟨_, rfl⟩
        rw [← hx2] at d3
        have hki : (k : Int) < l.length := by omega
        have hk0 : (0 : Int) ≤ k := by omega
        clear hcell hnd hx hx2
        go_upto_region 7 with fail
        refine abs_wp fun W1 hW1 => ?_
        obtain ⟨bx, hbx⟩ : ∃ bx, bx = wr.heap.size := ⟨_, rfl⟩
        have hal := below_alloc1 wr (.cells #[Value.int IntKind.i64 op, Value.slice q0 m0 c0, Value.slice q1 m1 c1, Value.bool x2] 81)
        have HA1 := Lib.hid (show Below wr.heap.size wr W1 by rw [hW1]; exact hal)
        have HBX := Lib.hid (show W1.heap[bx]? = some (.cells #[Value.int IntKind.i64 op, Value.slice q0 m0 c0, Value.slice q1 m1 c1, Value.bool x2] 81) by rw [hW1, hbx]; exact heap_alloc_new _ _)
        have HBS2 := Lib.hid (HBS1.out.below HA1.out)
        have HBW1 := Lib.hid (HB.out.trans (HA1.out.mono hbz))
        rw [← hbx]
        have cells4 : ∀ W2 : World, W2.heap[bx]? = some (.cells #[Value.int IntKind.i64 op, Value.slice q0 m0 c0, Value.slice q1 m1 c1, Value.bool x2] 81) → W2.cell? ⟨bx, 0, none⟩ = some (.int .i64 op) ∧ W2.cell? ⟨bx, 1, none⟩ = some (.slice q0 m0 c0) ∧ W2.cell? ⟨bx, 2, none⟩ = some (.slice q1 m1 c1) := fun W2 h => ⟨by simp [World.cell?, h], by simp [World.cell?, h], by simp [World.cell?, h]⟩
        have HC4 := Lib.hid cells4
        have HNF := Lib.hid (new_foot x.1 W1 _ _ _ (HND.out.to HBW1.out (Nat.le_refl _)))
        obtain ⟨z0, z1, z2⟩ := cells4 W1 HBX.out
        have hbw1 := HBW1.out.size
        clear hW1 hal hbx cells4 d0 d1 d2 d3
        go_wp2_with fail
        refine HNF.out.mono ?_
        rintro e w2 ⟨hb2, hcase⟩
        have HB2 := Lib.hid (HBW1.out.trans (hb2.mono hbw1))
        have HBS3 := Lib.hid (HBS2.out.below hb2)
        have HBX2 := Lib.hid ((hb2.block _ (at_lt HBX.out)).trans HBX.out)
        have HB12 := Lib.hid hb2
        clear hb2 z0 z1 z2
        obtain ⟨z0, z1, z2⟩ := HC4.out w2 HBX2.out
        rcases hcase with ⟨hrb, mm, hmm0, rfl, hmf⟩ | ⟨hrb, rfl⟩
        · have HRB := Lib.hid (rightB_iff.1 hrb)
          have HMF := Lib.hid hmf
          have HIN := Lib.hid (inside_any n x.1 w2 _ _ _ (HND.out.to HB2.out (Nat.le_refl _)))
          clear hrb hmf
          cases hin : insideB n x.1
          · have HNO := Lib.hid (show ¬ ArgOk n l by
              rintro ⟨-, -, -, h⟩
              have := (h x HXM.out).2
              rw [hin] at this
              cases this)
            rw [hin] at HIN
            clear hin
            go_wp2_with fail
            refine HIN.out.mono ?_
            rintro e w3 ⟨rfl, hb3⟩
            have HB3 := Lib.hid (HB2.out.trans (hb3.mono HB2.out.size))
            clear hb3
            go_wp2_with fail
            go_ret2
            exact ⟨HB3.out, .inl ⟨HNO.out, rfl⟩⟩
          · have HINX := Lib.hid hin
            rw [hin] at HIN
            clear hin
            go_wp2_with fail
            refine HIN.out.mono ?_
            rintro e w3 ⟨rfl, hb3⟩
            have HB3 := Lib.hid (HB2.out.trans (hb3.mono HB2.out.size))
            have hX : ∀ j, (F j ∨ (W1.heap.size ≤ j ∧ j < w2.heap.size)) → w.heap.size ≤ j ∧ j < w2.heap.size ∧ j ≠ bb ∧ mv.ownBlock ≠ some j := fun j hj => by
              rcases hj with hj | hj
              · exact HBS3.out.foot j hj
              · have h5 := at_lt HBS2.out.at0
                refine ⟨by omega, hj.2, by omega, fun h => ?_⟩
                have := (HBS2.out.list.lt j h).2
                omega
            have HBS4 := Lib.hid ((HBS3.out.more (F' := fun j => F j ∨ (W1.heap.size ≤ j ∧ j < w2.heap.size)) (fun j hj => .inl hj) hX).below hb3)
            have HMF3 := Lib.hid (show MachF (fun j => F j ∨ (W1.heap.size ≤ j ∧ j < w2.heap.size)) w3 mm (mach x.1) from (HMF.out.fr (Fr.of_belowB hb3) (fun j hj h => by have := hj.2; omega)).mono (fun j hj => .inr hj))
            have hb3z := HB3.out.size
            have hml : ((l.take k).map fun e => mach e.1).length = k := by rw [List.length_map, List.length_take]; omega
            have HML := Lib.hid hml
            obtain ⟨pm, cm, hmv⟩ := HBS4.out.list.form
            rw [hml] at hmv
            have HMV := Lib.hid hmv
            have y1 : w3.cell? ⟨bb, 1, none⟩ = some (.slice pm k cm) := by rw [← hmv]; simp [World.cell?, HBS4.out.at0]
            have hal := below_alloc1 w3 (.cells #[Value.pointer (some ⟨mm, 0, none⟩)] 106)
            have HAL := Lib.hid hal
            have HO4 := Lib.hid (show OwnL (machFE (fun j => F j ∨ (W1.heap.size ≤ j ∧ j < w2.heap.size)) w3) 106 1 w.heap.size (w3.alloc (.cells #[Value.pointer (some ⟨mm, 0, none⟩)] 106)) (.slice pm k cm) ((l.take k).map fun e => mach e.1) by rw [← hmv]; exact OwnL.below HBS4.out.list hal (Nat.le_refl _))
            clear hb3 hX hml hmv hal z0 z1 z2
            go_wp2_with (refine stop_at (.call { callee := .builtin .append, args := #[.tmp 52, .tmp 54], argTypes := #[103, 103] }) rfl ?_)
            refine ⟨?_⟩
            refine wpList_append_machs rfl (.tmp 52) (.tmp 54) rfl (.slice pm k cm) _ k HML.out rfl HO4.out _ (mach x.1) rfl (ReadL.one w3 _ (mach x.1) [Value.pointer (some ⟨mm, 0, none⟩)] ⟨rfl, by simp [Value.oneCell']⟩ ⟨mm, rfl, HMF3.out⟩) (by omega) (Nat.le_trans hb3z HAL.out.size) ?_
            intro p7 c7 w7 hown7 hg7 hlie7
            have hf7 : Fr (fun k' => (Value.slice pm k cm).ownBlock = some k') w3 w7 := (Fr.of_below HAL.out _).trans (Fr.grown (F := fun k' => (Value.slice pm k cm).ownBlock = some k') hg7 (fun k h => h)) (fun _ _ h => h)
            have hob7 := (hf7.block bb (at_lt HBS4.out.at0) (by rw [← HMV.out]; exact HBS4.out.list.notAt HBS4.out.at0 (by decide))).trans HBS4.out.at0
            have y7 : w7.cell? ⟨bb, 1, none⟩ = some mv := by simp [World.cell?, hob7]
            have f7 := fz_at hob7 1
            have HF7 := Lib.hid hf7
            have HOW7 := Lib.hid hown7
            have HLI7 := Lib.hid hlie7
            clear hown7 hg7 hlie7 hf7 hob7 y1
            go_upto_region 11 with fail
            refine abs_wp fun W9 hW9 => ?_
            have h9 := HBS4.out.newM hb3z (w1 := w7) (w2 := W9) (mv' := .slice p7 (k + 1) c7) (Ss' := (l.take (k + 1)).map fun e => mach e.1) (by rw [HMV.out]; exact HF7.out) (by rw [HTK.out, List.map_append]; exact HOW7.out) (by
              rw [HMV.out]
              rcases HLI7.out with h | h
              · exact .inl h
              · refine .inr fun j hj => ?_
                rw [h] at hj
                have := Option.some.inj hj
                have := HAL.out.size
                omega) hW9
            have HBS9 := Lib.hid h9.1
            have HB9 := Lib.hid (HB3.out.trans h9.2)
            have HOK9 := Lib.hid (show ∀ y ∈ l.take (k + 1), RightX y.1 ∧ insideB n y.1 = true from fun y hy => by
              rw [HTK.out] at hy
              rcases List.mem_append.1 hy with hy | hy
              · exact HOK.out y hy
              · rw [List.mem_singleton.1 hy]; exact ⟨HRB.out, HINX.out⟩)
            clear h9 hW9 y7 f7 hb
            go_wp2_with fail
            go_roundw
            case rel => exact ⟨k + 1, _, _, by go_num, by omega, HBS9.out, HB9.out, HOK9.out⟩
            case measure => simp [intOf]; omega
        · have HNO := Lib.hid (show ¬ ArgOk n l by
            rintro ⟨-, -, -, h⟩
            have := rightB_iff.2 (h x HXM.out).1
            rw [hrb] at this
            cases this)
          clear hrb
          go_wp2_with fail
          go_ret2
          exact ⟨HB2.out, .inl ⟨HNO.out, rfl⟩⟩
      · have hki : ¬ (k : Int) < l.length := by omega
        have hke : l.take k = l := List.take_of_length_le (by omega)
        rw [hke] at HBS1 HOK
        obtain ⟨cn, hcn⟩ : ∃ cn : Nat, n = cn := ⟨n.toNat, by omega⟩
        subst hcn
        have HAO := Lib.hid (show ArgOk (cn : Int) l from ⟨h1, h2, h4, HOK.out⟩)
        have HALL := Lib.hid (all_any wr bb l (HBS1.out.builder HV.out HB.out) h4 (fun e he => (HOK.out e he).1) cn (by omega))
        clear hke
        go_wp2_with fail
        refine HALL.out.mono ?_
        rintro e w4 ⟨hb4, hcase⟩
        have HB4 := Lib.hid (HB.out.trans (hb4.mono hbz))
        have hb4z := HB4.out.size
        clear hb4
        rcases hcase with ⟨htm, rfl⟩ | ⟨hfew, ob, hob0, rfl, hmd⟩
        · have HTM := Lib.hid (built_many htm)
          clear htm
          go_wp2_with fail
          go_ret2
          exact ⟨HB4.out, .inr (.inl ⟨HAO.out, by rw [Int.toNat_natCast]; exact HTM.out, rfl⟩)⟩
        · have hN0 : ∃ N0, N0 = nextsOf (autoE l) cn (cl (autoE l) cn 2000) := ⟨_, rfl⟩
          obtain ⟨N0, hN0⟩ := hN0
          have hO0 : ∃ O0, O0 = (cl (autoE l) cn 2000).map fun s => bitsL (outE s) := ⟨_, rfl⟩
          obtain ⟨O0, hO0⟩ := hO0
          rw [← hN0, ← hO0] at hmd
          obtain ⟨hok4, hpos, h2000, h64, hlang⟩ := all_nice (fun e he => (HOK.out e he).1) h4 hfew N0 O0 hN0 hO0
          have HLS := Lib.hid (least_any w4 ob cn _ _ hmd hok4 hpos h2000 (by omega) h64)
          have HLN := Lib.hid hlang
          have HFW := Lib.hid hfew
          clear hok4 hpos h2000 h64 hlang hfew hmd hN0 hO0
          go_wp2_with fail
          refine HLS.out.mono ?_
          rintro e w5 ⟨ob2, O', hob2, rfl, hmd5, hO', hb5⟩
          rw [HLN.out] at hmd5 hO'
          have hN' : ∃ N', N' = canonNext (langA (autoE l) outN cn (autoE l).start) cn 2000 := ⟨_, rfl⟩
          obtain ⟨N', hN'⟩ := hN'
          rw [← hN'] at hmd5
          have HBL := Lib.hid (built_of HFW.out hN' hO')
          have HB5 := Lib.hid (HB4.out.trans (hb5.mono hb4z))
          obtain ⟨sz, hsz⟩ : ∃ sz, sz = O'.length := ⟨_, rfl⟩
          rw [← hsz] at HBL
          obtain ⟨nv, ov, hh, -, hov⟩ := id hmd5
          obtain ⟨po, co, hpo, -, -⟩ := hov.at (by decide) hsz.symm
          subst hpo
          have m2 := (cells3 hh).2.2
          have HMD5 := Lib.hid hmd5
          have hob3 : w.heap.size ≤ ob2 := by omega
          clear hmd5 hO' hb5 hsz hh hov hN'
          by_cases hbig : 400 < sz
          · have hbi : (400 : Int) < sz := by omega
            go_wp2_with fail
            go_ret2
            exact ⟨HB5.out, .inr (.inl ⟨HAO.out, by rw [Int.toNat_natCast]; exact HBL.out.1 hbig, rfl⟩)⟩
          · have hbi : ¬ (400 : Int) < sz := by omega
            go_wp2_with fail
            go_ret2
            exact ⟨HB5.out, .inr (.inr ⟨HAO.out, ob2, N', O', hob3, by rw [Int.toNat_natCast]; exact HBL.out.2 hbig, rfl, by rw [Int.toNat_natCast]; exact HMD5.out⟩)⟩
end Go.Proofs.Ythmaokjhncokdaa

