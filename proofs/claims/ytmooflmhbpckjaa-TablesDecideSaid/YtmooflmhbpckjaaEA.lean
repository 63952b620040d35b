/-
  dfa.number: of a key its number, in the order in which keys are met. No condition beyond what each theorem names.
-/
import Derived.Test.YtmooflmhbpckjaaDG
import Derived.Test.YtmooflmhbpckjaaKR
import Derived.Maps.OwnSet
set_option linter.unusedVariables false
set_option linter.unusedSimpArgs false
namespace Go.Proofs.Ytmooflmhbpckjaa
open Go.RowKit Go.Maps Classical

section
variable {H : Type}
/-- the numbers of keys, in the order in which they are met -/
def numD (ks : List Lit) : DataW H := ks.zipIdx.foldl (fun D p => D.put p.1 (.lit (.int .i64 (p.2 : Nat)))) (.map [])

theorem numD_snoc (ks : List Lit) (k : Lit) : numD (H := H) (ks ++ [k]) = (numD ks).put k (.lit (.int .i64 (ks.length : Nat))) := by
  simp [numD, List.zipIdx_append, List.foldl_append]

theorem num_facts : ∀ (n : Nat) (ks : List Lit), ks.length = n → ks.Nodup → (∀ k ∈ ks, WideAt.IsKeyLit k) →
    Tidy (numD (H := H) ks) ∧ Maps.size (numD (H := H) ks) = ks.length ∧ (∀ k, WideAt.IsKeyLit k → Maps.has (numD (H := H) ks) k = decide (k ∈ ks)) ∧ ∀ k ∈ ks, (numD (H := H) ks).atKey k (.lit (.int .i64 0)) = .lit (.int .i64 (place ks k : Nat))
  | 0, ks, h, _, _ => by
    obtain rfl : ks = [] := List.eq_nil_of_length_eq_zero h
    exact ⟨tidy_empty, rfl, fun k _ => by simp [numD, Maps.has], fun k hk => by simp at hk⟩
  | n + 1, ks, h, hd, hk => by
    obtain ⟨r, x, rfl⟩ : ∃ r x, ks = r ++ [x] := by
      rcases List.eq_nil_or_concat ks with rfl | ⟨r, x, rfl⟩
      · simp at h
      · exact ⟨r, x, by simp⟩
    rw [List.nodup_append] at hd
    have hxr : x ∉ r := fun hx => hd.2.2 x hx x (by simp) rfl
    have hkx := hk x (by simp)
    obtain ⟨h1, h2, h3, h4⟩ := num_facts n r (by simpa using h) hd.1 (fun k hk2 => hk k (by simp [hk2]))
    have hno : Maps.has (numD (H := H) r) x = false := by rw [h3 x hkx]; exact decide_eq_false hxr
    rw [numD_snoc]
    refine ⟨h1.put hkx _, ?_, fun k hkl => ?_, fun k hkm => ?_⟩
    · rw [size_put h1, hno, h2]; simp
    · by_cases e : k = x
      · subst e
        rw [has_put_same h1.isMap hkx]
        simp
      · rw [has_put_other e, h3 k hkl]
        simp [e]
    · by_cases e : k = x
      · subst e
        rw [atKey_put_same h1.isMap hkx]
        have hp := place_put r k
        rw [putS, if_neg hxr, place_new hxr] at hp
        rw [hp]
      · rw [atKey_put_other e]
        have hkr : k ∈ r := by
          rcases List.mem_append.1 hkm with h5 | h5
          · exact h5
          · exact absurd (List.mem_singleton.1 h5) e
        rw [h4 k hkr, place_pre (List.prefix_append r [x]) hkr]
end

theorem lawS : Keyed Try.prog 9 := string_keyed Try.underlying9
theorem lawI : Keyed Try.prog 3 := int_keyed Try.underlying3
theorem lawU : Keyed Try.prog 37 := int_keyed Try.underlying37
theorem zeroI (w : World) : (zeroValue 3).run Try.prog w = .ok (.int .i64 0) w := by kernel_rfl

/-- block b is a map that numbers these keys, in their order -/
def NumMap (K : TypeId) (w : World) (b : Nat) (ks : List Lit) : Prop := ks.Nodup ∧ (∀ k ∈ ks, WideAt.IsKeyLit k) ∧ w.ownsMap Try.prog K (plainElem (H := Unit) Try.prog 3) b ks.length (numD ks)

theorem NumMap.kept {K : TypeId} {w w' : World} {b : Nat} {ks : List Lit} (h : NumMap K w b ks) {row : Option Nat} (hg : w.grownBy w' row) (hne : some b ≠ row) : NumMap K w' b ks := ⟨h.1, h.2.1, h.2.2.kept hg hne⟩
theorem NumMap.fr {K : TypeId} {w w' : World} {b : Nat} {ks : List Lit} {F : Nat → Prop} (h : NumMap K w b ks) (hf : Fr F w w') (hn : ¬ F b) : NumMap K w' b ks := by
  refine ⟨h.1, h.2.1, ?_⟩
  obtain ⟨es, clock, hb, r⟩ := h.2.2
  exact ⟨es, clock, (hf.block b (Array.getElem?_eq_some_iff.1 hb).1 hn).trans hb, r⟩
theorem NumMap.lt {K : TypeId} {w : World} {b : Nat} {ks : List Lit} (h : NumMap K w b ks) : b < w.heap.size := h.2.2.lt
theorem NumMap.new (K : TypeId) (w : World) : NumMap K (w.alloc (.map #[] 0)) w.heap.size [] := ⟨by simp, by simp, World.ownsMap_made w _ _ _⟩
/-- the map's block is no row -/
theorem NumMap.notAt {K T : TypeId} {w : World} {b k : Nat} {ks : List Lit} {cs : Array Value} (h : NumMap K w b ks) (hb : w.heap[k]? = some (.cells cs T)) : k ≠ b := by
  obtain ⟨es, clock, h1, r⟩ := h.2.2
  rintro rfl
  rw [h1] at hb
  cases hb

/-- 'insert' into a map: as a store -/
theorem wpList_insert_own {H : Type} {P : Program} (w : World) {ops : Array Oper} {rest : List Oper} {o : Oper} {a : Act} {Q : Exit → Act → World → Prop}
    (hg : o.guard = none) (m x v : Operand) (t : TypeId) (hop : o.op = Op.insert t m x v)
    (k e : TypeId) (K : Keyed P k) (ht : P.underlying t = some (.map k e)) (R : Value → Option (DataW H × List MemPlace)) (b n : Nat) (D : DataW H)
    (hm : a.eval m = .map (some b)) (hown : w.ownsMap P k R b n D) (hn : n < maxLen) (key val : Value) (kl : Lit) (hx : a.eval x = key) (hv : a.eval v = val) (hkey : keyOf P k key = some kl)
    (d : DataW H) (ps : List MemPlace) (hval : R val = some (d, ps))
    (hK : ∀ w', w'.ownsMap P k R b (n + 1) (D.put kl d) → w.grownBy w' (some b) → wpList P ops Q rest (a.put o.dst undef) w') :
    wpList P ops Q (o :: rest) a w := by
  refine wpList_plain hg fun K' hK' => ?_
  obtain ⟨w', hrun, r1, r2⟩ := hown.update K ht hn hkey hval
  unfold Oper.wp
  simp [execOp, hop, hm, hx, hv, hrun, Result.andThen]
  exact hK' _ _ (hK w' r1 r2)

set_option maxRecDepth 100000 in
set_option maxHeartbeats 4000000 in
theorem number_str (w : World) (b : Nat) (ks : List Lit) (s : ByteArray) (h : NumMap 9 w b ks) (hs : s.size ≤ maxLen) (hn : ks.length ≤ 1000000) :
    Calls Try.prog 58 #[.map (some b), .string s] w fun e w' => e = .returned (.tuple #[.int .i64 (place ks (Lit.string s.data.toList) : Nat), .bool (!decide (Lit.string s.data.toList ∈ ks))]) ∧ NumMap 9 w' b (putS ks (Lit.string s.data.toList)) ∧ w.grownBy w' (some b) := by
  obtain ⟨hnd, hks, hown⟩ := h
  have hkey : keyOf Try.prog 9 (.string s) = some (Lit.string s.data.toList) := WideMaps.keyOf_string_mk Try.underlying9 hs
  obtain ⟨kl, hkl⟩ : ∃ kl, kl = Lit.string s.data.toList := ⟨_, rfl⟩
  rw [← hkl] at hkey ⊢
  have hik : WideAt.IsKeyLit kl := lawS.key hkey
  obtain ⟨f1, f2, f3, f4⟩ := num_facts (H := Unit) _ ks rfl hnd hks
  have h3 := f3 kl hik
  have h4 := f4 kl
  have hz := zeroI
  clear f3 f4
  by_cases hm : kl ∈ ks
  · have hhas : Maps.has (numD (H := Unit) ks) kl = true := by rw [h3]; exact decide_eq_true hm
    have hat0 := h4 hm
    have hd : decide (kl ∈ ks) = true := decide_eq_true hm
    have hp : putS ks kl = ks := by rw [putS, if_pos hm]
    rw [hd, hp]
    have HOWN := Lib.hid hown
    have HAT := Lib.hid hat0
    have HND := Lib.hid hnd
    have HKS := Lib.hid hks
    have HHAS := Lib.hid hhas
    generalize place ks kl = pl at *
    clear h3 h4 f1 f2 hm hd hp hhas hat0 hnd hks
    go_enter Try.func58, Try.ntmps58
    go_wp2_with (first | (at_lookup; refine wpList_lookup_own_ok_int _ rfl _ _ 121 rfl 9 3 .i64 lawS Try.underlying121 Try.underlying3 (zeroI _) b ks.length _ rfl hown _ kl rfl hkey ?_; intro c hat hwc; rw [HHAS.out]; obtain rfl : c = (pl : Nat) := by (rw [HAT.out] at hat; cases hat; rfl)) | fail)
    go_ret2
    exact ⟨rfl, ⟨HND.out, HKS.out, HOWN.out⟩, ⟨rfl, rfl, rfl, Nat.le_refl _, fun _ _ _ => rfl⟩⟩
  · have hhas : Maps.has (numD (H := Unit) ks) kl = false := by rw [h3]; exact decide_eq_false hm
    have hd : decide (kl ∈ ks) = false := decide_eq_false hm
    have hp : putS ks kl = ks ++ [kl] := by rw [putS, if_neg hm]
    have hpl : place ks kl = ks.length := place_new hm
    have hnd2 : (ks ++ [kl]).Nodup := by rw [← hp]; exact putS_nodup hnd
    have hks2 : ∀ k ∈ ks ++ [kl], WideAt.IsKeyLit k := fun k hk => by
      rcases List.mem_append.1 hk with hk | hk
      · exact hks k hk
      · rw [List.mem_singleton.1 hk]; exact hik
    rw [hd, hp, hpl]
    have HND := Lib.hid hnd2
    have HKS := Lib.hid hks2
    have HHAS := Lib.hid hhas
    have HSZ := Lib.hid f2
    have hwf : (Lit.int .i64 (ks.length : Nat)).wf = true := WalkArith.wf_i64 (by omega)
    have HWF := Lib.hid hwf
    clear h3 h4 f1 f2 hm hd hp hpl hhas hnd hks hnd2 hks2 hwf
    go_enter Try.func58, Try.ntmps58
    go_wp2_with (first
      | (at_lookup; refine wpList_lookup_own_ok_int _ rfl _ _ 121 rfl 9 3 .i64 lawS Try.underlying121 Try.underlying3 (zeroI _) b ks.length _ rfl hown _ kl rfl hkey ?_; intro c hat hwc; rw [HHAS.out])
      | (at_len; refine wpList_len_own _ rfl _ 121 rfl 9 3 Try.underlying121 _ b ks.length _ rfl hown ?_; rw [HSZ.out])
      | (at_mapUpdate; refine wpList_mapUpdate_own _ rfl _ _ _ 121 rfl 9 3 lawS Try.underlying121 _ b ks.length _ rfl hown (by unfold maxLen; omega) _ _ kl rfl rfl hkey _ [] (plainElem_int Try.underlying3 HWF.out) ?_; intro w1 hown1 hgrow1)
      | fail)
    go_ret2
    refine ⟨rfl, ⟨HND.out, HKS.out, ?_⟩, hgrow1⟩
    rw [numD_snoc, List.length_append]
    exact hown1

set_option maxRecDepth 100000 in
set_option maxHeartbeats 4000000 in
theorem number_int (w : World) (b : Nat) (ks : List Lit) (s : Int) (h : NumMap 3 w b ks) (hs : (Lit.int .i64 s).wf = true) (hn : ks.length ≤ 1000000) :
    Calls Try.prog 61 #[.map (some b), .int .i64 s] w fun e w' => e = .returned (.tuple #[.int .i64 (place ks (Lit.int .i64 s) : Nat), .bool (!decide (Lit.int .i64 s ∈ ks))]) ∧ NumMap 3 w' b (putS ks (Lit.int .i64 s)) ∧ w.grownBy w' (some b) := by
  obtain ⟨hnd, hks, hown⟩ := h
  have hkey : keyOf Try.prog 3 (.int .i64 s) = some (Lit.int .i64 s) := keyOf_int_mk Try.underlying3 hs
  obtain ⟨kl, hkl⟩ : ∃ kl, kl = Lit.int .i64 s := ⟨_, rfl⟩
  rw [← hkl] at hkey ⊢
  have hik : WideAt.IsKeyLit kl := lawI.key hkey
  obtain ⟨f1, f2, f3, f4⟩ := num_facts (H := Unit) _ ks rfl hnd hks
  have h3 := f3 kl hik
  have h4 := f4 kl
  have hz := zeroI
  clear f3 f4
  by_cases hm : kl ∈ ks
  · have hhas : Maps.has (numD (H := Unit) ks) kl = true := by rw [h3]; exact decide_eq_true hm
    have hat0 := h4 hm
    have hd : decide (kl ∈ ks) = true := decide_eq_true hm
    have hp : putS ks kl = ks := by rw [putS, if_pos hm]
    rw [hd, hp]
    have HOWN := Lib.hid hown
    have HAT := Lib.hid hat0
    have HND := Lib.hid hnd
    have HKS := Lib.hid hks
    have HHAS := Lib.hid hhas
    generalize place ks kl = pl at *
    clear h3 h4 f1 f2 hm hd hp hhas hat0 hnd hks
    go_enter Try.func61, Try.ntmps61
    go_wp2_with (first | (at_lookup; refine wpList_lookup_own_ok_int _ rfl _ _ 127 rfl 3 3 .i64 lawI Try.underlying127 Try.underlying3 (zeroI _) b ks.length _ rfl hown _ kl rfl hkey ?_; intro c hat hwc; rw [HHAS.out]; obtain rfl : c = (pl : Nat) := by (rw [HAT.out] at hat; cases hat; rfl)) | fail)
    go_ret2
    exact ⟨rfl, ⟨HND.out, HKS.out, HOWN.out⟩, ⟨rfl, rfl, rfl, Nat.le_refl _, fun _ _ _ => rfl⟩⟩
  · have hhas : Maps.has (numD (H := Unit) ks) kl = false := by rw [h3]; exact decide_eq_false hm
    have hd : decide (kl ∈ ks) = false := decide_eq_false hm
    have hp : putS ks kl = ks ++ [kl] := by rw [putS, if_neg hm]
    have hpl : place ks kl = ks.length := place_new hm
    have hnd2 : (ks ++ [kl]).Nodup := by rw [← hp]; exact putS_nodup hnd
    have hks2 : ∀ k ∈ ks ++ [kl], WideAt.IsKeyLit k := fun k hk => by
      rcases List.mem_append.1 hk with hk | hk
      · exact hks k hk
      · rw [List.mem_singleton.1 hk]; exact hik
    rw [hd, hp, hpl]
    have HND := Lib.hid hnd2
    have HKS := Lib.hid hks2
    have HHAS := Lib.hid hhas
    have HSZ := Lib.hid f2
    have hwf : (Lit.int .i64 (ks.length : Nat)).wf = true := WalkArith.wf_i64 (by omega)
    have HWF := Lib.hid hwf
    clear h3 h4 f1 f2 hm hd hp hpl hhas hnd hks hnd2 hks2 hwf
    go_enter Try.func61, Try.ntmps61
    go_wp2_with (first
      | (at_lookup; refine wpList_lookup_own_ok_int _ rfl _ _ 127 rfl 3 3 .i64 lawI Try.underlying127 Try.underlying3 (zeroI _) b ks.length _ rfl hown _ kl rfl hkey ?_; intro c hat hwc; rw [HHAS.out])
      | (at_len; refine wpList_len_own _ rfl _ 127 rfl 3 3 Try.underlying127 _ b ks.length _ rfl hown ?_; rw [HSZ.out])
      | (at_mapUpdate; refine wpList_mapUpdate_own _ rfl _ _ _ 127 rfl 3 3 lawI Try.underlying127 _ b ks.length _ rfl hown (by unfold maxLen; omega) _ _ kl rfl rfl hkey _ [] (plainElem_int Try.underlying3 HWF.out) ?_; intro w1 hown1 hgrow1)
      | fail)
    go_ret2
    refine ⟨rfl, ⟨HND.out, HKS.out, ?_⟩, hgrow1⟩
    rw [numD_snoc, List.length_append]
    exact hown1

set_option maxRecDepth 100000 in
set_option maxHeartbeats 4000000 in
theorem number_u64 (w : World) (b : Nat) (ks : List Lit) (s : Int) (h : NumMap 37 w b ks) (hs : (Lit.int .u64 s).wf = true) (hn : ks.length ≤ 1000000) :
    Calls Try.prog 81 #[.map (some b), .int .u64 s] w fun e w' => e = .returned (.tuple #[.int .i64 (place ks (Lit.int .u64 s) : Nat), .bool (!decide (Lit.int .u64 s ∈ ks))]) ∧ NumMap 37 w' b (putS ks (Lit.int .u64 s)) ∧ w.grownBy w' (some b) := by
  obtain ⟨hnd, hks, hown⟩ := h
  have hkey : keyOf Try.prog 37 (.int .u64 s) = some (Lit.int .u64 s) := keyOf_int_mk Try.underlying37 hs
  obtain ⟨kl, hkl⟩ : ∃ kl, kl = Lit.int .u64 s := ⟨_, rfl⟩
  rw [← hkl] at hkey ⊢
  have hik : WideAt.IsKeyLit kl := lawU.key hkey
  obtain ⟨f1, f2, f3, f4⟩ := num_facts (H := Unit) _ ks rfl hnd hks
  have h3 := f3 kl hik
  have h4 := f4 kl
  have hz := zeroI
  clear f3 f4
  by_cases hm : kl ∈ ks
  · have hhas : Maps.has (numD (H := Unit) ks) kl = true := by rw [h3]; exact decide_eq_true hm
    have hat0 := h4 hm
    have hd : decide (kl ∈ ks) = true := decide_eq_true hm
    have hp : putS ks kl = ks := by rw [putS, if_pos hm]
    rw [hd, hp]
    have HOWN := Lib.hid hown
    have HAT := Lib.hid hat0
    have HND := Lib.hid hnd
    have HKS := Lib.hid hks
    have HHAS := Lib.hid hhas
    generalize place ks kl = pl at *
    clear h3 h4 f1 f2 hm hd hp hhas hat0 hnd hks
    go_enter Try.func81, Try.ntmps81
    go_wp2_with (first | (at_lookup; refine wpList_lookup_own_ok_int _ rfl _ _ 154 rfl 37 3 .i64 lawU Try.underlying154 Try.underlying3 (zeroI _) b ks.length _ rfl hown _ kl rfl hkey ?_; intro c hat hwc; rw [HHAS.out]; obtain rfl : c = (pl : Nat) := by (rw [HAT.out] at hat; cases hat; rfl)) | fail)
    go_ret2
    exact ⟨rfl, ⟨HND.out, HKS.out, HOWN.out⟩, ⟨rfl, rfl, rfl, Nat.le_refl _, fun _ _ _ => rfl⟩⟩
  · have hhas : Maps.has (numD (H := Unit) ks) kl = false := by rw [h3]; exact decide_eq_false hm
    have hd : decide (kl ∈ ks) = false := decide_eq_false hm
    have hp : putS ks kl = ks ++ [kl] := by rw [putS, if_neg hm]
    have hpl : place ks kl = ks.length := place_new hm
    have hnd2 : (ks ++ [kl]).Nodup := by rw [← hp]; exact putS_nodup hnd
    have hks2 : ∀ k ∈ ks ++ [kl], WideAt.IsKeyLit k := fun k hk => by
      rcases List.mem_append.1 hk with hk | hk
      · exact hks k hk
      · rw [List.mem_singleton.1 hk]; exact hik
    rw [hd, hp, hpl]
    have HND := Lib.hid hnd2
    have HKS := Lib.hid hks2
    have HHAS := Lib.hid hhas
    have HSZ := Lib.hid f2
    have hwf : (Lit.int .i64 (ks.length : Nat)).wf = true := WalkArith.wf_i64 (by omega)
    have HWF := Lib.hid hwf
    clear h3 h4 f1 f2 hm hd hp hpl hhas hnd hks hnd2 hks2 hwf
    go_enter Try.func81, Try.ntmps81
    go_wp2_with (first
      | (at_lookup; refine wpList_lookup_own_ok_int _ rfl _ _ 154 rfl 37 3 .i64 lawU Try.underlying154 Try.underlying3 (zeroI _) b ks.length _ rfl hown _ kl rfl hkey ?_; intro c hat hwc; rw [HHAS.out])
      | (at_len; refine wpList_len_own _ rfl _ 154 rfl 37 3 Try.underlying154 _ b ks.length _ rfl hown ?_; rw [HSZ.out])
      | (at_mapUpdate; refine wpList_mapUpdate_own _ rfl _ _ _ 154 rfl 37 3 lawU Try.underlying154 _ b ks.length _ rfl hown (by unfold maxLen; omega) _ _ kl rfl rfl hkey _ [] (plainElem_int Try.underlying3 HWF.out) ?_; intro w1 hown1 hgrow1)
      | fail)
    go_ret2
    refine ⟨rfl, ⟨HND.out, HKS.out, ?_⟩, hgrow1⟩
    rw [numD_snoc, List.length_append]
    exact hown1
end Go.Proofs.Ytmooflmhbpckjaa
