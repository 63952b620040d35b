/-
  dfa.name: lists of numbers as a text; unlike lists have unlike texts. No condition beyond what each theorem names.
-/
import Derived.Test.YtmooflmhbpckjaaKR
import Derived.Test.YtmooflmhbpckjaaKH
import Derived.Laws.BytesString
set_option linter.unusedVariables false
set_option linter.unusedSimpArgs false
namespace Go.Proofs.Ytmooflmhbpckjaa
open Go.RowKit

/-- a list of numbers as one cell; its block lies in F -/
def rowE (F : Nat → Prop) (w : World) (xs : List Int) (row : List Value) : Prop := ∃ v, row = [v] ∧ v.oneCell' = true ∧ Ints w v xs ∧ Lies F v xs.length
/-- a list of lists of numbers; all its blocks lie in F -/
def LLF (F : Nat → Prop) (w : World) (v : Value) (xss : List (List Int)) : Prop := ReadL (rowE F w) 1 w v xss ∧ Lies F v xss.length

theorem rowE.fr {F G : Nat → Prop} {w w' : World} {xs : List Int} {row : List Value} (h : rowE F w xs row) (hf : Fr G w w') (hg : ∀ k, F k → ¬ G k) : rowE F w' xs row := by
  obtain ⟨v, rfl, h0, h1, h2⟩ := h
  exact ⟨v, rfl, h0, Raw.fr hf h1 (fun h3 k hk => hg k (h2 (by simpa using h3) k hk)), h2⟩
theorem rowE.mono {F G : Nat → Prop} {w : World} {xs : List Int} {row : List Value} (h : rowE F w xs row) (hg : ∀ k, F k → G k) : rowE G w xs row := by
  obtain ⟨v, rfl, h0, h1, h2⟩ := h
  exact ⟨v, rfl, h0, h1, h2.mono hg⟩
theorem rowE.below {F : Nat → Prop} {B : Nat} {w w' : World} {xs : List Int} {row : List Value} (h : rowE F w xs row) (hb : Below B w w') (hB : w.heap.size ≤ B) : rowE F w' xs row := by
  obtain ⟨v, rfl, h0, h1, h2⟩ := h
  exact ⟨v, rfl, h0, h1.to hb hB, h2⟩
theorem ReadL.monoE {α : Type} {E F : α → List Value → Prop} {sz : Nat} {w : World} {v : Value} {xs : List α} (h : ReadL E sz w v xs) (hf : ∀ x r, E x r → F x r) : ReadL F sz w v xs := by
  obtain ⟨rows, h1, h2, h3, h4⟩ := h
  exact ⟨rows, h1, h2, h3, fun i hi => by obtain ⟨row, g1, g2⟩ := h4 i hi; exact ⟨row, g1, hf _ _ g2⟩⟩
theorem ReadL.frL {α : Type} {E : α → List Value → Prop} {F G : Nat → Prop} {sz : Nat} {w w' : World} {v : Value} {xs : List α} (h : ReadL E sz w v xs) (hl : Lies F v xs.length) (hf : Fr G w w') (hg : ∀ k, F k → ¬ G k) : ReadL E sz w' v xs := by
  obtain ⟨rows, h1, h2, h3, h4⟩ := h
  refine ⟨rows, Raw.fr hf h1 (fun h0 k hk => hg k (hl ?_ k hk)), h2, h3, h4⟩
  rcases Nat.eq_zero_or_pos xs.length with e | e
  · rw [e] at h2
    rw [List.eq_nil_of_length_eq_zero h2] at h0
    simp at h0
  · exact e
/-- one element of a list, by its place -/
theorem ReadL.at {α : Type} {E : α → List Value → Prop} {sz : Nat} {w : World} {v : Value} {xs : List α} (h : ReadL E sz w v xs) (hs : 0 < sz) {n : Nat} (hn : xs.length = n) : ∃ p cap, v = .slice p n cap ∧ n ≤ cap ∧ ∀ i x, xs[i]? = some x → ∃ b off row, p = some ⟨b, off, none⟩ ∧ b < w.heap.size ∧ cellsAt w b (off + i * sz) row ∧ E x row := by
  subst hn
  obtain ⟨p, cap, rfl, h1, h2⟩ := h.get hs
  refine ⟨p, cap, rfl, h1, fun i x hx => ?_⟩
  obtain ⟨hi, e⟩ := List.getElem?_eq_some_iff.1 hx
  obtain ⟨b, off, rfl, h3, h4⟩ := h2 (by omega)
  obtain ⟨row, h5, h6⟩ := h4 i hi
  rw [e] at h6
  exact ⟨b, off, row, rfl, h3, h5, h6⟩
theorem LLF.fr {F G : Nat → Prop} {w w' : World} {v : Value} {xss : List (List Int)} (h : LLF F w v xss) (hf : Fr G w w') (hg : ∀ k, F k → ¬ G k) : LLF F w' v xss :=
  ⟨(h.1.frL h.2 hf hg).monoE (fun x r hr => hr.fr hf hg), h.2⟩
theorem LLF.mono {F G : Nat → Prop} {w : World} {v : Value} {xss : List (List Int)} (h : LLF F w v xss) (hg : ∀ k, F k → G k) : LLF G w v xss :=
  ⟨h.1.monoE (fun x r hr => hr.mono hg), h.2.mono hg⟩
theorem LLF.below {F : Nat → Prop} {B : Nat} {w w' : World} {v : Value} {xss : List (List Int)} (h : LLF F w v xss) (hb : Below B w w') (hB : w.heap.size ≤ B) : LLF F w' v xss :=
  ⟨(h.1.below hb hB).monoE (fun x r hr => hr.below hb hB), h.2⟩

/-! ### the text -/
/-- of a row its bytes -/
def nameR (xs : List Int) : List Int := (xs.flatMap fun n => [n / 256, n % 256]) ++ [255, 255]
def nameL (xss : List (List Int)) : List Int := xss.flatMap nameR
def strOf (ns : List Int) : ByteArray := ns.foldl (fun r n => r.push (UInt8.ofNat n.toNat)) ByteArray.empty

theorem flat2_length (f g : Int → Int) : ∀ (xs : List Int), (xs.flatMap fun n => [f n, g n]).length = 2 * xs.length
  | [] => rfl
  | x :: r => by
    rw [List.flatMap_cons, List.length_append, flat2_length f g r]
    simp only [List.length_cons, List.length_nil]
    omega
theorem nameR_length (xs : List Int) : (nameR xs).length = 2 * xs.length + 2 := by
  unfold nameR
  rw [List.length_append]
  have := flat2_length (fun n => n / 256) (fun n => n % 256) xs
  simp only [List.length_cons, List.length_nil]
  omega
theorem nameL_length {xss : List (List Int)} (h : ∀ xs ∈ xss, xs.length ≤ 1000) : (nameL xss).length ≤ 2002 * xss.length := by
  induction xss with
  | nil => simp [nameL]
  | cons x r ih =>
    have h1 := ih (fun xs hx => h xs (by simp [hx]))
    have h2 := h x (by simp)
    have e : nameL (x :: r) = nameR x ++ nameL r := by simp [nameL]
    rw [e, List.length_append, nameR_length, List.length_cons]
    omega

theorem strOf_from : ∀ (ns : List Int) (s : ByteArray), (ns.foldl (fun r n => r.push (UInt8.ofNat n.toNat)) s).data.toList = s.data.toList ++ ns.map (fun n => UInt8.ofNat n.toNat)
  | [], s => by simp
  | n :: ns, s => by
    rw [List.foldl_cons, strOf_from ns]
    simp [ByteArray.push]
theorem strOf_data (ns : List Int) : (strOf ns).data.toList = ns.map (fun n => UInt8.ofNat n.toNat) := by
  unfold strOf
  rw [strOf_from]
  show [] ++ _ = _
  rw [List.nil_append]
theorem strOf_size (ns : List Int) : (strOf ns).size = ns.length := by
  have h := congrArg List.length (strOf_data ns)
  rw [List.length_map] at h
  rw [← h, Array.length_toList]
  rfl

def Small16 (xs : List Int) : Prop := ∀ n ∈ xs, 0 ≤ n ∧ n < 65280

theorem u8_eq {a b : Int} (ha : 0 ≤ a ∧ a < 256) (hb : 0 ≤ b ∧ b < 256) (h : UInt8.ofNat a.toNat = UInt8.ofNat b.toNat) : a = b := by
  have h1 := congrArg UInt8.toNat h
  simp at h1
  omega

theorem nameR_inj : ∀ {xs ys : List Int} {u v : List Int}, Small16 xs → Small16 ys → (nameR xs ++ u).map (fun n => UInt8.ofNat n.toNat) = (nameR ys ++ v).map (fun n => UInt8.ofNat n.toNat) → xs = ys ∧ u.map (fun n => UInt8.ofNat n.toNat) = v.map (fun n => UInt8.ofNat n.toNat)
  | [], [], u, v, _, _, h => by
    simp [nameR] at h
    exact ⟨rfl, h⟩
  | [], y :: ys, u, v, _, hy, h => by
    have hy1 := hy y (by simp)
    simp [nameR] at h
    have := u8_eq (a := 255) (b := y / 256) (by omega) (by omega) h.1
    omega
  | x :: xs, [], u, v, hx, _, h => by
    have hx1 := hx x (by simp)
    simp [nameR] at h
    have := u8_eq (a := x / 256) (b := 255) (by omega) (by omega) h.1
    omega
  | x :: xs, y :: ys, u, v, hx, hy, h => by
    have hx1 := hx x (by simp)
    have hy1 := hy y (by simp)
    have ex : nameR (x :: xs) ++ u = x / 256 :: x % 256 :: (nameR xs ++ u) := by simp [nameR]
    have ey : nameR (y :: ys) ++ v = y / 256 :: y % 256 :: (nameR ys ++ v) := by simp [nameR]
    rw [ex, ey, List.map_cons, List.map_cons, List.map_cons, List.map_cons, List.cons.injEq, List.cons.injEq] at h
    obtain ⟨h1, h2, h3⟩ := h
    have e1 := u8_eq (a := x / 256) (b := y / 256) (by omega) (by omega) h1
    have e2 := u8_eq (a := x % 256) (b := y % 256) (by omega) (by omega) h2
    obtain ⟨h4, h5⟩ := nameR_inj (xs := xs) (ys := ys) (fun n hn => hx n (by simp [hn])) (fun n hn => hy n (by simp [hn])) h3
    have : x = y := by omega
    exact ⟨by rw [this, h4], h5⟩

theorem nameL_inj : ∀ {xss yss : List (List Int)}, (∀ xs ∈ xss, Small16 xs) → (∀ xs ∈ yss, Small16 xs) → (nameL xss).map (fun n => UInt8.ofNat n.toNat) = (nameL yss).map (fun n => UInt8.ofNat n.toNat) → xss = yss
  | [], [], _, _, _ => rfl
  | [], y :: ys, _, _, h => by simp [nameL, nameR] at h
  | x :: xs, [], _, _, h => by simp [nameL, nameR] at h
  | x :: xs, y :: ys, hx, hy, h => by
    have ex : nameL (x :: xs) = nameR x ++ nameL xs := by simp [nameL]
    have ey : nameL (y :: ys) = nameR y ++ nameL ys := by simp [nameL]
    rw [ex, ey] at h
    obtain ⟨h1, h2⟩ := nameR_inj (hx x (by simp)) (hy y (by simp)) h
    rw [h1, nameL_inj (fun z hz => hx z (by simp [hz])) (fun z hz => hy z (by simp [hz])) h2]

/-- the key that a text is -/
def nameK (xss : List (List Int)) : Lit := .string (strOf (nameL xss)).data.toList
theorem nameK_inj {xss yss : List (List Int)} (hx : ∀ xs ∈ xss, Small16 xs) (hy : ∀ xs ∈ yss, Small16 xs) (h : nameK xss = nameK yss) : xss = yss := by
  unfold nameK at h
  injection h with h
  rw [strOf_data, strOf_data] at h
  exact nameL_inj hx hy h

/-! ### the walk -/
def byteE (x : Int) (row : List Value) : Prop := row = [.int .u8 x]
theorem infoByte : (Try.prog.info? 5).map (fun i => (i.zero, i.size, i.bytes)) = some (some (.int .u8 0), 1, 1) := by kernel_rfl

theorem flatten_bytes {xs : List Int} {rows : List (List Value)} (hl : rows.length = xs.length) (h : ∀ i (h : i < xs.length), ∃ row, rows[i]? = some row ∧ byteE xs[i] row) : rows.flatten = xs.map (Value.int .u8) := by
  have : rows = xs.map fun x => [.int .u8 x] := by
    apply List.ext_getElem
    · simp [hl]
    · intro i h1 h2
      obtain ⟨row, g1, g2⟩ := h i (by omega)
      rw [List.getElem?_eq_getElem h1] at g1
      cases g1
      rw [g2]; simp
  rw [this]
  clear this h hl
  induction xs with
  | nil => rfl
  | cons x r ih => simp [ih]

section
variable {ops : Array Oper} {rest : List Oper} {o : Oper} {a : Act} {w : World} {Q : Exit → Act → World → Prop} {base : Nat}
theorem wpList_append_bytes (hgd : o.guard = none) (s x : Operand) (ho : o.op = .call { callee := .builtin .append, args := #[s, x], argTypes := #[150, 150] })
    (v : Value) (xs : List Int) (hs : a.eval s = v) (hown : OwnL byteE 5 1 base w v xs) (xv : Value) (ns : List Int) (hx : a.eval x = xv) (hr : ReadL byteE 1 w xv ns) (hlen : xs.length + ns.length ≤ 1000000) (hbase : base ≤ w.heap.size)
    (h : ∀ p c w', OwnL byteE 5 1 base w' (.slice p (xs.length + ns.length) c) (xs ++ ns) → w.grownBy w' v.ownBlock → ((Value.slice p (xs.length + ns.length) c).ownBlock = v.ownBlock ∨ (Value.slice p (xs.length + ns.length) c).ownBlock = some w.heap.size) → wpList Try.prog ops Q rest (a.put o.dst (.slice p (xs.length + ns.length) c)) w') : wpList Try.prog ops Q (o :: rest) a w := by
  obtain ⟨i0, hi, hz0, hz1, hz2⟩ := info_parts infoByte
  exact wpList_append_L hgd s x 150 ho i0 _ 1 Try.underlying150 hi hz0 hz1 hz2 rfl (by decide) v xs hs hown xv ns hx hr (by unfold maxLen; omega) (by omega) hbase h
end

/-- two bytes, in a new block -/
theorem ReadL.two8 (w : World) (T : TypeId) (x y : Int) : ReadL byteE 1 (w.alloc (.cells #[.int .u8 x, .int .u8 y] T)) (.slice (some ⟨w.heap.size, 0, none⟩) 2 2) [x, y] :=
  ReadL.block (cs := [.int .u8 x, .int .u8 y]) (heap_alloc_new w _) [x, y] [[.int .u8 x], [.int .u8 y]] (by simp) rfl rfl (fun r hr => by
    simp at hr
    rcases hr with rfl | rfl <;> simp [Value.oneCell']) (fun i hi => by
    have : i = 0 ∨ i = 1 := by simp at hi; omega
    rcases this with rfl | rfl
    · exact ⟨_, rfl, rfl⟩
    · exact ⟨_, rfl, rfl⟩)

set_option maxRecDepth 100000 in
theorem run_bytes (w : World) (base : Nat) (p : Option Addr) (c : Nat) (ns : List Int) (h : OwnL byteE 5 1 base w (.slice p ns.length c) ns) :
    (convert 150 9 (.slice p ns.length c)).run Try.prog w = .ok (.string (strOf ns)) w := by
  rw [run_convert_bytes_string w 150 9 5 _ _ _ Try.underlying150 Try.underlying5 Try.underlying9]
  cases p with
  | none =>
    obtain ⟨rows, ⟨-, h1⟩, -⟩ := h
    rcases h1 with ⟨h2, h3⟩ | ⟨g, cap, cur, h2, -⟩
    · have hn : ns = [] := List.eq_nil_of_length_eq_zero h3
      subst hn
      rfl
    · cases h2
  | some ad =>
    obtain ⟨rows, h1, h2, h3, h4⟩ := h.read
    rw [flatten_bytes h2 h4] at h1
    obtain ⟨p', cap, e, -, hc⟩ := h1
    injection e with e1 e2 e3
    subst e1 e3
    refine run_bytesToString w _ _ _ ns ?_
    have := run_loadCells_list (P := Try.prog) w ad (ns.map (Value.int .u8)) (fun j u hu => by
      obtain ⟨b, off, e, hcc⟩ := hc (by rw [List.length_map]; have := (List.getElem?_eq_some_iff.1 hu).1; simp at this; omega)
      cases e
      rw [show (⟨b, off, none⟩ : Addr).add j = ⟨b, off + j, none⟩ by unfold Addr.add; split <;> simp_all]
      exact hcc j u hu)
    rw [List.length_map] at this
    exact this

theorem nameL_snoc (l : List (List Int)) (x : List Int) : nameL (l ++ [x]) = nameL l ++ nameR x := by simp [nameL]
/-- the bytes of a row's beginning -/
def halfR (xs : List Int) : List Int := xs.flatMap fun n => [n / 256, n % 256]
theorem halfR_snoc (xs : List Int) (n : Int) : halfR (xs ++ [n]) = halfR xs ++ [n / 256, n % 256] := by simp [halfR]
theorem halfR_length (xs : List Int) : (halfR xs).length = 2 * xs.length := by
  have := nameR_length xs
  unfold nameR at this
  rw [List.length_append] at this
  unfold halfR
  simp at this ⊢
  omega

set_option maxRecDepth 100000 in
set_option maxHeartbeats 4000000 in
theorem name_any (F : Nat → Prop) (w : World) (v : Value) (xss : List (List Int)) (h : LLF F w v xss) (hl : xss.length ≤ 64) (hx : ∀ xs ∈ xss, xs.length ≤ 1000 ∧ Small16 xs) :
    Calls Try.prog 56 #[v] w fun e w' => e = .returned (.string (strOf (nameL xss))) ∧ Below w.heap.size w w' := by
  obtain ⟨p, cp, rfl, hc, hg⟩ := h.1.get (by decide)
  have HG := Lib.hid hg
  have HX := Lib.hid hx
  have HNL := Lib.hid (nameL_length (xss := xss) (fun xs hxs => (hx xs hxs).1))
  clear hg hx h
  go_enter Try.func56, Try.ntmps56
  go_wp2_with fail
  go_loopw [3, 10] (fun u i wr => ∃ k : Nat, i = .int .i64 k ∧ k ≤ xss.length ∧ OwnL byteE 5 1 w.heap.size wr u (nameL (xss.take k)) ∧ Below w.heap.size w wr) (fun _ i _ => xss.length - (intOf i).toNat)
  case atStart => exact ⟨0, rfl, by omega, OwnL.nil _, Below.refl _ _⟩
  case round =>
    obtain ⟨k, rfl, h1, hown, hb⟩ := hrel
    obtain ⟨pu, cu, hu⟩ := hown.form
    subst hu
    have HOW := Lib.hid hown
    have HB := Lib.hid hb
    have hbs := hb.size
    clear hown
    by_cases hk : k < xss.length
    · obtain ⟨bb, off, rfl, hbl, hxx⟩ := HG.out (by omega)
      obtain ⟨row, hcell, hrow⟩ := hxx k hk
      obtain ⟨rv, rfl, -, hrv, -⟩ := hrow
      have c0 := cell_below hb hbl (hcell 0 rv rfl)
      simp only [Nat.mul_one, Nat.add_zero] at c0
      obtain ⟨xs, hxs⟩ : ∃ xs, xs = xss[k] := ⟨_, rfl⟩
      rw [← hxs] at hrv
      have hsm := HX.out xs (by rw [hxs]; exact List.getElem_mem hk)
      have HTK := Lib.hid (show nameL (xss.take (k + 1)) = nameL (xss.take k) ++ nameR xs by rw [List.take_succ_eq_append_getElem hk, nameL_snoc, hxs])
      have hnl := nameL_length (xss := xss.take k) (fun xs hxs => (HX.out xs (List.mem_of_mem_take hxs)).1)
      rw [List.length_take] at hnl
      have HNK := Lib.hid (show (nameL (xss.take k)).length ≤ 130000 by omega)
      obtain ⟨q, cq, rfl, hqc, hq⟩ := hrv.get
      have HQ := Lib.hid hq
      have HSM := Lib.hid hsm
      have hxl := hsm.1
      have hkk : (k : Int) < xss.length := by omega
      have hk0 : (0 : Int) ≤ k := by omega
      clear hxx hcell hrv hq hsm hxs hnl
      go_wp2_with fail
      go_loopw [3, 16] (fun u i w1 => ∃ j : Nat, i = .int .i64 j ∧ j ≤ xs.length ∧ (∃ ys, ys = nameL (xss.take k) ++ halfR (xs.take j) ∧ OwnL byteE 5 1 w.heap.size w1 u ys) ∧ Below w.heap.size w w1) (fun _ i _ => xs.length - (intOf i).toNat)
      case atStart => exact ⟨0, rfl, by omega, ⟨_, by simp [halfR], HOW.out⟩, HB.out⟩
      case round =>
        clear hb hbs
        obtain ⟨j, rfl, h2, ⟨ys, hys, hown⟩, hb⟩ := hrel
        have HYS := Lib.hid hys
        clear hys
        obtain ⟨pu, cu, hu⟩ := hown.form
        subst hu
        have HOW := Lib.hid hown
        have HB := Lib.hid hb
        have hbs := hb.size
        clear hown
        by_cases hj : j < xs.length
        · obtain ⟨b2, off2, rfl, hbl2, hq⟩ := HQ.out (by omega)
          have c1 := cell_below hb hbl2 (hq j hj)
          obtain ⟨n, hn⟩ : ∃ n, n = xs[j] := ⟨_, rfl⟩
          have hnr := HSM.out.2 n (by rw [hn]; exact List.getElem_mem hj)
          have HTJ := Lib.hid (show halfR (xs.take (j + 1)) = halfR (xs.take j) ++ [n / 256, n % 256] by rw [List.take_succ_eq_append_getElem hj, halfR_snoc, hn])
          have HLJ := Lib.hid (show ys.length ≤ 132000 by rw [HYS.out]; have h1 := HNK.out; have h2 := halfR_length (xs.take j); have h3 := HSM.out.1; simp only [List.length_append, List.length_take] at h2 ⊢; omega)
          rw [← hn] at c1
          have hkj : (j : Int) < xs.length := by omega
          have hj0 : (0 : Int) ≤ j := by omega
          clear hq hn
          go_upto_region 8 with fail
          go_wp2_with (refine stop_at (.call { callee := .builtin .append, args := #[.tmp 20, .tmp 26], argTypes := #[150, 150] }) rfl ?_)
          refine ⟨?_⟩
          have HAP := Lib.hid (below_alloc1 wr (.cells #[Value.int IntKind.u8 (n / 256), Value.int IntKind.u8 (n % 256)] 5))
          refine wpList_append_bytes rfl (.tmp 20) (.tmp 26) rfl _ _ rfl (base := w.heap.size) (HOW.out.below HAP.out (Nat.le_refl _)) _ [n / 256, n % 256] rfl (ReadL.two8 wr _ _ _) (by have := HLJ.out; simp only [List.length_cons, List.length_nil]; omega) (Nat.le_trans hbs HAP.out.size) ?_
          intro p1 c1' w4 hown4 hg4 hlie4
          have HREL := Lib.hid (show OwnL byteE 5 1 w.heap.size w4 (.slice p1 (ys.length + [n / 256, n % 256].length) c1') (ys ++ [n / 256, n % 256]) ∧ Below w.heap.size w w4 by
            refine ⟨hown4, ?_⟩
            have h1 := HB.out.trans (HAP.out.mono hbs)
            exact h1.trans ((Fr.grown (F := fun q => (Value.slice pu ys.length cu).ownBlock = some q) hg4 (fun q h => h)).below h1.size (fun q hq => (HOW.out.lt q hq).1)))
          clear hown4 hg4 hlie4 c0 c1 hb
          go_wp2_with fail
          go_roundw
          case rel => exact ⟨j + 1, by go_num, hj, ⟨_, by rw [HTJ.out, ← List.append_assoc, HYS.out], HREL.out.1⟩, HREL.out.2⟩
          case measure => simp [intOf]; omega
        · have hkj : ¬ (j : Int) < xs.length := by omega
          have hje : xs.take j = xs := List.take_of_length_le (by omega)
          have HROW := Lib.hid (show nameL (xss.take (k + 1)) = ys ++ [255, 255] by rw [HTK.out, HYS.out, hje, List.append_assoc]; rfl)
          have HLJ := Lib.hid (show ys.length ≤ 132000 by rw [HYS.out]; have h1 := HNK.out; have h2 := halfR_length (xs.take j); have h3 := HSM.out.1; simp only [List.length_append, List.length_take] at h2 ⊢; omega)
          clear hje
          go_upto_region 10 with fail
          go_wp2_with (refine stop_at (.call { callee := .builtin .append, args := #[.tmp 29, .tmp 30], argTypes := #[150, 150] }) rfl ?_)
          refine ⟨?_⟩
          have HAP := Lib.hid (below_alloc1 wr (.cells #[Value.int IntKind.u8 255, Value.int IntKind.u8 255] 5))
          refine wpList_append_bytes rfl (.tmp 29) (.tmp 30) rfl _ _ rfl (base := w.heap.size) (HOW.out.below HAP.out (Nat.le_refl _)) _ [255, 255] rfl (ReadL.two8 wr _ _ _) (by have := HLJ.out; simp only [List.length_cons, List.length_nil]; omega) (Nat.le_trans hbs HAP.out.size) ?_
          intro p1 c1' w4 hown4 hg4 hlie4
          have HREL := Lib.hid (show OwnL byteE 5 1 w.heap.size w4 (.slice p1 (ys.length + [(255 : Int), 255].length) c1') (nameL (xss.take (k + 1))) ∧ Below w.heap.size w w4 by
            refine ⟨by rw [HROW.out]; exact hown4, ?_⟩
            have h1 := HB.out.trans (HAP.out.mono hbs)
            exact h1.trans ((Fr.grown (F := fun q => (Value.slice pu ys.length cu).ownBlock = some q) hg4 (fun q h => h)).below h1.size (fun q hq => (HOW.out.lt q hq).1)))
          clear hown4 hg4 hlie4 hb
          go_wp2_with fail
          go_roundw
          case rel => exact ⟨k + 1, by go_num, by omega, HREL.out.1, HREL.out.2⟩
          case measure => simp [intOf]; omega
    · have hkk : ¬ (k : Int) < xss.length := by omega
      have hke : xss.take k = xss := List.take_of_length_le (by omega)
      rw [hke] at HOW
      rw [hke]
      have hconv := run_bytes wr w.heap.size pu cu (nameL xss) HOW.out
      clear hke
      go_wp2_with fail
      go_ret
      exact ⟨rfl, HB.out⟩
end Go.Proofs.Ytmooflmhbpckjaa
