import Derived.Test.YthmaokjhncokdaaB2
import Derived.Laws.BytesString
import Derived.Test.YthmaokjhncokdaaB6
import Derived.Test.YthmaokjhncokdaaB4
import Derived.Laws.BitsAllLaws
import Derived.Maps.OwnSet
/-
  dfa.name: lists of numbers as a text; unlike lists have unlike texts. No condition beyond what each theorem names.
-/
set_option linter.unusedVariables false
set_option linter.unusedSimpArgs false
namespace Go.Proofs.Ythmaokjhncokdaa
open Go.RowKit

/-- a list of numbers as one cell; its block lies in F -/
def rowE (F : Nat → Prop) (w : World) (xs : List Int) (row : List Value) : Prop := ∃ v, row = [v] ∧ v.oneCell' = true ∧ Ints w v xs ∧ Lies F v xs.length
/-- a list of lists of numbers; all its blocks lie in F -/
def LLF (F : Nat → Prop) (w : World) (v : Value) (xss : List (List Int)) : Prop := ReadL (rowE F w) 1 w v xss ∧ Lies F v xss.length

theorem rowE.fr {F G : Nat → Prop} {w w' : World} {xs : List Int} {row : List Value} (h : rowE F w xs row) (hf : Fr G w w') (hg : ∀ k, F k → ¬ G k) : rowE F w' xs row := by
  obtain ⟨v, rfl, h0, h1, h2⟩ := h
  exact ⟨v, rfl, h0, Raw.fr hf h1 (fun h3 k hk => hg k (h2 (by simpa using h3) k hk)), h2⟩
theorem rowE.mono {F G : Nat → Prop} {w : World} {xs : List Int} {row : List Value} (h : rowE F w xs row) (hg : ∀ k, F k → G k) : rowE G w xs row := by
  obtain ⟨v, rfl, h0, h1, h2⟩ := h
  exact ⟨v, rfl, h0, h1, h2.mono hg⟩
theorem rowE.below {F : Nat → Prop} {B : Nat} {w w' : World} {xs : List Int} {row : List Value} (h : rowE F w xs row) (hb : Below B w w') (hB : w.heap.size ≤ B) : rowE F w' xs row := by
  obtain ⟨v, rfl, h0, h1, h2⟩ := h
  exact ⟨v, rfl, h0, h1.to hb hB, h2⟩
theorem ReadL.monoE {α : Type} {E F : α → List Value → Prop} {sz : Nat} {w : World} {v : Value} {xs : List α} (h : ReadL E sz w v xs) (hf : ∀ x r, E x r → F x r) : ReadL F sz w v xs := by
  obtain ⟨rows, h1, h2, h3, h4⟩ := h
  exact ⟨rows, h1, h2, h3, fun i hi => by obtain ⟨row, g1, g2⟩ := h4 i hi; exact ⟨row, g1, hf _ _ g2⟩⟩
theorem ReadL.frL {α : Type} {E : α → List Value → Prop} {F G : Nat → Prop} {sz : Nat} {w w' : World} {v : Value} {xs : List α} (h : ReadL E sz w v xs) (hl : Lies F v xs.length) (hf : Fr G w w') (hg : ∀ k, F k → ¬ G k) : ReadL E sz w' v xs := by
  obtain ⟨rows, h1, h2, h3, h4⟩ := h
  refine ⟨rows, Raw.fr hf h1 (fun h0 k hk => hg k (hl ?_ k hk)), h2, h3, h4⟩
  rcases Nat.eq_zero_or_pos xs.length with e | e
  · rw [e] at h2
    rw [List.eq_nil_of_length_eq_zero h2] at h0
    simp at h0
  · exact e
/-- one element of a list, by its place -/
theorem ReadL.at {α : Type} {E : α → List Value → Prop} {sz : Nat} {w : World} {v : Value} {xs : List α} (h : ReadL E sz w v xs) (hs : 0 < sz) {n : Nat} (hn : xs.length = n) : ∃ p cap, v = .slice p n cap ∧ n ≤ cap ∧ ∀ i x, xs[i]? = some x → ∃ b off row, p = some ⟨b, off, none⟩ ∧ b < w.heap.size ∧ cellsAt w b (off + i * sz) row ∧ E x row := by
  subst hn
  obtain ⟨p, cap, rfl, h1, h2⟩ := h.get hs
  refine ⟨p, cap, rfl, h1, fun i x hx => ?_⟩
  obtain ⟨hi, e⟩ := List.getElem?_eq_some_iff.1 hx
  obtain ⟨b, off, rfl, h3, h4⟩ := h2 (by omega)
  obtain ⟨row, h5, h6⟩ := h4 i hi
  rw [e] at h6
  exact ⟨b, off, row, rfl, h3, h5, h6⟩
theorem LLF.fr {F G : Nat → Prop} {w w' : World} {v : Value} {xss : List (List Int)} (h : LLF F w v xss) (hf : Fr G w w') (hg : ∀ k, F k → ¬ G k) : LLF F w' v xss :=
  ⟨(h.1.frL h.2 hf hg).monoE (fun x r hr => hr.fr hf hg), h.2⟩
theorem LLF.mono {F G : Nat → Prop} {w : World} {v : Value} {xss : List (List Int)} (h : LLF F w v xss) (hg : ∀ k, F k → G k) : LLF G w v xss :=
  ⟨h.1.monoE (fun x r hr => hr.mono hg), h.2.mono hg⟩
theorem LLF.below {F : Nat → Prop} {B : Nat} {w w' : World} {v : Value} {xss : List (List Int)} (h : LLF F w v xss) (hb : Below B w w') (hB : w.heap.size ≤ B) : LLF F w' v xss :=
  ⟨(h.1.below hb hB).monoE (fun x r hr => hr.below hb hB), h.2⟩

/-! ### the text -/
/-- of a row its bytes -/
def nameR (xs : List Int) : List Int := (xs.flatMap fun n => [n / 256, n % 256]) ++ [255, 255]
def nameL (xss : List (List Int)) : List Int := xss.flatMap nameR
def strOf (ns : List Int) : ByteArray := ns.foldl (fun r n => r.push (UInt8.ofNat n.toNat)) ByteArray.empty

theorem flat2_length (f g : Int → Int) : ∀ (xs : List Int), (xs.flatMap fun n => [f n, g n]).length = 2 * xs.length
  | [] => rfl
  | x :: r => by
    rw [List.flatMap_cons, List.length_append, flat2_length f g r]
    simp only [List.length_cons, List.length_nil]
    omega
theorem nameR_length (xs : List Int) : (nameR xs).length = 2 * xs.length + 2 := by
  unfold nameR
  rw [List.length_append]
  have := flat2_length (fun n => n / 256) (fun n => n % 256) xs
  simp only [List.length_cons, List.length_nil]
  omega
theorem nameL_length {xss : List (List Int)} (h : ∀ xs ∈ xss, xs.length ≤ 1000) : (nameL xss).length ≤ 2002 * xss.length := by
  induction xss with
  | nil => simp [nameL]
  | cons x r ih =>
    have h1 := ih (fun xs hx => h xs (by simp [hx]))
    have h2 := h x (by simp)
    have e : nameL (x :: r) = nameR x ++ nameL r := by simp [nameL]
    rw [e, List.length_append, nameR_length, List.length_cons]
    omega

theorem strOf_from : ∀ (ns : List Int) (s : ByteArray), (ns.foldl (fun r n => r.push (UInt8.ofNat n.toNat)) s).data.toList = s.data.toList ++ ns.map (fun n => UInt8.ofNat n.toNat)
  | [], s => by simp
  | n :: ns, s => by
    rw [List.foldl_cons, strOf_from ns]
    simp [ByteArray.push]
theorem strOf_data (ns : List Int) : (strOf ns).data.toList = ns.map (fun n => UInt8.ofNat n.toNat) := by
  unfold strOf
  rw [strOf_from]
  show [] ++ _ = _
  rw [List.nil_append]
theorem strOf_size (ns : List Int) : (strOf ns).size = ns.length := by
  have h := congrArg List.length (strOf_data ns)
  rw [List.length_map] at h
  rw [← h, Array.length_toList]
  rfl

def Small16 (xs : List Int) : Prop := ∀ n ∈ xs, 0 ≤ n ∧ n < 65280

theorem u8_eq {a b : Int} (ha : 0 ≤ a ∧ a < 256) (hb : 0 ≤ b ∧ b < 256) (h : UInt8.ofNat a.toNat = UInt8.ofNat b.toNat) : a = b := by
  have h1 := congrArg UInt8.toNat h
  simp at h1
  omega

theorem nameR_inj : ∀ {xs ys : List Int} {u v : List Int}, Small16 xs → Small16 ys → (nameR xs ++ u).map (fun n => UInt8.ofNat n.toNat) = (nameR ys ++ v).map (fun n => UInt8.ofNat n.toNat) → xs = ys ∧ u.map (fun n => UInt8.ofNat n.toNat) = v.map (fun n => UInt8.ofNat n.toNat)
  | [], [], u, v, _, _, h => by
    simp [nameR] at h
    exact ⟨rfl, h⟩
  | [], y :: ys, u, v, _, hy, h => by
    have hy1 := hy y (by simp)
    simp [nameR] at h
    have := u8_eq (a := 255) (b := y / 256) (by omega) (by omega) h.1
    omega
  | x :: xs, [], u, v, hx, _, h => by
    have hx1 := hx x (by simp)
    simp [nameR] at h
    have := u8_eq (a := x / 256) (b := 255) (by omega) (by omega) h.1
    omega
  | x :: xs, y :: ys, u, v, hx, hy, h => by
    have hx1 := hx x (by simp)
    have hy1 := hy y (by simp)
    have ex : nameR (x :: xs) ++ u = x / 256 :: x % 256 :: (nameR xs ++ u) := by simp [nameR]
    have ey : nameR (y :: ys) ++ v = y / 256 :: y % 256 :: (nameR ys ++ v) := by simp [nameR]
    rw [ex, ey, List.map_cons, List.map_cons, List.map_cons, List.map_cons, List.cons.injEq, List.cons.injEq] at h
    obtain ⟨h1, h2, h3⟩ := h
    have e1 := u8_eq (a := x / 256) (b := y / 256) (by omega) (by omega) h1
    have e2 := u8_eq (a := x % 256) (b := y % 256) (by omega) (by omega) h2
    obtain ⟨h4, h5⟩ := nameR_inj (xs := xs) (ys := ys) (fun n hn => hx n (by simp [hn])) (fun n hn => hy n (by simp [hn])) h3
    have : x = y := by omega
    exact ⟨by rw [this, h4], h5⟩

theorem nameL_inj : ∀ {xss yss : List (List Int)}, (∀ xs ∈ xss, Small16 xs) → (∀ xs ∈ yss, Small16 xs) → (nameL xss).map (fun n => UInt8.ofNat n.toNat) = (nameL yss).map (fun n => UInt8.ofNat n.toNat) → xss = yss
  | [], [], _, _, _ => rfl
  | [], y :: ys, _, _, h => by simp [nameL, nameR] at h
  | x :: xs, [], _, _, h => by simp [nameL, nameR] at h
  | x :: xs, y :: ys, hx, hy, h => by
    have ex : nameL (x :: xs) = nameR x ++ nameL xs := by simp [nameL]
    have ey : nameL (y :: ys) = nameR y ++ nameL ys := by simp [nameL]
    rw [ex, ey] at h
    obtain ⟨h1, h2⟩ := nameR_inj (hx x (by simp)) (hy y (by simp)) h
    rw [h1, nameL_inj (fun z hz => hx z (by simp [hz])) (fun z hz => hy z (by simp [hz])) h2]

/-- the key that a text is -/
def nameK (xss : List (List Int)) : Lit := .string (strOf (nameL xss)).data.toList
theorem nameK_inj {xss yss : List (List Int)} (hx : ∀ xs ∈ xss, Small16 xs) (hy : ∀ xs ∈ yss, Small16 xs) (h : nameK xss = nameK yss) : xss = yss := by
  unfold nameK at h
  injection h with h
  rw [strOf_data, strOf_data] at h
  exact nameL_inj hx hy h

/-! ### the walk -/
def byteE (x : Int) (row : List Value) : Prop := row = [.int .u8 x]
theorem infoByte : (Try.prog.info? 5).map (fun i => (i.zero, i.size, i.bytes)) = some (some (.int .u8 0), 1, 1) := by kernel_rfl

theorem flatten_bytes {xs : List Int} {rows : List (List Value)} (hl : rows.length = xs.length) (h : ∀ i (h : i < xs.length), ∃ row, rows[i]? = some row ∧ byteE xs[i] row) : rows.flatten = xs.map (Value.int .u8) := by
  have : rows = xs.map fun x => [.int .u8 x] := by
    apply List.ext_getElem
    · simp [hl]
    · intro i h1 h2
      obtain ⟨row, g1, g2⟩ := h i (by omega)
      rw [List.getElem?_eq_getElem h1] at g1
      cases g1
      rw [g2]; simp
  rw [this]
  clear this h hl
  induction xs with
  | nil => rfl
  | cons x r ih => simp [ih]

section
variable {ops : Array Oper} {rest : List Oper} {o : Oper} {a : Act} {w : World} {Q : Exit → Act → World → Prop} {base : Nat}
theorem wpList_append_bytes (hgd : o.guard = none) (s x : Operand) (ho : o.op = .call { callee := .builtin .append, args := #[s, x], argTypes := #[169, 169] })
    (v : Value) (xs : List Int) (hs : a.eval s = v) (hown : OwnL byteE 5 1 base w v xs) (xv : Value) (ns : List Int) (hx : a.eval x = xv) (hr : ReadL byteE 1 w xv ns) (hlen : xs.length + ns.length ≤ 1000000) (hbase : base ≤ w.heap.size)
    (h : ∀ p c w', OwnL byteE 5 1 base w' (.slice p (xs.length + ns.length) c) (xs ++ ns) → w.grownBy w' v.ownBlock → ((Value.slice p (xs.length + ns.length) c).ownBlock = v.ownBlock ∨ (Value.slice p (xs.length + ns.length) c).ownBlock = some w.heap.size) → wpList Try.prog ops Q rest (a.put o.dst (.slice p (xs.length + ns.length) c)) w') : wpList Try.prog ops Q (o :: rest) a w := by
  obtain ⟨i0, hi, hz0, hz1, hz2⟩ := info_parts infoByte
  exact wpList_append_L hgd s x 169 ho i0 _ 1 Try.underlying169 hi hz0 hz1 hz2 rfl (by decide) v xs hs hown xv ns hx hr (by unfold maxLen; omega) (by omega) hbase h
end

/-- two bytes, in a new block -/
theorem ReadL.two8 (w : World) (T : TypeId) (x y : Int) : ReadL byteE 1 (w.alloc (.cells #[.int .u8 x, .int .u8 y] T)) (.slice (some ⟨w.heap.size, 0, none⟩) 2 2) [x, y] :=
  ReadL.block (cs := [.int .u8 x, .int .u8 y]) (heap_alloc_new w _) [x, y] [[.int .u8 x], [.int .u8 y]] (by simp) rfl rfl (fun r hr => by
    simp at hr
    rcases hr with rfl | rfl <;> simp [Value.oneCell']) (fun i hi => by
    have : i = 0 ∨ i = 1 := by simp at hi; omega
    rcases this with rfl | rfl
    · exact ⟨_, rfl, rfl⟩
    · exact ⟨_, rfl, rfl⟩)

set_option maxRecDepth 100000 in
theorem run_bytes (w : World) (base : Nat) (p : Option Addr) (c : Nat) (ns : List Int) (h : OwnL byteE 5 1 base w (.slice p ns.length c) ns) :
    (convert 169 9 (.slice p ns.length c)).run Try.prog w = .ok (.string (strOf ns)) w := by
  rw [run_convert_bytes_string w 169 9 5 _ _ _ Try.underlying169 Try.underlying5 Try.underlying9]
  cases p with
  | none =>
    obtain ⟨rows, ⟨-, h1⟩, -⟩ := h
    rcases h1 with ⟨h2, h3⟩ | ⟨g, cap, cur, h2, -⟩
    · have hn : ns = [] := List.eq_nil_of_length_eq_zero h3
      subst hn
      rfl
    · cases h2
  | some ad =>
    obtain ⟨rows, h1, h2, h3, h4⟩ := h.read
    rw [flatten_bytes h2 h4] at h1
    obtain ⟨p', cap, e, -, hc⟩ := h1
    injection e with e1 e2 e3
    subst e1 e3
    refine run_bytesToString w _ _ _ ns ?_
    have := run_loadCells_list (P := Try.prog) w ad (ns.map (Value.int .u8)) (fun j u hu => by
      obtain ⟨b, off, e, hcc⟩ := hc (by rw [List.length_map]; have := (List.getElem?_eq_some_iff.1 hu).1; simp at this; omega)
      cases e
      rw [show (⟨b, off, none⟩ : Addr).add j = ⟨b, off + j, none⟩ by unfold Addr.add; split <;> simp_all]
      exact hcc j u hu)
    rw [List.length_map] at this
    exact this

theorem nameL_snoc (l : List (List Int)) (x : List Int) : nameL (l ++ [x]) = nameL l ++ nameR x := by simp [nameL]
/-- the bytes of a row's beginning -/
def halfR (xs : List Int) : List Int := xs.flatMap fun n => [n / 256, n % 256]
theorem halfR_snoc (xs : List Int) (n : Int) : halfR (xs ++ [n]) = halfR xs ++ [n / 256, n % 256] := by simp [halfR]
theorem halfR_length (xs : List Int) : (halfR xs).length = 2 * xs.length := by
  have := nameR_length xs
  unfold nameR at this
  rw [List.length_append] at this
  unfold halfR
  simp at this ⊢
  omega

set_option maxRecDepth 100000 in
set_option maxHeartbeats 4000000 in
theorem name_any (F : Nat → Prop) (w : World) (v : Value) (xss : List (List Int)) (h : LLF F w v xss) (hl : xss.length ≤ 64) (hx : ∀ xs ∈ xss, xs.length ≤ 1000 ∧ Small16 xs) :
    Calls Try.prog 82 #[v] w fun e w' => e = .returned (.string (strOf (nameL xss))) ∧ Below w.heap.size w w' := by
  obtain ⟨p, cp, rfl, hc, hg⟩ := h.1.get (by decide)
  have HG := Lib.hid hg
  have HX := Lib.hid hx
  have HNL := Lib.hid (nameL_length (xss := xss) (fun xs hxs => (hx xs hxs).1))
  clear hg hx h
  go_enter Try.func82, Try.ntmps82
  go_wp2_with fail
  go_loopw [3, 10] (fun u i wr => ∃ k : Nat, i = .int .i64 k ∧ k ≤ xss.length ∧ OwnL byteE 5 1 w.heap.size wr u (nameL (xss.take k)) ∧ Below w.heap.size w wr) (fun _ i _ => xss.length - (intOf i).toNat)
  case atStart => exact ⟨0, rfl, by omega, OwnL.nil _, Below.refl _ _⟩
  case round =>
    obtain ⟨k, rfl, h1, hown, hb⟩ := hrel
    obtain ⟨pu, cu, hu⟩ := hown.form
    subst hu
    have HOW := Lib.hid hown
    have HB := Lib.hid hb
    have hbs := hb.size
    clear hown
    by_cases hk : k < xss.length
    · obtain ⟨bb, off, rfl, hbl, hxx⟩ := HG.out (by omega)
      obtain ⟨row, hcell, hrow⟩ := hxx k hk
      obtain ⟨rv, rfl, -, hrv, -⟩ := hrow
      have c0 := cell_below hb hbl (hcell 0 rv rfl)
      simp only [Nat.mul_one, Nat.add_zero] at c0
      obtain ⟨xs, hxs⟩ : ∃ xs, xs = xss[k] := ⟨_, rfl⟩
      rw [← hxs] at hrv
      have hsm := HX.out xs (by rw [hxs]; exact List.getElem_mem hk)
      have HTK := Lib.hid (show nameL (xss.take (k + 1)) = nameL (xss.take k) ++ nameR xs by rw [List.take_succ_eq_append_getElem hk, nameL_snoc, hxs])
      have hnl := nameL_length (xss := xss.take k) (fun xs hxs => (HX.out xs (List.mem_of_mem_take hxs)).1)
      rw [List.length_take] at hnl
      have HNK := Lib.hid (show (nameL (xss.take k)).length ≤ 130000 by omega)
      obtain ⟨q, cq, rfl, hqc, hq⟩ := hrv.get
      have HQ := Lib.hid hq
      have HSM := Lib.hid hsm
      have hxl := hsm.1
      have hkk : (k : Int) < xss.length := by omega
      have hk0 : (0 : Int) ≤ k := by omega
      clear hxx hcell hrv hq hsm hxs hnl
      go_wp2_with fail
      go_loopw [3, 16] (fun u i w1 => ∃ j : Nat, i = .int .i64 j ∧ j ≤ xs.length ∧ (∃ ys, ys = nameL (xss.take k) ++ halfR (xs.take j) ∧ OwnL byteE 5 1 w.heap.size w1 u ys) ∧ Below w.heap.size w w1) (fun _ i _ => xs.length - (intOf i).toNat)
      case atStart => exact ⟨0, rfl, by omega, ⟨_, by simp [halfR], HOW.out⟩, HB.out⟩
      case round =>
        clear hb hbs
        obtain ⟨j, rfl, h2, ⟨ys, hys, hown⟩, hb⟩ := hrel
        have HYS := Lib.hid hys
        clear hys
        obtain ⟨pu, cu, hu⟩ := hown.form
        subst hu
        have HOW := Lib.hid hown
        have HB := Lib.hid hb
        have hbs := hb.size
        clear hown
        by_cases hj : j < xs.length
        · obtain ⟨b2, off2, rfl, hbl2, hq⟩ := HQ.out (by omega)
          have c1 := cell_below hb hbl2 (hq j hj)
          obtain ⟨n, hn⟩ : ∃ n, n = xs[j] := ⟨_, rfl⟩
          have hnr := HSM.out.2 n (by rw [hn]; exact List.getElem_mem hj)
          have HTJ := Lib.hid (show halfR (xs.take (j + 1)) = halfR (xs.take j) ++ [n / 256, n % 256] by rw [List.take_succ_eq_append_getElem hj, halfR_snoc, hn])
          have HLJ := Lib.hid (show ys.length ≤ 132000 by rw [HYS.out]; have h1 := HNK.out; have h2 := halfR_length (xs.take j); have h3 := HSM.out.1; simp only [List.length_append, List.length_take] at h2 ⊢; omega)
          rw [← hn] at c1
          have hkj : (j : Int) < xs.length := by omega
          have hj0 : (0 : Int) ≤ j := by omega
          clear hq hn
          go_upto_region 8 with fail
          go_wp2_with (refine stop_at (.call { callee := .builtin .append, args := #[.tmp 20, .tmp 26], argTypes := #[169, 169] }) rfl ?_)
          refine ⟨?_⟩
          have HAP := Lib.hid (below_alloc1 wr (.cells #[Value.int IntKind.u8 (n / 256), Value.int IntKind.u8 (n % 256)] 5))
          refine wpList_append_bytes rfl (.tmp 20) (.tmp 26) rfl _ _ rfl (base := w.heap.size) (HOW.out.below HAP.out (Nat.le_refl _)) _ [n / 256, n % 256] rfl (ReadL.two8 wr _ _ _) (by have := HLJ.out; simp only [List.length_cons, List.length_nil]; omega) (Nat.le_trans hbs HAP.out.size) ?_
          intro p1 c1' w4 hown4 hg4 hlie4
          have HREL := Lib.hid (show OwnL byteE 5 1 w.heap.size w4 (.slice p1 (ys.length + [n / 256, n % 256].length) c1') (ys ++ [n / 256, n % 256]) ∧ Below w.heap.size w w4 by
            refine ⟨hown4, ?_⟩
            have h1 := HB.out.trans (HAP.out.mono hbs)
            exact h1.trans ((Fr.grown (F := fun q => (Value.slice pu ys.length cu).ownBlock = some q) hg4 (fun q h => h)).below h1.size (fun q hq => (HOW.out.lt q hq).1)))
          clear hown4 hg4 hlie4 c0 c1 hb
          go_wp2_with fail
          go_roundw
          case rel => exact ⟨j + 1, by go_num, hj, ⟨_, by rw [HTJ.out, ← List.append_assoc, HYS.out], HREL.out.1⟩, HREL.out.2⟩
          case measure => simp [intOf]; omega
        · have hkj : ¬ (j : Int) < xs.length := by omega
          have hje : xs.take j = xs := List.take_of_length_le (by omega)
          have HROW := Lib.hid (show nameL (xss.take (k + 1)) = ys ++ [255, 255] by rw [HTK.out, HYS.out, hje, List.append_assoc]; rfl)
          have HLJ := Lib.hid (show ys.length ≤ 132000 by rw [HYS.out]; have h1 := HNK.out; have h2 := halfR_length (xs.take j); have h3 := HSM.out.1; simp only [List.length_append, List.length_take] at h2 ⊢; omega)
          clear hje
          go_upto_region 10 with fail
          go_wp2_with (refine stop_at (.call { callee := .builtin .append, args := #[.tmp 29, .tmp 30], argTypes := #[169, 169] }) rfl ?_)
          refine ⟨?_⟩
          have HAP := Lib.hid (below_alloc1 wr (.cells #[Value.int IntKind.u8 255, Value.int IntKind.u8 255] 5))
          refine wpList_append_bytes rfl (.tmp 29) (.tmp 30) rfl _ _ rfl (base := w.heap.size) (HOW.out.below HAP.out (Nat.le_refl _)) _ [255, 255] rfl (ReadL.two8 wr _ _ _) (by have := HLJ.out; simp only [List.length_cons, List.length_nil]; omega) (Nat.le_trans hbs HAP.out.size) ?_
          intro p1 c1' w4 hown4 hg4 hlie4
          have HREL := Lib.hid (show OwnL byteE 5 1 w.heap.size w4 (.slice p1 (ys.length + [(255 : Int), 255].length) c1') (nameL (xss.take (k + 1))) ∧ Below w.heap.size w w4 by
            refine ⟨by rw [HROW.out]; exact hown4, ?_⟩
            have h1 := HB.out.trans (HAP.out.mono hbs)
            exact h1.trans ((Fr.grown (F := fun q => (Value.slice pu ys.length cu).ownBlock = some q) hg4 (fun q h => h)).below h1.size (fun q hq => (HOW.out.lt q hq).1)))
          clear hown4 hg4 hlie4 hb
          go_wp2_with fail
          go_roundw
          case rel => exact ⟨k + 1, by go_num, by omega, HREL.out.1, HREL.out.2⟩
          case measure => simp [intOf]; omega
    · have hkk : ¬ (k : Int) < xss.length := by omega
      have hke : xss.take k = xss := List.take_of_length_le (by omega)
      rw [hke] at HOW
      rw [hke]
      have hconv := run_bytes wr w.heap.size pu cu (nameL xss) HOW.out
      clear hke
      go_wp2_with fail
      go_ret
      exact ⟨rfl, HB.out⟩
end Go.Proofs.Ythmaokjhncokdaa

/-
  slices.Compact of a list of one's own. No condition beyond what each theorem names.
-/
set_option linter.unusedVariables false
set_option linter.unusedSimpArgs false
namespace Go.Proofs.Ythmaokjhncokdaa
open Go.RowKit

/-- the cells of block g are these -/
def VRow (w : World) (g : Nat) (T : TypeId) (vs : List Value) : Prop := w.heap[g]? = some (.cells vs.toArray T (0, 0))
section
variable {w w' : World} {g : Nat} {T : TypeId} {vs : List Value}
theorem VRow.cell (h : VRow w g T vs) {i : Nat} {u : Value} (hi : vs[i]? = some u) : w.cell? ⟨g, i, none⟩ = some u := by
  unfold VRow at h
  simp [World.cell?, h, hi]
theorem VRow.fz (h : VRow w g T vs) (i : Nat) : w.frozen? ⟨g, i, none⟩ = false := fz_at h i
theorem VRow.set (h : VRow w g T vs) (i : Nat) (u : Value) : VRow (w.setCell ⟨g, i, none⟩ u) g T (vs.set i u) := by
  have := blk_set h i u
  unfold VRow
  rw [this]
  simp
theorem VRow.lt (h : VRow w g T vs) : g < w.heap.size := at_lt h
theorem VRow.fr {F : Nat → Prop} (h : VRow w g T vs) (hf : Fr F w w') (hn : ¬ F g) : VRow w' g T vs := (hf.block g h.lt hn).trans h
end

/-- a list without what is as the one behind it -/
def ded : List Int → List Int
  | [] => []
  | [a] => [a]
  | a :: b :: r => if a = b then ded (b :: r) else a :: ded (b :: r)

theorem ded_snoc : ∀ (l : List Int) (a b : Int), ded (l ++ [a, b]) = ded (l ++ [a]) ++ (if a = b then [] else [b])
  | [], a, b => by simp [ded]; split <;> simp_all
  | [x], a, b => by
    simp [ded]
    split <;> split <;> simp_all
  | x :: y :: l, a, b => by
    have ih := ded_snoc (y :: l) a b
    show ded (x :: y :: (l ++ [a, b])) = ded (x :: y :: (l ++ [a])) ++ _
    rw [ded, ded]
    rw [List.cons_append, List.cons_append] at ih
    split
    · exact ih
    · rw [ih]; rfl
theorem ded_mem : ∀ (l : List Int) (v : Int), v ∈ ded l ↔ v ∈ l
  | [], v => by simp [ded]
  | [a], v => by simp [ded]
  | a :: b :: r, v => by
    have ih := ded_mem (b :: r) v
    rw [ded]
    split
    · rename_i e
      rw [ih, e]
      simp
    · rw [List.mem_cons, ih]
      simp
theorem ded_length : ∀ (l : List Int), (ded l).length ≤ l.length
  | [] => by simp [ded]
  | [a] => by simp [ded]
  | a :: b :: r => by
    have ih := ded_length (b :: r)
    rw [ded]
    simp only [List.length_cons] at ih ⊢
    split
    · omega
    · simp only [List.length_cons]; omega
theorem ded_head {a : Int} {l : List Int} : ∃ r, ded (a :: l) = a :: r := by
  induction l generalizing a with
  | nil => exact ⟨[], rfl⟩
  | cons b l ih =>
    obtain ⟨r, hr⟩ := @ih b
    unfold ded
    split
    · rename_i e; rw [hr, e]; exact ⟨_, rfl⟩
    · exact ⟨_, rfl⟩
/-- of a sorted list: rising -/
theorem ded_rises : ∀ {l : List Int}, l.Pairwise (· ≤ ·) → Rises (ded l)
  | [], _ => by simp [ded, Rises]
  | [a], _ => by simp [ded, Rises]
  | a :: b :: r, h => by
    have h1 := List.pairwise_cons.1 h
    have ih := ded_rises h1.2
    rw [ded]
    split
    · exact ih
    · rename_i e
      unfold Rises at ih ⊢
      refine List.pairwise_cons.2 ⟨fun x hx => ?_, ih⟩
      have hx2 := (ded_mem _ _).1 hx
      have hab := h1.1 b (by simp)
      have hbx : b ≤ x := by
        rcases List.mem_cons.1 hx2 with rfl | hx3
        · exact Int.le_refl _
        · exact (List.pairwise_cons.1 h1.2).1 x hx3
      omega

theorem ints_blk {base : Nat} {T : TypeId} {w : World} {v : Value} {xs : List Int} (h : OwnL intE T 1 base w v xs) (h0 : 0 < xs.length) : ∃ g cap vs, v = .slice (some ⟨g, 0, none⟩) xs.length cap ∧ base ≤ g ∧ VRow w g T vs ∧ xs.length ≤ cap ∧ cap ≤ maxLen ∧ vs.length = cap ∧ vs.take xs.length = xs.map (.int .i64) := by
  obtain ⟨rows, ⟨h1, h2⟩, h3, h4, h5⟩ := h
  rw [flatten_ints h3 h5] at h2
  rcases h2 with ⟨-, h6⟩ | ⟨g, cap, cur, rfl, hb, hg, hn, hc, hs, ht⟩
  · omega
  · refine ⟨g, cap, cur.toList, rfl, hb, ?_, hn, hc, by simpa using hs, by simpa using ht⟩
    unfold VRow
    rw [hg]
theorem blk_ints {base : Nat} {T : TypeId} {w : World} {xs : List Int} {g cap : Nat} {vs : List Value} (hb : base ≤ g) (hg : VRow w g T vs) (hn : xs.length ≤ cap) (hc : cap ≤ maxLen) (hs : vs.length = cap) (ht : vs.take xs.length = xs.map (.int .i64)) : OwnL intE T 1 base w (.slice (some ⟨g, 0, none⟩) xs.length cap) xs :=
  ownL_ints ⟨by simp, .inr ⟨g, cap, vs.toArray, rfl, hb, hg, hn, hc, by simpa using hs, by simpa using ht⟩⟩
theorem blk_get {xs : List Int} {vs : List Value} (ht : vs.take xs.length = xs.map (.int .i64)) {i : Nat} (hi : i < xs.length) : vs[i]? = some (.int .i64 xs[i]) := by
  have h := congrArg (fun l => l[i]?) ht
  simp only [List.getElem?_take, if_pos hi] at h
  rw [h]
  simp [hi]

set_option maxRecDepth 100000 in
set_option maxHeartbeats 4000000 in
theorem compact_own (base : Nat) (w : World) (v : Value) (xs : List Int) (h : OwnL intE 3 1 base w v xs) (hx : xs.length ≤ 1000000) :
    Calls Try.prog 105 #[v] w fun e w' => ∃ v', e = .returned v' ∧ OwnL intE 3 1 base w' v' (ded xs) ∧ Fr (fun k => v.ownBlock = some k) w w' ∧ v'.ownBlock = v.ownBlock := by
  by_cases hs : xs.length < 2
  · obtain ⟨p, cp, rfl⟩ := h.form
    have hd : ded xs = xs := by
      match xs, hs with
      | [], _ => rfl
      | [a], _ => rfl
    have hss : (xs.length : Int) < 2 := by omega
    have HOW := Lib.hid h
    have HD := Lib.hid hd
    clear h hd
    go_enter Try.func105, Try.ntmps105
    go_wp2_with fail
    go_ret
    exact ⟨_, rfl, by rw [HD.out]; exact HOW.out, Fr.refl _ _, rfl⟩
  · obtain ⟨g, cap, vs, rfl, hb, hg, hn, hc, hl, ht⟩ := ints_blk h (by omega)
    have hss : ¬ (xs.length : Int) < 2 := by omega
    have HG := Lib.hid hg
    have HT := Lib.hid ht
    have HL := Lib.hid (show vs.length = cap ∧ cap ≤ maxLen from ⟨hl, hc⟩)
    have hc2 : cap ≤ 9223372036854775807 := by unfold maxLen at hc; omega
    have HOW := Lib.hid h
    clear h hg ht hl hc
    go_enter Try.func105, Try.ntmps105
    go_wp2_with fail
    go_loopw [3] (fun i wr => ∃ k : Nat, i = .int .i64 ((k : Int) + 1) ∧ k + 1 ≤ xs.length ∧ ded (xs.take (k + 1)) = xs.take (k + 1) ∧ VRow wr g 3 vs ∧ Fr (fun k => k = g) w wr) (fun i _ => xs.length - (intOf i).toNat)
    case atStart => exact ⟨0, rfl, by omega, by
      match xs, hs with
      | a :: b :: r, _ => rfl, HG.out, Fr.refl _ _⟩
    case round =>
      obtain ⟨k, rfl, h1, h2, h3, h4⟩ := hrel
      have H2 := Lib.hid h2
      have HGG := Lib.hid h3
      have HFF := Lib.hid h4
      clear h2 h3 h4
      by_cases hk : k + 1 < xs.length
      · have c0 := HGG.out.cell (blk_get HT.out (i := k) (by omega))
        have c1 := HGG.out.cell (blk_get HT.out hk)
        obtain ⟨a, ha⟩ : ∃ a, a = xs[k] := ⟨_, rfl⟩
        obtain ⟨b, hb⟩ : ∃ b, b = xs[k + 1] := ⟨_, rfl⟩
        rw [← ha] at c0
        rw [← hb] at c1
        have hsn : xs.take (k + 1 + 1) = xs.take k ++ [a, b] := by
          rw [List.take_succ_eq_append_getElem hk, List.take_succ_eq_append_getElem (show k < xs.length by omega), ← ha, ← hb]
          simp
        have hsn1 : xs.take (k + 1) = xs.take k ++ [a] := by
          rw [List.take_succ_eq_append_getElem (show k < xs.length by omega), ← ha]
        have HSN := Lib.hid (And.intro hsn hsn1)
        have hi1 : ((k : Int) + 1) < xs.length := by omega
        have hk0 : (0 : Int) ≤ k := by omega
        have hsub : (k : Int) + 1 - 1 = k := by omega
        have hnt : ((k : Int) + 1).toNat = k + 1 := by omega
        clear hsn hsn1 ha hb
        by_cases hab : a = b
        · subst hab
          go_upto_region 6 with fail
          go_quiet (fail)
          go_wp2_with fail
          have HST := Lib.hid (show ded (xs.take (k + 1 + 0 + 1)) = xs.take (k + 1) by rw [Nat.add_zero, HSN.out.1, ded_snoc, if_pos rfl, List.append_nil, ← HSN.out.2, H2.out])
          go_loopw [3, 5] (fun i j wr => ∃ (p q : Nat) (vs' : List Value), i = .int .i64 p ∧ j = .int .i64 ((q : Int) + 1) ∧ k + 1 + q + 1 ≤ xs.length ∧ p ≤ k + 1 + q ∧ p = (ded (xs.take (k + 1 + q + 1))).length ∧ VRow wr g 3 vs' ∧ vs'.length = vs.length ∧ vs'.take p = (ded (xs.take (k + 1 + q + 1))).map (.int .i64) ∧ (∀ i, k + 1 + q ≤ i → vs'[i]? = vs[i]?) ∧ Fr (fun k => k = g) w wr) (fun _ j _ => xs.length - (intOf j).toNat)
          case atStart => exact ⟨k + 1, 0, vs, by go_num, rfl, by omega, by omega, by rw [HST.out, List.length_take]; omega, HGG.out, rfl, by
            rw [HST.out, List.map_take, ← HT.out, List.take_take]
            congr 1
            omega, fun _ _ => rfl, HFF.out.drewN _⟩
          case round =>
            obtain ⟨p, q, vs', rfl, rfl, g1, g2, g3, g4, g5, g6, g7, g8⟩ := hrel
            have HP := Lib.hid (And.intro g3 g6)
            have HV := Lib.hid g4
            have HV6 := Lib.hid g5
            have HV7 := Lib.hid g7
            have HF := Lib.hid g8
            obtain ⟨m, hm⟩ : ∃ m, m = xs.length - (k + 1) := ⟨_, rfl⟩
            rw [← hm]
            clear g3 g4 g5 g6 g7 g8
            by_cases hq : k + 1 + q + 1 < xs.length
            · have d0 := HV.out.cell ((HV7.out (k + 1 + q) (by omega)).trans (blk_get HT.out (i := k + 1 + q) (by omega)))
              have d1 : wr.cell? ⟨g, k + 1 + (q + 1), none⟩ = some (.int .i64 xs[k + 1 + q + 1]) := HV.out.cell ((HV7.out (k + 1 + q + 1) (by omega)).trans (blk_get HT.out hq))
              obtain ⟨e, he⟩ : ∃ e, e = xs[k + 1 + q] := ⟨_, rfl⟩
              obtain ⟨f, hf⟩ : ∃ f, f = xs[k + 1 + q + 1] := ⟨_, rfl⟩
              rw [← he] at d0
              rw [← hf] at d1
              have HSQ := Lib.hid (show ded (xs.take (k + 1 + (q + 1) + 1)) = ded (xs.take (k + 1 + q + 1)) ++ (if e = f then [] else [f]) by
                have s1 : xs.take (k + 1 + (q + 1) + 1) = xs.take (k + 1 + q) ++ [e, f] := by
                  rw [show k + 1 + (q + 1) + 1 = k + 1 + q + 1 + 1 by omega, List.take_succ_eq_append_getElem hq, List.take_succ_eq_append_getElem (show k + 1 + q < xs.length by omega), ← he, ← hf]
                  simp
                have s2 : xs.take (k + 1 + q + 1) = xs.take (k + 1 + q) ++ [e] := by
                  rw [List.take_succ_eq_append_getElem (show k + 1 + q < xs.length by omega), ← he]
                rw [s1, s2, ded_snoc])
              have hq1 : ((q : Int) + 1) < m := by omega
              have hq3 : (q : Int) < m := by omega
              have hq4 : (0 : Int) ≤ (q : Int) + 1 := by omega
              have hq0 : (0 : Int) ≤ q := by omega
              have hsub2 : (q : Int) + 1 - 1 = q := by omega
              have hnt2 : ((q : Int) + 1).toNat = q + 1 := by omega
              clear he hf
              by_cases hef : e = f
              · subst hef
                have HSQ2 := Lib.hid (show ded (xs.take (k + 1 + (q + 1) + 1)) = ded (xs.take (k + 1 + q + 1)) by rw [HSQ.out, if_pos rfl, List.append_nil])
                go_upto_region 11 with fail
                go_quiet (fail)
                subst hm
                go_wp2_with fail
                go_roundw
                case rel => exact ⟨p, q + 1, vs', rfl, by go_num, by omega, by omega, by rw [HSQ2.out]; exact HP.out.1, HV.out, HV6.out, by rw [HSQ2.out]; exact HP.out.2, fun i hi => HV7.out i (by omega), HF.out.drewN _⟩
                case measure => simp [intOf]; omega
              · have HSQ2 := Lib.hid (show ded (xs.take (k + 1 + (q + 1) + 1)) = ded (xs.take (k + 1 + q + 1)) ++ [f] by rw [HSQ.out, if_neg hef])
                have hpl : p < vs'.length := by have := HL.out.1; have := HV6.out; omega
                have d2 := HV.out.cell (List.getElem?_eq_getElem hpl)
                have d3 := HV.out.fz p
                have hpn : (p : Int) < xs.length := by omega
                have hp0 : (0 : Int) ≤ p := by omega
                have HPL := Lib.hid hpl
                generalize vs'[p] = u0 at d2
                have hfe : ¬ f = e := fun h => hef h.symm
                clear hpl
                go_upto_region 11 with fail
                go_quiet (fail)
                go_upto_region 13 with fail
                refine abs_wp fun W2 hW2 => ?_
                have HV2 := Lib.hid (show VRow W2 g 3 (vs'.set p (.int .i64 f)) by rw [hW2]; exact VRow.set (w := wr.drewN nq) HV.out p _)
                have HF2 := Lib.hid (show Fr (fun k => k = g) w W2 by rw [hW2]; exact (HF.out.drewN _).trans (Fr.setCell (F := fun k => k = g) _ rfl _) (fun _ _ h => h))
                clear hW2 d0 d1 d2 d3
                subst hm
                go_wp2_with fail
                go_roundw
                case rel => exact ⟨p + 1, q + 1, vs'.set p (.int .i64 f), by go_num, by go_num, by omega, by omega, by rw [HSQ2.out, List.length_append, ← HP.out.1]; rfl, HV2.out, by rw [List.length_set]; exact HV6.out, by
                  rw [HSQ2.out, List.map_append, ← HP.out.2, List.take_succ_eq_append_getElem (by rw [List.length_set]; exact HPL.out), List.getElem_set_self, List.take_set_of_le (Nat.le_refl _)]
                  rfl, fun i hi => by rw [List.getElem?_set_ne (by omega)]; exact HV7.out i (by omega), HF2.out⟩
                case measure => simp [intOf]; omega
            · have hq1 : ¬ ((q : Int) + 1) < m := by omega
              have HEND := Lib.hid (show xs.take (k + 1 + q + 1) = xs from List.take_of_length_le (by omega))
              have hpn : p < xs.length := by omega
              have hpi : (p : Int) < xs.length := by omega
              have hp0 : (0 : Int) ≤ p := by omega
              obtain ⟨i0, hi, hz0, hz1, hz2⟩ := info_parts infoInt
              have hcl := run_clear_row (P := Try.prog) wr 46 0 3 Try.underlying46 g p (xs.length - p) (cap - p) (by omega) i0 (.int .i64 0) hi hz0 vs'.toArray 3 HV.out (by simp [Value.cells]; have := HL.out.1; have := HV6.out; omega) (by simp [Value.cells, Value.oneCell'])
              subst hm
              go_wp2_with fail
              go_ret
              refine ⟨_, rfl, ?_, ?_, rfl⟩
              · have hpe : p = (ded xs).length := by rw [HP.out.1, HEND.out]
                have htk := HP.out.2
                rw [HEND.out] at htk
                have hfin := blk_ints (T := 3) (xs := ded xs) (cap := cap) (w := wr.setRow g (splice vs' p (Builtin.zeroCells #[Value.int IntKind.i64 0] (xs.length - p)).toList).toArray) hb (setRow_heap wr g _ _ _ (0, 0) HV.out) (by omega) HL.out.2 (by
                  have := HL.out.1
                  have := HV6.out
                  unfold splice
                  simp [Builtin.zeroCells]
                  omega) (by
                  rw [← hpe]
                  unfold splice
                  rw [List.take_append_of_le_length (by rw [List.length_take]; have := HL.out.1; have := HV6.out; omega), List.take_take, Nat.min_self]
                  exact htk)
                rw [← hpe] at hfin
                exact hfin
              · exact ((HF.out.trans (Fr.setRow (F := fun k => k = g) wr rfl _) (fun _ _ h => h))).mono (fun k _ hk => congrArg some (Eq.symm hk))
        · have hba : ¬ b = a := fun h => hab h.symm
          have HRL := Lib.hid (show ded (xs.take (k + 1 + 1)) = xs.take (k + 1 + 1) by
            rw [HSN.out.1, ded_snoc, if_neg hab, ← HSN.out.2, H2.out, HSN.out.2]; simp)
          go_upto_region 6 with fail
          go_quiet (fail)
          have hbe : (b == a) = false := by simpa using hba
          rw [hbe]
          go_wp2_with fail
          go_roundw
          case rel => exact ⟨k + 1, by go_num, by omega, HRL.out, HGG.out, HFF.out.drewN _⟩
          case measure => simp [intOf]; omega
      · have hi1 : ¬ ((k : Int) + 1) < xs.length := by omega
        have HALL := Lib.hid (show ded xs = xs by have := H2.out; rwa [List.take_of_length_le (show xs.length ≤ k + 1 by omega)] at this)
        go_wp2_with fail
        go_ret
        refine ⟨_, rfl, ?_, HFF.out.mono (fun k _ hk => congrArg some (Eq.symm hk)), rfl⟩
        rw [HALL.out]
        exact blk_ints hb HGG.out hn HL.out.2 HL.out.1 HT.out

theorem mergeSort_pairwise (l : List Int) : (l.mergeSort fun x y => decide (x ≤ y)).Pairwise (· ≤ ·) := by
  have h := List.pairwise_mergeSort (le := fun x y : Int => decide (x ≤ y)) (fun a b c h1 h2 => by simp at *; omega) (fun a b => by simp; omega) l
  exact h.imp (fun h => by simpa using h)

/-- sorted and compacted: the numbers that are in one of two lists, rising -/
theorem ded_sorted_uni {N : Nat} {a b : List Int} (ha : ∀ v ∈ a, 0 ≤ v ∧ v < N) (hb : ∀ v ∈ b, 0 ≤ v ∧ v < N) : ded ((a ++ b).mergeSort fun x y => decide (x ≤ y)) = uniR N a b :=
  rises_ext (ded_rises (mergeSort_pairwise _)) (uniR_rises N a b) fun v => by
    rw [ded_mem, mem_uniR ha hb, (List.mergeSort_perm (a ++ b) _).mem_iff, List.mem_append]
end Go.Proofs.Ythmaokjhncokdaa

/-
  dfa: a builder; fits, step. No condition beyond what each theorem names.
-/
set_option linter.unusedVariables false
set_option linter.unusedSimpArgs false
namespace Go.Proofs.Ythmaokjhncokdaa
open Go.RowKit

/-- a list of numbers of one's own, as one cell -/
def ownE (base : Nat) (w : World) (xs : List Int) (row : List Value) : Prop := ∃ v, row = [v] ∧ OwnL intE 3 1 base w v xs

theorem one_slice {p : Option Addr} {n c : Nat} : (Value.slice p n c).oneCell' = true := rfl
theorem ownE.cells {base : Nat} {w : World} {xs : List Int} {row : List Value} (h : ownE base w xs row) : row.length = 1 ∧ ∀ u ∈ row, u.oneCell' = true := by
  obtain ⟨v, rfl, h⟩ := h
  obtain ⟨p, c, rfl⟩ := h.form
  simp [Value.oneCell']
theorem ownE.below {base B : Nat} {w w' : World} {xs : List Int} {row : List Value} (h : ownE base w xs row) (hb : Below B w w') (hB : w.heap.size ≤ B) : ownE base w' xs row := by
  obtain ⟨v, rfl, h⟩ := h
  exact ⟨v, rfl, h.below hb hB⟩
/-- what changes a block of another type leaves it -/
theorem ownE.fr {base : Nat} {w w' : World} {xs : List Int} {row : List Value} {G : Nat → Prop} (h : ownE base w xs row) (hf : Fr G w w') (hg : ∀ k, G k → ∃ cs T, T ≠ 3 ∧ w.heap[k]? = some (.cells cs T)) : ownE base w' xs row := by
  obtain ⟨v, rfl, h⟩ := h
  refine ⟨v, rfl, h.fr hf fun k hk hG => ?_⟩
  obtain ⟨cs, T, hT, he⟩ := hg k hG
  exact h.notAt he (Ne.symm hT) hk

/-- a list of lists, all of one's own -/
def OwnLL (base : Nat) (w : World) (v : Value) (xss : List (List Int)) : Prop := OwnL (ownE base w) 46 1 base w v xss
theorem OwnLL.below {base B : Nat} {w w' : World} {v : Value} {xss : List (List Int)} (h : OwnLL base w v xss) (hb : Below B w w') (hB : w.heap.size ≤ B) : OwnLL base w' v xss :=
  (OwnL.below h hb hB).mono (fun x r hr => hr.below hb hB)
theorem OwnLL.nil (base : Nat) (w : World) : OwnLL base w (.slice none 0 0) [] := OwnL.nil w
theorem OwnL.blkT {α : Type} {E : α → List Value → Prop} {T : TypeId} {sz base : Nat} {w : World} {v : Value} {xs : List α} (h : OwnL E T sz base w v xs) : ∀ k, v.ownBlock = some k → ∃ cs, w.heap[k]? = some (.cells cs T) := by
  obtain ⟨_, ⟨-, h⟩, -⟩ := h
  intro k hk
  rcases h with ⟨rfl, -⟩ | ⟨g1, c1, cur1, rfl, -, h1, -⟩
  · cases hk
  · simp only [Value.ownBlock, Option.some.injEq] at hk
    subst hk
    exact ⟨cur1, h1⟩
theorem OwnLL.llf {base : Nat} {w : World} {v : Value} {xss : List (List Int)} (h : OwnLL base w v xss) : LLF (fun k => base ≤ k ∧ k < w.heap.size) w v xss := by
  refine ⟨(OwnL.read h).monoE (fun x r hr => ?_), fun _ k hk => OwnL.lt h k hk⟩
  obtain ⟨v, rfl, h1⟩ := hr
  obtain ⟨p, c, rfl⟩ := h1.form
  exact ⟨_, rfl, rfl, h1.read.ints, fun _ k hk => h1.lt k hk⟩

theorem infoInts : (Try.prog.info? 46).map (fun i => (i.zero, i.size, i.bytes)) = some (some (.slice none 0 0), 1, 24) := by kernel_rfl
section
variable {ops : Array Oper} {rest : List Oper} {o : Oper} {a : Act} {w : World} {Q : Exit → Act → World → Prop} {base : Nat}
/-- append of one list to a list of lists of one's own -/
theorem wpList_append_LL (hgd : o.guard = none) (s x : Operand) (t : TypeId) (ht : Try.prog.underlying t = some (.slice 46)) (ho : o.op = .call { callee := .builtin .append, args := #[s, x], argTypes := #[t, t] })
    (v : Value) (xss : List (List Int)) (n : Nat) (hn : xss.length = n) (hs : a.eval s = v) (w0 : World) (hown : OwnLL base w0 v xss) (u : Value) (xs : List Int) (hu : OwnL intE 3 1 base w0 u xs) (hx : a.eval x = .slice (some ⟨w0.heap.size, 0, none⟩) 1 1) (hw : w = w0.alloc (.cells #[u] 46)) (hlen : n + 1 ≤ 1000000) (hbase : base ≤ w0.heap.size)
    (h : ∀ p c w', OwnLL base w' (.slice p (n + 1) c) (xss ++ [xs]) → Below base w0 w' → Fr (fun k => v.ownBlock = some k) w0 w' → ((Value.slice p (n + 1) c).ownBlock = v.ownBlock ∨ ∀ k, (Value.slice p (n + 1) c).ownBlock = some k → w0.heap.size ≤ k) → wpList Try.prog ops Q rest (a.put o.dst (.slice p (n + 1) c)) w') : wpList Try.prog ops Q (o :: rest) a w := by
  subst hw
  subst hn
  obtain ⟨i0, hi, hz0, hz1, hz2⟩ := info_parts infoInts
  have hal := below_alloc1 w0 (.cells #[u] 46)
  have hE : ownE base (w0.alloc (.cells #[u] 46)) xs [u] := ⟨u, rfl, hu.below hal (Nat.le_refl _)⟩
  have hown1 := hown.below hal (Nat.le_refl _)
  refine wpList_append_L hgd s x t ho i0 _ 24 ht hi hz0 hz1 hz2 rfl (by decide) v xss hs hown1 (base := base) _ [xs] hx (ReadL.one w0 _ xs [u] hE.cells hE) (by unfold maxLen; simp; omega) (by simp; omega) (Nat.le_trans hbase hal.size) ?_
  intro p c w' k1 k2 k3
  have hfr : Fr (fun k => v.ownBlock = some k) (w0.alloc (.cells #[u] 46)) w' := Fr.grown (F := fun k => v.ownBlock = some k) k2 (fun k h => h)
  refine h p c w' ?_ ?_ ?_ ?_
  · exact OwnL.mono k1 (fun y r hr => hr.fr hfr (fun k hk => by
      obtain ⟨cs, hcs⟩ := OwnL.blkT hown1 k hk
      exact ⟨cs, _, by decide, hcs⟩))
  · exact (hal.mono hbase).trans (hfr.below (Nat.le_trans hbase hal.size) (fun k hk => (OwnL.lt hown k hk).1))
  · exact (Fr.of_below hal _).trans hfr (fun _ _ h => h)
  · rcases k3 with k3 | k3
    · exact .inl k3
    · refine .inr fun k hk => ?_
      have hk2 := Option.some.inj (k3.symm.trans hk)
      have := hal.size
      omega
end

/-! ### the builder -/
def exprE (w : World) (e : Nd × Bool) (row : List Value) : Prop := ∃ a b c, row = [a, b, c, .bool e.2] ∧ NodeIs w e.1 a b c
def machE (w : World) (S : List Sta) (row : List Value) : Prop := ∃ m, row = [.pointer (some ⟨m, 0, none⟩)] ∧ MachR w m S
/-- expressions, and their machines -/
def BuilderR (w : World) (bb : Nat) (l : List (Nd × Bool)) : Prop := ∃ lv mv, w.heap[bb]? = some (.cells #[lv, mv] 105) ∧ ReadL (exprE w) 4 w lv l ∧ ReadL (machE w) 1 w mv (l.map fun e => mach e.1)

theorem BuilderR.to {w w' : World} {bb : Nat} {l : List (Nd × Bool)} (h : BuilderR w bb l) (hb : Below w.heap.size w w') : BuilderR w' bb l := by
  obtain ⟨lv, mv, h1, h2, h3⟩ := h
  refine ⟨lv, mv, (hb.block _ (at_lt h1)).trans h1, (h2.below hb (Nat.le_refl _)).monoE (fun x r hr => ?_), (h3.below hb (Nat.le_refl _)).monoE (fun x r hr => ?_)⟩
  · obtain ⟨a, b, c, rfl, hn⟩ := hr
    exact ⟨a, b, c, rfl, hn.to hb (Nat.le_refl _)⟩
  · obtain ⟨m, rfl, hm⟩ := hr
    exact ⟨m, rfl, hm.to hb⟩

/-- what a builder's cells read as -/
theorem BuilderR.get {w : World} {bb : Nat} {l : List (Nd × Bool)} (h : BuilderR w bb l) : bb < w.heap.size ∧ ∃ pl cl pm cm, w.cell? ⟨bb, 0, none⟩ = some (.slice pl l.length cl) ∧ w.cell? ⟨bb, 1, none⟩ = some (.slice pm l.length cm) ∧ l.length ≤ cl ∧ l.length ≤ cm ∧
    (0 < l.length → ∃ b1 o1 b2 o2, pl = some ⟨b1, o1, none⟩ ∧ pm = some ⟨b2, o2, none⟩ ∧ b1 < w.heap.size ∧ b2 < w.heap.size ∧ ∀ i (hi : i < l.length), w.cell? ⟨b1, o1 + i * 4 + 3, none⟩ = some (.bool l[i].2) ∧ ∃ m, w.cell? ⟨b2, o2 + i, none⟩ = some (.pointer (some ⟨m, 0, none⟩)) ∧ MachR w m (mach l[i].1)) := by
  obtain ⟨lv, mv, h1, h2, h3⟩ := h
  obtain ⟨pl, cl, rfl, g1, g2⟩ := h2.get (by decide)
  obtain ⟨pm, cm, rfl, g3, g4⟩ := h3.get (by decide)
  rw [List.length_map] at g3
  simp only [List.length_map] at h1
  refine ⟨at_lt h1, pl, cl, pm, cm, by simp [World.cell?, h1], by simp [World.cell?, h1], g1, g3, fun h0 => ?_⟩
  obtain ⟨b1, o1, rfl, k1, k2⟩ := g2 h0
  obtain ⟨b2, o2, rfl, k3, k4⟩ := g4 (by rw [List.length_map]; exact h0)
  refine ⟨b1, o1, b2, o2, rfl, rfl, k1, k3, fun i hi => ?_⟩
  obtain ⟨r1, c1, a, b, c, rfl, -⟩ := k2 i hi
  obtain ⟨r2, c2, m, rfl, hm⟩ := k4 i (by simpa using hi)
  refine ⟨c1 3 _ rfl, m, ?_, by simpa using hm⟩
  have := c2 0 _ rfl
  simpa using this

/-- a situation's states are states of the machines -/
def SitOk (l : List (Nd × Bool)) (s : List (List Int)) : Prop := s.length = l.length ∧ ∀ i (h1 : i < l.length) (h2 : i < s.length), (∀ u ∈ s[i], 0 ≤ u ∧ u < (mach l[i].1).length) ∧ s[i].length ≤ 1000

/-- which fit, as bits -/
def bitsL : List Bool → Nat
  | [] => 0
  | b :: r => (if b then 1 else 0) + 2 * bitsL r
theorem bitsL_snoc : ∀ (l : List Bool) (b : Bool), bitsL (l ++ [b]) = bitsL l + (if b then 2 ^ l.length else 0)
  | [], b => by cases b <;> rfl
  | a :: l, b => by
    rw [List.cons_append, bitsL, bitsL_snoc l b, bitsL, List.length_cons, Nat.pow_succ]
    cases b
    · simp
    · simp; omega
theorem bitsL_lt : ∀ (l : List Bool), bitsL l < 2 ^ l.length
  | [] => by simp [bitsL]
  | a :: l => by
    have := bitsL_lt l
    rw [bitsL, List.length_cons, Nat.pow_succ]
    split <;> omega
theorem bitsL_get : ∀ (l : List Bool) (i : Nat) (h : i < l.length), (bitsL l).testBit i = l[i]
  | a :: l, 0, h => by
    rw [bitsL, Nat.testBit_zero]
    cases a
    · simp
    · simp
  | a :: l, i + 1, h => by
    have ih := bitsL_get l i (by simpa using h)
    rw [bitsL, Nat.testBit_succ, List.getElem_cons_succ, ← ih]
    congr 1
    split <;> omega
theorem wrap_pow {k : Nat} (h : k < 64) : IntKind.u64.wrap (2 ^ k) = ((2 ^ k : Nat) : Int) := by
  have h1 : (2 : Nat) ^ k < 2 ^ 64 := Nat.pow_lt_pow_right (by omega) h
  have h2 : ((2 : Int) ^ k) = ((2 ^ k : Nat) : Int) := by simp
  rw [h2]
  generalize 2 ^ k = z at *
  have e : (z : Int) % 18446744073709551616 = z := by omega
  show (if (false && decide ((z : Int) % 18446744073709551616 ≥ 9223372036854775808)) = true then (z : Int) % 18446744073709551616 - 18446744073709551616 else (z : Int) % 18446744073709551616) = z
  rw [e]
  simp
theorem bits_put (l : List Bool) (h : l.length < 64) : bits .or .u64 (bitsL l : Nat) (IntKind.u64.wrap (2 ^ l.length)) = (bitsL (l ++ [true]) : Nat) := by
  have h1 := bitsL_lt l
  have h2 : (2 : Nat) ^ l.length < 2 ^ 64 := Nat.pow_lt_pow_right (by omega) h
  rw [wrap_pow h, u64_or_nat _ _ (by omega) (by omega), bitsL_snoc]
  have h3 := Nat.two_pow_add_eq_or_of_lt h1 1
  rw [Nat.mul_one] at h3
  rw [Nat.or_comm, ← h3]
  simp
  omega
theorem bitsL_inj {l m : List Bool} (h : l.length = m.length) (e : bitsL l = bitsL m) : l = m :=
  List.ext_getElem h fun i h1 h2 => by rw [← bitsL_get l i h1, ← bitsL_get m i h2, e]

set_option maxRecDepth 100000 in
set_option maxHeartbeats 4000000 in
theorem fits_sit (F : Nat → Prop) (w : World) (bb : Nat) (l : List (Nd × Bool)) (hB : BuilderR w bb l) (hl : l.length ≤ 64) (v : Value) (s : List (List Int)) (hs : LLF F w v s) (hok : SitOk l s) :
    Calls Try.prog 85 #[.pointer (some ⟨bb, 0, none⟩), v] w fun e w' => e = .returned (.int .u64 (bitsL (outE s) : Nat)) ∧ w = w' := by
  obtain ⟨hbl, pl, cl, pm, cm, c0, c1, -, hcm, hgg⟩ := hB.get
  obtain ⟨p, cp, rfl, hc, hg⟩ := hs.1.get (by decide)
  obtain ⟨hsl, hsr⟩ := hok
  rw [hsl] at hc ⊢
  have HGG := Lib.hid hgg
  have HG := Lib.hid hg
  have HSR := Lib.hid hsr
  have HSL := Lib.hid hsl
  clear hB hs hgg hg hsr hsl
  go_enter Try.func85, Try.ntmps85
  go_wp2_with fail
  go_loop [5, 13] (fun u i => ∃ k : Nat, i = .int .i64 k ∧ k ≤ l.length ∧ u = .int .u64 (bitsL (outE (s.take k)) : Nat)) (fun _ i => l.length - (intOf i).toNat)
  case atStart => exact ⟨0, rfl, by omega, rfl⟩
  case round =>
    obtain ⟨k, rfl, h1, rfl⟩ := hrel
    by_cases hk : k < l.length
    · obtain ⟨b1, o1, b2, o2, rfl, rfl, hb1, hb2, hcc⟩ := HGG.out (by omega)
      obtain ⟨-, m, d1, hm⟩ := hcc k hk
      have hks : k < s.length := by rw [HSL.out]; exact hk
      obtain ⟨b3, o3, rfl, hb3, hss⟩ := HG.out (by omega)
      obtain ⟨row, hcell, sv, rfl, -, hsv, -⟩ := hss k hks
      have d2 : w.cell? ⟨b3, o3 + k, none⟩ = some sv := by have := hcell 0 sv rfl; simpa using this
      obtain ⟨h2, h3⟩ := HSR.out k hk hks
      have HA := Lib.hid (accepts_any w m (mach l[k].1) hm sv s[k] hsv (by omega))
      obtain ⟨q, cq, rfl, -, -⟩ := hsv.get
      have hkk : (k : Int) < l.length := by omega
      have hk0 : (0 : Int) ≤ k := by omega
      have hk64 : (k : Int) < 64 := by omega
      have HTK := Lib.hid (show outE (s.take (k + 1)) = outE (s.take k) ++ [s[k].any fun u => 1 == u] by rw [List.take_succ_eq_append_getElem hks]; unfold outE; rw [List.map_append]; rfl)
      generalize s[k].any (fun u => 1 == u) = b at *
      generalize s[k].length = sk at *
      clear hcc hss hcell hm hsv h2 h3
      go_wp2_with fail
      refine HA.out.mono ?_
      rintro e w' ⟨rfl, rfl⟩
      cases b
      · go_wp2_with fail
        go_round
        case rel => exact ⟨k + 1, by go_num, by omega, by rw [HTK.out, bitsL_snoc]; rfl⟩
        case measure => simp [intOf]; omega
      · have hlk : (outE (s.take k)).length = k := by unfold outE; rw [List.length_map, List.length_take]; omega
        have HOR := Lib.hid (bits_put (outE (s.take k)) (by omega))
        rw [hlk] at HOR
        clear hlk
        go_wp2_with fail
        go_round
        case rel => exact ⟨k + 1, by go_num, by omega, by rw [HTK.out, ← HOR.out]⟩
        case measure => simp [intOf]; omega
    · have hke : s.take k = s := List.take_of_length_le (by rw [HSL.out]; omega)
      have hkk : ¬ (k : Int) < l.length := by omega
      rw [hke]
      clear hke
      go_wp2_with fail
      go_ret
      exact ⟨rfl, rfl⟩
end Go.Proofs.Ythmaokjhncokdaa

/-
  dfa: the situation behind one class more. No condition beyond what each theorem names.
-/
set_option linter.unusedVariables false
set_option linter.unusedSimpArgs false
namespace Go.Proofs.Ythmaokjhncokdaa
open Go.RowKit

theorem zip_snoc {α β γ : Type} (f : α → β → γ) {l : List α} {s : List β} {k : Nat} (h1 : k < l.length) (h2 : k < s.length) : (List.zipWith f l s).take (k + 1) = (List.zipWith f l s).take k ++ [f l[k] s[k]] := by
  rw [List.take_succ_eq_append_getElem (by simp; omega), List.getElem_zipWith]

theorem stepE_range {S : List Sta} {whole : Bool} {s : List Int} {c v : Int} (h : v ∈ stepE S whole s c) : 0 ≤ v ∧ v < S.length := by
  unfold stepE at h
  split at h
  · exact closedL_range h
  · rcases (mem_uniR (fun v hv => closedL_range hv) (fun v hv => closedL_range hv)).1 h with h | h
    · exact closedL_range h
    · exact closedL_range h
open Classical in
theorem uniR_length (N : Nat) (a b : List Int) : (uniR N a b).length ≤ N := by
  unfold uniR
  rw [List.length_map]
  exact Nat.le_trans (List.length_filter_le _ _) (by simp)
theorem stepE_length (S : List Sta) (whole : Bool) (s : List Int) (c : Int) : (stepE S whole s c).length ≤ S.length := by
  unfold stepE
  split
  · exact closedL_length _ _
  · exact uniR_length _ _ _

theorem SitOk.step {l : List (Nd × Bool)} {s : List (List Int)} (hl : ∀ e ∈ l, RightX e.1) (h : SitOk l s) (c : Nat) : SitOk l ((autoE l).step s c) := by
  refine ⟨by show (List.zipWith _ l s).length = _; simp [h.1], fun i h1 h2 => ?_⟩
  have h3 : i < s.length := by rw [h.1]; exact h1
  have e : ((autoE l).step s c)[i] = stepE (mach l[i].1) l[i].2 s[i] c := by
    simp only [autoE]
    rw [List.getElem_zipWith]
  rw [e]
  have hle := (mach_laws (hl l[i] (List.getElem_mem h1))).len
  exact ⟨fun u hu => stepE_range hu, Nat.le_trans (stepE_length _ _ _ _) hle⟩
theorem SitOk.start {l : List (Nd × Bool)} (hl : ∀ e ∈ l, RightX e.1) : SitOk l (autoE l).start := by
  refine ⟨by show (l.map _).length = _; simp, fun i h1 h2 => ?_⟩
  have e : ((autoE l).start)[i] = closedL (mach l[i].1) [0] := by
    simp only [autoE]
    rw [List.getElem_map]
  rw [e]
  have hle := (mach_laws (hl l[i] (List.getElem_mem h1))).len
  exact ⟨fun u hu => closedL_range hu, Nat.le_trans (closedL_length _ _) hle⟩

set_option maxRecDepth 100000 in
set_option maxHeartbeats 8000000 in
theorem step_sit (F : Nat → Prop) (w : World) (bb : Nat) (l : List (Nd × Bool)) (hB : BuilderR w bb l) (hl : l.length ≤ 64) (hr : ∀ e ∈ l, RightX e.1) (v : Value) (s : List (List Int)) (hs : LLF F w v s) (hok : SitOk l s) (c : Nat) :
    Calls Try.prog 83 #[.pointer (some ⟨bb, 0, none⟩), v, .int .i64 c] w fun e w' => ∃ v', e = .returned v' ∧ OwnLL w.heap.size w' v' ((autoE l).step s c) ∧ Below w.heap.size w w' := by
  have hstep : (autoE l).step s c = List.zipWith (fun (e : Nd × Bool) si => stepE (mach e.1) e.2 si (c : Int)) l s := rfl
  rw [hstep]
  obtain ⟨hbl, pl, cl, pm, cm, c0, c1, hcl, hcm, hgg⟩ := hB.get
  obtain ⟨p, cp, rfl, hc, hg⟩ := hs.1.get (by decide)
  obtain ⟨hsl, hsr⟩ := hok
  rw [hsl] at hc ⊢
  have HGG := Lib.hid hgg
  have HG := Lib.hid hg
  have HSR := Lib.hid hsr
  have HSL := Lib.hid hsl
  have HR := Lib.hid hr
  have HLEN := Lib.hid (show (List.zipWith (fun (e : Nd × Bool) si => stepE (mach e.1) e.2 si (c : Int)) l s).length = l.length by simp [hsl])
  clear hB hs hgg hg hsr hsl hr hstep
  obtain ⟨Z, hZ⟩ : ∃ Z, Z = List.zipWith (fun (e : Nd × Bool) si => stepE (mach e.1) e.2 si (c : Int)) l s := ⟨_, rfl⟩
  rw [← hZ] at HLEN ⊢
  have HZ := Lib.hid hZ
  clear hZ
  have C0 := Lib.hid c0
  have C1 := Lib.hid c1
  go_enter Try.func83, Try.ntmps83
  go_wp2_with fail
  clear c0 c1
  go_loopw [7, 16] (fun u i wr => ∃ k : Nat, i = .int .i64 k ∧ k ≤ l.length ∧ OwnLL w.heap.size wr u (Z.take k) ∧ Below w.heap.size w wr) (fun _ i _ => l.length - (intOf i).toNat)
  case atStart => exact ⟨0, rfl, by omega, OwnLL.nil _ _, Below.refl _ _⟩
  case round =>
    obtain ⟨k, rfl, h1, hown, hb⟩ := hrel
    obtain ⟨pu, cu, hu⟩ := OwnL.form hown
    subst hu
    have hul : (Z.take k).length = k := by rw [List.length_take, HLEN.out]; omega
    rw [hul] at hown ⊢
    have HOW := Lib.hid hown
    have HB := Lib.hid hb
    have hbs := hb.size
    clear hown hul
    by_cases hk : k < l.length
    · obtain ⟨b1, o1, b2, o2, rfl, rfl, hb1, hb2, hcc⟩ := HGG.out (by omega)
      obtain ⟨d0, m, d1, hm⟩ := hcc k hk
      have hks : k < s.length := by rw [HSL.out]; exact hk
      obtain ⟨b3, o3, rfl, hb3, hss⟩ := HG.out (by omega)
      obtain ⟨row, hcell, sv, rfl, -, hsv, -⟩ := hss k hks
      have d2 : w.cell? ⟨b3, o3 + k, none⟩ = some sv := by have := hcell 0 sv rfl; simpa using this
      obtain ⟨h2, h3⟩ := HSR.out k hk hks
      have hlw := mach_laws (HR.out l[k] (List.getElem_mem hk))
      have HZK := Lib.hid (show Z.take (k + 1) = Z.take k ++ [stepE (mach l[k].1) l[k].2 s[k] c] by rw [HZ.out]; exact zip_snoc _ hk hks)
      have y0 := cell_below hb hbl C0.out
      have y1 := cell_below hb hb1 d0
      have y2 := cell_below hb hb2 d1
      have y3 := cell_below hb hb3 d2
      have HM := Lib.hid (hm.to (hb.mono (Nat.le_refl _)))
      have HST := Lib.hid (step_any wr m (mach l[k].1) HM.out hlw sv s[k] c (hsv.to hb (Nat.le_refl _)) (by omega) h2)
      obtain ⟨q, cq, rfl, -, -⟩ := hsv.get
      have HLW := Lib.hid hlw
      have hkk : (k : Int) < l.length := by omega
      have hk0 : (0 : Int) ≤ k := by omega
      clear hcc hss hcell hm hsv h2 hlw
      generalize mach l[k].1 = S at *
      generalize s[k] = sk at *
      obtain ⟨wh, hwh⟩ : ∃ wh, wh = l[k].2 := ⟨_, rfl⟩
      rw [← hwh] at y1 HZK
      clear hwh d0 d1 d2
      go_wp2_with fail
      refine HST.out.mono ?_
      rintro e w1 ⟨u1, rfl, hown1, hbw1⟩
      obtain ⟨p1, q1, hu1⟩ := hown1.form
      subst hu1
      have HO1 := Lib.hid hown1
      have HB1 := Lib.hid hbw1
      have HL1 := Lib.hid (closedL_length S (stepTo S sk c))
      have z0 := (hbw1.cell (p := ⟨bb, 0, none⟩) (World.block_lt_of_cell? wr _ y0)).trans y0
      have z1 := (hbw1.cell (p := ⟨b1, o1 + k * 4 + 3, none⟩) (World.block_lt_of_cell? wr _ y1)).trans y1
      clear hown1 hbw1 y0 y1 y2 y3
      cases wh
      · have HST2 := Lib.hid (start_any w1 m S (HM.out.to HB1.out) HLW.out)
        go_wp2_with fail
        refine HST2.out.mono ?_
        rintro e w2 ⟨u2, rfl, hown2, hbw2⟩
        obtain ⟨p2, q2, hu2⟩ := hown2.form
        subst hu2
        have HO2 := Lib.hid hown2
        have HB2 := Lib.hid (HB1.out.trans (hbw2.mono HB1.out.size))
        have HO12 := Lib.hid (HO1.out.below hbw2 (Nat.le_refl _))
        have HL2 := Lib.hid (closedL_length S [0])
        have hls := HLW.out.len
        clear hown2 hbw2 z0 z1
        go_wp2_with (refine wpList_append_ints rfl (.tmp 37) (.tmp 39) rfl _ (closedL S (stepTo S sk c)) rfl (base := wr.heap.size) HO12.out _ (closedL S [0]) rfl HO2.out.read (by have := HL1.out; have := HL2.out; omega) HB2.out.size ?_; intro p3 c3 w3 hown3 hg3 hlie3)
        have HO3 := Lib.hid hown3
        have HB3 := Lib.hid (HB2.out.trans ((Fr.grown (F := fun q => (Value.slice p1 (closedL S (stepTo S sk c)).length q1).ownBlock = some q) hg3 (fun q h => h)).below HB2.out.size (fun q hq => (HO12.out.lt q hq).1)))
        clear hown3 hg3 hlie3
        have HSORT := Lib.hid (sort_own wr.heap.size w3 _ _ HO3.out (by have := HL1.out; have := HL2.out; rw [List.length_append]; omega))
        go_wp2_with fail
        refine HSORT.out.mono ?_
        rintro e w4 ⟨rfl, hown4, hg4⟩
        have HO4 := Lib.hid hown4
        have HB4 := Lib.hid (HB3.out.trans ((Fr.grown (F := fun q => (Value.slice p3 ((closedL S (stepTo S sk c)).length + (closedL S [0]).length) c3).ownBlock = some q) hg4 (fun q h => h)).below HB3.out.size (fun q hq => (HO3.out.lt q hq).1)))
        clear hown4 hg4
        have HCOMP := Lib.hid (compact_own wr.heap.size w4 _ _ HO4.out (by have := HL1.out; have := HL2.out; rw [List.length_mergeSort, List.length_append]; omega))
        have HDED := Lib.hid (ded_sorted_uni (N := S.length) (a := closedL S (stepTo S sk c)) (b := closedL S [0]) (fun v hv => closedL_range hv) (fun v hv => closedL_range hv))
        go_wp2_with fail
        refine HCOMP.out.mono ?_
        rintro e w5 ⟨u5, rfl, hown5, hf5, -⟩
        rw [HDED.out] at hown5
        obtain ⟨p5, q5, hu5⟩ := hown5.form
        subst hu5
        have HO5 := Lib.hid hown5
        have HB5 := Lib.hid (HB4.out.trans (hf5.below HB4.out.size (fun q hq => (HO4.out.lt q hq).1)))
        have HSE := Lib.hid (show stepE S false sk c = uniR S.length (closedL S (stepTo S sk c)) (closedL S [0]) from if_neg (by simp))
        rw [HSE.out] at HZK
        have HLE := Lib.hid (HOW.out.below HB5.out (Nat.le_refl _))
        have hwl := HB5.out.size
        clear hown5 hf5
        go_wp2_with (refine wpList_append_LL rfl (.tmp 45) (.tmp 47) 141 Try.underlying141 rfl _ (Z.take k) k (by rw [List.length_take, HLEN.out]; omega) rfl w5 HLE.out _ (uniR S.length (closedL S (stepTo S sk c)) (closedL S [0])) (HO5.out.based hbs) rfl rfl (by omega) (Nat.le_trans hbs hwl) ?_; intro p6 c6 w6 hown6 hb6 hf6 hl6)
        have HREL := Lib.hid (show OwnLL w.heap.size w6 (.slice p6 (k + 1) c6) (Z.take (k + 1)) ∧ Below w.heap.size w w6 by
          refine ⟨by rw [HZK.out]; exact hown6, HB.out.trans ((HB5.out.mono hbs).trans hb6)⟩)
        clear hown6 hb6 hf6 hl6 hb
        go_wp2_with fail
        go_roundw
        case rel => exact ⟨k + 1, by go_num, by omega, HREL.out.1, HREL.out.2⟩
        case measure => simp [intOf]; omega
      · have HLE := Lib.hid (HOW.out.below HB1.out (Nat.le_refl _))
        have hwl := HB1.out.size
        go_wp2_with (refine wpList_append_LL rfl (.tmp 45) (.tmp 47) 141 Try.underlying141 rfl _ (Z.take k) k (by rw [List.length_take, HLEN.out]; omega) rfl w1 HLE.out _ (closedL S (stepTo S sk c)) (HO1.out.based hbs) rfl rfl (by omega) (Nat.le_trans hbs hwl) ?_; intro p4 c4 w4 hown4 hb4 hf4 hl4)
        have HREL := Lib.hid (show OwnLL w.heap.size w4 (.slice p4 (k + 1) c4) (Z.take (k + 1)) ∧ Below w.heap.size w w4 by
          refine ⟨by rw [HZK.out]; exact hown4, HB.out.trans ((HB1.out.mono hbs).trans hb4)⟩)
        clear hown4 hb4 hf4 hl4 hb z0 z1
        go_wp2_with fail
        go_roundw
        case rel => exact ⟨k + 1, by go_num, by omega, HREL.out.1, HREL.out.2⟩
        case measure => simp [intOf]; omega
    · have hkk : ¬ (k : Int) < l.length := by omega
      have hke : Z.take k = Z := List.take_of_length_le (by rw [HLEN.out]; omega)
      rw [hke] at HOW
      clear hke
      go_wp2_with fail
      go_ret
      exact ⟨_, rfl, HOW.out, HB.out⟩
end Go.Proofs.Ythmaokjhncokdaa

/-
  dfa.number: of a key its number, in the order in which keys are met. No condition beyond what each theorem names.
-/
set_option linter.unusedVariables false
set_option linter.unusedSimpArgs false
namespace Go.Proofs.Ythmaokjhncokdaa
open Go.RowKit Go.Maps Classical

section
variable {H : Type}
/-- the numbers of keys, in the order in which they are met -/
def numD (ks : List Lit) : DataW H := ks.zipIdx.foldl (fun D p => D.put p.1 (.lit (.int .i64 (p.2 : Nat)))) (.map [])

theorem numD_snoc (ks : List Lit) (k : Lit) : numD (H := H) (ks ++ [k]) = (numD ks).put k (.lit (.int .i64 (ks.length : Nat))) := by
  simp [numD, List.zipIdx_append, List.foldl_append]

theorem num_facts : ∀ (n : Nat) (ks : List Lit), ks.length = n → ks.Nodup → (∀ k ∈ ks, WideAt.IsKeyLit k) →
    Tidy (numD (H := H) ks) ∧ Maps.size (numD (H := H) ks) = ks.length ∧ (∀ k, WideAt.IsKeyLit k → Maps.has (numD (H := H) ks) k = decide (k ∈ ks)) ∧ ∀ k ∈ ks, (numD (H := H) ks).atKey k (.lit (.int .i64 0)) = .lit (.int .i64 (place ks k : Nat))
  | 0, ks, h, _, _ => by
    obtain rfl : ks = [] := List.eq_nil_of_length_eq_zero h
    exact ⟨tidy_empty, rfl, fun k _ => by simp [numD, Maps.has], fun k hk => by simp at hk⟩
  | n + 1, ks, h, hd, hk => by
    obtain ⟨r, x, rfl⟩ : ∃ r x, ks = r ++ [x] := by
      rcases List.eq_nil_or_concat ks with rfl | ⟨r, x, rfl⟩
      · simp at h
      · exact ⟨r, x, by simp⟩
    rw [List.nodup_append] at hd
    have hxr : x ∉ r := fun hx => hd.2.2 x hx x (by simp) rfl
    have hkx := hk x (by simp)
    obtain ⟨h1, h2, h3, h4⟩ := num_facts n r (by simpa using h) hd.1 (fun k hk2 => hk k (by simp [hk2]))
    have hno : Maps.has (numD (H := H) r) x = false := by rw [h3 x hkx]; exact decide_eq_false hxr
    rw [numD_snoc]
    refine ⟨h1.put hkx _, ?_, fun k hkl => ?_, fun k hkm => ?_⟩
    · rw [size_put h1, hno, h2]; simp
    · by_cases e : k = x
      · subst e
        rw [has_put_same h1.isMap hkx]
        simp
      · rw [has_put_other e, h3 k hkl]
        simp [e]
    · by_cases e : k = x
      · subst e
        rw [atKey_put_same h1.isMap hkx]
        have hp := place_put r k
        rw [putS, if_neg hxr, place_new hxr] at hp
        rw [hp]
      · rw [atKey_put_other e]
        have hkr : k ∈ r := by
          rcases List.mem_append.1 hkm with h5 | h5
          · exact h5
          · exact absurd (List.mem_singleton.1 h5) e
        rw [h4 k hkr, place_pre (List.prefix_append r [x]) hkr]
end

theorem lawS : Keyed Try.prog 9 := string_keyed Try.underlying9
theorem lawI : Keyed Try.prog 3 := int_keyed Try.underlying3
theorem lawU : Keyed Try.prog 37 := int_keyed Try.underlying37
theorem zeroI (w : World) : (zeroValue 3).run Try.prog w = .ok (.int .i64 0) w := by kernel_rfl

/-- block b is a map that numbers these keys, in their order -/
def NumMap (K : TypeId) (w : World) (b : Nat) (ks : List Lit) : Prop := ks.Nodup ∧ (∀ k ∈ ks, WideAt.IsKeyLit k) ∧ w.ownsMap Try.prog K (plainElem (H := Unit) Try.prog 3) b ks.length (numD ks)

theorem NumMap.kept {K : TypeId} {w w' : World} {b : Nat} {ks : List Lit} (h : NumMap K w b ks) {row : Option Nat} (hg : w.grownBy w' row) (hne : some b ≠ row) : NumMap K w' b ks := ⟨h.1, h.2.1, h.2.2.kept hg hne⟩
theorem NumMap.fr {K : TypeId} {w w' : World} {b : Nat} {ks : List Lit} {F : Nat → Prop} (h : NumMap K w b ks) (hf : Fr F w w') (hn : ¬ F b) : NumMap K w' b ks := by
  refine ⟨h.1, h.2.1, ?_⟩
  obtain ⟨es, clock, hb, r⟩ := h.2.2
  exact ⟨es, clock, (hf.block b (Array.getElem?_eq_some_iff.1 hb).1 hn).trans hb, r⟩
theorem NumMap.lt {K : TypeId} {w : World} {b : Nat} {ks : List Lit} (h : NumMap K w b ks) : b < w.heap.size := h.2.2.lt
theorem NumMap.new (K : TypeId) (w : World) : NumMap K (w.alloc (.map #[] 0)) w.heap.size [] := ⟨by simp, by simp, World.ownsMap_made w _ _ _⟩
/-- the map's block is no row -/
theorem NumMap.notAt {K T : TypeId} {w : World} {b k : Nat} {ks : List Lit} {cs : Array Value} (h : NumMap K w b ks) (hb : w.heap[k]? = some (.cells cs T)) : k ≠ b := by
  obtain ⟨es, clock, h1, r⟩ := h.2.2
  rintro rfl
  rw [h1] at hb
  cases hb

/-- 'insert' into a map: as a store -/
theorem wpList_insert_own {H : Type} {P : Program} (w : World) {ops : Array Oper} {rest : List Oper} {o : Oper} {a : Act} {Q : Exit → Act → World → Prop}
    (hg : o.guard = none) (m x v : Operand) (t : TypeId) (hop : o.op = Op.insert t m x v)
    (k e : TypeId) (K : Keyed P k) (ht : P.underlying t = some (.map k e)) (R : Value → Option (DataW H × List MemPlace)) (b n : Nat) (D : DataW H)
    (hm : a.eval m = .map (some b)) (hown : w.ownsMap P k R b n D) (hn : n < maxLen) (key val : Value) (kl : Lit) (hx : a.eval x = key) (hv : a.eval v = val) (hkey : keyOf P k key = some kl)
    (d : DataW H) (ps : List MemPlace) (hval : R val = some (d, ps))
    (hK : ∀ w', w'.ownsMap P k R b (n + 1) (D.put kl d) → w.grownBy w' (some b) → wpList P ops Q rest (a.put o.dst undef) w') :
    wpList P ops Q (o :: rest) a w := by
  refine wpList_plain hg fun K' hK' => ?_
  obtain ⟨w', hrun, r1, r2⟩ := hown.update K ht hn hkey hval
  unfold Oper.wp
  simp [execOp, hop, hm, hx, hv, hrun, Result.andThen]
  exact hK' _ _ (hK w' r1 r2)

set_option maxRecDepth 100000 in
set_option maxHeartbeats 4000000 in
theorem number_str (w : World) (b : Nat) (ks : List Lit) (s : ByteArray) (h : NumMap 9 w b ks) (hs : s.size ≤ maxLen) (hn : ks.length ≤ 1000000) :
    Calls Try.prog 84 #[.map (some b), .string s] w fun e w' => e = .returned (.tuple #[.int .i64 (place ks (Lit.string s.data.toList) : Nat), .bool (!decide (Lit.string s.data.toList ∈ ks))]) ∧ NumMap 9 w' b (putS ks (Lit.string s.data.toList)) ∧ w.grownBy w' (some b) := by
  obtain ⟨hnd, hks, hown⟩ := h
  have hkey : keyOf Try.prog 9 (.string s) = some (Lit.string s.data.toList) := WideMaps.keyOf_string_mk Try.underlying9 hs
  obtain ⟨kl, hkl⟩ : ∃ kl, kl = Lit.string s.data.toList := ⟨_, rfl⟩
  rw [← hkl] at hkey ⊢
  have hik : WideAt.IsKeyLit kl := lawS.key hkey
  obtain ⟨f1, f2, f3, f4⟩ := num_facts (H := Unit) _ ks rfl hnd hks
  have h3 := f3 kl hik
  have h4 := f4 kl
  have hz := zeroI
  clear f3 f4
  by_cases hm : kl ∈ ks
  · have hhas : Maps.has (numD (H := Unit) ks) kl = true := by rw [h3]; exact decide_eq_true hm
    have hat0 := h4 hm
    have hd : decide (kl ∈ ks) = true := decide_eq_true hm
    have hp : putS ks kl = ks := by rw [putS, if_pos hm]
    rw [hd, hp]
    have HOWN := Lib.hid hown
    have HAT := Lib.hid hat0
    have HND := Lib.hid hnd
    have HKS := Lib.hid hks
    have HHAS := Lib.hid hhas
    generalize place ks kl = pl at *
    clear h3 h4 f1 f2 hm hd hp hhas hat0 hnd hks
    go_enter Try.func84, Try.ntmps84
    go_wp2_with (first | (at_lookup; refine wpList_lookup_own_ok_int _ rfl _ _ 144 rfl 9 3 .i64 lawS Try.underlying144 Try.underlying3 (zeroI _) b ks.length _ rfl hown _ kl rfl hkey ?_; intro c hat hwc; rw [HHAS.out]; obtain rfl : c = (pl : Nat) := by (rw [HAT.out] at hat; cases hat; rfl)) | fail)
    go_ret2
    exact ⟨rfl, ⟨HND.out, HKS.out, HOWN.out⟩, ⟨rfl, rfl, rfl, Nat.le_refl _, fun _ _ _ => rfl⟩⟩
  · have hhas : Maps.has (numD (H := Unit) ks) kl = false := by rw [h3]; exact decide_eq_false hm
    have hd : decide (kl ∈ ks) = false := decide_eq_false hm
    have hp : putS ks kl = ks ++ [kl] := by rw [putS, if_neg hm]
    have hpl : place ks kl = ks.length := place_new hm
    have hnd2 : (ks ++ [kl]).Nodup := by rw [← hp]; exact putS_nodup hnd
    have hks2 : ∀ k ∈ ks ++ [kl], WideAt.IsKeyLit k := fun k hk => by
      rcases List.mem_append.1 hk with hk | hk
      · exact hks k hk
      · rw [List.mem_singleton.1 hk]; exact hik
    rw [hd, hp, hpl]
    have HND := Lib.hid hnd2
    have HKS := Lib.hid hks2
    have HHAS := Lib.hid hhas
    have HSZ := Lib.hid f2
    have hwf : (Lit.int .i64 (ks.length : Nat)).wf = true := WalkArith.wf_i64 (by omega)
    have HWF := Lib.hid hwf
    clear h3 h4 f1 f2 hm hd hp hpl hhas hnd hks hnd2 hks2 hwf
    go_enter Try.func84, Try.ntmps84
    go_wp2_with (first
      | (at_lookup; refine wpList_lookup_own_ok_int _ rfl _ _ 144 rfl 9 3 .i64 lawS Try.underlying144 Try.underlying3 (zeroI _) b ks.length _ rfl hown _ kl rfl hkey ?_; intro c hat hwc; rw [HHAS.out])
      | (at_len; refine wpList_len_own _ rfl _ 144 rfl 9 3 Try.underlying144 _ b ks.length _ rfl hown ?_; rw [HSZ.out])
      | (at_mapUpdate; refine wpList_mapUpdate_own _ rfl _ _ _ 144 rfl 9 3 lawS Try.underlying144 _ b ks.length _ rfl hown (by unfold maxLen; omega) _ _ kl rfl rfl hkey _ [] (plainElem_int Try.underlying3 HWF.out) ?_; intro w1 hown1 hgrow1)
      | fail)
    go_ret2
    refine ⟨rfl, ⟨HND.out, HKS.out, ?_⟩, hgrow1⟩
    rw [numD_snoc, List.length_append]
    exact hown1

set_option maxRecDepth 100000 in
set_option maxHeartbeats 4000000 in
theorem number_int (w : World) (b : Nat) (ks : List Lit) (s : Int) (h : NumMap 3 w b ks) (hs : (Lit.int .i64 s).wf = true) (hn : ks.length ≤ 1000000) :
    Calls Try.prog 87 #[.map (some b), .int .i64 s] w fun e w' => e = .returned (.tuple #[.int .i64 (place ks (Lit.int .i64 s) : Nat), .bool (!decide (Lit.int .i64 s ∈ ks))]) ∧ NumMap 3 w' b (putS ks (Lit.int .i64 s)) ∧ w.grownBy w' (some b) := by
  obtain ⟨hnd, hks, hown⟩ := h
  have hkey : keyOf Try.prog 3 (.int .i64 s) = some (Lit.int .i64 s) := keyOf_int_mk Try.underlying3 hs
  obtain ⟨kl, hkl⟩ : ∃ kl, kl = Lit.int .i64 s := ⟨_, rfl⟩
  rw [← hkl] at hkey ⊢
  have hik : WideAt.IsKeyLit kl := lawI.key hkey
  obtain ⟨f1, f2, f3, f4⟩ := num_facts (H := Unit) _ ks rfl hnd hks
  have h3 := f3 kl hik
  have h4 := f4 kl
  have hz := zeroI
  clear f3 f4
  by_cases hm : kl ∈ ks
  · have hhas : Maps.has (numD (H := Unit) ks) kl = true := by rw [h3]; exact decide_eq_true hm
    have hat0 := h4 hm
    have hd : decide (kl ∈ ks) = true := decide_eq_true hm
    have hp : putS ks kl = ks := by rw [putS, if_pos hm]
    rw [hd, hp]
    have HOWN := Lib.hid hown
    have HAT := Lib.hid hat0
    have HND := Lib.hid hnd
    have HKS := Lib.hid hks
    have HHAS := Lib.hid hhas
    generalize place ks kl = pl at *
    clear h3 h4 f1 f2 hm hd hp hhas hat0 hnd hks
    go_enter Try.func87, Try.ntmps87
    go_wp2_with (first | (at_lookup; refine wpList_lookup_own_ok_int _ rfl _ _ 150 rfl 3 3 .i64 lawI Try.underlying150 Try.underlying3 (zeroI _) b ks.length _ rfl hown _ kl rfl hkey ?_; intro c hat hwc; rw [HHAS.out]; obtain rfl : c = (pl : Nat) := by (rw [HAT.out] at hat; cases hat; rfl)) | fail)
    go_ret2
    exact ⟨rfl, ⟨HND.out, HKS.out, HOWN.out⟩, ⟨rfl, rfl, rfl, Nat.le_refl _, fun _ _ _ => rfl⟩⟩
  · have hhas : Maps.has (numD (H := Unit) ks) kl = false := by rw [h3]; exact decide_eq_false hm
    have hd : decide (kl ∈ ks) = false := decide_eq_false hm
    have hp : putS ks kl = ks ++ [kl] := by rw [putS, if_neg hm]
    have hpl : place ks kl = ks.length := place_new hm
    have hnd2 : (ks ++ [kl]).Nodup := by rw [← hp]; exact putS_nodup hnd
    have hks2 : ∀ k ∈ ks ++ [kl], WideAt.IsKeyLit k := fun k hk => by
      rcases List.mem_append.1 hk with hk | hk
      · exact hks k hk
      · rw [List.mem_singleton.1 hk]; exact hik
    rw [hd, hp, hpl]
    have HND := Lib.hid hnd2
    have HKS := Lib.hid hks2
    have HHAS := Lib.hid hhas
    have HSZ := Lib.hid f2
    have hwf : (Lit.int .i64 (ks.length : Nat)).wf = true := WalkArith.wf_i64 (by omega)
    have HWF := Lib.hid hwf
    clear h3 h4 f1 f2 hm hd hp hpl hhas hnd hks hnd2 hks2 hwf
    go_enter Try.func87, Try.ntmps87
    go_wp2_with (first
      | (at_lookup; refine wpList_lookup_own_ok_int _ rfl _ _ 150 rfl 3 3 .i64 lawI Try.underlying150 Try.underlying3 (zeroI _) b ks.length _ rfl hown _ kl rfl hkey ?_; intro c hat hwc; rw [HHAS.out])
      | (at_len; refine wpList_len_own _ rfl _ 150 rfl 3 3 Try.underlying150 _ b ks.length _ rfl hown ?_; rw [HSZ.out])
      | (at_mapUpdate; refine wpList_mapUpdate_own _ rfl _ _ _ 150 rfl 3 3 lawI Try.underlying150 _ b ks.length _ rfl hown (by unfold maxLen; omega) _ _ kl rfl rfl hkey _ [] (plainElem_int Try.underlying3 HWF.out) ?_; intro w1 hown1 hgrow1)
      | fail)
    go_ret2
    refine ⟨rfl, ⟨HND.out, HKS.out, ?_⟩, hgrow1⟩
    rw [numD_snoc, List.length_append]
    exact hown1

set_option maxRecDepth 100000 in
set_option maxHeartbeats 4000000 in
theorem number_u64 (w : World) (b : Nat) (ks : List Lit) (s : Int) (h : NumMap 37 w b ks) (hs : (Lit.int .u64 s).wf = true) (hn : ks.length ≤ 1000000) :
    Calls Try.prog 107 #[.map (some b), .int .u64 s] w fun e w' => e = .returned (.tuple #[.int .i64 (place ks (Lit.int .u64 s) : Nat), .bool (!decide (Lit.int .u64 s ∈ ks))]) ∧ NumMap 37 w' b (putS ks (Lit.int .u64 s)) ∧ w.grownBy w' (some b) := by
  obtain ⟨hnd, hks, hown⟩ := h
  have hkey : keyOf Try.prog 37 (.int .u64 s) = some (Lit.int .u64 s) := keyOf_int_mk Try.underlying37 hs
  obtain ⟨kl, hkl⟩ : ∃ kl, kl = Lit.int .u64 s := ⟨_, rfl⟩
  rw [← hkl] at hkey ⊢
  have hik : WideAt.IsKeyLit kl := lawU.key hkey
  obtain ⟨f1, f2, f3, f4⟩ := num_facts (H := Unit) _ ks rfl hnd hks
  have h3 := f3 kl hik
  have h4 := f4 kl
  have hz := zeroI
  clear f3 f4
  by_cases hm : kl ∈ ks
  · have hhas : Maps.has (numD (H := Unit) ks) kl = true := by rw [h3]; exact decide_eq_true hm
    have hat0 := h4 hm
    have hd : decide (kl ∈ ks) = true := decide_eq_true hm
    have hp : putS ks kl = ks := by rw [putS, if_pos hm]
    rw [hd, hp]
    have HOWN := Lib.hid hown
    have HAT := Lib.hid hat0
    have HND := Lib.hid hnd
    have HKS := Lib.hid hks
    have HHAS := Lib.hid hhas
    generalize place ks kl = pl at *
    clear h3 h4 f1 f2 hm hd hp hhas hat0 hnd hks
    go_enter Try.func107, Try.ntmps107
    go_wp2_with (first | (at_lookup; refine wpList_lookup_own_ok_int _ rfl _ _ 172 rfl 37 3 .i64 lawU Try.underlying172 Try.underlying3 (zeroI _) b ks.length _ rfl hown _ kl rfl hkey ?_; intro c hat hwc; rw [HHAS.out]; obtain rfl : c = (pl : Nat) := by (rw [HAT.out] at hat; cases hat; rfl)) | fail)
    go_ret2
    exact ⟨rfl, ⟨HND.out, HKS.out, HOWN.out⟩, ⟨rfl, rfl, rfl, Nat.le_refl _, fun _ _ _ => rfl⟩⟩
  · have hhas : Maps.has (numD (H := Unit) ks) kl = false := by rw [h3]; exact decide_eq_false hm
    have hd : decide (kl ∈ ks) = false := decide_eq_false hm
    have hp : putS ks kl = ks ++ [kl] := by rw [putS, if_neg hm]
    have hpl : place ks kl = ks.length := place_new hm
    have hnd2 : (ks ++ [kl]).Nodup := by rw [← hp]; exact putS_nodup hnd
    have hks2 : ∀ k ∈ ks ++ [kl], WideAt.IsKeyLit k := fun k hk => by
      rcases List.mem_append.1 hk with hk | hk
      · exact hks k hk
      · rw [List.mem_singleton.1 hk]; exact hik
    rw [hd, hp, hpl]
    have HND := Lib.hid hnd2
    have HKS := Lib.hid hks2
    have HHAS := Lib.hid hhas
    have HSZ := Lib.hid f2
    have hwf : (Lit.int .i64 (ks.length : Nat)).wf = true := WalkArith.wf_i64 (by omega)
    have HWF := Lib.hid hwf
    clear h3 h4 f1 f2 hm hd hp hpl hhas hnd hks hnd2 hks2 hwf
    go_enter Try.func107, Try.ntmps107
    go_wp2_with (first
      | (at_lookup; refine wpList_lookup_own_ok_int _ rfl _ _ 172 rfl 37 3 .i64 lawU Try.underlying172 Try.underlying3 (zeroI _) b ks.length _ rfl hown _ kl rfl hkey ?_; intro c hat hwc; rw [HHAS.out])
      | (at_len; refine wpList_len_own _ rfl _ 172 rfl 37 3 Try.underlying172 _ b ks.length _ rfl hown ?_; rw [HSZ.out])
      | (at_mapUpdate; refine wpList_mapUpdate_own _ rfl _ _ _ 172 rfl 37 3 lawU Try.underlying172 _ b ks.length _ rfl hown (by unfold maxLen; omega) _ _ kl rfl rfl hkey _ [] (plainElem_int Try.underlying3 HWF.out) ?_; intro w1 hown1 hgrow1)
      | fail)
    go_ret2
    refine ⟨rfl, ⟨HND.out, HKS.out, ?_⟩, hgrow1⟩
    rw [numD_snoc, List.length_append]
    exact hown1
end Go.Proofs.Ythmaokjhncokdaa

/-
  dfa: what all has while it goes through the situations. No condition beyond what each theorem names.
-/
set_option linter.unusedVariables false
set_option linter.unusedSimpArgs false
namespace Go.Proofs.Ythmaokjhncokdaa
open Go.RowKit Classical

section
variable {σ τ : Type}
theorem key_place {P : σ → Prop} {f : σ → τ} (hf : ∀ x y, P x → P y → f x = f y → x = y) {l : List σ} {s : σ} (hl : ∀ y ∈ l, P y) (hs : P s) :
    place (l.map f) (f s) = place l s ∧ putS (l.map f) (f s) = (putS l s).map f ∧ (f s ∈ l.map f ↔ s ∈ l) := by
  have h : ∀ y ∈ l, f y = f s ↔ id y = id s := fun y hy => ⟨fun e => hf y s (hl y hy) hs e, fun e => by rw [show y = s from e]⟩
  have h1 := place_map (f := f) (g := id) (x := s) (l := l) h
  have h2 := mem_map_iff (f := f) (g := id) (x := s) (l := l) h
  rw [List.map_id] at h1 h2
  refine ⟨h1, ?_, h2⟩
  unfold putS
  by_cases hm : s ∈ l
  · rw [if_pos hm, if_pos (h2.2 hm)]
  · rw [if_neg hm, if_neg (fun h3 => hm (h2.1 h3)), List.map_append]
    rfl

theorem put_allP {P : σ → Prop} {l : List σ} {s : σ} (hl : ∀ x ∈ l, P x) (hs : P s) : ∀ x ∈ putS l s, P x := by
  intro x hx
  rcases put_mem_iff.1 hx with h | h
  · exact hl x h
  · rw [h]; exact hs
theorem row_allP {A : Auto σ} {P : σ → Prop} (hst : ∀ s, P s → ∀ c, P (A.step s c)) {s : σ} (hs : P s) {l : List σ} (hl : ∀ x ∈ l, P x) : ∀ c, ∀ x ∈ rowS A s l c, P x
  | 0 => hl
  | c + 1 => put_allP (row_allP hst hs hl c) (hst s hs c)
theorem cl_allP {A : Auto σ} {P : σ → Prop} (hst : ∀ s, P s → ∀ c, P (A.step s c)) (h0 : P A.start) (classes : Nat) : ∀ n, ∀ x ∈ cl A classes n, P x
  | 0 => fun x hx => by rw [cl] at hx; rw [List.mem_singleton.1 hx]; exact h0
  | n + 1 => by
    rw [cl]
    split
    · rename_i s hs
      exact row_allP hst (cl_allP hst h0 classes n s (List.mem_of_getElem? hs)) (cl_allP hst h0 classes n) classes
    · exact cl_allP hst h0 classes n

/-- the ways of the first n -/
noncomputable def nextsAt (A : Auto σ) (classes n : Nat) : List (List Nat) := ((cl A classes n).take n).map fun s => (List.range classes).map fun c => place (cl A classes n) (A.step s c)
def outsAt {β : Type} (L : List σ) (out : σ → β) (n : Nat) : List β := (L.take n).map out
/-- one's ways, as they are met -/
noncomputable def rowN (A : Auto σ) (L : List σ) (s : σ) (k : Nat) : List Nat := (List.range k).map fun c => place (rowS A s L c) (A.step s c)
theorem rowN_snoc (A : Auto σ) (L : List σ) (s : σ) (k : Nat) : rowN A L s (k + 1) = rowN A L s k ++ [place (rowS A s L k) (A.step s k)] := by
  unfold rowN
  rw [List.range_succ, List.map_append]
  rfl
theorem rowN_length (A : Auto σ) (L : List σ) (s : σ) (k : Nat) : (rowN A L s k).length = k := by simp [rowN]

theorem cl_succ {A : Auto σ} {classes n : Nat} {s : σ} (hs : (cl A classes n)[n]? = some s) : cl A classes (n + 1) = rowS A s (cl A classes n) classes := by rw [cl, hs]
theorem cl_take {A : Auto σ} {classes n : Nat} {s : σ} (hs : (cl A classes n)[n]? = some s) : (cl A classes (n + 1)).take (n + 1) = (cl A classes n).take n ++ [s] := by
  have hl := (List.getElem?_eq_some_iff.1 hs)
  obtain ⟨r, e⟩ := cl_pre A classes n
  have hl1 := hl.1
  rw [← e, List.take_append_of_le_length (by omega), List.take_succ_eq_append_getElem hl.1, hl.2]
theorem nextsAt_succ {A : Auto σ} {classes n : Nat} {s : σ} (hs : (cl A classes n)[n]? = some s) : nextsAt A classes (n + 1) = nextsAt A classes n ++ [rowN A (cl A classes n) s classes] := by
  unfold nextsAt
  rw [cl_take hs, List.map_append]
  congr 1
  · apply List.map_congr_left
    intro x hx
    apply List.map_congr_left
    intro c hc
    obtain ⟨i, hi, e⟩ := List.getElem_of_mem hx
    rw [List.length_take] at hi
    rw [List.getElem_take] at e
    exact place_pre (cl_pre A classes n) (cl_closed (k := i) (by omega) (by rw [List.getElem?_eq_getElem (by omega), e]) c (List.mem_range.1 hc))
  · simp only [List.map_cons, List.map_nil, List.cons.injEq, and_true]
    unfold rowN
    apply List.map_congr_left
    intro c hc
    exact row_place hs (List.mem_range.1 hc) (List.prefix_refl _)
theorem outsAt_succ {β : Type} {A : Auto σ} {classes n : Nat} {s : σ} (out : σ → β) (hs : (cl A classes n)[n]? = some s) : outsAt (cl A classes (n + 1)) out (n + 1) = outsAt (cl A classes n) out n ++ [out s] := by
  unfold outsAt
  rw [cl_take hs, List.map_append]
  rfl
theorem nextsAt_over {A : Auto σ} {classes n : Nat} (h : Over A classes n) : nextsAt A classes n = nextsOf A classes (cl A classes n) := by
  unfold nextsAt nextsOf
  rw [List.take_of_length_le h]
theorem outsAt_over {β : Type} {A : Auto σ} {classes n : Nat} (out : σ → β) (h : Over A classes n) : outsAt (cl A classes n) out n = (cl A classes n).map out := by
  unfold outsAt
  rw [List.take_of_length_le h]
theorem rowS_length (A : Auto σ) (s : σ) (l : List σ) : ∀ c, (rowS A s l c).length ≤ l.length + c
  | 0 => Nat.le_refl _
  | c + 1 => by
    have := rowS_length A s l c
    rw [rowS]
    unfold putS
    split
    · omega
    · simp; omega
end

/-! ### in memory -/
/-- a situation as one cell; all its blocks lie in F -/
def sitE (F : Nat → Prop) (w : World) (s : List (List Int)) (row : List Value) : Prop := ∃ v, row = [v] ∧ v.oneCell' = true ∧ LLF F w v s
theorem sitE.fr {F G : Nat → Prop} {w w' : World} {s : List (List Int)} {row : List Value} (h : sitE F w s row) (hf : Fr G w w') (hg : ∀ k, F k → ¬ G k) : sitE F w' s row := by
  obtain ⟨v, rfl, h0, h1⟩ := h
  exact ⟨v, rfl, h0, h1.fr hf hg⟩
theorem sitE.mono {F G : Nat → Prop} {w : World} {s : List (List Int)} {row : List Value} (h : sitE F w s row) (hg : ∀ k, F k → G k) : sitE G w s row := by
  obtain ⟨v, rfl, h0, h1⟩ := h
  exact ⟨v, rfl, h0, h1.mono hg⟩

def u64E (x : Nat) (row : List Value) : Prop := row = [.int .u64 (x : Nat)]
def natsI (l : List Nat) : List Int := l.map fun (n : Nat) => (n : Int)
/-- ways, in memory -/
def nrowE (F : Nat → Prop) (w : World) (r : List Nat) (row : List Value) : Prop := rowE F w (natsI r) row

/-- what all, and least, have: the machine that is made -/
structure MSt (base : Nat) (w : World) (ob classes : Nat) (F : Nat → Prop) (nv ov : Value) (N : List (List Nat)) (O : List Nat) : Prop where
  mach : w.heap[ob]? = some (.cells #[.int .i64 (classes : Nat), nv, ov] 77)
  base0 : base ≤ ob
  next : OwnL (nrowE F w) 46 1 base w nv N
  outs : OwnL u64E 37 1 base w ov O
  foot : ∀ k, F k → base ≤ k ∧ k < w.heap.size ∧ k ≠ ob ∧ nv.ownBlock ≠ some k ∧ ov.ownBlock ≠ some k

section
variable {base : Nat} {w w' : World} {ob classes : Nat} {F G : Nat → Prop} {nv ov : Value} {N : List (List Nat)} {O : List Nat}
theorem MSt.fr (h : MSt base w ob classes F nv ov N O) (hf : Fr G w w') (hG : ∀ k, k < w.heap.size → G k → ¬ F k ∧ k ≠ ob ∧ nv.ownBlock ≠ some k ∧ ov.ownBlock ≠ some k) : MSt base w' ob classes F nv ov N O := by
  have hlt := at_lt h.mach
  have hfr : Fr (fun k => k < w.heap.size → G k) w w' := hf.mono (fun k hk hg _ => hg)
  refine ⟨(hf.block ob hlt (fun g => (hG ob hlt g).2.1 rfl)).trans h.mach, h.base0, ?_, ?_, fun k hk => ?_⟩
  · refine OwnL.mono (OwnL.fr h.next hf (fun k hk g => (hG k (h.next.lt k hk).2 g).2.2.1 hk)) (fun x r hr => ?_)
    exact rowE.fr hr hfr (fun k hk g => (hG k (h.foot k hk).2.1 (g (h.foot k hk).2.1)).1 hk)
  · exact h.outs.fr hf (fun k hk g => (hG k (h.outs.lt k hk).2 g).2.2.2 hk)
  · obtain ⟨h1, h2, h3⟩ := h.foot k hk
    exact ⟨h1, Nat.lt_of_lt_of_le h2 hf.size, h3⟩
theorem MSt.below (h : MSt base w ob classes F nv ov N O) (hb : Below w.heap.size w w') : MSt base w' ob classes F nv ov N O :=
  h.fr (Fr.of_belowB hb) (fun k hk hg => by omega)
/-- more blocks are kept -/
theorem MSt.more {F' : Nat → Prop} (h : MSt base w ob classes F nv ov N O) (hF : ∀ k, F k → F' k) (hX : ∀ k, F' k → F k ∨ (base ≤ k ∧ k < w.heap.size ∧ k ≠ ob ∧ nv.ownBlock ≠ some k ∧ ov.ownBlock ≠ some k)) : MSt base w ob classes F' nv ov N O :=
  ⟨h.mach, h.base0, h.next.mono (fun x r hr => rowE.mono hr hF), h.outs, fun k hk => by
    rcases hX k hk with h1 | h1
    · exact h.foot k h1
    · exact h1⟩

theorem infoU64 : (Try.prog.info? 37).map (fun i => (i.zero, i.size, i.bytes)) = some (some (.int .u64 0), 1, 8) := by kernel_rfl

/-- a row was appended to the ways, and their variable stored -/
theorem MSt.newN (h : MSt base w ob classes F nv ov N O) (hbw : base ≤ w.heap.size) {w1 w2 : World} {nv' : Value} {N' : List (List Nat)} (hf : Fr (fun k => nv.ownBlock = some k) w w1) (hown : OwnL (nrowE F w) 46 1 base w1 nv' N') (hl : nv'.ownBlock = nv.ownBlock ∨ ∀ k, nv'.ownBlock = some k → w.heap.size ≤ k)
    (h2 : w2 = w1.setCell ⟨ob, 1, none⟩ nv') : MSt base w2 ob classes F nv' ov N' O ∧ Fr (fun k => nv.ownBlock = some k ∨ k = ob) w w2 := by
  have hob1 := (hf.block ob (at_lt h.mach) (h.next.notAt h.mach (by decide))).trans h.mach
  have hf2 : Fr (fun k => k = ob) w1 w2 := by rw [h2]; exact Fr.setCell (F := fun k => k = ob) w1 rfl _
  have hf12 : Fr (fun k => nv.ownBlock = some k ∨ k = ob) w w2 := (hf.mono (fun k _ h => .inl h)).trans hf2 (fun k _ h => .inr h)
  refine ⟨⟨?_, h.base0, ?_, ?_, fun k hk => ?_⟩, hf12⟩
  · have := blk_set hob1 1 nv'
    rw [h2]
    exact this
  · refine OwnL.mono (OwnL.fr hown hf2 (fun k hk (he : k = ob) => hown.notAt hob1 (by decide) (by rw [hk, he]))) (fun x r hr => rowE.fr hr hf12 (fun k hk hg => ?_))
    obtain ⟨-, -, h3, h4, -⟩ := h.foot k hk
    rcases hg with hg | hg
    · exact h4 hg
    · exact h3 hg
  · refine h.outs.fr hf12 (fun k hk hg => ?_)
    rcases hg with hg | hg
    · obtain ⟨cs, hcs⟩ := h.outs.blkT k hk
      exact h.next.notAt hcs (by decide) hg
    · exact h.outs.notAt h.mach (by decide) (by rw [hk, hg])
  · obtain ⟨h1, h3, h4, h5, h6⟩ := h.foot k hk
    refine ⟨h1, Nat.lt_of_lt_of_le h3 hf12.size, h4, fun hk2 => ?_, h6⟩
    rcases hl with hl | hl
    · exact h5 (hl ▸ hk2)
    · have := hl k hk2; omega

/-- one was appended to what is told -/
theorem MSt.newO (h : MSt base w ob classes F nv ov N O) (hbw : base ≤ w.heap.size) {w1 w2 : World} {ov' : Value} {O' : List Nat} (hf : Fr (fun k => ov.ownBlock = some k) w w1) (hown : OwnL u64E 37 1 base w1 ov' O') (hl : ov'.ownBlock = ov.ownBlock ∨ ∀ k, ov'.ownBlock = some k → w.heap.size ≤ k)
    (h2 : w2 = w1.setCell ⟨ob, 2, none⟩ ov') : MSt base w2 ob classes F nv ov' N O' ∧ Fr (fun k => ov.ownBlock = some k ∨ k = ob) w w2 := by
  have hob1 := (hf.block ob (at_lt h.mach) (h.outs.notAt h.mach (by decide))).trans h.mach
  have hf2 : Fr (fun k => k = ob) w1 w2 := by rw [h2]; exact Fr.setCell (F := fun k => k = ob) w1 rfl _
  have hf12 : Fr (fun k => ov.ownBlock = some k ∨ k = ob) w w2 := (hf.mono (fun k _ h => .inl h)).trans hf2 (fun k _ h => .inr h)
  refine ⟨⟨?_, h.base0, ?_, ?_, fun k hk => ?_⟩, hf12⟩
  · have := blk_set hob1 2 ov'
    rw [h2]
    exact this
  · refine OwnL.mono (OwnL.fr h.next hf12 (fun k hk hg => ?_)) (fun x r hr => rowE.fr hr hf12 (fun k hk hg => ?_))
    · rcases hg with hg | hg
      · obtain ⟨cs, hcs⟩ := h.next.blkT k hk
        exact h.outs.notAt hcs (by decide) hg
      · exact h.next.notAt h.mach (by decide) (by rw [hk, hg])
    · obtain ⟨-, -, h3, -, h4⟩ := h.foot k hk
      rcases hg with hg | hg
      · exact h4 hg
      · exact h3 hg
  · exact hown.fr hf2 (fun k hk (he : k = ob) => hown.notAt hob1 (by decide) (by rw [hk, he]))
  · obtain ⟨h1, h3, h4, h5, h6⟩ := h.foot k hk
    refine ⟨h1, Nat.lt_of_lt_of_le h3 hf12.size, h4, h5, fun hk2 => ?_⟩
    rcases hl with hl | hl
    · exact h6 (hl ▸ hk2)
    · have := hl k hk2; omega
end

/-- .. and the list of situations that were met, and the map of their numbers -/
structure ASt (base : Nat) (w : World) (mb ob classes : Nat) (F : Nat → Prop) (lv nv ov : Value) (ks : List Lit) (L : List (List (List Int))) (N : List (List Nat)) (O : List Nat) : Prop where
  m : MSt base w ob classes F nv ov N O
  num : NumMap 9 w mb ks
  mb0 : base ≤ mb
  list : OwnL (sitE F w) 141 1 base w lv L
  foot : ∀ k, F k → k ≠ mb ∧ lv.ownBlock ≠ some k

section
variable {base : Nat} {w w' : World} {mb ob classes : Nat} {F G : Nat → Prop} {lv nv ov : Value} {ks : List Lit} {L : List (List (List Int))} {N : List (List Nat)} {O : List Nat}
theorem ASt.fr (h : ASt base w mb ob classes F lv nv ov ks L N O) (hf : Fr G w w') (hG : ∀ k, k < w.heap.size → G k → ¬ F k ∧ k ≠ ob ∧ k ≠ mb ∧ lv.ownBlock ≠ some k ∧ nv.ownBlock ≠ some k ∧ ov.ownBlock ≠ some k) : ASt base w' mb ob classes F lv nv ov ks L N O := by
  refine ⟨h.m.fr hf (fun k hk g => ?_), h.num.fr hf (fun g => (hG mb h.num.lt g).2.2.1 rfl), h.mb0, ?_, h.foot⟩
  · obtain ⟨h1, h2, h3, h4, h5, h6⟩ := hG k hk g
    exact ⟨h1, h2, h5, h6⟩
  · have hfr : Fr (fun k => k < w.heap.size → G k) w w' := hf.mono (fun k hk hg _ => hg)
    refine OwnL.mono (OwnL.fr h.list hf (fun k hk g => (hG k (h.list.lt k hk).2 g).2.2.2.1 hk)) (fun x r hr => ?_)
    exact sitE.fr hr hfr (fun k hk g => (hG k (h.m.foot k hk).2.1 (g (h.m.foot k hk).2.1)).1 hk)
theorem ASt.below (h : ASt base w mb ob classes F lv nv ov ks L N O) (hb : Below w.heap.size w w') : ASt base w' mb ob classes F lv nv ov ks L N O :=
  h.fr (Fr.of_belowB hb) (fun k hk hg => by omega)
/-- the map alone has turned -/
theorem ASt.newK (h : ASt base w mb ob classes F lv nv ov ks L N O) {ks' : List Lit} (hg : w.grownBy w' (some mb)) (hn : NumMap 9 w' mb ks') : ASt base w' mb ob classes F lv nv ov ks' L N O := by
  have hf : Fr (fun k => k = mb) w w' := Fr.grown (F := fun k => k = mb) hg (fun k h => by injection h with h; exact h.symm)
  have hfr : Fr (fun k => k = mb) w w' := hf
  have hne : ∀ {α : Type} {E : α → List Value → Prop} {T : TypeId} {v : Value} {xs : List α}, OwnL E T 1 base w v xs → v.ownBlock ≠ some mb := fun {α E T v xs} ho hk => by
    obtain ⟨cs, hcs⟩ := ho.blkT mb hk
    exact h.num.notAt hcs rfl
  refine ⟨h.m.fr hf (fun k hk (g : k = mb) => ?_), hn, h.mb0, ?_, h.foot⟩
  · subst g
    exact ⟨fun hF => (h.foot k hF).1 rfl, fun e => h.num.notAt h.m.mach e.symm, hne h.m.next, hne h.m.outs⟩
  · refine OwnL.mono (OwnL.fr h.list hf (fun k hk (g : k = mb) => hne h.list (by rw [hk, g]))) (fun x r hr => sitE.fr hr hfr (fun k hk (g : k = mb) => (h.foot k hk).1 g))
/-- a situation was appended; its blocks are kept from now on -/
theorem ASt.newL (h : ASt base w mb ob classes F lv nv ov ks L N O) {X : Nat → Prop} (hX : ∀ k, X k → base ≤ k ∧ k < w.heap.size ∧ k ≠ ob ∧ k ≠ mb ∧ lv.ownBlock ≠ some k ∧ nv.ownBlock ≠ some k ∧ ov.ownBlock ≠ some k) {lv' : Value} {L' : List (List (List Int))} (hf : Fr (fun k => lv.ownBlock = some k) w w')
    (hown : OwnL (sitE (fun k => F k ∨ X k) w) 141 1 base w' lv' L') (hl : lv'.ownBlock = lv.ownBlock ∨ ∀ k, lv'.ownBlock = some k → w.heap.size ≤ k) : ASt base w' mb ob classes (fun k => F k ∨ X k) lv' nv ov ks L' N O := by
  have hm : MSt base w ob classes (fun k => F k ∨ X k) nv ov N O := h.m.more (fun k hk => .inl hk) (fun k hk => by
    rcases hk with hk | hk
    · exact .inl hk
    · obtain ⟨h1, h2, h3, -, -, h4⟩ := hX k hk
      exact .inr ⟨h1, h2, h3, h4⟩)
  have hlb : ∀ k, (F k ∨ X k) → lv.ownBlock ≠ some k := fun k hk => by
    rcases hk with hk | hk
    · exact (h.foot k hk).2
    · exact (hX k hk).2.2.2.2.1
  refine ⟨hm.fr hf (fun k hk g => ⟨fun hF => hlb k hF g, fun e => ?_, fun e => ?_, fun e => ?_⟩), h.num.fr hf (fun g => ?_), h.mb0, ?_, fun k hk => ⟨?_, fun hk2 => ?_⟩⟩
  · subst e; exact h.list.notAt h.m.mach (by decide) g
  · obtain ⟨cs, hcs⟩ := h.m.next.blkT k e
    exact h.list.notAt hcs (by decide) g
  · obtain ⟨cs, hcs⟩ := h.m.outs.blkT k e
    exact h.list.notAt hcs (by decide) g
  · obtain ⟨cs, hcs⟩ := h.list.blkT mb g
    exact h.num.notAt hcs rfl
  · exact OwnL.mono hown (fun x r hr => sitE.fr hr hf (fun k hk g => hlb k hk g))
  · rcases hk with hk | hk
    · exact (h.foot k hk).1
    · exact (hX k hk).2.2.2.1
  · rcases hl with hl | hl
    · exact hlb k hk (hl ▸ hk2)
    · have := hl k hk2
      have := (hm.foot k hk).2.1
      omega
theorem VRow.not_mach {k : Nat} {vs : List Value} {cs : Array Value} (hv : VRow w k 3 vs) (h : w.heap[ob]? = some (.cells cs 77)) (e : k = ob) : False := by
  subst e
  have h1 : w.heap[k]? = some (.cells vs.toArray 3 (0, 0)) := hv
  rw [h1] at h
  cases h
/-- a cell of a row of one's own was stored -/
theorem MSt.put (h : MSt base w ob classes F nv ov N O) {g : Nat} {vs : List Value} (hv : VRow w g 3 vs) (hg : ¬ F g) (i : Nat) (u : Value) : MSt base (w.setCell ⟨g, i, none⟩ u) ob classes F nv ov N O := by
  have hf : Fr (fun k => k = g) w (w.setCell ⟨g, i, none⟩ u) := Fr.setCell (F := fun k => k = g) w rfl _
  refine h.fr hf (fun k _ (e : k = g) => ?_)
  subst e
  exact ⟨hg, fun e => hv.not_mach h.mach e, h.next.notAt hv (by decide), h.outs.notAt hv (by decide)⟩
theorem ASt.put (h : ASt base w mb ob classes F lv nv ov ks L N O) {g : Nat} {vs : List Value} (hv : VRow w g 3 vs) (hg : ¬ F g) (i : Nat) (u : Value) : ASt base (w.setCell ⟨g, i, none⟩ u) mb ob classes F lv nv ov ks L N O := by
  have hf : Fr (fun k => k = g) w (w.setCell ⟨g, i, none⟩ u) := Fr.setCell (F := fun k => k = g) w rfl _
  refine h.fr hf (fun k _ (e : k = g) => ?_)
  subst e
  exact ⟨hg, fun e => hv.not_mach h.m.mach e, h.num.notAt hv, h.list.notAt hv (by decide), h.m.next.notAt hv (by decide), h.m.outs.notAt hv (by decide)⟩
theorem fill_set (A : List Value) (m : Nat) (x z : Value) {c : Nat} (hc : A.length = c) (h : 0 < m) : (A ++ List.replicate m z).set c x = (A ++ [x]) ++ List.replicate (m - 1) z := by
  subst hc
  obtain ⟨j, rfl⟩ : ∃ j, m = j + 1 := ⟨m - 1, by omega⟩
  rw [List.set_append_right _ _ (Nat.le_refl _), Nat.sub_self, List.replicate_succ, List.set_cons_zero]
  simp
theorem ASt.newN (h : ASt base w mb ob classes F lv nv ov ks L N O) (hbw : base ≤ w.heap.size) {F' : Nat → Prop} (hF : ∀ k, F k → F' k) (hX : ∀ k, F' k → F k ∨ (base ≤ k ∧ k < w.heap.size ∧ k ≠ ob ∧ nv.ownBlock ≠ some k ∧ ov.ownBlock ≠ some k ∧ k ≠ mb ∧ lv.ownBlock ≠ some k)) {w1 w2 : World} {nv' : Value} {N' : List (List Nat)} (hf : Fr (fun k => nv.ownBlock = some k) w w1)
    (hown : OwnL (nrowE F' w) 46 1 base w1 nv' N') (hl : nv'.ownBlock = nv.ownBlock ∨ ∀ k, nv'.ownBlock = some k → w.heap.size ≤ k) (h2 : w2 = w1.setCell ⟨ob, 1, none⟩ nv') : ASt base w2 mb ob classes F' lv nv' ov ks L N' O ∧ Fr (fun k => nv.ownBlock = some k ∨ k = ob) w w2 := by
  have hm := h.m.more hF (fun k hk => by
    rcases hX k hk with h1 | ⟨h1, h2, h3, h4, h5, -⟩
    · exact .inl h1
    · exact .inr ⟨h1, h2, h3, h4, h5⟩)
  obtain ⟨k1, k2⟩ := hm.newN hbw hf hown hl h2
  refine ⟨⟨k1, h.num.fr k2 (fun g => ?_), h.mb0, OwnL.mono (OwnL.fr h.list k2 (fun k hk g => ?_)) (fun x r hr => (sitE.mono (sitE.fr hr k2 (fun k hk g => ?_)) hF)), fun k hk => ?_⟩, k2⟩
  · rcases g with g | g
    · obtain ⟨cs, hcs⟩ := h.m.next.blkT mb g
      exact h.num.notAt hcs rfl
    · exact h.num.notAt h.m.mach g.symm
  · rcases g with g | g
    · obtain ⟨cs, hcs⟩ := h.list.blkT k hk
      exact h.m.next.notAt hcs (by decide) g
    · exact h.list.notAt h.m.mach (by decide) (by rw [hk, g])
  · obtain ⟨-, -, h3, h4, -⟩ := h.m.foot k hk
    rcases g with g | g
    · exact h4 g
    · exact h3 g
  · rcases hX k hk with h1 | ⟨-, -, -, -, -, h1, h2⟩
    · exact h.foot k h1
    · exact ⟨h1, h2⟩
theorem ASt.newO (h : ASt base w mb ob classes F lv nv ov ks L N O) (hbw : base ≤ w.heap.size) {w1 w2 : World} {ov' : Value} {O' : List Nat} (hf : Fr (fun k => ov.ownBlock = some k) w w1)
    (hown : OwnL u64E 37 1 base w1 ov' O') (hl : ov'.ownBlock = ov.ownBlock ∨ ∀ k, ov'.ownBlock = some k → w.heap.size ≤ k) (h2 : w2 = w1.setCell ⟨ob, 2, none⟩ ov') : ASt base w2 mb ob classes F lv nv ov' ks L N O' ∧ Fr (fun k => ov.ownBlock = some k ∨ k = ob) w w2 := by
  obtain ⟨k1, k2⟩ := h.m.newO hbw hf hown hl h2
  refine ⟨⟨k1, h.num.fr k2 (fun g => ?_), h.mb0, OwnL.mono (OwnL.fr h.list k2 (fun k hk g => ?_)) (fun x r hr => sitE.fr hr k2 (fun k hk g => ?_)), h.foot⟩, k2⟩
  · rcases g with g | g
    · obtain ⟨cs, hcs⟩ := h.m.outs.blkT mb g
      exact h.num.notAt hcs rfl
    · exact h.num.notAt h.m.mach g.symm
  · rcases g with g | g
    · obtain ⟨cs, hcs⟩ := h.list.blkT k hk
      exact h.m.outs.notAt hcs (by decide) g
    · exact h.list.notAt h.m.mach (by decide) (by rw [hk, g])
  · obtain ⟨-, -, h3, -, h4⟩ := h.m.foot k hk
    rcases g with g | g
    · exact h4 g
    · exact h3 g
end
end Go.Proofs.Ythmaokjhncokdaa

/-
  dfa: the machine of all situations. No condition beyond what each theorem names.
-/
set_option linter.unusedVariables false
set_option linter.unusedSimpArgs false
namespace Go.Proofs.Ythmaokjhncokdaa
open Go.RowKit Go.Maps Classical

/-- a machine, as it reads -/
def MachD (w : World) (ob classes : Nat) (N : List (List Nat)) (O : List Nat) : Prop := ∃ nv ov, w.heap[ob]? = some (.cells #[.int .i64 (classes : Nat), nv, ov] 77) ∧ ReadL (nrowE (fun _ => True) w) 1 w nv N ∧ ReadL u64E 1 w ov O
theorem MachD.to {w w' : World} {ob classes : Nat} {N : List (List Nat)} {O : List Nat} (h : MachD w ob classes N O) (hb : Below w.heap.size w w') : MachD w' ob classes N O := by
  obtain ⟨nv, ov, h1, h2, h3⟩ := h
  exact ⟨nv, ov, (hb.block _ (at_lt h1)).trans h1, (h2.below hb (Nat.le_refl _)).monoE (fun x r hr => rowE.below hr hb (Nat.le_refl _)), h3.below hb (Nat.le_refl _)⟩
theorem MSt.machD {base : Nat} {w : World} {ob classes : Nat} {F : Nat → Prop} {nv ov : Value} {N : List (List Nat)} {O : List Nat} (h : MSt base w ob classes F nv ov N O) : MachD w ob classes N O :=
  ⟨nv, ov, h.mach, (OwnL.read h.next).monoE (fun x r hr => rowE.mono hr (fun _ _ => trivial)), h.outs.read⟩

theorem sitK_small {l : List (Nd × Bool)} (hl : ∀ e ∈ l, RightX e.1) {s : List (List Int)} (h : SitOk l s) : ∀ xs ∈ s, xs.length ≤ 1000 ∧ Small16 xs := by
  intro xs hx
  obtain ⟨i, hi, rfl⟩ := List.getElem_of_mem hx
  have h1 : i < l.length := by rw [← h.1]; exact hi
  obtain ⟨h2, h3⟩ := h.2 i h1 hi
  have h4 := (mach_laws (hl l[i] (List.getElem_mem h1))).len
  exact ⟨h3, fun n hn => by have := h2 n hn; omega⟩
theorem sitK_inj {l : List (Nd × Bool)} (hl : ∀ e ∈ l, RightX e.1) (x y : List (List Int)) (hx : SitOk l x) (hy : SitOk l y) (h : nameK x = nameK y) : x = y :=
  nameK_inj (fun xs hxs => (sitK_small hl hx xs hxs).2) (fun xs hxs => (sitK_small hl hy xs hxs).2) h

theorem strOf_small {l : List (Nd × Bool)} (hl : ∀ e ∈ l, RightX e.1) (h64 : l.length ≤ 64) {s : List (List Int)} (h : SitOk l s) : (strOf (nameL s)).size ≤ maxLen := by
  rw [strOf_size]
  have h1 := nameL_length (xss := s) (fun xs hx => (sitK_small hl h xs hx).1)
  have h2 := h.1
  unfold maxLen
  omega

section
variable {ops : Array Oper} {rest : List Oper} {o : Oper} {a : Act} {w : World} {Q : Exit → Act → World → Prop} {base : Nat}
theorem infoSit : (Try.prog.info? 141).map (fun i => (i.zero, i.size, i.bytes)) = some (some (.slice none 0 0), 1, 24) := by kernel_rfl
theorem wpList_append_sits {E : List (List Int) → List Value → Prop} (hgd : o.guard = none) (s x : Operand) (ho : o.op = .call { callee := .builtin .append, args := #[s, x], argTypes := #[145, 145] })
    (v : Value) (xs : List (List (List Int))) (n : Nat) (hn : xs.length = n) (hs : a.eval s = v) (hown : OwnL E 141 1 base w v xs) (xv : Value) (y : List (List Int)) (hx : a.eval x = xv) (hr : ReadL E 1 w xv [y]) (hlen : n + 1 ≤ 1000000) (hbase : base ≤ w.heap.size)
    (h : ∀ p c w', OwnL E 141 1 base w' (.slice p (n + 1) c) (xs ++ [y]) → w.grownBy w' v.ownBlock → ((Value.slice p (n + 1) c).ownBlock = v.ownBlock ∨ (Value.slice p (n + 1) c).ownBlock = some w.heap.size) → wpList Try.prog ops Q rest (a.put o.dst (.slice p (n + 1) c)) w') : wpList Try.prog ops Q (o :: rest) a w := by
  subst hn
  obtain ⟨i0, hi, hz0, hz1, hz2⟩ := info_parts infoSit
  exact wpList_append_L hgd s x 145 ho i0 _ 24 Try.underlying145 hi hz0 hz1 hz2 rfl (by decide) v xs hs hown xv [y] hx hr (by unfold maxLen; simp; omega) (by simp; omega) hbase h
theorem wpList_append_nrows {E : List Nat → List Value → Prop} (hgd : o.guard = none) (s x : Operand) (ho : o.op = .call { callee := .builtin .append, args := #[s, x], argTypes := #[75, 75] })
    (v : Value) (xs : List (List Nat)) (n : Nat) (hn : xs.length = n) (hs : a.eval s = v) (hown : OwnL E 46 1 base w v xs) (xv : Value) (y : List Nat) (hx : a.eval x = xv) (hr : ReadL E 1 w xv [y]) (hlen : n + 1 ≤ 1000000) (hbase : base ≤ w.heap.size)
    (h : ∀ p c w', OwnL E 46 1 base w' (.slice p (n + 1) c) (xs ++ [y]) → w.grownBy w' v.ownBlock → ((Value.slice p (n + 1) c).ownBlock = v.ownBlock ∨ (Value.slice p (n + 1) c).ownBlock = some w.heap.size) → wpList Try.prog ops Q rest (a.put o.dst (.slice p (n + 1) c)) w') : wpList Try.prog ops Q (o :: rest) a w := by
  subst hn
  obtain ⟨i0, hi, hz0, hz1, hz2⟩ := info_parts infoInts
  exact wpList_append_L hgd s x 75 ho i0 _ 24 Try.underlying75 hi hz0 hz1 hz2 rfl (by decide) v xs hs hown xv [y] hx hr (by unfold maxLen; simp; omega) (by simp; omega) hbase h
theorem wpList_append_u64 (hgd : o.guard = none) (s x : Operand) (ho : o.op = .call { callee := .builtin .append, args := #[s, x], argTypes := #[47, 47] })
    (v : Value) (xs : List Nat) (n : Nat) (hn : xs.length = n) (hs : a.eval s = v) (hown : OwnL u64E 37 1 base w v xs) (xv : Value) (y : Nat) (hx : a.eval x = xv) (hr : ReadL u64E 1 w xv [y]) (hlen : n + 1 ≤ 1000000) (hbase : base ≤ w.heap.size)
    (h : ∀ p c w', OwnL u64E 37 1 base w' (.slice p (n + 1) c) (xs ++ [y]) → w.grownBy w' v.ownBlock → ((Value.slice p (n + 1) c).ownBlock = v.ownBlock ∨ (Value.slice p (n + 1) c).ownBlock = some w.heap.size) → wpList Try.prog ops Q rest (a.put o.dst (.slice p (n + 1) c)) w') : wpList Try.prog ops Q (o :: rest) a w := by
  subst hn
  obtain ⟨i0, hi, hz0, hz1, hz2⟩ := info_parts infoU64
  exact wpList_append_L hgd s x 47 ho i0 _ 8 Try.underlying47 hi hz0 hz1 hz2 rfl (by decide) v xs hs hown xv [y] hx hr (by unfold maxLen; simp; omega) (by simp; omega) hbase h
end

theorem made_ints (n : Nat) : madeCells #[Value.int .i64 0] n = (List.replicate n (Value.int .i64 0)).toArray := by
  apply Array.ext
  · simp [madeCells]
  · intro i h1 h2
    have e : i % 1 = 0 := Nat.mod_one i
    simp [madeCells, e]
theorem make_ints (t : TypeId) (ht : Try.prog.underlying t = some (.slice 3)) (w : World) (c : Int) (n : Nat) (hc : c = n) (hn : n ≤ 1000001) :
    (Instr.makeSlice t (.int .i64 c) (.int .i64 c)).run Try.prog w = .ok (.slice (some ⟨w.heap.size, 0, none⟩) n n) (w.alloc (.cells (List.replicate n (Value.int .i64 0)).toArray 3)) := by
  subst hc
  obtain ⟨i0, hi, hz0, hz1, hz2⟩ := info_parts infoInt
  have := run_make (P := Try.prog) w t 3 i0 (.int .i64 0) ht hi hz0 .i64 .i64 n n (by omega) (by omega) (by rw [hz2]; omega) (by omega)
  rw [hz1] at this
  simp only [Int.toNat_natCast, Nat.mul_one] at this
  rw [this, show (Value.int .i64 0).cells = #[Value.int .i64 0] from rfl, made_ints]

def AllPost (w : World) (l : List (Nd × Bool)) (classes : Nat) (e : Ending) (w' : World) : Prop :=
  Below w.heap.size w w' ∧ ((TooMany (autoE l) classes ∧ e = .returned (.tuple #[.pointer none, .bool false])) ∨
    (¬ TooMany (autoE l) classes ∧ ∃ ob, w.heap.size ≤ ob ∧ e = .returned (.tuple #[.pointer (some ⟨ob, 0, none⟩), .bool true]) ∧
      MachD w' ob classes (nextsOf (autoE l) classes (cl (autoE l) classes 2000)) ((cl (autoE l) classes 2000).map fun s => bitsL (outE s))))

set_option maxRecDepth 100000 in
set_option maxHeartbeats 8000000 in
theorem all_any (w : World) (bb : Nat) (l : List (Nd × Bool)) (hB : BuilderR w bb l) (hl : l.length ≤ 64) (hr : ∀ e ∈ l, RightX e.1) (classes : Nat) (hc : 1 ≤ classes ∧ classes ≤ 24) :
    Calls Try.prog 58 #[.pointer (some ⟨bb, 0, none⟩), .int .i64 classes] w (AllPost w l classes) := by
  obtain ⟨hbl, pl, cl0, pm, cm, c0, c1, hcl, hcm, hgg⟩ := hB.get
  have HGG := Lib.hid hgg
  have HB0 := Lib.hid hB
  have HR := Lib.hid hr
  have HLEN := Lib.hid (show (autoE l).start.length = l.length from by show (l.map _).length = _; simp)
  have hmm := @run_makeMap Try.prog
  clear hB hgg hr
  go_enter Try.func58, Try.ntmps58
  go_wp2_with fail
  go_loopw [6, 23] (fun u i wr => ∃ k : Nat, i = .int .i64 k ∧ k ≤ l.length ∧ OwnLL w.heap.size wr u ((autoE l).start.take k) ∧ Below w.heap.size w wr) (fun _ i _ => l.length - (intOf i).toNat)
  case atStart => exact ⟨0, rfl, by omega, OwnLL.nil _ _, Below.refl _ _⟩
  case round =>
    obtain ⟨k, rfl, h1, hown, hb⟩ := hrel
    obtain ⟨pu, cu, hu⟩ := OwnL.form hown
    subst hu
    have hul : ((autoE l).start.take k).length = k := by rw [List.length_take, HLEN.out]; omega
    rw [hul] at hown ⊢
    have HOW := Lib.hid hown
    have HB := Lib.hid hb
    have hbs := hb.size
    clear hown hul
    by_cases hk : k < l.length
    · obtain ⟨b1, o1, b2, o2, rfl, rfl, hb1, hb2, hcc⟩ := HGG.out (by omega)
      obtain ⟨-, m, d1, hm⟩ := hcc k hk
      have hlw := mach_laws (HR.out l[k] (List.getElem_mem hk))
      have HZK := Lib.hid (show (autoE l).start.take (k + 1) = (autoE l).start.take k ++ [closedL (mach l[k].1) [0]] by
        rw [List.take_succ_eq_append_getElem (by rw [HLEN.out]; exact hk)]
        simp only [autoE]
        rw [List.getElem_map])
      have y2 := cell_below hb hb2 d1
      have HST := Lib.hid (start_any wr m (mach l[k].1) (hm.to (hb.mono (Nat.le_refl _))) hlw)
      have hkk : (k : Int) < l.length := by omega
      have hk0 : (0 : Int) ≤ k := by omega
      clear hcc hm hlw
      generalize mach l[k].1 = S at *
      go_wp2_with fail
      refine HST.out.mono ?_
      rintro e w1 ⟨u1, rfl, hown1, hbw1⟩
      obtain ⟨p1, q1, hu1⟩ := hown1.form
      subst hu1
      have HO1 := Lib.hid hown1
      have HB1 := Lib.hid hbw1
      have HLE := Lib.hid (HOW.out.below HB1.out (Nat.le_refl _))
      have hwl := HB1.out.size
      clear hown1 hbw1 y2
      go_wp2_with (refine wpList_append_LL rfl (.tmp 27) (.tmp 30) 141 Try.underlying141 rfl _ ((autoE l).start.take k) k (by rw [List.length_take, HLEN.out]; omega) rfl w1 HLE.out _ (closedL S [0]) (HO1.out.based hbs) rfl rfl (by omega) (Nat.le_trans hbs hwl) ?_; intro p4 c4 w4 hown4 hb4 hf4 hl4)
      have HREL := Lib.hid (show OwnLL w.heap.size w4 (.slice p4 (k + 1) c4) ((autoE l).start.take (k + 1)) ∧ Below w.heap.size w w4 by
        refine ⟨by rw [HZK.out]; exact hown4, HB.out.trans ((HB1.out.mono hbs).trans hb4)⟩)
      clear hown4 hb4 hf4 hl4 hb
      go_wp2_with fail
      go_roundw
      case rel => exact ⟨k + 1, by go_num, by omega, HREL.out.1, HREL.out.2⟩
      case measure => simp [intOf]; omega
    · have hkk : ¬ (k : Int) < l.length := by omega
      have hke : (autoE l).start.take k = (autoE l).start := List.take_of_length_le (by rw [HLEN.out]; omega)
      rw [hke] at HOW
      obtain rfl : k = l.length := by omega
      have hok0 : SitOk l (autoE l).start := SitOk.start HR.out
      have HOK0 := Lib.hid hok0
      have hllf := HOW.out.llf
      -- the map
      obtain ⟨mb, hmb⟩ : ∃ mb, mb = wr.heap.size := ⟨_, rfl⟩
      have hal := below_alloc1 wr (.map #[] 0)
      have HNEW := Lib.hid (NumMap.new 9 wr)
      rw [← hmb] at HNEW
      have HF0 := Lib.hid (show LLF (fun k => w.heap.size ≤ k ∧ k < wr.heap.size) (wr.alloc (.map #[] 0)) (.slice pu l.length cu) (autoE l).start from hllf.below hal (Nat.le_refl _))
      have HNM := Lib.hid (name_any _ (wr.alloc (.map #[] 0)) (.slice pu l.length cu) (autoE l).start HF0.out (by rw [HLEN.out]; exact hl) (sitK_small HR.out hok0))
      have HAL := Lib.hid hal
      clear hke hok0 hllf hal
      go_wp2_with fail
      refine HNM.out.mono ?_
      rintro e w2 ⟨rfl, hb2⟩
      rw [← hmb]
      have HMB := Lib.hid hmb
      have hmlt : mb < w2.heap.size := by have := HNEW.out.lt; have := hb2.size; omega
      clear hmb
      have HB2 := Lib.hid (HB.out.trans ((HAL.out.trans (hb2.mono HAL.out.size)).mono hbs))
      have HBW2 := Lib.hid (HAL.out.trans (hb2.mono HAL.out.size))
      have HN2 := Lib.hid (HNEW.out.fr (Fr.of_belowB hb2) (by have := HNEW.out.lt; omega))
      have HF2 := Lib.hid (LLF.below HF0.out hb2 (Nat.le_refl _))
      have HKEY := Lib.hid (WideMaps.keyOf_string_mk (P := Try.prog) (k := 9) Try.underlying9 (strOf_small HR.out hl HOK0.out))
      have hwf0 : (Lit.int .i64 0).wf = true := by decide
      clear hb2
      go_wp2_with (refine wpList_insert_own _ rfl _ _ _ 144 rfl 9 3 lawS Try.underlying144 _ mb 0 _ rfl HN2.out.2.2 (by unfold maxLen; omega) _ _ (nameK (autoE l).start) rfl rfl HKEY.out _ [] (plainElem_int Try.underlying3 hwf0) ?_; intro w3 hown3 hg3)
      have HN3 := Lib.hid (show NumMap 9 w3 mb [nameK (autoE l).start] from ⟨by simp, fun k hk => by rw [List.mem_singleton.1 hk]; trivial, hown3⟩)
      have hf3 : Fr (fun k => k = mb) w2 w3 := Fr.grown (F := fun k => k = mb) hg3 (fun k h => by injection h with h; exact h.symm)
      have HB3 := Lib.hid (HB2.out.trans (hf3.below HB2.out.size (fun k hk => by have hk : k = mb := hk; have := HMB.out; omega)))
      have HF3 := Lib.hid (LLF.fr HF2.out hf3 (fun k hk (h : k = mb) => by have := HMB.out; omega))
      have HW3 := Lib.hid (show wr.heap.size ≤ w3.heap.size from Nat.le_trans HBW2.out.size hf3.size)
      clear hown3 hg3 hf3
      go_upto_region 10 with fail
      refine abs_wp fun W hW => ?_
      obtain ⟨ob, hob⟩ : ∃ ob, ob = w3.heap.size + 1 := ⟨_, rfl⟩
      have hal1 := below_alloc1 w3 (.cells #[.slice pu l.length cu] 141)
      have s1 : (w3.alloc (.cells #[.slice pu l.length cu] 141)).heap.size = w3.heap.size + 1 := by simp
      have hal2 := below_alloc1 (w3.alloc (.cells #[.slice pu l.length cu] 141)) (.cells #[.int .i64 classes, .slice none 0 0, .slice none 0 0] 77)
      have hw3 := HW3.out
      have hb3s := HB3.out.size
      have HAST := Lib.hid (show ASt w.heap.size W mb ob classes (fun k => w.heap.size ≤ k ∧ k < wr.heap.size) (.slice (some ⟨w3.heap.size, 0, none⟩) 1 1) (.slice none 0 0) (.slice none 0 0) ((cl (autoE l) classes 0).map nameK) (cl (autoE l) classes 0) (nextsAt (autoE l) classes 0) (outsAt (cl (autoE l) classes 0) (fun s => bitsL (outE s)) 0) by
        rw [hW, hob]
        have hsz : ((w3.alloc (.cells #[.slice pu l.length cu] 141)).alloc (.cells #[.int .i64 classes, .slice none 0 0, .slice none 0 0] 77)).heap.size = w3.heap.size + 1 + 1 := by simp
        refine ⟨⟨?_, by omega, OwnL.nil _, OwnL.nil _, fun k hk => ⟨hk.1, by rw [hsz]; omega, by omega, fun h => (by cases h), fun h => (by cases h)⟩⟩, ?_, by have := HMB.out; omega, ?_, fun k hk => ⟨by have := HMB.out; omega, fun h => ?_⟩⟩
        · rw [← s1]; exact heap_alloc_new _ _
        · exact (HN3.out.fr (Fr.of_belowB hal1) (by have := HN3.out.lt; omega)).fr (Fr.of_belowB hal2) (by have := HN3.out.lt; omega)
        · have hE : sitE (fun k => w.heap.size ≤ k ∧ k < wr.heap.size) w3 (autoE l).start [.slice pu l.length cu] := ⟨_, rfl, rfl, HF3.out⟩
          have h1 := OwnL.block1 (E := sitE (fun k => w.heap.size ≤ k ∧ k < wr.heap.size) w3) (base := w.heap.size) w3 141 (autoE l).start [.slice pu l.length cu] ⟨rfl, by simp [Value.oneCell']⟩ hE hb3s
          exact OwnL.mono (h1.below hal2 (Nat.le_refl _)) (fun x r hr => (sitE.fr hr (Fr.of_belowB hal1) (fun k hk h => by omega)).fr (Fr.of_belowB hal2) (fun k hk h => by omega))
        · have h2 : w3.heap.size = k := by injection h
          omega)
      have HBW := Lib.hid (show Below w.heap.size w W by rw [hW]; exact HB3.out.trans ((hal1.trans (hal2.mono (by omega))).mono hb3s))
      have hob0 : w.heap.size ≤ ob := by omega
      clear hW hal1 s1 hal2
      have HOBE := Lib.hid hob
      have hmt : ∀ (w : World), (Instr.makeSlice 46 (.int .i64 (classes : Nat)) (.int .i64 (classes : Nat))).run Try.prog w = .ok (.slice (some ⟨w.heap.size, 0, none⟩) classes classes) (w.alloc (.cells (List.replicate classes (Value.int .i64 0)).toArray 3)) := fun w => make_ints _ Try.underlying46 w _ classes rfl (by omega)
      rw [← hob]
      clear hob hwf0
      go_loopw [10, 12] (fun u i w1 => ∃ (n : Nat) (F : Nat → Prop) (nv ov : Value), i = .int .i64 n ∧ n ≤ (cl (autoE l) classes n).length ∧ (cl (autoE l) classes n).length ≤ 2000 ∧ ASt w.heap.size w1 mb ob classes F u nv ov ((cl (autoE l) classes n).map nameK) (cl (autoE l) classes n) (nextsAt (autoE l) classes n) (outsAt (cl (autoE l) classes n) (fun s => bitsL (outE s)) n) ∧ Below w.heap.size w w1) (fun _ i _ => 2001 - (intOf i).toNat)
      case atStart => exact ⟨0, _, _, _, rfl, by simp, by simp [cl], HAST.out, HBW.out⟩
      case round =>
        obtain ⟨n, F, nv, ov, rfl, hn1, hn2, hast, hbn⟩ := hrel
        obtain ⟨pv, cv, hu⟩ := hast.list.form
        subst hu
        obtain ⟨L, hL⟩ : ∃ L, L = cl (autoE l) classes n := ⟨_, rfl⟩
        obtain ⟨q, hq⟩ : ∃ q, q = L.length := ⟨_, rfl⟩
        rw [← hL] at hn1 hn2 hast ⊢
        rw [← hq] at hn1 hn2 hast ⊢
        have HLE := Lib.hid hL
        have HQ := Lib.hid hq
        have HAS := Lib.hid hast
        have HBN := Lib.hid hbn
        have hbns := hbn.size
        clear hL hq hast hbn
        by_cases hn : n < q
        · have hnl : n < L.length := by rw [← HQ.out]; exact hn
          obtain ⟨s, hs⟩ : ∃ s, s = L[n] := ⟨_, rfl⟩
          have HS := Lib.hid (show L[n]? = some s by rw [hs]; exact List.getElem?_eq_getElem hnl)
          have HLOK := Lib.hid (show ∀ x ∈ L, SitOk l x by rw [HLE.out]; exact cl_allP (fun s hs c => hs.step HR.out c) HOK0.out classes n)
          have HSOK := Lib.hid (HLOK.out s (by rw [hs]; exact List.getElem_mem hnl))
          have hni : (n : Int) < q := by omega
          have hn0 : (0 : Int) ≤ n := by omega
          clear hs
          go_upto_region 14 with fail
          refine abs_wp fun W1 hW1 => ?_
          obtain ⟨g, hg⟩ : ∃ g, g = wr.heap.size := ⟨_, rfl⟩
          have hal := below_alloc1 wr (.cells (List.replicate classes (Value.int .i64 0)).toArray 3)
          have HV1 := Lib.hid (show VRow W1 g 3 (List.replicate classes (Value.int .i64 0)) by rw [hW1, hg]; exact heap_alloc_new _ _)
          have HA1 := Lib.hid (show ASt w.heap.size W1 mb ob classes F (.slice pv q cv) nv ov (L.map nameK) L (nextsAt (autoE l) classes n) (outsAt L (fun s => bitsL (outE s)) n) by rw [hW1]; exact HAS.out.below hal)
          have HBW1 := Lib.hid (show Below w.heap.size w W1 by rw [hW1]; exact HBN.out.trans (hal.mono hbns))
          have HGF := Lib.hid (show ¬ F g by intro h; have := (HAS.out.m.foot g h).2.1; omega)
          have hg0 : w.heap.size ≤ g := by omega
          rw [← hg]
          clear hW1 hal hg
          obtain ⟨N, hN⟩ : ∃ N, N = nextsAt (autoE l) classes n := ⟨_, rfl⟩
          obtain ⟨O, hO⟩ : ∃ O, O = outsAt L (fun s => bitsL (outE s)) n := ⟨_, rfl⟩
          rw [← hN, ← hO] at HA1
          have HN := Lib.hid hN
          have HO := Lib.hid hO
          clear hN hO
          have HRP := Lib.hid (fun c => rowS_pre (autoE l) s L c)
          have HROK := Lib.hid (show ∀ c, ∀ x ∈ rowS (autoE l) s L c, SitOk l x from fun c => row_allP (fun s hs c => hs.step HR.out c) HSOK.out HLOK.out c)
          have HRL := Lib.hid (fun c => rowS_length (autoE l) s L c)
          go_wp2_with fail
          go_loopw [10, 51] (fun u j w2 => ∃ (c : Nat) (F : Nat → Prop), j = .int .i64 c ∧ c ≤ classes ∧ ASt w.heap.size w2 mb ob classes F u nv ov ((rowS (autoE l) s L c).map nameK) (rowS (autoE l) s L c) N O ∧ VRow w2 g 3 ((natsI (rowN (autoE l) L s c)).map (.int .i64) ++ List.replicate (classes - c) (.int .i64 0)) ∧ ¬ F g ∧ Below w.heap.size w w2) (fun _ j _ => classes - (intOf j).toNat)
          case atStart => exact ⟨0, F, rfl, by omega, HA1.out, HV1.out, HGF.out, HBW1.out⟩
          case round =>
            obtain ⟨c, F2, rfl, hc1, hast, hv, hgf, hb2⟩ := hrel
            obtain ⟨pv2, cv2, hu⟩ := hast.list.form
            subst hu
            obtain ⟨L2, hL2⟩ : ∃ L2, L2 = rowS (autoE l) s L c := ⟨_, rfl⟩
            obtain ⟨q2, hq2⟩ : ∃ q2, q2 = L2.length := ⟨_, rfl⟩
            rw [← hL2] at hast ⊢
            rw [← hq2] at hast ⊢
            have HL2 := Lib.hid hL2
            have HQ2 := Lib.hid hq2
            have HA2 := Lib.hid hast
            have HV2 := Lib.hid hv
            have HGF2 := Lib.hid hgf
            have HB2' := Lib.hid hb2
            have hb2s := hb2.size
            clear hL2 hq2 hast hv hgf hb2
            by_cases hcc : c < classes
            · have hql : q ≤ q2 := by have := (HRP.out c).length_le; rw [HQ.out, HQ2.out, HL2.out]; exact this
              have hn2l : n < L2.length := by have := HQ2.out; omega
              have hn2q : n < q2 := by omega
              have hni2 : (n : Int) < q2 := by omega
              have hs2 : L2[n]? = some s := by
                obtain ⟨r, hr⟩ := HRP.out c
                rw [HL2.out, ← hr, List.getElem?_append_left (by have := HQ.out; omega)]
                exact HS.out
              obtain ⟨pv3, cv3, he, hq2c, hxx⟩ := HA2.out.list.read.at (by decide) HQ2.out.symm
              injection he with e1 e2 e3
              subst e1 e3
              obtain ⟨bl, ol, row, rfl, hbl2, hcell, hrow⟩ := hxx n s hs2
              obtain ⟨sv, rfl, -, hsv⟩ := hrow
              have d0 : wr.cell? ⟨bl, ol + n, none⟩ = some sv := by have := hcell 0 sv rfl; simpa using this
              have HST := Lib.hid (step_sit F2 wr bb l (HB0.out.to (HB2'.out.mono (Nat.le_refl _))) hl HR.out sv s hsv HSOK.out c)
              obtain ⟨ps, cs, rfl, -, -⟩ := hsv.1.get (by decide)
              have hcci : (c : Int) < classes := by omega
              have hc0 : (0 : Int) ≤ c := by omega
              have hsz : s.length ≤ 64 := by have := HSOK.out.1; omega
              clear hxx hcell hsv hs2 hn2l e2
              go_wp2_with fail
              refine HST.out.mono ?_
              rintro e w4 ⟨u4v, rfl, hown4, hb4⟩
              have HS' := Lib.hid (HSOK.out.step HR.out c)
              obtain ⟨s', hs'⟩ : ∃ s', s' = (autoE l).step s c := ⟨_, rfl⟩
              rw [← hs'] at hown4 HS'
              have HSE := Lib.hid hs'
              obtain ⟨p4, c4, hu4⟩ := OwnL.form hown4
              subst hu4
              have HLL := Lib.hid hown4.llf
              have HB4 := Lib.hid hb4
              have hs'l : s'.length ≤ 64 := by have := HS'.out.1; omega
              have HNM := Lib.hid (name_any _ w4 _ s' HLL.out hs'l (sitK_small HR.out HS'.out))
              clear hown4 hb4 hs' d0
              go_wp2_with fail
              refine HNM.out.mono ?_
              rintro e w5 ⟨rfl, hb5⟩
              have HB5 := Lib.hid (HB4.out.trans (hb5.mono HB4.out.size))
              have HLL5 := Lib.hid (HLL.out.below hb5 (Nat.le_refl _))
              have HA5 := Lib.hid (HA2.out.below HB5.out)
              have HV5 := Lib.hid (HV2.out.fr (Fr.of_belowB HB5.out) (by have := HV2.out.lt; omega))
              have h45 := hb5.size
              clear hb5
              have hq2n : q2 ≤ 100000 := by have := HRL.out c; rw [← HL2.out, ← HQ2.out, ← HQ.out] at this; omega
              have HNU := Lib.hid (number_str w5 mb (L2.map nameK) (strOf (nameL s')) HA5.out.num (strOf_small HR.out hl HS'.out) (by rw [List.length_map, ← HQ2.out]; omega))
              have hkp := key_place (P := SitOk l) (f := nameK) (sitK_inj HR.out) (l := L2) (s := s') (by rw [HL2.out]; exact HROK.out c) HS'.out
              have HKP := Lib.hid hkp
              have HNU2 := Lib.hid (show Calls Try.prog 84 #[.map (some mb), .string (strOf (nameL s'))] w5 fun e w' => e = .returned (.tuple #[.int .i64 (place L2 s' : Nat), .bool (!decide (s' ∈ L2))]) ∧ NumMap 9 w' mb ((putS L2 s').map nameK) ∧ w5.grownBy w' (some mb) by
                refine HNU.out.mono ?_
                rintro e w' ⟨h1, h2, h3⟩
                have e1 : place (L2.map nameK) (Lit.string (strOf (nameL s')).data.toList) = place L2 s' := HKP.out.1
                have e2 : putS (L2.map nameK) (Lit.string (strOf (nameL s')).data.toList) = (putS L2 s').map nameK := HKP.out.2.1
                have e3 : (Lit.string (strOf (nameL s')).data.toList ∈ L2.map nameK) ↔ s' ∈ L2 := HKP.out.2.2
                rw [e1, show decide (Lit.string (strOf (nameL s')).data.toList ∈ L2.map nameK) = decide (s' ∈ L2) by simp only [e3]] at h1
                rw [e2] at h2
                exact ⟨h1, h2, h3⟩)
              clear hkp HNU
              obtain ⟨k', hk'⟩ : ∃ k', k' = place L2 s' := ⟨_, rfl⟩
              have HK := Lib.hid hk'
              have hk'l : k' ≤ 200000 := by rw [hk']; have := place_le L2 s'; rw [← HQ2.out] at this; omega
              rw [← hk'] at HNU2
              clear hk'
              have HROW := Lib.hid (show rowN (autoE l) L s (c + 1) = rowN (autoE l) L s c ++ [k'] by rw [rowN_snoc, HK.out, HL2.out, HSE.out])
              have HPUT := Lib.hid (show rowS (autoE l) s L (c + 1) = putS L2 s' by rw [rowS, ← HL2.out, HSE.out])
              by_cases hfresh : s' ∈ L2
              · have hdec : decide (s' ∈ L2) = true := decide_eq_true hfresh
                rw [hdec] at HNU2
                have HFR := Lib.hid hfresh
                clear hdec hfresh
                go_wp2_with fail
                refine HNU2.out.mono ?_
                rintro e w6 ⟨rfl, hnm6, hg6⟩
                have HA6 := Lib.hid (HA5.out.newK hg6 hnm6)
                have hf6 : Fr (fun k => k = mb) w5 w6 := Fr.grown (F := fun k => k = mb) hg6 (fun k h => by injection h with h; exact h.symm)
                have hgm : ¬ g = mb := fun h => HA5.out.num.notAt HV5.out h
                have HV6 := Lib.hid (HV5.out.fr hf6 hgm)
                have HB6 := Lib.hid (HB2'.out.trans ((HB5.out.mono hb2s).trans (hf6.below (Nat.le_trans hb2s HB5.out.size) (fun k (hk : k = mb) => by rw [hk]; exact HA5.out.mb0))))
                clear hnm6 hg6 hf6 hgm
                have hrl := rowN_length (autoE l) L s c
                have hfl : ((natsI (rowN (autoE l) L s c)).map (Value.int .i64)).length = c := by simp [natsI, hrl]
                have HFS := Lib.hid (fill_set ((natsI (rowN (autoE l) L s c)).map (Value.int .i64)) (classes - c) (.int .i64 (k' : Nat)) (.int .i64 0) hfl (by omega))
                have z0 := HV6.out.cell (i := c) (u := .int .i64 0) (by rw [List.getElem?_append_right (by omega), hfl, Nat.sub_self, List.getElem?_replicate, if_pos (by omega)])
                have z1 := HV6.out.fz c
                clear hrl hfl
                go_upto_region 22 with fail
                refine abs_wp fun W8 hW8 => ?_
                have HA8 := Lib.hid (show ASt w.heap.size W8 mb ob classes F2 (.slice (some ⟨bl, ol, none⟩) q2 cv2) nv ov ((rowS (autoE l) s L (c + 1)).map nameK) (rowS (autoE l) s L (c + 1)) N O by
                  have e : rowS (autoE l) s L (c + 1) = L2 := by rw [HPUT.out, putS, if_pos HFR.out]
                  have h := HA6.out.put HV6.out HGF2.out c (.int .i64 k')
                  rw [hW8, e]
                  rw [putS, if_pos HFR.out] at h
                  exact h)
                have HV8 := Lib.hid (show VRow W8 g 3 ((natsI (rowN (autoE l) L s (c + 1))).map (.int .i64) ++ List.replicate (classes - (c + 1)) (.int .i64 0)) by
                  have h := HV6.out.set c (.int .i64 k')
                  rw [HFS.out] at h
                  rw [hW8, HROW.out]
                  have e : (natsI (rowN (autoE l) L s c ++ [k'])).map (Value.int .i64) = (natsI (rowN (autoE l) L s c)).map (Value.int .i64) ++ [.int .i64 (k' : Nat)] := by simp [natsI]
                  rw [e, show classes - (c + 1) = classes - c - 1 by omega]
                  exact h)
                have HB8 := Lib.hid (show Below w.heap.size w W8 by rw [hW8]; exact HB6.out.trans ((Fr.setCell (F := fun k => k = g) w6 rfl _).below HB6.out.size (fun k (hk : k = g) => by omega)))
                clear hW8 z0 z1
                go_wp2_with fail
                go_roundw
                case rel => exact ⟨c + 1, _, by go_num, by omega, HA8.out, HV8.out, HGF2.out, HB8.out⟩
                case measure => simp [intOf]; omega
              · have hdec : decide (s' ∈ L2) = false := decide_eq_false hfresh
                rw [hdec] at HNU2
                have HFR := Lib.hid hfresh
                clear hdec hfresh
                go_wp2_with fail
                refine HNU2.out.mono ?_
                rintro e w6 ⟨rfl, hnm6, hg6⟩
                have HA6 := Lib.hid (HA5.out.newK hg6 hnm6)
                have hf6 : Fr (fun k => k = mb) w5 w6 := Fr.grown (F := fun k => k = mb) hg6 (fun k h => by injection h with h; exact h.symm)
                have hgm : ¬ g = mb := fun h => HA5.out.num.notAt HV5.out h
                have HV6 := Lib.hid (HV5.out.fr hf6 hgm)
                have HLL6 := Lib.hid (LLF.fr HLL5.out hf6 (fun k hk (h : k = mb) => by have := HA2.out.num.lt; omega))
                have HB6 := Lib.hid (HB2'.out.trans ((HB5.out.mono hb2s).trans (hf6.below (Nat.le_trans hb2s HB5.out.size) (fun k (hk : k = mb) => by rw [hk]; exact HA5.out.mb0))))
                have h56 := hf6.size
                clear hnm6 hg6 hf6 hgm
                have hXlt : ∀ k, (wr.heap.size ≤ k ∧ k < w4.heap.size) → w.heap.size ≤ k ∧ k < w6.heap.size ∧ k ≠ ob ∧ k ≠ mb ∧ (Value.slice (some ⟨bl, ol, none⟩) q2 cv2).ownBlock ≠ some k ∧ nv.ownBlock ≠ some k ∧ ov.ownBlock ≠ some k := fun k hk => by
                  have h1 := at_lt HA2.out.m.mach
                  have h2 := HA2.out.num.lt
                  refine ⟨by omega, by omega, by omega, by omega, fun h => ?_, fun h => ?_, fun h => ?_⟩
                  · have := (HA2.out.list.lt k h).2; omega
                  · have := (HA2.out.m.next.lt k h).2; omega
                  · have := (HA2.out.m.outs.lt k h).2; omega
                have HX := Lib.hid hXlt
                have hal6 := below_alloc1 w6 (.cells #[Value.slice p4 s'.length c4] 141)
                have HAL6 := Lib.hid hal6
                have HE6 := Lib.hid (show sitE (fun k => F2 k ∨ (wr.heap.size ≤ k ∧ k < w4.heap.size)) w6 s' [Value.slice p4 s'.length c4] from ⟨_, rfl, rfl, LLF.mono HLL6.out (fun k hk => .inr hk)⟩)
                have HO6 := Lib.hid (show OwnL (sitE (fun k => F2 k ∨ (wr.heap.size ≤ k ∧ k < w4.heap.size)) w6) 141 1 w.heap.size (w6.alloc (.cells #[Value.slice p4 s'.length c4] 141)) (.slice (some ⟨bl, ol, none⟩) q2 cv2) L2 from
                  OwnL.mono (OwnL.below HA6.out.list hal6 (Nat.le_refl _)) (fun x r hr => sitE.mono hr (fun k hk => .inl hk)))
                have hbw6 := HB6.out.size
                clear hXlt hal6
                go_wp2_with (refine stop_at (.call { callee := .builtin .append, args := #[.tmp 69, .tmp 71], argTypes := #[145, 145] }) rfl ?_)
                refine ⟨?_⟩
                refine wpList_append_sits rfl (.tmp 69) (.tmp 71) rfl (.slice (some ⟨bl, ol, none⟩) q2 cv2) L2 q2 HQ2.out.symm rfl HO6.out _ s' rfl (ReadL.one w6 _ s' [Value.slice p4 s'.length c4] ⟨rfl, by simp [Value.oneCell']⟩ HE6.out) (by omega) (Nat.le_trans hbw6 HAL6.out.size) ?_
                intro p7 c7 w7 hown7 hg7 hlie7
                have hf7 : Fr (fun k => (Value.slice (some ⟨bl, ol, none⟩) q2 cv2).ownBlock = some k) w6 w7 := (Fr.of_below HAL6.out _).trans (Fr.grown (F := fun k => (Value.slice (some ⟨bl, ol, none⟩) q2 cv2).ownBlock = some k) hg7 (fun k h => h)) (fun _ _ h => h)
                have HA7 := Lib.hid (HA6.out.newL HX.out hf7 hown7 (by
                  rcases hlie7 with h | h
                  · exact .inl h
                  · refine .inr fun k hk => ?_
                    rw [h] at hk
                    have := Option.some.inj hk
                    have := HAL6.out.size
                    omega))
                have HV7 := Lib.hid (HV6.out.fr hf7 (fun h => HA6.out.list.notAt HV6.out (by decide) h))
                have HB7 := Lib.hid (HB6.out.trans (hf7.below hbw6 (fun k hk => (HA6.out.list.lt k hk).1)))
                have hVl := HV2.out.lt
                have HG7 := Lib.hid (show ¬ (F2 g ∨ (wr.heap.size ≤ g ∧ g < w4.heap.size)) by rintro (h | h); exact HGF2.out h; omega)
                clear hown7 hg7 hlie7 hf7 hVl
                have hrl := rowN_length (autoE l) L s c
                have hfl : ((natsI (rowN (autoE l) L s c)).map (Value.int .i64)).length = c := by simp [natsI, hrl]
                have HFS := Lib.hid (fill_set ((natsI (rowN (autoE l) L s c)).map (Value.int .i64)) (classes - c) (.int .i64 (k' : Nat)) (.int .i64 0) hfl (by omega))
                have z0 := HV7.out.cell (i := c) (u := .int .i64 0) (by rw [List.getElem?_append_right (by omega), hfl, Nat.sub_self, List.getElem?_replicate, if_pos (by omega)])
                have z1 := HV7.out.fz c
                clear hrl hfl
                go_upto_region 22 with fail
                refine abs_wp fun W8 hW8 => ?_
                have HA8 := Lib.hid (show ASt w.heap.size W8 mb ob classes (fun k => F2 k ∨ (wr.heap.size ≤ k ∧ k < w4.heap.size)) (.slice p7 (q2 + 1) c7) nv ov ((rowS (autoE l) s L (c + 1)).map nameK) (rowS (autoE l) s L (c + 1)) N O by
                  have e : rowS (autoE l) s L (c + 1) = L2 ++ [s'] := by rw [HPUT.out, putS, if_neg HFR.out]
                  have h := HA7.out.put HV7.out HG7.out c (.int .i64 k')
                  rw [hW8, e]
                  rw [putS, if_neg HFR.out] at h
                  exact h)
                have HV8 := Lib.hid (show VRow W8 g 3 ((natsI (rowN (autoE l) L s (c + 1))).map (.int .i64) ++ List.replicate (classes - (c + 1)) (.int .i64 0)) by
                  have h := HV7.out.set c (.int .i64 k')
                  rw [HFS.out] at h
                  rw [hW8, HROW.out]
                  have e : (natsI (rowN (autoE l) L s c ++ [k'])).map (Value.int .i64) = (natsI (rowN (autoE l) L s c)).map (Value.int .i64) ++ [.int .i64 (k' : Nat)] := by simp [natsI]
                  rw [e, show classes - (c + 1) = classes - c - 1 by omega]
                  exact h)
                have HB8 := Lib.hid (show Below w.heap.size w W8 by rw [hW8]; exact HB7.out.trans ((Fr.setCell (F := fun k => k = g) w7 rfl _).below HB7.out.size (fun k (hk : k = g) => by omega)))
                clear hW8 z0 z1
                go_wp2_with fail
                go_roundw
                case rel => exact ⟨c + 1, _, by go_num, by omega, HA8.out, HV8.out, HG7.out, HB8.out⟩
                case measure => simp [intOf]; omega
            · have hcci : ¬ (c : Int) < classes := by omega
              obtain rfl : classes = c := by omega
              have hcl1 : cl (autoE l) classes (n + 1) = rowS (autoE l) s L classes := by rw [cl_succ (A := autoE l) (s := s) (by rw [← HLE.out]; exact HS.out), ← HLE.out]
              have HCL := Lib.hid hcl1
              have hq2n : q2 ≤ 100000 := by have := HRL.out classes; rw [← HL2.out, ← HQ2.out, ← HQ.out] at this; omega
              have hV9 := HV2.out
              rw [Nat.sub_self, List.replicate_zero, List.append_nil] at hV9
              have HV9 := Lib.hid hV9
              clear hcl1 hV9
              by_cases hbig : 2000 < q2
              · have HTM := Lib.hid (show TooMany (autoE l) classes from ⟨n + 1, by rw [HCL.out, ← HL2.out, ← HQ2.out]; exact hbig⟩)
                have hbi : (2000 : Int) < q2 := by omega
                go_wp2_with fail
                go_ret2
                exact ⟨HB2'.out, .inl ⟨HTM.out, rfl⟩⟩
              · have hbi : ¬ (2000 : Int) < q2 := by omega
                have HNS := Lib.hid (show nextsAt (autoE l) classes (n + 1) = N ++ [rowN (autoE l) L s classes] by rw [nextsAt_succ (s := s) (by rw [← HLE.out]; exact HS.out), HN.out, ← HLE.out])
                have HOS := Lib.hid (show outsAt L2 (fun s => bitsL (outE s)) (n + 1) = O ++ [bitsL (outE s)] by
                  have := outsAt_succ (A := autoE l) (classes := classes) (n := n) (s := s) (fun s => bitsL (outE s)) (by rw [← HLE.out]; exact HS.out)
                  rw [HCL.out, ← HL2.out, ← HLE.out, ← HO.out] at this
                  exact this)
                have hNl : N.length = n := by
                  rw [HN.out]
                  unfold nextsAt
                  rw [List.length_map, List.length_take, ← HLE.out, ← HQ.out]
                  omega
                have hOl : O.length = n := by
                  rw [HO.out]
                  unfold outsAt
                  rw [List.length_map, List.length_take, ← HQ.out]
                  omega
                have HNL := Lib.hid hNl
                have HOL := Lib.hid hOl
                obtain ⟨pn, cn, hnv⟩ := HA2.out.m.next.form
                obtain ⟨po, co, hov⟩ := HA2.out.m.outs.form
                rw [hNl] at hnv
                rw [hOl] at hov
                obtain ⟨m0, m1, m2⟩ := cells3 HA2.out.m.mach
                have f1 := fz_at HA2.out.m.mach 1
                have HNV := Lib.hid hnv
                have HOV := Lib.hid hov
                rw [hnv] at m1
                rw [hov] at m2
                have hal := below_alloc1 wr (.cells #[Value.slice (some ⟨g, 0, none⟩) classes classes] 46)
                have HAL := Lib.hid hal
                have hgF := HGF2.out
                have hgl := HV2.out.lt
                have HEN := Lib.hid (show nrowE (fun k => F2 k ∨ k = g) wr (rowN (autoE l) L s classes) [Value.slice (some ⟨g, 0, none⟩) classes classes] by
                  have hrl := rowN_length (autoE l) L s classes
                  have hnl2 : (natsI (rowN (autoE l) L s classes)).length = classes := by simp [natsI, hrl]
                  refine ⟨_, rfl, rfl, ?_, fun _ k hk => .inr (by injection hk with hk; exact hk.symm)⟩
                  have h := Raw.of_block (n := classes) (cs := (natsI (rowN (autoE l) L s classes)).map (Value.int .i64)) HV9.out
                  unfold Ints
                  rw [hnl2]
                  exact h)
                have HON := Lib.hid (show OwnL (nrowE (fun k => F2 k ∨ k = g) wr) 46 1 w.heap.size (wr.alloc (.cells #[Value.slice (some ⟨g, 0, none⟩) classes classes] 46)) (.slice pn n cn) N by
                  rw [← hnv]
                  exact OwnL.mono (OwnL.below HA2.out.m.next hal (Nat.le_refl _)) (fun x r hr => rowE.mono hr (fun k hk => .inl hk)))
                clear hnv hov hNl hOl
                go_wp2_with (refine stop_at (.call { callee := .builtin .append, args := #[.tmp 85, .tmp 87], argTypes := #[75, 75] }) rfl ?_)
                refine ⟨?_⟩
                refine wpList_append_nrows rfl (.tmp 85) (.tmp 87) rfl (.slice pn n cn) N n HNL.out rfl HON.out _ (rowN (autoE l) L s classes) rfl (ReadL.one wr _ _ [Value.slice (some ⟨g, 0, none⟩) classes classes] ⟨rfl, by simp [Value.oneCell']⟩ HEN.out) (by omega) (Nat.le_trans hb2s HAL.out.size) ?_
                intro p7 c7 w7 hown7 hg7 hlie7
                have hf7 : Fr (fun k => (Value.slice pn n cn).ownBlock = some k) wr w7 := (Fr.of_below HAL.out _).trans (Fr.grown (F := fun k => (Value.slice pn n cn).ownBlock = some k) hg7 (fun k h => h)) (fun _ _ h => h)
                have hob7 := (hf7.block ob (at_lt HA2.out.m.mach) (by rw [← HNV.out]; exact HA2.out.m.next.notAt HA2.out.m.mach (by decide))).trans HA2.out.m.mach
                obtain ⟨y0, y1, y2⟩ := cells3 hob7
                have f7 := fz_at hob7 1
                have HF7 := Lib.hid hf7
                have HOW7 := Lib.hid hown7
                have HLI7 := Lib.hid hlie7
                clear hown7 hg7 hlie7 hf7 hob7 m0 m1 m2 f1
                go_upto_region 26 with fail
                refine abs_wp fun W9 hW9 => ?_
                have h9 := HA2.out.newN hb2s (F' := fun k => F2 k ∨ k = g) (fun k hk => .inl hk) (fun k hk => by
                  rcases hk with hk | hk
                  · exact .inl hk
                  · subst hk
                    exact .inr ⟨hg0, hgl, fun e => HV2.out.not_mach HA2.out.m.mach e, HA2.out.m.next.notAt HV2.out (by decide), HA2.out.m.outs.notAt HV2.out (by decide), HA2.out.num.notAt HV2.out, HA2.out.list.notAt HV2.out (by decide)⟩) (w1 := w7) (w2 := W9) (nv' := .slice p7 (n + 1) c7) (N' := N ++ [rowN (autoE l) L s classes]) (by rw [HNV.out]; exact HF7.out) HOW7.out (by
                  rw [HNV.out]
                  rcases HLI7.out with h | h
                  · exact .inl h
                  · refine .inr fun k hk => ?_
                    rw [h] at hk
                    have := Option.some.inj hk
                    have := HAL.out.size
                    omega) hW9
                have HA9 := Lib.hid h9.1
                have HB9 := Lib.hid (HB2'.out.trans (h9.2.below hb2s (fun k hk => by
                  rcases hk with hk | hk
                  · exact (HA2.out.m.next.lt k hk).1
                  · rw [hk]; exact HA2.out.m.base0)))
                clear h9 hW9 y0 y1 y2 f7
                have hb9s := HB9.out.size
                have hql : q ≤ q2 := by have := (HRP.out classes).length_le; rw [HQ.out, HQ2.out, HL2.out]; exact this
                have hni2 : (n : Int) < q2 := by omega
                have hs2 : L2[n]? = some s := by
                  obtain ⟨r, hr⟩ := HRP.out classes
                  rw [HL2.out, ← hr, List.getElem?_append_left (by have := HQ.out; omega)]
                  exact HS.out
                obtain ⟨pv3, cv3, he, hq2c, hxx⟩ := HA9.out.list.read.at (by decide) HQ2.out.symm
                injection he with e1 e2 e3
                subst e1 e3
                obtain ⟨bl, ol, row, rfl, hbl2, hcell, hrow⟩ := hxx n s hs2
                obtain ⟨sv, rfl, -, hsv⟩ := hrow
                have d0 : W9.cell? ⟨bl, ol + n, none⟩ = some sv := by have := hcell 0 sv rfl; simpa using this
                obtain ⟨ps, cs, rfl, -, -⟩ := hsv.1.get (by decide)
                obtain ⟨m0, m1, m2⟩ := cells3 HA9.out.m.mach
                rw [HOV.out] at m2
                have HD0 := Lib.hid d0
                have HM2 := Lib.hid m2
                have HSV := Lib.hid hsv
                clear hxx hcell hsv hs2 e2 d0 m0 m1 m2
                refine wp_region_fin 15 (fun W => W.cell? ⟨ob, 2, none⟩ = some (.slice po n co) ∧ W.cell? ⟨bl, ol + n, none⟩ = some (.slice ps s.length cs)) (.reads [0, 1, 2, 3, 4, 5, 6, 7, 8, 9] (.one 10 (.one 11 (.one 12 (.one 13 (.one 14 (.last 15))))))) 107 (by kernel_rfl) (by kernel_rfl) rfl (fun _ _ _ _ _ h => h) ⟨HM2.out, HD0.out⟩ ?_
                apply plan_reads
                · intro W hW
                  obtain ⟨k0, k1⟩ := hW
                  repeat (refine wpRead_step (fun K hK => ?_); go_simp; refine hK _ ?_; clear hK K)
                  exact wpRead_nil rfl
                refine abs_plan fun WA hWA => ?_
                have hd9 : Fr (fun _ => False) W9 WA := by rw [hWA]; exact (Fr.refl (fun _ => False) _).drew
                have HAA := Lib.hid (show ASt w.heap.size WA mb ob classes (fun k => F2 k ∨ k = g) (.slice (some ⟨bl, ol, none⟩) q2 cv2) (.slice p7 (n + 1) c7) ov (L2.map nameK) L2 (N ++ [rowN (autoE l) L s classes]) O from HA9.out.fr hd9 (fun _ _ h => h.elim))
                have HBA := Lib.hid (HB9.out.trans (hd9.below hb9s (fun _ h => h.elim)))
                have HFIT := Lib.hid (fits_sit (fun k => F2 k ∨ k = g) WA bb l (HB0.out.to (HBA.out.mono (Nat.le_refl _))) hl _ s (LLF.fr HSV.out hd9 (fun _ _ h => h)) HSOK.out)
                have HA0 := Lib.hid (show WA.cell? ⟨ob, 2, none⟩ = some (.slice po n co) by rw [hWA]; exact HM2.out)
                have HA1' := Lib.hid (show WA.cell? ⟨bl, ol + n, none⟩ = some (.slice ps s.length cs) by rw [hWA]; exact HD0.out)
                have hbas := HBA.out.size
                clear hWA hd9
                refine plan_one rfl ?_
                go_wp2_with fail
                refine HFIT.out.mono ?_
                rintro e wz ⟨rfl, rfl⟩
                go_wp2_with fail
                refine Then.mk ⟨HA0.out, HA1'.out⟩ ?_
                refine plan_one rfl ?_
                obtain ⟨bz, hbz⟩ : ∃ bz, bz = bitsL (outE s) := ⟨_, rfl⟩
                have HBZ := Lib.hid hbz
                rw [← hbz]
                clear hbz
                have halA := below_alloc1 WA (.cells #[Value.int .u64 (bz : Nat)] 37)
                have HALA := Lib.hid halA
                have hA0b := cell_below halA (World.block_lt_of_cell? WA _ HA0.out) HA0.out
                have hA1b := cell_below halA (World.block_lt_of_cell? WA _ HA1'.out) HA1'.out
                have HS1 := Lib.hid (And.intro hA0b hA1b)
                have HOO := Lib.hid (show OwnL u64E 37 1 w.heap.size (WA.alloc (.cells #[Value.int .u64 (bz : Nat)] 37)) (.slice po n co) O by rw [← HOV.out]; exact OwnL.below HAA.out.m.outs halA (Nat.le_refl _))
                clear halA hA0b hA1b
                go_wp2_with fail
                refine Then.mk HS1.out ?_
                refine plan_one rfl ?_
                refine wpList_append_u64 rfl (.tmp 95) (.tmp 102) rfl (.slice po n co) O n HOL.out rfl HOO.out _ bz rfl (ReadL.one WA _ bz [Value.int .u64 (bz : Nat)] ⟨rfl, by simp [Value.oneCell']⟩ rfl) (by omega) (Nat.le_trans hbas HALA.out.size) ?_
                intro pB cB wB hownB hgB hlieB
                have hfB : Fr (fun k => (Value.slice po n co).ownBlock = some k) WA wB := (Fr.of_below HALA.out _).trans (Fr.grown (F := fun k => (Value.slice po n co).ownBlock = some k) hgB (fun k h => h)) (fun _ _ h => h)
                have HFB := Lib.hid hfB
                have hobB := (hfB.block ob (at_lt HAA.out.m.mach) (by rw [← HOV.out]; exact HAA.out.m.outs.notAt HAA.out.m.mach (by decide))).trans HAA.out.m.mach
                have HSB := Lib.hid (show wB.cell? ⟨ob, 2, none⟩ = some (.slice po n co) ∧ wB.cell? ⟨bl, ol + n, none⟩ = some (.slice ps s.length cs) from ⟨by rw [← HOV.out]; exact (cells3 hobB).2.2, hfB.cell (p := ⟨bl, ol + n, none⟩) (fun h => by
                  obtain ⟨cs1, hcs1⟩ := HAA.out.list.blkT bl rfl
                  exact HAA.out.m.outs.notAt hcs1 (by decide) (by rw [HOV.out]; exact h)) HA1'.out⟩)
                have HOB := Lib.hid hobB
                have HOWB := Lib.hid hownB
                have HLIB := Lib.hid hlieB
                clear hownB hgB hlieB hfB hobB
                go_wp2_with fail
                refine Then.mk HSB.out ?_
                refine plan_one rfl ?_
                go_wp2_with fail
                refine Then.mk HSB.out ?_
                refine plan_one rfl ?_
                go_wp2_with fail
                refine Then.mk HSB.out ?_
                refine plan_last rfl ?_
                obtain ⟨y0, y1, y2⟩ := cells3 HOB.out
                have fB := fz_at HOB.out 2
                go_wp2_with fail
                have hC := HAA.out.newO hbas (w1 := wB) (w2 := wB.setCell ⟨ob, 2, none⟩ (.slice pB (n + 1) cB)) (ov' := .slice pB (n + 1) cB) (O' := O ++ [bz]) (by rw [HOV.out]; exact HFB.out) HOWB.out (by
                  rw [HOV.out]
                  rcases HLIB.out with h | h
                  · exact .inl h
                  · refine .inr fun k hk => ?_
                    rw [h] at hk
                    have := Option.some.inj hk
                    have := HALA.out.size
                    omega) rfl
                go_roundw
                case rel =>
                  refine ⟨n + 1, (fun k => F2 k ∨ k = g), .slice p7 (n + 1) c7, .slice pB (n + 1) cB, by go_num, by rw [HCL.out, ← HL2.out, ← HQ2.out]; omega, by rw [HCL.out, ← HL2.out, ← HQ2.out]; omega, ?_, HBA.out.trans (hC.2.below hbas (fun k hk => ?_))⟩
                  · rw [HCL.out, ← HL2.out, HNS.out, HOS.out, ← HBZ.out]
                    exact hC.1
                  · rcases hk with hk | hk
                    · exact (HAA.out.m.outs.lt k hk).1
                    · rw [hk]; exact HAA.out.m.base0
                case measure => simp [intOf]; omega
        · have hni : ¬ (n : Int) < q := by omega
          obtain rfl : q = n := by omega
          have HOV := Lib.hid (show Over (autoE l) classes q by unfold Over; rw [← HLE.out, ← HQ.out]; exact Nat.le_refl _)
          have HFEW := Lib.hid (few_of_over HOV.out (by rw [← HLE.out, ← HQ.out]; exact hn2))
          have HSAME := Lib.hid (show cl (autoE l) classes 2000 = L from by rw [HLE.out]; exact over_mono HOV.out hn2)
          go_wp2_with fail
          go_ret2
          refine ⟨HBN.out, .inr ⟨HFEW.out, ob, hob0, rfl, ?_⟩⟩
          have h := HAS.out.m.machD
          rw [HSAME.out]
          have e1 : nextsAt (autoE l) classes q = nextsOf (autoE l) classes L := by rw [nextsAt_over HOV.out, HLE.out]
          have e2 : outsAt L (fun s => bitsL (outE s)) q = L.map fun s => bitsL (outE s) := by rw [HLE.out]; exact outsAt_over _ HOV.out
          rw [e1, e2] at h
          exact h
end Go.Proofs.Ythmaokjhncokdaa

/-
  dfa.inside: whether an expression has just classes below a number; slices.ContainsFunc. No condition beyond what each theorem names.
-/
set_option linter.unusedVariables false
set_option linter.unusedSimpArgs false
namespace Go.Proofs.Ythmaokjhncokdaa
open Go.RowKit

/-- what a function value of one variable answers of a number, wherever nothing but new memory has come -/
def AnswersI (w : World) (F : Nat) (p : Value) (q : Int → Bool) (xs : List Int) : Prop :=
  ∀ x ∈ xs, ∀ w1, Below w.heap.size w w1 → Calls Try.prog F #[.int .i64 x, p] w1 fun e w2 => e = .returned (.bool (q x)) ∧ Below w1.heap.size w1 w2

set_option maxRecDepth 100000 in
set_option maxHeartbeats 1000000 in
theorem indexF_ints (w : World) (v : Value) (xs : List Int) (F : Nat) (p : Value) (q : Int → Bool) (hn : xs.length ≤ 9223372036854775807) (hv : Ints w v xs) (hE : Enters Try.prog F) (hF : AnswersI w F p q xs) :
    Calls Try.prog 100 #[v, .func (.func F) #[] #[p]] w fun e w' => e = .returned (.int .i64 (idxOf q xs)) ∧ Below w.heap.size w w' := by
  obtain ⟨pp, cap, rfl, hcap, hx⟩ := hv.get
  have HX := Lib.hid hx
  have HF := Lib.hid hF
  obtain ⟨n, hlen⟩ : ∃ n, n = xs.length := ⟨_, rfl⟩
  rw [← hlen] at hn hcap ⊢
  have HL := Lib.hid hlen
  have hE := hE
  unfold Enters at hE
  clear hlen hx hv hF
  go_enter Try.func100, Try.ntmps100
  go_wp2_with fail
  go_loopw [8] (fun i wr => ∃ k : Nat, i = .int .i64 k ∧ k ≤ n ∧ (∀ j (h : j < xs.length), j < k → q xs[j] = false) ∧ Below w.heap.size w wr) (fun i _ => n - (intOf i).toNat)
  case atStart => exact ⟨0, rfl, by omega, by intro j hj h; omega, Below.refl _ _⟩
  case round =>
    obtain ⟨k, rfl, h1, h2, hb⟩ := hrel
    have H2 := Lib.hid h2
    have HB := Lib.hid hb
    clear h2
    by_cases hlt : k < n
    · have hl : k < xs.length := HL.out ▸ hlt
      obtain ⟨b, off, rfl, hbl, hy⟩ := HX.out (by omega)
      have hc := cell_below hb hbl (hy k hl)
      have HD := Lib.hid (HF.out xs[k] (List.getElem_mem hl) wr hb)
      obtain ⟨x, hxe⟩ : ∃ x, x = xs[k] := ⟨_, rfl⟩
      rw [← hxe] at hc HD
      have HXE := Lib.hid hxe
      clear hy hxe hb
      cases hq : q x
      · have HQ := Lib.hid (show q xs[k] = false by rw [← HXE.out]; exact hq)
        rw [hq] at HD
        clear hq
        go_wp2_with fail
        refine HD.out.mono ?_
        rintro e w2 ⟨rfl, hb2⟩
        have HB2 := Lib.hid (HB.out.trans (hb2.mono HB.out.size))
        clear hb2 hc
        go_wp2_with fail
        go_roundw
        case rel => exact ⟨k + 1, by go_num, by omega, fun j hj hjk => by
          by_cases e : j = k
          · subst e; exact HQ.out
          · exact H2.out j hj (by omega), HB2.out⟩
        case measure => simp [intOf]; omega
      · have HQ := Lib.hid (show q xs[k] = true by rw [← HXE.out]; exact hq)
        rw [hq] at HD
        clear hq
        go_wp2_with fail
        refine HD.out.mono ?_
        rintro e w2 ⟨rfl, hb2⟩
        have HB2 := Lib.hid (HB.out.trans (hb2.mono HB.out.size))
        clear hb2 hc
        go_wp2_with fail
        go_ret
        exact ⟨ret_int (idxOf_some hl (fun j hj h => H2.out j hj h) HQ.out).symm, HB2.out⟩
    · go_wp2_with fail
      go_ret
      exact ⟨ret_int (idxOf_none (fun j hj => H2.out j hj (by have := HL.out; omega))).symm, HB.out⟩

theorem containsF_ints (w : World) (v : Value) (xs : List Int) (F : Nat) (p : Value) (q : Int → Bool) (hn : xs.length ≤ 9223372036854775807) (hv : Ints w v xs) (hE : Enters Try.prog F) (hF : AnswersI w F p q xs) :
    Calls Try.prog 79 #[v, .func (.func F) #[] #[p]] w fun e w' => e = .returned (.bool (xs.any q)) ∧ Below w.heap.size w w' := by
  have HI := Lib.hid (indexF_ints w v xs F p q hn hv hE hF)
  have HG := Lib.hid (idxOf_ge q xs)
  clear hv hF
  generalize idxOf q xs = i at *
  go_enter Try.func79, Try.ntmps79
  go_wp2_with fail
  refine HI.out.mono ?_
  rintro e w' ⟨rfl, hb⟩
  go_wp2_with fail
  go_ret
  exact ⟨ret_val (by rw [← HG.out]; rfl), hb⟩

/-- .. of an expression -/
def AnswersN (w : World) (F : Nat) (p : Value) (q : Nd → Bool) (xs : List Nd) : Prop :=
  ∀ x ∈ xs, ∀ w1 a b c, Below w.heap.size w w1 → NodeIs w1 x a b c → Calls Try.prog F #[.agg #[a, b, c], p] w1 fun e w2 => e = .returned (.bool (q x)) ∧ Below w1.heap.size w1 w2

set_option maxRecDepth 100000 in
set_option maxHeartbeats 1000000 in
theorem indexF_nodes (w : World) (v : Value) (xs : List Nd) (F : Nat) (p : Value) (q : Nd → Bool) (hn : xs.length ≤ 1000000000000000) (hv : Nodes w v xs) (hE : Enters Try.prog F) (hF : AnswersN w F p q xs) :
    Calls Try.prog 101 #[v, .func (.func F) #[] #[p]] w fun e w' => e = .returned (.int .i64 (idxOf q xs)) ∧ Below w.heap.size w w' := by
  obtain ⟨pp, cap, rfl, hcap, hx⟩ := hv.get
  have HX := Lib.hid hx
  have HF := Lib.hid hF
  obtain ⟨n, hlen⟩ : ∃ n, n = xs.length := ⟨_, rfl⟩
  rw [← hlen] at hn hcap ⊢
  have HL := Lib.hid hlen
  have hE := hE
  unfold Enters at hE
  clear hlen hx hv hF
  go_enter Try.func101, Try.ntmps101
  go_wp2_with fail
  go_loopw [8] (fun i wr => ∃ k : Nat, i = .int .i64 k ∧ k ≤ n ∧ (∀ j (h : j < xs.length), j < k → q xs[j] = false) ∧ Below w.heap.size w wr) (fun i _ => n - (intOf i).toNat)
  case atStart => exact ⟨0, rfl, by omega, by intro j hj h; omega, Below.refl _ _⟩
  case round =>
    obtain ⟨k, rfl, h1, h2, hb⟩ := hrel
    have H2 := Lib.hid h2
    have HB := Lib.hid hb
    clear h2
    by_cases hlt : k < n
    · have hl : k < xs.length := HL.out ▸ hlt
      obtain ⟨b, off, rfl, hbl, hy⟩ := HX.out (by omega)
      obtain ⟨y0, y1, y2, l0, l1, l2, hnode⟩ := hy k hl
      obtain ⟨op, q0, m0, d0, q1, m1, d1, rfl, rfl, rfl⟩ := hnode.form
      have k0 := cell_below hb hbl l0
      have k1 := cell_below hb hbl l1
      have k2 := cell_below hb hbl l2
      have HD := Lib.hid (HF.out xs[k] (List.getElem_mem hl) wr _ _ _ hb (hnode.to hb (Nat.le_refl _)))
      obtain ⟨x, hxe⟩ : ∃ x, x = xs[k] := ⟨_, rfl⟩
      rw [← hxe] at HD
      have HXE := Lib.hid hxe
      have hkk : (k : Int) < n := by omega
      have hk0 : (0 : Int) ≤ k := by omega
      clear hy hxe hb l0 l1 l2 hnode
      cases hq : q x
      · have HQ := Lib.hid (show q xs[k] = false by rw [← HXE.out]; exact hq)
        rw [hq] at HD
        clear hq
        go_wp2_with fail
        refine HD.out.mono ?_
        rintro e w2 ⟨rfl, hb2⟩
        have HB2 := Lib.hid (HB.out.trans (hb2.mono HB.out.size))
        clear hb2 k0 k1 k2
        go_wp2_with fail
        go_roundw
        case rel => exact ⟨k + 1, by go_num, by omega, fun j hj hjk => by
          by_cases e : j = k
          · subst e; exact HQ.out
          · exact H2.out j hj (by omega), HB2.out⟩
        case measure => simp [intOf]; omega
      · have HQ := Lib.hid (show q xs[k] = true by rw [← HXE.out]; exact hq)
        rw [hq] at HD
        clear hq
        go_wp2_with fail
        refine HD.out.mono ?_
        rintro e w2 ⟨rfl, hb2⟩
        have HB2 := Lib.hid (HB.out.trans (hb2.mono HB.out.size))
        clear hb2 k0 k1 k2
        go_wp2_with fail
        go_ret
        exact ⟨ret_int (idxOf_some hl (fun j hj h => H2.out j hj h) HQ.out).symm, HB2.out⟩
    · go_wp2_with fail
      go_ret
      exact ⟨ret_int (idxOf_none (fun j hj => H2.out j hj (by have := HL.out; omega))).symm, HB.out⟩

theorem containsF_nodes (w : World) (v : Value) (xs : List Nd) (F : Nat) (p : Value) (q : Nd → Bool) (hn : xs.length ≤ 1000000000000000) (hv : Nodes w v xs) (hE : Enters Try.prog F) (hF : AnswersN w F p q xs) :
    Calls Try.prog 80 #[v, .func (.func F) #[] #[p]] w fun e w' => e = .returned (.bool (xs.any q)) ∧ Below w.heap.size w w' := by
  have HI := Lib.hid (indexF_nodes w v xs F p q hn hv hE hF)
  have HG := Lib.hid (idxOf_ge q xs)
  clear hv hF
  generalize idxOf q xs = i at *
  go_enter Try.func80, Try.ntmps80
  go_wp2_with fail
  refine HI.out.mono ?_
  rintro e w' ⟨rfl, hb⟩
  go_wp2_with fail
  go_ret
  exact ⟨ret_val (by rw [← HG.out]; rfl), hb⟩

/-! ### inside -/
theorem cells1 {w : World} {B : Nat} {a : Value} {T : TypeId} (hb : w.heap[B]? = some (.cells #[a] T)) : w.cell? ⟨B, 0, none⟩ = some a := by simp [World.cell?, hb]

mutual
/-- has an expression just classes below a number? -/
def insideB (n : Int) : Nd → Bool
  | .mk _ cls ps => !(cls.any fun c => decide (n ≤ c)) && insideL n ps
def insideL (n : Int) : List Nd → Bool
  | [] => true
  | p :: r => insideB n p && insideL n r
end
theorem insideL_any (n : Int) : ∀ ps : List Nd, insideL n ps = !(ps.any fun p => !insideB n p)
  | [] => rfl
  | p :: r => by rw [insideL, insideL_any n r, List.any_cons]; cases insideB n p <;> rfl

theorem high_any (w : World) (x n : Int) (p : Nat) (hp : w.cell? ⟨p, 0, none⟩ = some (.int .i64 n)) :
    Calls Try.prog 77 #[.int .i64 x, .pointer (some ⟨p, 0, none⟩)] w fun e w' => e = .returned (.bool (decide (n ≤ x))) ∧ Below w.heap.size w w' := by
  by_cases h : n ≤ x
  · have hd : decide (n ≤ x) = true := decide_eq_true h
    rw [hd]
    clear hd
    go_enter Try.func77, Try.ntmps77
    go_wp2_with fail
    go_ret
    exact ⟨rfl, Below.refl _ _⟩
  · have hd : decide (n ≤ x) = false := decide_eq_false h
    rw [hd]
    clear hd
    go_enter Try.func77, Try.ntmps77
    go_wp2_with fail
    go_ret
    exact ⟨rfl, Below.refl _ _⟩

theorem enters_high : Enters Try.prog 77 := fun args w => by kernel_rfl
theorem enters_out : Enters Try.prog 78 := fun args w => by kernel_rfl

def InsideAt (n : Int) (x : Nd) : Prop := ∀ (w : World) (a b c : Value), NodeIs w x a b c →
  Calls Try.prog 57 #[.agg #[a, b, c], .int .i64 n] w fun e w' => e = .returned (.bool (insideB n x)) ∧ Below w.heap.size w w'

theorem out_any (n : Int) (x : Nd) (hx : InsideAt n x) (w : World) (p : Nat) (hp : w.cell? ⟨p, 0, none⟩ = some (.int .i64 n)) (a b c : Value) (h : NodeIs w x a b c) :
    Calls Try.prog 78 #[.agg #[a, b, c], .pointer (some ⟨p, 0, none⟩)] w fun e w' => e = .returned (.bool (!insideB n x)) ∧ Below w.heap.size w w' := by
  obtain ⟨op, q0, m0, d0, q1, m1, d1, rfl, rfl, rfl⟩ := h.form
  have HN := Lib.hid h
  have HI := Lib.hid hx
  obtain ⟨bl, hbl⟩ : ∃ bl, bl = insideB n x := ⟨_, rfl⟩
  have HBL := Lib.hid hbl
  rw [← hbl]
  have hpl := World.block_lt_of_cell? w _ hp
  have HP := Lib.hid hp
  clear h hx hp hbl
  go_enter Try.func78, Try.ntmps78
  go_upto_region 1 with fail
  refine abs_wp fun W hW => ?_
  have HB := Lib.hid (show Below w.heap.size w W by rw [hW]; exact below_alloc1 _ _)
  have HBX := Lib.hid (show W.heap[w.heap.size]? = some (.cells #[.int .i64 op, .slice q0 m0 d0, .slice q1 m1 d1] 52) by rw [hW]; exact heap_alloc_new _ _)
  have c3 := cell_below HB.out hpl HP.out
  obtain ⟨x0, x1, x2⟩ := cells3 HBX.out
  have HD := Lib.hid (HI.out W _ _ _ (HN.out.to HB.out (Nat.le_refl _)))
  rw [← HBL.out] at HD
  clear hW
  go_wp2_with fail
  refine HD.out.mono ?_
  rintro e w1 ⟨rfl, hb1⟩
  have HB1 := Lib.hid (HB.out.trans (hb1.mono HB.out.size))
  clear hb1 x0 x1 x2 c3
  cases bl
  · go_wp2_with fail
    go_ret
    exact ⟨rfl, HB1.out⟩
  · go_wp2_with fail
    go_ret
    exact ⟨rfl, HB1.out⟩

set_option maxRecDepth 100000 in
set_option maxHeartbeats 4000000 in
theorem inside_step (n : Int) (op : Int) (cls : List Int) (ps : List Nd) (ih : ∀ x ∈ ps, InsideAt n x) : InsideAt n (.mk op cls ps) := by
  intro w a b c hx
  rw [nodeIs_iff] at hx
  obtain ⟨rfl, hcl, hcb, hpb, hps⟩ := hx
  obtain ⟨pc, capc, rfl, hcc, -⟩ := hcl.get
  obtain ⟨pp, capp, rfl, hcp, -⟩ := hps.get
  unfold R at hcb hpb
  have HCL := Lib.hid hcl
  have HPS := Lib.hid hps
  have IH := Lib.hid ih
  have HE := Lib.hid (show insideB n (.mk op cls ps) = (!(cls.any fun c => decide (n ≤ c)) && !(ps.any fun p => !insideB n p)) by rw [insideB, insideL_any])
  clear hcl hps ih
  have hmf : ∀ (fn : Fn) (first cap : Array Value) (w : World), (Instr.makeFunc fn first cap).run Try.prog w = .ok (.func fn first cap) w := fun _ _ _ _ => rfl
  go_enter Try.func57, Try.ntmps57
  go_upto_region 3 with fail
  refine abs_wp fun W hW => ?_
  obtain ⟨B, hB⟩ : ∃ B, B = w.heap.size := ⟨_, rfl⟩
  have hb1 := below_alloc1 w (.cells #[.int .i64 op, .slice pc cls.length capc, .slice pp ps.length capp] 52)
  have s1 : (w.alloc (.cells #[.int .i64 op, .slice pc cls.length capc, .slice pp ps.length capp] 52)).heap.size = w.heap.size + 1 := by simp
  have hb2 := below_alloc1 (w.alloc (.cells #[.int .i64 op, .slice pc cls.length capc, .slice pp ps.length capp] 52)) (.cells #[.int .i64 n] 3)
  have HB := Lib.hid (show Below w.heap.size w W by rw [hW]; exact hb1.trans (hb2.mono (by rw [s1]; omega)))
  have HBX := Lib.hid (show W.heap[B]? = some (.cells #[.int .i64 op, .slice pc cls.length capc, .slice pp ps.length capp] 52) by rw [hW, hB, hb2.block _ (by rw [s1]; omega)]; exact heap_alloc_new _ _)
  have HP := Lib.hid (cells1 (show W.heap[B + 1]? = some (.cells #[.int .i64 n] 3) by rw [hW, hB, ← s1]; exact heap_alloc_new _ _))
  have hpl := World.block_lt_of_cell? W _ HP.out
  rw [← hB]
  clear hW hb1 hb2 s1 hB hmf
  obtain ⟨x0, x1, x2⟩ := cells3 HBX.out
  have HC := Lib.hid (containsF_ints W (.slice pc cls.length capc) cls 77 (.pointer (some ⟨B + 1, 0, none⟩)) (fun c => decide (n ≤ c)) (by omega) (HCL.out.to HB.out (Nat.le_refl _)) enters_high (fun x _ w1 hb => high_any w1 x n (B + 1) (cell_below hb hpl HP.out)))
  rcases Bool.eq_false_or_eq_true (cls.any fun c => decide (n ≤ c)) with h1 | h1
  · rw [h1] at HC
    have H1 := Lib.hid h1
    clear h1
    go_wp2_with fail
    refine HC.out.mono ?_
    rintro e w1 ⟨rfl, hb1⟩
    have HB1 := Lib.hid (HB.out.trans (hb1.mono HB.out.size))
    clear hb1 x0 x1 x2
    go_wp2_with fail
    go_ret
    exact ⟨ret_val (by rw [HE.out, H1.out]; rfl), HB1.out⟩
  · rw [h1] at HC
    have H1 := Lib.hid h1
    clear h1
    go_wp2_with fail
    refine HC.out.mono ?_
    rintro e w1 ⟨rfl, hb1⟩
    have HB1 := Lib.hid (HB.out.trans (hb1.mono HB.out.size))
    have HBX1 := Lib.hid ((hb1.block _ (at_lt HBX.out)).trans HBX.out)
    have HP1 := Lib.hid (cell_below hb1 hpl HP.out)
    have hpl1 := World.block_lt_of_cell? w1 _ HP1.out
    clear hb1 x0 x1 x2
    obtain ⟨x0, x1, x2⟩ := cells3 HBX1.out
    have HC2 := Lib.hid (containsF_nodes w1 (.slice pp ps.length capp) ps 78 (.pointer (some ⟨B + 1, 0, none⟩)) (fun p => !insideB n p) (by omega) (HPS.out.to HB1.out (Nat.le_refl _)) enters_out (fun x hx w2 a b c hb hnd => out_any n x (IH.out x hx) w2 (B + 1) (cell_below hb hpl1 HP1.out) a b c hnd))
    rcases Bool.eq_false_or_eq_true (ps.any fun p => !insideB n p) with h2 | h2
    · rw [h2] at HC2
      have H2 := Lib.hid h2
      clear h2
      go_wp2_with fail
      refine HC2.out.mono ?_
      rintro e w2 ⟨rfl, hb2⟩
      have HB2 := Lib.hid (HB1.out.trans (hb2.mono HB1.out.size))
      clear hb2 x0 x1 x2
      go_wp2_with fail
      go_ret
      exact ⟨ret_val (by rw [HE.out, H1.out, H2.out]; rfl), HB2.out⟩
    · rw [h2] at HC2
      have H2 := Lib.hid h2
      clear h2
      go_wp2_with fail
      refine HC2.out.mono ?_
      rintro e w2 ⟨rfl, hb2⟩
      have HB2 := Lib.hid (HB1.out.trans (hb2.mono HB1.out.size))
      clear hb2 x0 x1 x2
      go_wp2_with fail
      go_ret
      exact ⟨ret_val (by rw [HE.out, H1.out, H2.out]; rfl), HB2.out⟩

theorem inside_any (n : Int) : ∀ (x : Nd), InsideAt n x
  | .mk op cls ps => inside_step n op cls ps (fun x hx => inside_any n x)
  termination_by x => SizeOf.sizeOf x
  decreasing_by
    have := List.sizeOf_lt_of_mem hx
    simp; omega
end Go.Proofs.Ythmaokjhncokdaa

