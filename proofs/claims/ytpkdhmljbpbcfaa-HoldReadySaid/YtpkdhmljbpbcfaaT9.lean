/-
  slices.DeleteFunc leaves just what its predicate does not take. No condition beyond what each theorem names.
-/
import Derived.Test.YtpkdhmljbpbcfaaT8
set_option linter.unusedVariables false
set_option linter.unusedSimpArgs false
namespace Go.Proofs.Ytpkdhmljbpbcfaa
open Go.RowKit

theorem ownsRow_fr {w w' : World} {base : Nat} {e : TypeId} {size : Nat} {v : Value} {n : Nat} {xs : List Value} {F : Nat → Prop} (h : w.ownsRow base e size v n xs) (hf : Fr F w w') (hn : ∀ k, v.ownBlock = some k → ¬ F k) : w'.ownsRow base e size v n xs := by
  obtain ⟨h1, h2⟩ := h
  refine ⟨h1, ?_⟩
  rcases h2 with h | ⟨g, cap, cur, rfl, a, b, r⟩
  · exact .inl h
  · exact .inr ⟨g, cap, cur, rfl, a, by rw [hf.block g (Array.getElem?_eq_some_iff.1 b).1 (hn g rfl)]; exact b, r⟩

theorem ownsRow_op {w : World} {g n cap : Nat} {xs : List OpV} (hl : xs.length = n) (h : w.ownsRow 0 30 7 (.slice (some ⟨g, 0, none⟩) n cap) n (flat xs)) {j : Nat} (hj : j < xs.length) : opAt w g (0 + j * 7) xs[j] := by
  subst hl
  obtain ⟨ad', cap', hv, hx⟩ := ownsRow_rd h
  obtain ⟨b, off, he, hx⟩ := hx (by omega)
  cases hv
  rcases h.2 with ⟨h, -⟩ | ⟨g', cap', cur, hv, -, hg, -, -, hs, ht⟩
  · cases h
  · cases hv
    cases he
    exact hx j hj

theorem idx_cases (q : OpV → Bool) (xs : List OpV) : (idx q xs = -1 ∧ (∀ o ∈ xs, q o = false) ∧ xs.findIdx? q = none) ∨
    ∃ i : Nat, idx q xs = i ∧ ∃ h : i < xs.length, q xs[i] = true ∧ (∀ j (h : j < i), q (xs[j]'(by omega)) = false) ∧ xs.findIdx? q = some i := by
  unfold idx
  cases h : xs.findIdx? q with
  | none => exact .inl ⟨rfl, by simpa [List.findIdx?_eq_none_iff] using h, rfl⟩
  | some i =>
    obtain ⟨h1, h2, h3⟩ := List.findIdx?_eq_some_iff_getElem.1 h
    exact .inr ⟨i, rfl, h1, h2, fun j hj => by simpa using h3 j hj, rfl⟩

theorem filter_take_none {q : OpV → Bool} {xs : List OpV} {i : Nat} (hi : i < xs.length) (h1 : ∀ j (h : j < i), q (xs[j]'(by omega)) = false) (h2 : q xs[i] = true) : (xs.take (i + 1)).filter (fun o => !q o) = xs.take i := by
  rw [filter_take_succ _ _ _ hi, h2]
  simp only [if_true, List.append_nil]
  rw [List.filter_eq_self]
  intro o ho
  obtain ⟨j, hj, rfl⟩ := List.getElem_of_mem ho
  simp at hj
  simp [h1 j (by omega)]

set_option maxHeartbeats 1000000 in
theorem delete_any (w : World) (v : Value) (xs : List OpV) (q : OpV → Bool) (F : FuncId) (C : Array Value) (G : Nat → Prop) (hn : xs.length ≤ 1000000) (hF : Enters Try.prog F)
    (hv : w.ownsRow 0 30 7 v xs.length (flat xs)) (hG : ∀ k, v.ownBlock = some k → G k) (hq : Decides F C q w G) :
    Calls Try.prog 37 #[v, .func (.func F) #[] C] w fun e w' => ∃ v', e = .returned v' ∧
      w'.ownsRow 0 30 7 v' (xs.filter fun o => !q o).length (flat (xs.filter fun o => !q o)) ∧ Fr G w w' ∧ (∀ k, v'.ownBlock = some k → v.ownBlock = some k) := by
  have HV := Lib.hid hv
  have HG := Lib.hid hG
  obtain ⟨ad, cap, hvv⟩ := (ownsRow_rd hv).len
  subst hvv
  clear hv hG
  have HQ := Lib.hid hq
  clear hq
  have hi := index_any w _ xs q F C (by omega) hF (ownsRow_rd HV.out) HQ.out
  have HI := Lib.hid hi
  clear hi
  unfold Enters at hF
  go_enter Try.func37, Try.ntmps37
  go_wp2_with fail
  refine HI.out.mono ?_
  rcases idx_cases q xs with ⟨h1, h2, h3⟩ | ⟨i, h1, hil, h2, h3, h4⟩
  · rw [h1]
    rintro e w' ⟨rfl, hb⟩
    have H2 := Lib.hid h2
    clear h1 h2 h3
    go_wp2
    go_ret
    refine ⟨_, rfl, ?_, Fr.of_below hb _, fun _ h => h⟩
    rw [show (xs.filter fun o => !q o) = xs from by rw [List.filter_eq_self]; intro o ho; simp [H2.out o ho]]
    exact ownsRow_fr HV.out (Fr.of_below hb (fun _ => False)) (fun _ _ h => h)
  · rw [h1]
    rintro e w' ⟨rfl, hb⟩
    have hm1 : ((i : Int) == -1) = false := by rw [beq_eq_false_iff_ne]; omega
    obtain ⟨g, hg⟩ : ∃ g, ad = some ⟨g, 0, none⟩ := by
      rcases HV.out.2 with ⟨-, h⟩ | ⟨g, cap, cur, hv, -⟩
      · omega
      · cases hv; exact ⟨g, rfl⟩
    subst hg
    have H0 := Lib.hid (filter_take_none hil h3 h2)
    clear h1 h2 h3 h4
    go_wp2
    obtain ⟨n, hlen⟩ : ∃ n, n = xs.length := ⟨_, rfl⟩
    rw [← hlen] at hn hil ⊢
    have HL := Lib.hid hlen
    clear hlen
    go_loopw [5, 6] (fun a b wr => ∃ i' j' : Nat, ∃ ys : List OpV, a = .int .i64 i' ∧ b = .int .i64 j' ∧ i' < j' ∧ j' ≤ n ∧ ys.length = n ∧ ys.take i' = (xs.take j').filter (fun o => !q o) ∧ ys.drop j' = xs.drop j' ∧
        wr.ownsRow 0 30 7 (.slice (some ⟨g, 0, none⟩) n cap) n (flat ys) ∧ Fr G w wr) (fun _ b _ => n - (intOf b).toNat)
    case atStart =>
      exact ⟨i, i + 1, xs, rfl, by go_num, by omega, by omega, HL.out.symm, H0.out.symm, rfl, by rw [HL.out]; exact ownsRow_fr HV.out (Fr.of_below hb (fun _ => False)) (fun _ _ h => h), Fr.of_below hb _⟩
    case round =>
      obtain ⟨i', j', ys, rfl, rfl, h1, h2, h3, h4, h5, h6, hfr⟩ := hrel
      have H3 := Lib.hid h3
      have H4 := Lib.hid h4
      have H5 := Lib.hid h5
      have H6 := Lib.hid h6
      clear h3 h4 h5 h6
      by_cases hlt : j' < n
      · have hjx : j' < xs.length := by have := HL.out; omega
        have hjy : j' < ys.length := by have := H3.out; omega
        have hxy : ys[j'] = xs[j'] := by
          have h0 := congrArg (fun l => l[0]?) H5.out
          simpa [hjx, hjy] using h0
        have ho : opAt wr g (0 + j' * 7) xs[j'] := by
          rw [← hxy]
          exact ownsRow_op H3.out H6.out hjy
        rw [Nat.zero_add] at ho
        obtain ⟨k0, k1, k2, k3, k4, k5, k6⟩ := ho
        have hi2 : i' < n := by omega
        obtain ⟨o, hoo⟩ : ∃ o, o = xs[j'] := ⟨_, rfl⟩
        rw [← hoo] at k0 k1 k2 k3 k4 k5 k6
        have HO := Lib.hid hoo
        have HXY := Lib.hid hxy
        clear hoo hxy
        cases hqo : q o
        · have HqO := Lib.hid hqo
          clear hqo
          go_wp2
          refine (HQ.out o _ (hfr.alloc _)).mono ?_
          rw [HqO.out]
          rintro e w2 ⟨rfl, hb2⟩
          have hbox : opAt w2 wr.heap.size 0 o := by
            refine opAt_below hb2 (by simp) ?_
            unfold opAt
            simp
          obtain ⟨x0, x1, x2, x3, x4, x5, x6⟩ := hbox
          simp only [Nat.zero_add] at x1 x2 x3 x4 x5 x6
          have hown := ownsRow_fr (H6.out.alloc (.cells #[.int .i64 o.ctr, .int .i64 o.author, .int .i64 o.seq, .bool o.ins, .int .i64 o.rctr, .int .i64 o.rauthor, .int .i32 o.rune] 30)) (Fr.of_below hb2 (fun _ => False)) (fun _ _ h => h)
          obtain ⟨cur, hg1, hg2, hg3, hg4, hg5, hg6⟩ := ownsRow_cur hown
          have HG1 := Lib.hid hg1
          have HG6 := Lib.hid hg6
          have hsz : i' * 7 + 7 ≤ cur.size := by rw [length_flat, H3.out] at hg2; omega
          clear hg1 hg3 hg5 hg6 hown
          go_wp2_with (refine wpList_store_row rfl (.tmp 33) (.tmp 32) 30 rfl g (i' * 7) rfl (.agg #[.int .i64 o.ctr, .int .i64 o.author, .int .i64 o.seq, .bool o.ins, .int .i64 o.rctr, .int .i64 o.rauthor, .int .i32 o.rune]) rfl cur 30 (by kernel_rfl) HG1.out hsz (by simp [Value.cells, Value.oneCell']) ?_)
          go_roundw
          case rel =>
            refine ⟨i' + 1, j' + 1, ys.set i' o, by go_num, by go_num, by omega, by omega, by simp [H3.out], ?_, ?_, ?_, ?_⟩
            · rw [filter_take_succ _ _ _ (by have := HL.out; omega), ← H4.out, ← HO.out, HqO.out]
              rw [List.take_succ_eq_append_getElem (by simp [H3.out]; omega)]
              simp [List.take_set_of_le]
            · rw [List.drop_set_of_lt (by omega), ← List.drop_drop, H5.out, List.drop_drop]
            · rw [flat_set (by rw [H3.out]; omega)]
              exact HG6.out _ o.cells (by rw [length_flat, H3.out]; simp [OpV.cells]; omega)
            · exact (hfr.alloc _).trans ((Fr.of_below hb2 G).trans (Fr.setRow _ (HG.out g rfl) _) (fun _ _ h => h)) (fun _ _ h => h)
          case measure => simp [intOf]; omega
        · have HqO := Lib.hid hqo
          clear hqo
          go_wp2
          refine (HQ.out o _ (hfr.alloc _)).mono ?_
          rw [HqO.out]
          rintro e w2 ⟨rfl, hb2⟩
          have hown := ownsRow_fr (H6.out.alloc (.cells #[.int .i64 o.ctr, .int .i64 o.author, .int .i64 o.seq, .bool o.ins, .int .i64 o.rctr, .int .i64 o.rauthor, .int .i32 o.rune] 30)) (Fr.of_below hb2 (fun _ => False)) (fun _ _ h => h)
          have HOW := Lib.hid hown
          clear hown
          go_wp2
          go_roundw
          case rel =>
            refine ⟨i', j' + 1, ys, rfl, by go_num, by omega, by omega, H3.out, ?_, ?_, HOW.out, (hfr.alloc _).trans (Fr.of_below hb2 G) (fun _ _ h => h)⟩
            · rw [filter_take_succ _ _ _ (by have := HL.out; omega), ← HO.out, HqO.out, H4.out]; simp
            · rw [← List.drop_drop, H5.out, List.drop_drop]
          case measure => simp [intOf]; omega
      · obtain ⟨cur, hg1, hg2, hg3, hg4, hg5, hg6⟩ := ownsRow_cur H6.out
        have hne : ¬ cap = i' := by omega
        obtain ⟨i0, hi, hz0, hz1, hz2⟩ := info_parts info30
        have hcl : ∀ ty, (Builtin.clear_ #[22] ty #[.slice (some ⟨g, i' * 7, none⟩) (n - i') (cap - i')]).run Try.prog wr = .ok (.tuple #[]) (wr.setRow g (splice cur.toList (i' * 7) (Builtin.zeroCells (Value.cells (.agg #[.int .i64 0, .int .i64 0, .int .i64 0, .bool false, .int .i64 0, .int .i64 0, .int .i32 0])) (n - i')).toList).toArray) :=
          fun ty => run_clear_row wr 22 ty 30 Try.underlying22 g (i' * 7) (n - i') (cap - i') (by omega) i0 _ hi hz0 cur 30 hg1 (by simp [Value.cells]; omega) (by simp [Value.cells, Value.oneCell'])
        have HG1 := Lib.hid hg1
        have hsz : n * 7 ≤ cur.size := by rw [length_flat, H3.out] at hg2; exact hg2
        clear hg1 hg3 hg5 hg6
        go_wp2
        go_ret
        have e : (xs.filter fun o => !q o) = ys.take i' := by rw [H4.out, List.take_of_length_le (by have := HL.out; omega)]
        have e2 : (ys.take i').length = i' := by simp [H3.out]; omega
        rw [e, e2]
        refine ⟨_, rfl, ?_, hfr.trans (Fr.setRow _ (HG.out g rfl) _) (fun _ _ h => h), fun k hk => hk⟩
        rw [flat_take]
        refine ownsRow_shrink H6.out (by omega) HG1.out ?_
        simp [size_zeroCells, Value.cells]
        omega
end Go.Proofs.Ytpkdhmljbpbcfaa
