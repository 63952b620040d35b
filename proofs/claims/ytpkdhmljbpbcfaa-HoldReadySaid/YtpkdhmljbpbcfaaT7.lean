/-
  slices.Clone of operations. No condition beyond what each theorem names.
-/
import Derived.Test.YtpkdhmljbpbcfaaT6
set_option linter.unusedVariables false
set_option linter.unusedSimpArgs false
namespace Go.Proofs.Ytpkdhmljbpbcfaa
open Go.RowKit

theorem info30 : (Try.prog.info? 30).map (fun i => (i.zero, i.size, i.bytes)) = some (some (.agg #[.int .i64 0, .int .i64 0, .int .i64 0, .bool false, .int .i64 0, .int .i64 0, .int .i32 0]), 7, 56) := by kernel_rfl

theorem flat_cells {w : World} {b off : Nat} {xs : List OpV} (h : ∀ j (h : j < xs.length), opAt w b (off + j * 7) xs[j]) :
    ∀ j u, (flat xs)[j]? = some u → w.cell? ((⟨b, off, none⟩ : Addr).add j) = some u := by
  intro j u hu
  have hadd : (⟨b, off, none⟩ : Addr).add j = ⟨b, off + j, none⟩ := by unfold Addr.add; split <;> simp_all
  have hj : j < xs.length * 7 := by rw [← length_flat]; exact (List.getElem?_eq_some_iff.1 hu).1
  have hi : j / 7 < xs.length := by omega
  have e : j = j / 7 * 7 + j % 7 := by omega
  rw [e, flat_get hi (Nat.mod_lt _ (by omega))] at hu
  obtain ⟨k0, k1, k2, k3, k4, k5, k6⟩ := h _ hi
  rw [hadd]
  have hlt := Nat.mod_lt j (show 7 > 0 by omega)
  generalize hr : j % 7 = r at hu hlt e
  rw [e, ← Nat.add_assoc]
  match r, hlt with
  | 0, _ => rw [← hu]; exact k0
  | 1, _ => rw [← hu]; exact k1
  | 2, _ => rw [← hu]; exact k2
  | 3, _ => rw [← hu]; exact k3
  | 4, _ => rw [← hu]; exact k4
  | 5, _ => rw [← hu]; exact k5
  | 6, _ => rw [← hu]; exact k6
  | n + 7, h => omega

theorem flat_one {xs : List OpV} : ∀ u ∈ flat xs, u.oneCell' = true := by
  intro u hu
  simp only [flat, List.mem_flatMap, OpV.cells, List.mem_cons, List.not_mem_nil, or_false] at hu
  obtain ⟨o, -, h⟩ := hu
  rcases h with h | h | h | h | h | h | h <;> subst h <;> rfl

set_option maxHeartbeats 400000 in
theorem clone_any (w : World) (v : Value) (xs : List OpV) (hn : xs.length ≤ 1000000) (hv : Rd w v xs) :
    Calls Try.prog 35 #[v] w fun e w' => ∃ v', e = .returned v' ∧ w'.ownsRow w.heap.size 30 7 v' xs.length (flat xs) ∧ Below w.heap.size w w' := by
  obtain ⟨ad, cap, rfl, hx⟩ := hv
  cases ad with
  | none =>
    have h0 : xs = [] := by
      cases xs with
      | nil => rfl
      | cons a r => obtain ⟨b, off, h, -⟩ := hx (by simp); cases h
    subst h0
    clear hx
    have heq : ∀ w, (binOp .eql 22 (.slice none 0 cap) (.slice none 0 0)).run Try.prog w = .ok (.bool true) w := fun w => Lib.run_eql_slice_nil w 22 30 none 0 cap 0 0 Try.underlying22
    simp only [List.length_nil]
    go_enter Try.func35, Try.ntmps35
    go_wp2
    go_ret
    exact ⟨_, rfl, World.ownsRow_nil _ _ _ _, Below.refl _ _⟩
  | some ad =>
    have heq : ∀ w, (binOp .eql 22 (.slice (some ad) xs.length cap) (.slice none 0 0)).run Try.prog w = .ok (.bool false) w := fun w => Lib.run_eql_slice_nil w 22 30 _ _ _ _ _ Try.underlying22
    obtain ⟨i0, hi, hz0, hz1, hz2⟩ := info_parts info30
    have hcells : ∀ j u, (flat xs)[j]? = some u → (w.alloc (.cells #[] 30)).cell? (ad.add j) = some u := by
      intro j u hu
      have hj : j < xs.length * 7 := by rw [← length_flat]; exact (List.getElem?_eq_some_iff.1 hu).1
      obtain ⟨b, off, he, hc⟩ := hx (by omega)
      cases he
      have h1 := flat_cells hc j u hu
      rw [World.cell?_alloc_lt _ _ _ (World.block_lt_of_cell? w _ h1)]
      exact h1
    have HC := Lib.hid hcells
    clear hcells hx
    have hown : (w.alloc (.cells #[] 30)).ownsRow w.heap.size 30 7 (.slice (some ⟨w.heap.size, 0, none⟩) 0 0) 0 [] := World.ownsRow_made w #[] 0 (Nat.le_refl _) (by unfold maxLen; omega) rfl
    have hb : Below w.heap.size w (w.alloc (.cells #[] 30)) := (Below.refl _ _).alloc (Nat.le_refl _) _
    go_enter Try.func35, Try.ntmps35
    go_wp2_with (at_builtin; refine wpList_append_own _ rfl (.tmp 5) (.tmp 6) 22 rfl w.heap.size 30 i0 _ 7 56 Try.underlying22 hi hz0 hz1 hz2 rfl (by decide) _ 0 [] rfl hown ad xs.length cap (flat xs) rfl (length_flat xs) HC.out flat_one (by unfold maxLen; omega) (by omega) (by simp) ?_)
    intro v' w' h1 h2 h3
    clear h3 heq
    go_wp2
    go_ret
    exact ⟨_, rfl, h1, hb.grown h2 (by simp) (by intro k hk; simp [Value.ownBlock] at hk; omega)⟩
end Go.Proofs.Ytpkdhmljbpbcfaa
