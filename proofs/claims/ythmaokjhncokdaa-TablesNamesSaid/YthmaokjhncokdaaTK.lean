import Derived.Test.YthmaokjhncokdaaBD
import Derived.Test.YthmaokjhncokdaaB1
/-
  tables: Equal of two of unlike classes. No condition beyond what each theorem names.
-/
set_option linter.unusedVariables false
set_option linter.unusedSimpArgs false
namespace Go.Proofs.Ythmaokjhncokdaa
open Go.RowKit Classical

set_option maxRecDepth 100000 in
set_option maxHeartbeats 8000000 in
theorem tabs_unlike (w : World) (S T oa ob pa pb c c2 br len : Nat) (hc : c ≠ c2) (N M N2 M2 : List (List Nat)) (O U O2 U2 : List Nat) (hS : TabAt w S (.pointer (some ⟨oa, 0, none⟩)) (.pointer (some ⟨ob, 0, none⟩)) br len) (hT : TabAt w T (.pointer (some ⟨pa, 0, none⟩)) (.pointer (some ⟨pb, 0, none⟩)) br len)
    (h1 : MachD w oa c N O) (h2 : MachD w ob c M U) (h3 : MachD w pa c2 N2 O2) (h4 : MachD w pb c2 M2 U2) (b1 : Bd N O) (b2 : Bd N2 O2) :
    Calls Try.prog 19 #[.pointer (some ⟨S, 0, none⟩), .pointer (some ⟨T, 0, none⟩)] w fun e w' => e = .returned (.bool false) ∧ Below w.heap.size w w' := by
  have HS := Lib.hid (show ∀ W, Below w.heap.size w W → W.cell? ⟨S, 0, none⟩ = some (.pointer (some ⟨oa, 0, none⟩)) ∧ W.cell? ⟨S, 1, none⟩ = some (.pointer (some ⟨ob, 0, none⟩)) ∧ W.cell? ⟨S, 2, none⟩ = some (.int .u64 (br : Nat)) ∧ W.cell? ⟨S, 3, none⟩ = some (.int .i64 (len : Nat)) from fun W hW => cells4 ((hW.block S (at_lt hS)).trans hS))
  have HT := Lib.hid (show ∀ W, Below w.heap.size w W → W.cell? ⟨T, 0, none⟩ = some (.pointer (some ⟨pa, 0, none⟩)) ∧ W.cell? ⟨T, 1, none⟩ = some (.pointer (some ⟨pb, 0, none⟩)) ∧ W.cell? ⟨T, 2, none⟩ = some (.int .u64 (br : Nat)) ∧ W.cell? ⟨T, 3, none⟩ = some (.int .i64 (len : Nat)) from fun W hW => cells4 ((hW.block T (at_lt hT)).trans hT))
  have HM := Lib.hid (And.intro h1 (And.intro h2 (And.intro h3 h4)))
  have HBD := Lib.hid (And.intro b1 b2)
  have HC := Lib.hid hc
  clear h1 h2 h3 h4 b1 b2 hS hT hc
  go_enter Try.func19, Try.ntmps19
  go_upto_region 1 with fail
  refine wp_region_plan (fun W => Below w.heap.size w W) (.reads [0, 1, 2, 3, 4, 5, 6, 7, 8, 9, 10, 11, 12, 13, 14, 15, 16, 17, 18, 19, 20, 21, 22, 23, 24, 25, 26, 27, 28] (.one 29 (.reads [30, 31, 32, 33, 34, 35, 36, 37, 38, 39] (.one 40 (.reads [41, 42] .done))))) 47 (by kernel_rfl) (by kernel_rfl) rfl (fun _ _ _ _ _ h => h) (Below.refl _ _).drew ?_
  apply plan_readsW
  · intro W hW
    obtain ⟨x0, x1, x2, x3⟩ := HS.out W hW
    obtain ⟨y0, y1, y2, y3⟩ := HT.out W hW
    clear hW
    iterate 29 (refine WR_step (fun K hK => ?_); go_simp; refine hK.out _ ?_; clear hK K)
    exact WR_nil rfl
  refine abs_plan fun W0 hW0 => ?_
  have HB0 := Lib.hid (show Below w.heap.size w W0 by rw [hW0]; exact (Below.refl _ _).drew)
  clear hW0
  refine plan_one rfl ?_
  have HE1 := Lib.hid (show Calls Try.prog 44 #[.pointer (some ⟨oa, 0, none⟩), .pointer (some ⟨pa, 0, none⟩)] W0 fun e w' => e = .returned (.bool false) ∧ Below W0.heap.size W0 w' from by
    have h := equal_m W0 oa pa c c2 N N2 O O2 (HM.out.1.to HB0.out) (HM.out.2.2.1.to HB0.out) HBD.out.1 HBD.out.2
    have hd : decide (c = c2 ∧ O = O2 ∧ N = N2) = false := decide_eq_false (fun h => HC.out h.1)
    rwa [hd] at h)
  go_wp2_with fail
  refine HE1.out.mono ?_
  rintro e W1 ⟨rfl, hb1⟩
  have HB1 := Lib.hid (HB0.out.trans (hb1.mono HB0.out.size))
  clear hb1
  go_wp2_with fail
  refine Then.mk HB1.out ?_
  apply plan_readsW
  · intro W hW
    clear hW
    iterate 10 (refine WR_step (fun K hK => ?_); go_simp; refine hK.out _ ?_; clear hK K)
    exact WR_nil rfl
  refine plan_one rfl ?_
  go_wp2_with fail
  refine Then.mk HB1.out ?_
  apply plan_readsW
  · intro W hW
    iterate 2 (refine WR_step (fun K hK => ?_); go_simp; refine hK.out _ ?_; clear hK K)
    exact WR_nil rfl
  refine plan_done ?_
  go_wp2_with fail
  go_ret
  exact ⟨rfl, HB1.out⟩
end Go.Proofs.Ythmaokjhncokdaa

