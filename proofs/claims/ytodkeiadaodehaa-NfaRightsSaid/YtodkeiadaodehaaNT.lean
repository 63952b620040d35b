/-
  Expressions that are built; the small case that must work. No condition beyond what each theorem names.
-/
import Derived.Test.YtodkeiadaodehaaNO
import Derived.Test.YtodkeiadaodehaaRow
set_option linter.unusedVariables false
set_option linter.unusedSimpArgs false
namespace Go.Proofs.Ytodkeiadaodehaa
open Go.RowKit

theorem nodes_built {w : World} {g : Nat} {cs : List Value} {T : TypeId} (h : w.heap[g]? = some (.cells cs.toArray T)) (ns : List Nd) (rows : List (List Value)) (hr : rows.flatten = cs) (h2 : rows.length = ns.length) (h4 : ∀ i (h : i < ns.length), ∃ x y z, rows[i]? = some [x, y, z] ∧ NodeIs w ns[i] x y z) :
    Nodes w (.slice (some ⟨g, 0, none⟩) ns.length ns.length) ns := by
  subst hr
  refine Nodes.mk (Raw.of_block h) h2 (fun r hr => ?_) h4
  obtain ⟨i, hi, rfl⟩ := List.getElem_of_mem hr
  obtain ⟨x, y, z, h5, h6⟩ := h4 i (by omega)
  rw [List.getElem?_eq_getElem hi] at h5
  rw [Option.some.inj h5]
  obtain ⟨op, p, l, c1, q, m, d, rfl, rfl, rfl⟩ := h6.form
  exact ⟨_, _, _, _, _, _, _, rfl⟩

theorem node_one {w : World} {x : Nd} {a b c : Value} (hx : NodeIs w x a b c) (op : Int) (T : TypeId) : NodeIs (w.alloc (.cells #[a, b, c] T)) (.mk op [] [x]) (.int .i64 op) (.slice none 0 0) (.slice (some ⟨w.heap.size, 0, none⟩) 1 1) := by
  rw [nodeIs_iff]
  refine ⟨rfl, Ints.nil _, by unfold R; simp, by unfold R; simp, nodes_built (cs := [a, b, c]) (heap_alloc_new _ _) [x] [[a, b, c]] rfl rfl fun i hi => ?_⟩
  obtain rfl : i = 0 := by simpa using hi
  exact ⟨a, b, c, rfl, hx.to (below_alloc1 _ _) (Nat.le_refl _)⟩

theorem node_two {w : World} {x y : Nd} {a b c d e f : Value} (hx : NodeIs w x a b c) (hy : NodeIs w y d e f) (op : Int) (T : TypeId) : NodeIs (w.alloc (.cells #[a, b, c, d, e, f] T)) (.mk op [] [x, y]) (.int .i64 op) (.slice none 0 0) (.slice (some ⟨w.heap.size, 0, none⟩) 2 2) := by
  rw [nodeIs_iff]
  refine ⟨rfl, Ints.nil _, by unfold R; simp, by unfold R; simp, nodes_built (cs := [a, b, c, d, e, f]) (heap_alloc_new _ _) [x, y] [[a, b, c], [d, e, f]] rfl rfl fun i hi => ?_⟩
  have hi' : i = 0 ∨ i = 1 := by simp at hi; omega
  rcases hi' with rfl | rfl
  · exact ⟨a, b, c, rfl, hx.to (below_alloc1 _ _) (Nat.le_refl _)⟩
  · exact ⟨d, e, f, rfl, hy.to (below_alloc1 _ _) (Nat.le_refl _)⟩

theorem node_three {w : World} {x y z : Nd} {a b c d e f g h i' : Value} (hx : NodeIs w x a b c) (hy : NodeIs w y d e f) (hz : NodeIs w z g h i') (op : Int) (T : TypeId) : NodeIs (w.alloc (.cells #[a, b, c, d, e, f, g, h, i'] T)) (.mk op [] [x, y, z]) (.int .i64 op) (.slice none 0 0) (.slice (some ⟨w.heap.size, 0, none⟩) 3 3) := by
  rw [nodeIs_iff]
  refine ⟨rfl, Ints.nil _, by unfold R; simp, by unfold R; simp, nodes_built (cs := [a, b, c, d, e, f, g, h, i']) (heap_alloc_new _ _) [x, y, z] [[a, b, c], [d, e, f], [g, h, i']] rfl rfl fun i hi => ?_⟩
  have hi' : i = 0 ∨ i = 1 ∨ i = 2 := by simp at hi; omega
  rcases hi' with rfl | rfl | rfl
  · exact ⟨a, b, c, rfl, hx.to (below_alloc1 _ _) (Nat.le_refl _)⟩
  · exact ⟨d, e, f, rfl, hy.to (below_alloc1 _ _) (Nat.le_refl _)⟩
  · exact ⟨g, h, i', rfl, hz.to (below_alloc1 _ _) (Nat.le_refl _)⟩

theorem set_any (w : World) (c : Int) : Calls Try.prog 20 #[.int .i64 c] w fun e w' =>
    ∃ g, e = .returned (.agg #[.int .i64 1, .slice (some ⟨g, 0, none⟩) 1 1, .slice none 0 0]) ∧ NodeIs w' (.mk 1 [c] []) (.int .i64 1) (.slice (some ⟨g, 0, none⟩) 1 1) (.slice none 0 0) ∧ Below w.heap.size w w' := by
  go_enter Try.func20, Try.ntmps20
  go_wp2
  refine bodyPost_ret (v := .agg #[.int .i64 1, .slice (some ⟨w.heap.size + 1, 0, none⟩) 1 1, .slice none 0 0]) (by simp [results, Try.results20, go_sem]) rfl ⟨_, rfl, ?_, ?_⟩
  · rw [nodeIs_iff]
    refine ⟨rfl, ⟨some ⟨w.heap.size + 1, 0, none⟩, 1, rfl, by simp, fun _ => ⟨_, _, rfl, fun j u hu => ?_⟩⟩, by unfold R; simp, by unfold R; simp, [], ⟨by simp, none, 0, rfl, by simp, fun h => by simp at h⟩, rfl, fun i h => by simp at h⟩
    match j, hu with
    | 0, hu =>
      simp at hu
      subst hu
      simp
    | j + 1, hu => simp at hu
  · exact (((Below.refl _ _).alloc (Nat.le_refl _) _).alloc (by simp) _)

/-- Matches tells what the expression fits -/
theorem fit_any (w : World) (m : Nat) (x : Nd) (hx : RightX x) (hM : MachR w m (mach x)) (v : Value) (row : List Int) (hv : Ints w v row) (hlen : row.length ≤ 1000000) :
    Calls Try.prog 16 #[.pointer (some ⟨m, 0, none⟩), v] w fun e w' => e = .returned (.bool (fitB x row)) ∧ Below w.heap.size w w' := by
  have h := matches_any w m (mach x) hM (mach_laws hx) v row hv hlen
  rwa [matches_fit hx] at h

theorem new_ok (x : Nd) (w : World) (a b c : Value) (hx : NodeIs w x a b c) (hr : RightX x) : Calls Try.prog 10 #[.agg #[a, b, c]] w fun e w' => ∃ m, e = .returned (.tuple #[.pointer (some ⟨m, 0, none⟩), .int .i64 0]) ∧ MachR w' m (mach x) ∧ Below w.heap.size w w' := by
  refine (new_any x w a b c hx).mono fun e w' ⟨hb, h⟩ => ?_
  rcases h with ⟨-, m, -, he, hm⟩ | ⟨h, -⟩
  · exact ⟨m, he, hm, hb⟩
  · rw [rightB_iff.2 hr] at h; cases h

theorem new_no (x : Nd) (w : World) (a b c : Value) (hx : NodeIs w x a b c) (hr : rightB x = false) : Calls Try.prog 10 #[.agg #[a, b, c]] w fun e w' => e = .returned (.tuple #[.pointer none, .int .i64 1]) ∧ Below w.heap.size w w' := by
  refine (new_any x w a b c hx).mono fun e w' ⟨hb, h⟩ => ?_
  rcases h with ⟨h, -⟩ | ⟨-, he⟩
  · rw [hr] at h; cases h
  · exact ⟨he, hb⟩

def xS : Nd := .mk 2 [] [.mk 1 [1] [], .mk 4 [] [.mk 1 [2] []]]

theorem rising_one (c : Int) (h0 : 0 ≤ c) (h1 : c < 24) : rising [c] := by
  intro i hi
  obtain rfl : i = 0 := by simpa using hi
  exact ⟨h0, h1, fun h => by omega⟩

theorem xS_right : RightX xS := by
  unfold RightX xS
  refine ⟨?_, by simp [cnt, cntL]⟩
  simp only [Wf, WfL, and_true, true_and]
  refine ⟨by omega, by omega, by simp, by simp, by simp, rising_nil, ⟨by omega, by omega, by simp, by simp, by simp, rising_one 1 (by omega) (by omega)⟩, by omega, by omega, by simp, by simp, by simp, rising_nil, by omega, by omega, by simp, by simp, by simp, rising_one 2 (by omega) (by omega)⟩

theorem bad_right : rightB (.mk 4 [] []) = false := by
  cases h : rightB (.mk 4 [] [])
  · rfl
  · have := (rightB_iff.1 h).1
    unfold Wf at this
    have := this.2.2.2.2.1 (.inl rfl)
    simp at this

theorem xS_iff (row : List Int) (q : Nat) : M row xS 0 q ↔ row[0]? = some 1 ∧ Star (fun a b => b = a + 1 ∧ row[a]? = some 2) 1 q := by
  unfold xS
  rw [M_2]
  simp only [Mseq]
  constructor
  · rintro ⟨c, h1, d, h2, rfl⟩
    obtain ⟨rfl, u, h3, h4⟩ := (M_1 _ _).1 h1
    obtain rfl : u = 1 := by simpa using h4
    refine ⟨h3, ((M_4 _ _).1 h2).2.mono fun a b h => ?_⟩
    obtain ⟨rfl, u, h5, h6⟩ := (M_1 _ _).1 (Malt_one.1 h)
    obtain rfl : u = 2 := by simpa using h6
    exact ⟨rfl, h5⟩
  · rintro ⟨h1, h2⟩
    refine ⟨1, (M_1 _ _).2 ⟨rfl, 1, h1, by simp⟩, q, (M_4 _ _).2 ⟨rfl, h2.mono fun a b h => Malt_one.2 ((M_1 _ _).2 ⟨h.1, 2, h.2, by simp⟩)⟩, rfl⟩

theorem xS_fit : fitB xS [1] = true ∧ fitB xS [1, 2, 2] = true ∧ fitB xS [2] = false ∧ fitB xS [] = false := by
  refine ⟨fitB_iff.2 ((xS_iff _ _).2 ⟨rfl, .refl _⟩), fitB_iff.2 ((xS_iff _ _).2 ⟨rfl, .step (.step (.refl _) ⟨rfl, rfl⟩) ⟨rfl, rfl⟩⟩), ?_, ?_⟩
  · cases h : fitB xS [2]
    · rfl
    · have := ((xS_iff _ _).1 (fitB_iff.1 h)).1
      simp at this
  · cases h : fitB xS []
    · rfl
    · have := ((xS_iff _ _).1 (fitB_iff.1 h)).1
      simp at this

set_option maxRecDepth 100000 in
set_option maxHeartbeats 4000000 in
theorem shown_any (w : World) : Calls Try.prog 9 #[] w (Says true w) := by
  go_enter Try.func9, Try.ntmps9
  go_wp2_with fail
  refine (set_any _ 1).mono ?_
  rintro e w1 ⟨g1, rfl, hn1, hb1⟩
  have HB1 := Lib.hid hb1
  have HN1 := Lib.hid hn1
  clear hn1 hb1
  go_wp2_with fail
  refine (set_any _ 2).mono ?_
  rintro e w2 ⟨g2, rfl, hn2, hb2⟩
  have HN2 := Lib.hid hn2
  have HN1' := Lib.hid (HN1.out.to hb2 (Nat.le_refl _))
  have HB2 := Lib.hid (HB1.out.trans (hb2.mono HB1.out.size))
  clear hn2 hb2
  go_upto_region 2 with fail
  refine abs_wp fun W hW => ?_
  obtain ⟨a0, -, -, a3⟩ := alloc3 w2 _ _ _ W hW
  have hX : NodeIs W xS (.int .i64 2) (.slice none 0 0) (.slice (some ⟨w2.heap.size + 1, 0, none⟩) 2 2) := by
    have h1 := node_one HN2.out 4 25
    have h2 := node_two (HN1'.out.to (below_alloc1 w2 (.cells #[.int .i64 1, .slice (some ⟨g2, 0, none⟩) 1 1, .slice none 0 0] 25)) (Nat.le_refl _)) h1 2 25
    rw [hW]
    have h3 := h2.to (below_alloc1 _ (.cells #[.int .i64 2, .slice none 0 0, .slice (some ⟨w2.heap.size + 1, 0, none⟩) 2 2] 25)) (Nat.le_refl _)
    simpa [xS] using h3
  have HBW := Lib.hid (HB2.out.trans (a0.mono HB2.out.size))
  obtain ⟨y0, y1, y2⟩ := cells3 a3
  have HNEW := Lib.hid (new_ok xS W _ _ _ hX xS_right)
  clear hW a0 a3 hX
  go_wp2_with fail
  refine HNEW.out.mono ?_
  rintro e w3 ⟨m, rfl, hm, hb3⟩
  have HM := Lib.hid hm
  have HB3 := Lib.hid (HBW.out.trans (hb3.mono HBW.out.size))
  have HBAD := Lib.hid (new_no (.mk 4 [] []) w3 (.int .i64 4) (.slice none 0 0) (.slice none 0 0) (by
    rw [nodeIs_iff]
    exact ⟨rfl, Ints.nil _, by unfold R; simp, by unfold R; simp, [], ⟨by simp, none, 0, rfl, by simp, fun h => by simp at h⟩, rfl, fun i h => by simp at h⟩) bad_right)
  clear hb3 hm y0 y1 y2
  go_wp2_with fail
  refine HBAD.out.mono ?_
  rintro e w4 ⟨rfl, hb4⟩
  have HM4 := Lib.hid (HM.out.to hb4)
  have HB4 := Lib.hid (HB3.out.trans (hb4.mono HB3.out.size))
  clear hb4
  have hal : ∀ (W : World) (o : Obj), Below W.heap.size W (W.alloc o) := fun W o => (Below.refl _ _).alloc (Nat.le_refl _) _
  have HAL := Lib.hid hal
  clear hal
  obtain ⟨f1, f2, f3, f4⟩ := xS_fit
  have h1 := fit_any (w4.alloc (.cells #[.int .i64 1] 3)) m xS xS_right (HM4.out.to (HAL.out _ _)) _ [1] (Raw.of_block (cs := [.int .i64 1]) (heap_alloc_new _ _)) (by simp)
  rw [f1] at h1
  have H1 := Lib.hid h1
  have F2 := Lib.hid f2
  have F3 := Lib.hid f3
  have F4 := Lib.hid f4
  clear h1 f1 f2 f3 f4
  go_wp2_with fail
  refine H1.out.mono ?_
  rintro e x1 ⟨rfl, hx1⟩
  have HX1 := Lib.hid ((HAL.out w4 _).trans (hx1.mono (HAL.out w4 (.cells #[.int .i64 1] 3)).size))
  have h2 := fit_any (x1.alloc (.cells #[.int .i64 1, .int .i64 2, .int .i64 2] 3)) m xS xS_right ((HM4.out.to HX1.out).to (HAL.out _ _)) _ [1, 2, 2] (Raw.of_block (cs := [.int .i64 1, .int .i64 2, .int .i64 2]) (heap_alloc_new _ _)) (by simp)
  rw [F2.out] at h2
  have H2 := Lib.hid h2
  clear h2 hx1 H1
  go_wp2_with fail
  refine H2.out.mono ?_
  rintro e x2 ⟨rfl, hx2⟩
  have HX2 := Lib.hid (HX1.out.trans (((HAL.out x1 _).trans (hx2.mono (HAL.out x1 (.cells #[.int .i64 1, .int .i64 2, .int .i64 2] 3)).size)).mono HX1.out.size))
  have h3 := fit_any (x2.alloc (.cells #[.int .i64 2] 3)) m xS xS_right ((HM4.out.to HX2.out).to (HAL.out _ _)) _ [2] (Raw.of_block (cs := [.int .i64 2]) (heap_alloc_new _ _)) (by simp)
  rw [F3.out] at h3
  have H3 := Lib.hid h3
  clear h3 hx2 H2
  go_wp2_with fail
  refine H3.out.mono ?_
  rintro e x3 ⟨rfl, hx3⟩
  have HX3 := Lib.hid (HX2.out.trans (((HAL.out x2 _).trans (hx3.mono (HAL.out x2 (.cells #[.int .i64 2] 3)).size)).mono HX2.out.size))
  have h4 := fit_any x3 m xS xS_right (HM4.out.to HX3.out) _ [] (Ints.nil _) (by simp)
  rw [F4.out] at h4
  have H4 := Lib.hid h4
  clear h4 hx3 H3
  go_wp2_with fail
  refine H4.out.mono ?_
  rintro e x4 ⟨rfl, hx4⟩
  have HX4 := Lib.hid (HX3.out.trans (hx4.mono HX3.out.size))
  clear hx4 H4
  go_wp2_with fail
  go_ret
  exact ⟨rfl, HB4.out.trans (HX4.out.mono HB4.out.size)⟩
end Go.Proofs.Ytodkeiadaodehaa
