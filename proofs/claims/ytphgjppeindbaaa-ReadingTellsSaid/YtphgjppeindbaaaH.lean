/-
  reader.run, reader.ends, Fits. No condition beyond what each theorem names.
-/
import Derived.Test.YtphgjppeindbaaaG
import Derived.Test.YtphgjppeindbaaaRow
set_option linter.unusedVariables false
set_option linter.unusedSimpArgs false
namespace Go.Proofs.Ytphgjppeindbaaa
open Go.RowKit

theorem run_any (t : List Int) (back : Bool) (hn : t.length ≤ 1000000) : ∀ x : Nd, RunAt t back x
  | .mk op cls ps => by
    have ih : ∀ x ∈ ps, RunAt t back x := fun x hx => run_any t back hn x
    by_cases h0 : op = 0
    · subst h0; exact run_0 t back cls ps hn
    by_cases h1 : op = 1
    · subst h1; exact run_1 t back cls ps hn
    by_cases h2 : op = 2
    · subst h2; exact run_seq t back cls ps hn ih
    by_cases h3 : op = 3
    · subst h3; exact run_alt t back cls ps hn ih
    by_cases h4 : op = 4
    · exact run_star t back op cls ps (.inl h4) hn ih
    by_cases h5 : op = 5
    · exact run_star t back op cls ps (.inr h5) hn ih
    exact run_else t back op cls ps hn h0 h1 h2 h3 h4 h5
  termination_by x => SizeOf.sizeOf x
  decreasing_by
    have := List.sizeOf_lt_of_mem hx
    simp; omega

/-- the places that one comes to from a place -/
def Reach (w : World) (n : Nat) (r : Nat → Prop) (e : Ending) (w' : World) : Prop :=
  ∃ v out, e = .returned v ∧ Bools w' v out ∧ out.length = n + 1 ∧ (∀ q, tr out q ↔ r q) ∧ Below w.heap.size w w'

theorem tr_point {n p : Nat} (hp : p < n) (q : Nat) : tr ((List.replicate n false).set p true) q ↔ q = p := by
  unfold tr
  by_cases e : p = q
  · subst e; simp [hp]
  · rw [List.getElem?_set_ne e]
    exact ⟨fun h => absurd h (no_places _ _), fun h => absurd h.symm e⟩

set_option maxHeartbeats 1000000 in
theorem ends_any (w : World) (t : List Int) (back : Bool) (x : Nd) (tv a b c : Value) (p : Nat) (hn : t.length ≤ 1000000) (hp : p ≤ t.length) (ht : Ints w tv t) (hx : NodeIs w x a b c) :
    Calls Try.prog 28 #[.agg #[tv, .bool back], .agg #[a, b, c], .int .i64 p] w (Reach w t.length (fun q => Rel back (M t x) p q)) := by
  obtain ⟨op, p1, l1, e1, q2, m2, d2, rfl, rfl, rfl⟩ := hx.form
  obtain ⟨pt, capt, rfl, hct, -⟩ := ht.get
  have HT := Lib.hid ht
  have HX := Lib.hid hx
  have hmk := fun w => make_bools 51 Try.underlying51 w ((t.length : Int) + 1) (t.length + 1) (by omega) (by omega)
  obtain ⟨n, hn'⟩ : ∃ n, n = t.length := ⟨_, rfl⟩
  rw [← hn'] at hmk hct hn hp ⊢
  have HN := Lib.hid hn'
  clear ht hx hn'
  go_enter Try.func28, Try.ntmps28
  go_upto_region 2 with fail
  refine abs_wp fun W hW0 => ?_
  have hW : W = ((w.alloc (.cells #[.slice pt n capt, .bool back] 53)).alloc (.cells #[.int .i64 op, .slice p1 l1 e1, .slice q2 m2 d2] 33)).alloc (.cells (List.replicate (n + 1) (Value.bool false)).toArray 4) := hW0
  clear hW0
  have hBW : Below w.heap.size w W := by rw [hW]; exact (((Below.refl _ _).alloc (Nat.le_refl _) _).alloc (by simp) _).alloc (by simp; omega) _
  have hbox : W.heap[w.heap.size]? = some (.cells #[.slice pt n capt, .bool back] 53) := by
    rw [hW, Below.heap_alloc _ _ _ (by simp; omega), Below.heap_alloc _ _ _ (by simp)]; exact heap_alloc_new _ _
  have hbox2 : W.heap[w.heap.size + 1]? = some (.cells #[.int .i64 op, .slice p1 l1 e1, .slice q2 m2 d2] 33) := by
    rw [hW, Below.heap_alloc _ _ _ (by simp)]
    have := heap_alloc_new (w.alloc (.cells #[.slice pt n capt, .bool back] 53)) (.cells #[.int .i64 op, .slice p1 l1 e1, .slice q2 m2 d2] 33)
    simpa using this
  have hrow : BRow W (w.heap.size + 2) (List.replicate (n + 1) false) := by
    unfold BRow
    rw [hW, List.map_replicate]
    have := heap_alloc_new ((w.alloc (.cells #[.slice pt n capt, .bool back] 53)).alloc (.cells #[.int .i64 op, .slice p1 l1 e1, .slice q2 m2 d2] 33)) (.cells (List.replicate (n + 1) (Value.bool false)).toArray 4)
    simpa using this
  obtain ⟨B, hB⟩ : ∃ B, B = w.heap.size := ⟨_, rfl⟩
  rw [← hB] at hbox hbox2 hrow ⊢
  have hszW : B + 2 < W.heap.size := hrow.lt
  have HB := Lib.hid hB
  have HBW := Lib.hid hBW
  have HROW := Lib.hid hrow
  have x0 : W.cell? ⟨B, 0, none⟩ = some (.slice pt n capt) := by simp [World.cell?, hbox]
  have x1 : W.cell? ⟨B, 1, none⟩ = some (.bool back) := by simp [World.cell?, hbox]
  have x2 : W.cell? ⟨B + 1, 0, none⟩ = some (.int .i64 op) := by simp [World.cell?, hbox2]
  have x3 : W.cell? ⟨B + 1, 1, none⟩ = some (.slice p1 l1 e1) := by simp [World.cell?, hbox2]
  have x4 : W.cell? ⟨B + 1, 2, none⟩ = some (.slice q2 m2 d2) := by simp [World.cell?, hbox2]
  have z1 := hrow.cell (i := p) (by simp; omega)
  have z2 := hrow.frozen p
  have i0 : (0 : Int) ≤ p := by omega
  have i1 : (p : Int) < n + 1 := by omega
  clear hW hB hBW hrow hbox hbox2 hmk
  go_upto_region 3 with fail
  refine abs_wp fun W2 hW2 => ?_
  have hfr : Fr (fun j => j = B + 2) W W2 := by rw [hW2]; exact Fr.setCell (F := fun j => j = B + 2) _ rfl _
  have hrow2 : BRow W2 (B + 2) ((List.replicate (n + 1) false).set p true) := by rw [hW2]; exact HROW.out.set p true
  have y0 := hfr.cell (p := ⟨B, 0, none⟩) (by simp) x0
  have y1 := hfr.cell (p := ⟨B, 1, none⟩) (by simp) x1
  have y2 := hfr.cell (p := ⟨B + 1, 0, none⟩) (by simp) x2
  have y3 := hfr.cell (p := ⟨B + 1, 1, none⟩) (by simp) x3
  have y4 := hfr.cell (p := ⟨B + 1, 2, none⟩) (by simp) x4
  have HBW2 := Lib.hid (HBW.out.trans (hfr.below HBW.out.size (fun j hj => by rw [← HB.out]; omega)))
  have hbs := hrow2.bools
  simp only [List.length_set, List.length_replicate] at hbs
  have HBS := Lib.hid hbs
  clear hW2 hfr hrow2 hbs x0 x1 x2 x3 x4 z1 z2
  go_wp2_with fail
  refine (run_any t back (by rw [← HN.out]; exact hn) x W2 _ _ _ _ _ ((List.replicate (n + 1) false).set p true) (by simp [HN.out]) (by have := HT.out.to HBW2.out (Nat.le_refl _); rwa [← HN.out] at this) HBS.out (HX.out.to HBW2.out (Nat.le_refl _))).mono ?_
  rintro e w3 ⟨v, out, rfl, hbo, himg, hbl, -⟩
  have HBO := Lib.hid hbo
  have HIM := Lib.hid himg
  clear y0 y1 y2 y3 y4 hbo himg
  go_wp2
  go_ret
  refine ⟨_, out, rfl, HBO.out, by rw [HIM.out.1]; simp, fun q => (HIM.out.2 q).trans ⟨fun ⟨p', h1, h2⟩ => ?_, fun h => ⟨p, (tr_point (by omega) p).2 rfl, h⟩⟩, HBW2.out.trans (hbl.mono HBW2.out.size)⟩
  rw [(tr_point (by omega) p').1 h1] at h2
  exact h2
end Go.Proofs.Ytphgjppeindbaaa
