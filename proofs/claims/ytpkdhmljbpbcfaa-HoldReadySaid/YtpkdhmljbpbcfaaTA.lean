/-
  Hold.Drop. No condition beyond what each theorem names.
-/
import Derived.Test.YtpkdhmljbpbcfaaT9
set_option linter.unusedVariables false
set_option linter.unusedSimpArgs false
namespace Go.Proofs.Ytpkdhmljbpbcfaa
open Go.RowKit

theorem Decides.mono {F : FuncId} {C : Array Value} {q : OpV → Bool} {w : World} {G H : Nat → Prop} (h : Decides F C q w G) (hh : ∀ k, H k → G k) : Decides F C q w H :=
  fun o w1 hw => h o w1 (hw.mono fun k _ hk => hh k hk)

theorem row_ne {w : World} {bh : Nat} {c : Array Value} {base : Nat} {v : Value} {n : Nat} {xs : List Value} (h0 : w.heap[bh]? = some (.cells c 55 (0, 0))) (h : w.ownsRow base 30 7 v n xs) : v.ownBlock ≠ some bh := by
  intro e
  rcases h.2 with ⟨rfl, _⟩ | ⟨g, cap, cur, rfl, _, hg, _⟩
  · cases e
  · cases e; rw [h0] at hg; cases hg

theorem setCell_at {w : World} {b : Nat} {c : Array Value} {t : TypeId} {fr : Nat × Nat} (h : w.heap[b]? = some (.cells c t fr)) (o : Nat) (u : Value) : (w.setCell ⟨b, o, none⟩ u).heap[b]? = some (.cells (c.setIfInBounds o u) t fr) := by
  rw [setCell_eq_setRow w b o c t fr u h]
  exact setRow_heap w b c _ t fr h

theorem setCell_off {w : World} (b o : Nat) (u : Value) {k : Nat} (h : k ≠ b) : (w.setCell ⟨b, o, none⟩ u).heap[k]? = w.heap[k]? := Below.heap_setCell _ _ _ _ h

/-- a hold's list is written -/
theorem hold_set {w : World} {bh : Nat} {room : Int} {v v' : Value} {xs : List OpV} (h0 : w.heap[bh]? = some (.cells #[.int .i64 room, v] 55 (0, 0))) (hrow : w.ownsRow 0 30 7 v' xs.length (flat xs)) (hs : Sorted xs)
    {F : Nat → Prop} (hF : F bh) (hF' : ∀ k, v'.ownBlock = some k → F k) (hlt : ∀ k, F k → k < w.heap.size) :
    HoldAt (w.setCell ⟨bh, 1, none⟩ v') F bh room v' xs := by
  refine ⟨by rw [setCell_at h0]; simp, ?_, hF, hF', fun k hk => by simpa [World.setCell] using hlt k hk, hs⟩
  refine ownsRow_fr hrow (Fr.setCell (F := fun k => k = bh) w rfl v') (fun k hk => ?_)
  rintro rfl
  exact row_ne h0 hrow hk

set_option maxHeartbeats 400000 in
theorem drop_any (w : World) (F : Nat → Prop) (bh : Nat) (room : Int) (v : Value) (xs : List OpV) (q : OpV → Bool) (K : FuncId) (C : Array Value) (hn : xs.length ≤ 1000000) (hh : HoldAt w F bh room v xs) (hE : Enters Try.prog K)
    (hq : Decides K C q w F) :
    Calls Try.prog 24 #[.pointer (some ⟨bh, 0, none⟩), .func (.func K) #[] C] w
      (HoldPost w F bh room (xs.filter fun o => !q o) (.returned (.int .i64 ((xs.length : Int) - (xs.filter fun o => !q o).length)))) := by
  have HH := Lib.hid hh
  have HD := Lib.hid (delete_any w v xs q K C (fun k => v.ownBlock = some k) hn hE hh.row (fun _ h => h) (hq.mono hh.own'))
  obtain ⟨ad, cap, hv⟩ := hh.rd.len
  have HV := Lib.hid hv
  have c1 : w.cell? ⟨bh, 1, none⟩ = some (.slice ad xs.length cap) := by simp [World.cell?, hh.head, hv]
  rw [hv] at HD
  clear hh hq hE hv
  go_enter Try.func24, Try.ntmps24
  go_wp2_with fail
  refine HD.out.mono ?_
  rintro e w1 ⟨v', rfl, h1, h2, h3⟩
  rw [← HV.out] at h2 h3
  have hb0 : w1.heap[bh]? = some (.cells #[.int .i64 room, v] 55 (0, 0)) := by
    rw [h2.block bh (HH.out.lt _ HH.out.own) (row_ne HH.out.head HH.out.row)]
    exact HH.out.head
  have c2 : w1.cell? ⟨bh, 1, none⟩ = some (.slice ad xs.length cap) := by simp [World.cell?, hb0, HV.out]
  have c3 : w1.frozen? ⟨bh, 1, none⟩ = false := by simp [World.frozen?, hb0]
  obtain ⟨ad', cap', hv'⟩ := (ownsRow_rd h1).len
  have c4 : (w1.setCell ⟨bh, 1, none⟩ v').cell? ⟨bh, 1, none⟩ = some v' := by simp [World.cell?, setCell_at hb0]
  have hle : (xs.filter fun o => !q o).length ≤ xs.length := List.length_filter_le _ _
  have hfin : HoldPost w F bh room (xs.filter fun o => !q o) (.returned (.int .i64 ((xs.length : Int) - (xs.filter fun o => !q o).length))) (.returned (.int .i64 ((xs.length : Int) - (xs.filter fun o => !q o).length))) (w1.setCell ⟨bh, 1, none⟩ v') := by
    have hfr : Fr F w (w1.setCell ⟨bh, 1, none⟩ v') := (h2.mono (G := F) fun k _ hk => HH.out.own' k hk).trans (Fr.setCell w1 HH.out.own v') (fun _ _ h => h)
    refine ⟨rfl, hfr, v', hold_set hb0 h1 (List.Pairwise.filter _ HH.out.sorted) ⟨?_, .inl HH.out.own⟩ (fun k hk => ⟨?_, .inl (HH.out.own' k (h3 k hk))⟩) (fun k hk => by simpa [World.setCell] using hk.1)⟩
    · exact Nat.lt_of_lt_of_le (HH.out.lt _ HH.out.own) hfr.size
    · exact Nat.lt_of_lt_of_le (HH.out.lt _ (HH.out.own' k (h3 k hk))) hfr.size
  have HF := Lib.hid hfin
  generalize hm : (xs.filter fun o => !q o).length = m at *
  have HM := Lib.hid hm
  subst hv'
  clear hfin h1 h2 h3 hb0 hm
  go_wp2
  go_ret
  rw [HM.out]
  exact HF.out
end Go.Proofs.Ytpkdhmljbpbcfaa
