/-
  HoldOnce ends true. No condition beyond what each theorem names.
-/
import Derived.Test.YtpkdhmljbpbcfaaTJ
import Derived.Deep.DeepCutAuto
import Derived.Deep.CutBlock
import Derived.Test.YtpkdhmljbpbcfaaMix
set_option linter.unusedVariables false
set_option linter.unusedSimpArgs false
namespace Go.Proofs.Ytpkdhmljbpbcfaa
open Go.RowKit

/-- the first k operations, added one by one -/
def run (room : Int) (xs : List OpV) (k : Nat) : List OpV := (xs.take k).foldl (addTo room) []

theorem run_succ (room : Int) (xs : List OpV) (k : Nat) (h : k < xs.length) : run room xs (k + 1) = addTo room (run room xs k) xs[k] := by
  unfold run
  rw [List.take_succ_eq_append_getElem h, List.foldl_append]
  rfl

theorem run_len (room : Int) (xs : List OpV) (k : Nat) : (run room xs k).length ≤ k := by
  induction k with
  | zero => simp [run]
  | succ k ih =>
    by_cases h : k < xs.length
    · rw [run_succ _ _ _ h]
      have := (addTo_len room (run room xs k) xs[k]).1
      omega
    · have : run room xs (k + 1) = run room xs k := by unfold run; rw [List.take_of_length_le (by omega), List.take_of_length_le (by omega)]
      rw [this]; omega

/-- behind Add it is there -/
theorem any_addTo {room : Int} {xs : List OpV} {o : OpV} (h : (xs.length : Int) < room) : (addTo room xs o).any (sameId o.author o.seq) = true := by
  unfold addTo
  by_cases h1 : xs.any (sameId o.author o.seq) = true
  · simp [h1]
  · have h2 : ¬ room ≤ xs.length := by omega
    simp [h1, h2, ins, sameId]

theorem addTo_twice {room : Int} {xs : List OpV} {o : OpV} (h : (xs.length : Int) < room) : addTo room (addTo room xs o) o = addTo room xs o ∧ addErr room (addTo room xs o) o = 0 ∧ addErr room xs o = 0 := by
  have h1 := any_addTo (o := o) h
  refine ⟨by rw [addTo, h1]; simp, by rw [addErr, h1]; simp, ?_⟩
  unfold addErr
  by_cases h3 : xs.any (sameId o.author o.seq) = true
  · simp [h3]
  · have h2 : ¬ room ≤ xs.length := by omega
    simp [h3, h2]

theorem addTo_length {room : Int} {xs : List OpV} {o : OpV} (h : (xs.length : Int) < room) : (addTo room xs o).length = xs.length + if xs.any (sameId o.author o.seq) then 0 else 1 := by
  unfold addTo
  by_cases h1 : xs.any (sameId o.author o.seq) = true
  · simp [h1]
  · have h2 : ¬ room ≤ xs.length := by omega
    have := pos_le o.author o.seq xs
    simp [h1, h2, ins]; omega

theorem addTo_sorted {room : Int} {xs : List OpV} (hs : Sorted xs) (o : OpV) : Sorted (addTo room xs o) := by
  unfold addTo
  split
  · exact hs
  · split
    · exact hs
    · rename_i h _
      exact sorted_insert hs o (by simpa using h)

theorem run_sorted (room : Int) (xs : List OpV) (k : Nat) : Sorted (run room xs k) := by
  induction k with
  | zero => exact List.Pairwise.nil
  | succ k ih =>
    by_cases h : k < xs.length
    · rw [run_succ _ _ _ h]; exact addTo_sorted ih _
    · have : run room xs (k + 1) = run room xs k := by unfold run; rw [List.take_of_length_le (by omega), List.take_of_length_le (by omega)]
      rw [this]; exact ih

theorem mem_addTo {room : Int} {xs : List OpV} {o p : OpV} (h : p ∈ addTo room xs o) : p ∈ xs ∨ p = o := by
  unfold addTo ins at h
  split at h
  · exact .inl h
  · split at h
    · exact .inl h
    · simp only [List.mem_append, List.mem_cons] at h
      rcases h with h | h | h
      · exact .inl (List.mem_of_mem_take h)
      · exact .inr h
      · exact .inl (List.mem_of_mem_drop h)

theorem run_mem {room : Int} {xs : List OpV} {k : Nat} {p : OpV} (h : p ∈ run room xs k) : ∃ (j : Nat) (hj : j < xs.length), j < k ∧ xs[j] = p := by
  induction k with
  | zero => simp [run] at h
  | succ k ih =>
    by_cases hk : k < xs.length
    · rw [run_succ _ _ _ hk] at h
      rcases mem_addTo h with h | h
      · obtain ⟨j, hj, h1, h2⟩ := ih h
        exact ⟨j, hj, by omega, h2⟩
      · exact ⟨k, hk, by omega, h.symm⟩
    · have e : run room xs (k + 1) = run room xs k := by unfold run; rw [List.take_of_length_le (by omega), List.take_of_length_le (by omega)]
      rw [e] at h
      obtain ⟨j, hj, h1, h2⟩ := ih h
      exact ⟨j, hj, by omega, h2⟩

/-- is it one of the first k? -/
def seen (xs : List OpV) (x : OpV) (k : Nat) : Bool := (xs.take k).any (fun o => decide (o = x))
theorem seen_succ {xs : List OpV} {x : OpV} {k : Nat} (h : k < xs.length) : seen xs x (k + 1) = (seen xs x k || decide (xs[k] = x)) := by
  unfold seen
  rw [List.take_succ_eq_append_getElem h, List.any_append]; simp
theorem seen_true {xs : List OpV} {x : OpV} {k : Nat} {j : Nat} (hj : j < xs.length) (hk : j < k) (h : xs[j] = x) : seen xs x k = true := by
  unfold seen
  rw [List.any_eq_true]
  exact ⟨x, h ▸ (List.mem_take_iff_getElem.2 ⟨j, by omega, rfl⟩), by simp⟩

set_option maxRecDepth 100000 in
set_option maxHeartbeats 4000000 in
theorem once_any (w : World) (v : Value) (xs : List OpV) (hn : xs.length ≤ 9223372036854775807) (hv : Rd w v xs) : Calls Try.prog 3 #[v] w (Says true w) := by
  obtain ⟨ad, cap, rfl, hx⟩ := hv
  have HX := Lib.hid hx
  clear hx
  obtain ⟨n, hlen⟩ : ∃ n, n = xs.length := ⟨_, rfl⟩
  rw [← hlen] at hn ⊢
  have HL := Lib.hid hlen
  clear hlen
  go_enter Try.func3, Try.ntmps3
  go_wp2_with fail
  refine (shown_any w).mono ?_
  rintro e w1 ⟨rfl, hb1⟩
  go_wp2_with fail
  refine (new_h hb1 60 (by decide) (by decide)).mono ?_
  rintro e w2 ⟨rfl, hb2, hh2⟩
  have hh := hh2 (fun _ => False) (fun _ h => h.elim)
  clear hh2
  generalize w1.heap.size = bh at *
  have HH := Lib.hid hh
  clear hh hb1 hb2
  go_upto_block 0 with fail
  go_cut [5] (fun u wx => ∃ m : Nat, u = .int .i64 (run 60 xs m).length ∧ m ≤ 60 ∧ m ≤ n ∧ Has w wx (fun _ => False) bh 60 (run 60 xs m))
  case first =>
   go_wp2_with fail
   go_loopw [5, 6] (fun u i wr => ∃ k : Nat, i = .int .i64 k ∧ k ≤ n ∧ k ≤ 60 ∧ u = .int .i64 (run 60 xs k).length ∧ Has w wr (fun _ => False) bh 60 (run 60 xs k)) (fun _ i _ => n - (intOf i).toNat)
   case atStart => exact ⟨0, rfl, by omega, by omega, rfl, HH.out⟩
   case round =>
     obtain ⟨k, rfl, h1, h2, rfl, hh⟩ := hrel
     have HK := Lib.hid hh
     clear hh
     by_cases hk : k < n
     · by_cases hk6 : k < 60
       · have hkx : k < xs.length := by have := HL.out; omega
         obtain ⟨b, off, rfl, hx⟩ := HX.out (by omega)
         have ho := hx k hkx
         have hlt := opAt_lt ho
         have HO := Lib.hid ho
         clear hx ho
         obtain ⟨o, hoo⟩ : ∃ o, o = xs[k] := ⟨_, rfl⟩
         rw [← hoo] at HO
         have HOO := Lib.hid hoo
         clear hoo
         have HS := Lib.hid (show run 60 xs (k + 1) = addTo 60 (run 60 xs k) o by rw [HOO.out]; exact run_succ _ _ _ hkx)
         have hll := run_len 60 xs k
         generalize run 60 xs k = ys at *
         obtain ⟨k0, k1, k2, k3, k4, k5, k6⟩ := opAt_below HK.out.below hlt HO.out
         have hkn : (k : Int) < n := by omega
         go_wp2
         go_still_tail 12, (by kernel_rfl)
         change wpList _ _ _ _ _ wr.drew
         go_wp2_with fail
         refine (has_h (HK.out.to ((Below.refl _ _).drew)) o.author o.seq).mono ?_
         intro e w3 he
         obtain ⟨rfl, hh3, -, -⟩ := he
         have hlt60 : (ys.length : Int) < 60 := by omega
         obtain ⟨zs, hzs⟩ : ∃ zs, zs = addTo 60 ys o := ⟨_, rfl⟩
         obtain ⟨t1, t2, t3⟩ := addTo_twice (o := o) hlt60
         have t4 := any_addTo (o := o) hlt60
         have t5 := addTo_length (o := o) hlt60
         rw [← hzs] at t1 t2 t4 t5
         have HZS := Lib.hid hzs
         have hzl : zs.length ≤ 60 := by rw [t5]; split <;> omega
         have HA1 := Lib.hid (fun (wX : World) (h : Has w wX (fun _ => False) bh 60 ys) => add_e h (by omega) o hzs.symm t3)
         have HA2 := Lib.hid (fun (wX : World) (h : Has w wX (fun _ => False) bh 60 zs) => add_e h (by omega) o t1 t2)
         have HA3 := Lib.hid (fun (wX : World) (h : Has w wX (fun _ => False) bh 60 zs) => has_e h o.author o.seq t4)
         have b3 := hh3.below
         have HT5 := Lib.hid t5
         clear hzs t1 t2 t3 t4 t5
         obtain ⟨k0, k1, k2, k3, k4, k5, k6⟩ := opAt_below b3 hlt HO.out
         cases hany : ys.any (sameId o.author o.seq)
         all_goals
           have HAN := Lib.hid hany
           clear hany
           go_wp2_with fail
           refine wp_region_plan (opAt · b (off + k * 7) o) (.reads [0, 1, 2, 3, 4] (.one 5 (.reads [6, 7, 8, 9, 10, 11, 12] (.one 13 (.reads [14, 15, 16, 17, 18, 19, 20, 21, 22, 23, 24, 25, 26, 27, 28] (.one 29 (.reads [30, 31] .done))))))) 168 (by kernel_rfl) (by kernel_rfl) rfl (fun _ _ _ _ _ h => h) (opAt_below b3 hlt HO.out) ?_
           apply plan_reads
           · intro W hW
             obtain ⟨k0, k1, k2, k3, k4, k5, k6⟩ := hW
             repeat (refine wpRead_step (fun K hK => ?_); go_simp; refine hK _ ?_; clear hK K)
             exact wpRead_nil rfl
           refine plan_one rfl ?_
           go_wp2_with fail
           refine (HA1.out _ (hh3.to (Below.refl _ _).drew)).mono ?_
           intro e w4 he
           obtain ⟨rfl, h4, -, -⟩ := he
           have b4 := h4.below
           go_wp2_with fail
           refine Then.mk (opAt_below b4 hlt HO.out) ?_
           apply plan_reads
           · intro W hW
             obtain ⟨k0, k1, k2, k3, k4, k5, k6⟩ := hW
             repeat (refine wpRead_step (fun K hK => ?_); go_simp; refine hK _ ?_; clear hK K)
             exact wpRead_nil rfl
           refine plan_one rfl ?_
           go_wp2_with fail
           refine (HA2.out _ h4).mono ?_
           intro e w5 he
           obtain ⟨rfl, h5, -, -⟩ := he
           have b5 := h5.below
           go_wp2_with fail
           refine Then.mk (opAt_below b5 hlt HO.out) ?_
           apply plan_reads
           · intro W hW
             obtain ⟨k0, k1, k2, k3, k4, k5, k6⟩ := hW
             repeat (refine wpRead_step (fun K hK => ?_); go_simp; refine hK _ ?_; clear hK K)
             exact wpRead_nil rfl
           refine plan_one rfl ?_
           go_wp2_with fail
           refine (HA3.out _ h5).mono ?_
           intro e w6 he
           obtain ⟨rfl, h6, -, -⟩ := he
           have b6 := h6.below
           go_wp2_with fail
           refine Then.mk (opAt_below b6 hlt HO.out) ?_
           apply plan_reads
           · intro W hW
             repeat (refine wpRead_step (fun K hK => ?_); go_simp; refine hK _ ?_; clear hK K)
             exact wpRead_nil rfl
           refine plan_done ?_
           go_wp2_with fail
           go_roundw
           case rel =>
             refine ⟨k + 1, by go_num, by omega, by omega, ?_, ?_⟩
             · rw [HS.out, ← HZS.out, HT5.out, HAN.out]; go_num
             · rw [HS.out, ← HZS.out]; exact h6
           case measure => simp [intOf]; omega
       · go_wp2_with fail
         go_meet
         exact ⟨k, rfl, h2, h1, HK.out⟩
     · go_wp2_with fail
       go_meet
       exact ⟨k, rfl, h2, h1, HK.out⟩
  case rest =>
    obtain ⟨m, rfl, hm1, hm2, hh⟩ := hcut
    have hl := run_len 60 xs m
    have HS := Lib.hid (run_sorted 60 xs m)
    have HM := Lib.hid (fun (p : OpV) (h : p ∈ run 60 xs m) => run_mem h)
    generalize run 60 xs m = zs at *
    have hR : ∀ (i : Nat) (h : i < zs.length), readyRest (fun _ => true) (zs.drop i) = zs.drop (i + 1) ∧ readyOut (fun _ => true) (zs.drop i) = (zs[i], true) := by
      intro i h
      have := ready_some (q := fun _ => true) (xs := zs.drop i) (i := 0) (by simp; omega) rfl (fun j hj => by omega)
      refine ⟨this.2.trans ?_, this.1.trans ?_⟩
      · rw [List.eraseIdx_zero, List.tail_drop]
      · simp
    have HR := Lib.hid hR
    clear hR
    go_wp2_with fail
    refine (len_h hh).mono ?_
    intro e w3 he
    obtain ⟨rfl, hh3, -, -⟩ := he
    clear hh
    go_wp2_with fail
    refine (room_h hh3).mono ?_
    intro e w4 he
    obtain ⟨rfl, hh4, -, -⟩ := he
    clear hh3
    go_wp2_with fail
    refine abs_wp fun w5 hw => ?_
    have hw5 : w5 = w4.alloc (opObj ⟨0, 0, 0, false, 0, 0, 0⟩) := hw
    clear hw
    have hb5 : Below w4.heap.size w4 w5 := by rw [hw5]; exact (Below.refl _ _).alloc (Nat.le_refl _) _
    have ho5 : w5.heap[w4.heap.size]? = some (opObj ⟨0, 0, 0, false, 0, 0, 0⟩) := by rw [hw5]; exact heap_alloc_new _ _
    have hh5 := hh4.more hb5 (Ls := fun k => k = w4.heap.size) (fun k hk => .inr ⟨by omega, by rw [hk]; exact (Array.getElem?_eq_some_iff.1 ho5).1⟩)
    have HBL := Lib.hid hh4.below.size
    generalize w4.heap.size = bl at *
    have HH5 := Lib.hid hh5
    have HO5 := Lib.hid ho5
    clear hh5 ho5 hw5 hb5 hh4
    go_loopw [8, 9, 10, 11, 12] (fun i _ _ _ _ wr => ∃ (i' : Nat) (lo : OpV), i = .int .i64 i' ∧ i' ≤ zs.length ∧ Has w wr (fun k => k = bl) bh 60 (zs.drop i') ∧ wr.heap[bl]? = some (opObj lo) ∧ (∀ j, j + 1 = i' → zs[j]? = some lo)) (fun i _ _ _ _ _ => zs.length - (intOf i).toNat)
    case atStart => exact ⟨0, _, rfl, Nat.zero_le _, HH5.out, HO5.out, fun j h => by omega⟩
    case round =>
      obtain ⟨i, lo, rfl, hi, hh, ho, hlo⟩ := hrel
      have HO := Lib.hid ho
      have HLO := Lib.hid hlo
      have HH := Lib.hid hh
      clear ho hlo hh
      by_cases hiz : i < zs.length
      · obtain ⟨x, hx⟩ : ∃ x, x = zs[i] := ⟨_, rfl⟩
        have HX0 := Lib.hid hx
        have hr := HR.out i hiz
        rw [← hx] at hr
        have HRI := Lib.hid hr
        clear hx hr
        go_wp2_with fail
        refine (ready_all HH.out HRI.out.1 HRI.out.2).mono ?_
        intro e w6 he
        have ho6 : w6.heap[bl]? = some (opObj lo) := by rw [he.kept bl rfl]; exact HO.out
        obtain ⟨rfl, hh6, -, -⟩ := he
        have HH6 := Lib.hid hh6
        have HO6 := Lib.hid ho6
        clear hh6 ho6
        go_upto_block 4 with fail
        refine abs_wp fun w7 hw => ?_
        have hw7 : w7 = w6.alloc (opObj x) := hw
        clear hw
        have hb7 : Below w6.heap.size w6 w7 := by rw [hw7]; exact (Below.refl _ _).alloc (Nat.le_refl _) _
        have hx7 : opAt w7 w6.heap.size 0 x := by refine opAt_heap ?_; rw [hw7]; exact heap_alloc_new _ _
        have hlt7 := opAt_lt hx7
        have ho7 : w7.heap[bl]? = some (opObj lo) := by
          rw [hb7.block _ (HH6.out.ks _ rfl)]; exact HO6.out
        have HH7 := Lib.hid (HH6.out.to hb7)
        have HX7 := Lib.hid hx7
        have HO7 := Lib.hid ho7
        generalize w6.heap.size = bx at *
        clear hw7 hx7 ho7 hb7
        go_cut [11] (fun a wx => a = .bool true ∧ Below w7.heap.size w7 wx)
        case first =>
          go_wp2_with fail
          go_loopw [11, 12] (fun a j wx => ∃ j' : Nat, j = .int .i64 j' ∧ j' ≤ n ∧ j' ≤ 60 ∧ a = .bool (seen xs x j') ∧ Below w7.heap.size w7 wx) (fun _ j _ => n - (intOf j).toNat)
          case atStart => exact ⟨0, rfl, by omega, by omega, rfl, Below.refl _ _⟩
          case round =>
            obtain ⟨j, rfl, hj1, hj2, rfl, hbx⟩ := hrel
            by_cases hj : j < n
            · by_cases hj6 : j < 60
              · have hjx : j < xs.length := by have := HL.out; omega
                have HSS := Lib.hid (seen_succ (x := x) hjx)
                cases hs : seen xs x j
                · obtain ⟨b, off, had, hxc⟩ := HX.out (by omega)
                  subst had
                  have ho := hxc j hjx
                  have hlt := opAt_lt ho
                  obtain ⟨y, hy⟩ : ∃ y, y = xs[j] := ⟨_, rfl⟩
                  rw [← hy] at ho HSS
                  obtain ⟨k0, k1, k2, k3, k4, k5, k6⟩ := opAt_below hbx (Nat.lt_of_lt_of_le hlt HH7.out.below.size) (opAt_below HH7.out.below hlt ho)
                  obtain ⟨x0, x1, x2, x3, x4, x5, x6⟩ := opAt_below hbx hlt7 HX7.out
                  simp only [Nat.zero_add] at x1 x2 x3 x4 x5 x6
                  clear hxc ho hy
                  have heq := run_eql_op y x
                  have HSJ := Lib.hid hs
                  clear hs
                  go_wp2
                  go_quiet (fail)
                  go_wp2
                  go_roundw
                  case rel => exact ⟨j + 1, by go_num, by omega, by omega, by rw [HSS.out, HSJ.out]; simp, below_drewN hbx _⟩
                  case measure => simp [intOf]; omega
                · have HSJ := Lib.hid hs
                  clear hs
                  go_wp2
                  go_quiet (fail)
                  go_wp2
                  go_roundw
                  case rel => exact ⟨j + 1, by go_num, by omega, by omega, by rw [HSS.out, HSJ.out]; simp, below_drewN hbx _⟩
                  case measure => simp [intOf]; omega
              · go_wp2_with fail
                go_meet
                obtain ⟨j0, g1, g2, g3⟩ := HM.out x (by rw [HX0.out]; exact List.getElem_mem _)
                exact ⟨by rw [seen_true g1 (by omega) g3], hbx⟩
            · go_wp2_with fail
              go_meet
              obtain ⟨j0, g1, g2, g3⟩ := HM.out x (by rw [HX0.out]; exact List.getElem_mem _)
              exact ⟨by rw [seen_true g1 (by omega) g3], hbx⟩
        case rest =>
          obtain ⟨rfl, hbx⟩ := hcut
          have hlast : i = 0 ∨ (0 < i ∧ lt lo x) := by
            rcases Nat.eq_zero_or_pos i with h | h
            · exact .inl h
            · refine .inr ⟨h, ?_⟩
              have h1 := HLO.out (i - 1) (by omega)
              obtain ⟨h2, h3⟩ := List.getElem?_eq_some_iff.1 h1
              rw [← h3, HX0.out]
              exact (List.pairwise_iff_getElem.1 HS.out) _ _ h2 hiz (by omega)
          have hoX := opAt_below hbx hlt7 HX7.out
          have hblX : wc.heap[bl]? = some (opObj lo) := by rw [hbx.block _ (HH7.out.ks _ rfl)]; exact HO7.out
          have hhX := HH7.out.to hbx
          have HBX := Lib.hid hblX
          have HHX := Lib.hid hhX
          obtain ⟨x0, x1, x2, x3, x4, x5, x6⟩ := hoX
          obtain ⟨l0, l1, l2, l3, l4, l5, l6⟩ := opAt_heap hblX
          simp only [Nat.zero_add] at x1 x2 x3 x4 x5 x6 l1 l2 l3 l4 l5 l6
          clear hblX hhX hbx
          have hrel : ∀ (w8 : World), w8.heap[bl]? = some (opObj x) → Fr (fun k => k = bl) wc w8 → Has w w8 (fun k => k = bl) bh 60 (zs.drop (i + 1)) ∧ w8.heap[bl]? = some (opObj x) ∧ (∀ j, j + 1 = i + 1 → zs[j]? = some x) := by
            intro w8 h8 hf
            refine ⟨HHX.out.keep (fun k => k = bl) (fun k hk => hk) hf (fun k hk => by rw [hk]; exact HBL.out), h8, fun j hj => ?_⟩
            obtain rfl : j = i := by omega
            rw [HX0.out]; exact List.getElem?_eq_getElem hiz
          have HREL := Lib.hid hrel
          clear hrel
          rcases hlast with h0 | ⟨h0, h1 | ⟨h1, h2⟩⟩
          · have t0 : ¬ 0 < i := by omega
            clear h0
            go_upto_region 27 with fail
            go_wp2_with (refine wpList_store_box rfl (.tmp 7) (.tmp 152) rfl bl rfl lo x rfl HBX.out ?_; intro w8 h8 hf)
            have hr := HREL.out w8 h8 hf
            go_roundw
            case rel => exact ⟨i + 1, x, by go_num, by omega, hr⟩
            case measure => simp [intOf]; omega
          · have t1 : ¬ x.author < lo.author := by omega
            have t2 : (x.author == lo.author) = false := by rw [beq_eq_false_iff_ne]; omega
            go_upto_region 27 with fail
            go_wp2_with (refine wpList_store_box rfl (.tmp 7) (.tmp 152) rfl bl rfl lo x rfl HBX.out ?_; intro w8 h8 hf)
            have hr := HREL.out w8 h8 hf
            go_roundw
            case rel => exact ⟨i + 1, x, by go_num, by omega, hr⟩
            case measure => simp [intOf]; omega
          · have t1 : ¬ x.author < lo.author := by omega
            have t2 : (x.author == lo.author) = true := by rw [beq_iff_eq]; omega
            have t3 : ¬ x.seq ≤ lo.seq := by omega
            clear h1
            go_upto_region 27 with fail
            go_wp2_with (refine wpList_store_box rfl (.tmp 7) (.tmp 152) rfl bl rfl lo x rfl HBX.out ?_; intro w8 h8 hf)
            have hr := HREL.out w8 h8 hf
            go_roundw
            case rel => exact ⟨i + 1, x, by go_num, by omega, hr⟩
            case measure => simp [intOf]; omega
      · have hie : i = zs.length := by omega
        have HIE := Lib.hid hie
        have hz : zs.drop i = [] := List.drop_of_length_le (by omega)
        have HZ := Lib.hid hz
        clear hie hz
        go_wp2_with fail
        rw [HZ.out] at HH
        refine (ready_all (o := ⟨0, 0, 0, false, 0, 0, 0⟩) (b := false) (ys := []) HH.out rfl rfl).mono ?_
        intro e w6 he
        obtain ⟨rfl, hh6, -, -⟩ := he
        go_wp2_with fail
        refine abs_world fun w7 hw => ?_
        have hb7 : Below w6.heap.size w6 w7 := by rw [hw]; exact (Below.refl _ _).alloc (Nat.le_refl _) _
        have hh7 := hh6.to hb7
        clear hw hb7 hh6
        refine (len_e hh7 (n := 0) rfl).mono ?_
        intro e w8 he
        obtain ⟨rfl, hh8, -, -⟩ := he
        go_wp2_with fail
        go_ret
        exact ⟨rfl, hh8.below⟩
end Go.Proofs.Ytpkdhmljbpbcfaa
