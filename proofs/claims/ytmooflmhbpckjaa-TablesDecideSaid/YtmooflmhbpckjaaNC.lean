/-
  add: a new state. No condition beyond what each theorem names.
-/
import Derived.Test.YtmooflmhbpckjaaNB
set_option linter.unusedVariables false
set_option linter.unusedSimpArgs false
namespace Go.Proofs.Ytmooflmhbpckjaa
open Go.RowKit

theorem infoState : (Try.prog.info? 146).map (fun i => (i.zero, i.size, i.bytes)) = some (some (.agg #[.slice none 0 0, .bool false, .slice none 0 0]), 3, 56) := by kernel_rfl

theorem Mach.below {base m : Nat} {w w' : World} {L : List Sta} {f l : Int} (h : Mach base w m L f l) (hb : Below w.heap.size w w') : Mach base w' m L f l := by
  obtain ⟨lv, Ls, h1, h2, h3, h4, h5, h6⟩ := h
  exact ⟨lv, Ls, h1, (hb.block m (at_lt h2)).trans h2, h3, h4.below hb (Nat.le_refl _), fun x hx => ⟨(h5 x hx).1.below hb (Nat.le_refl _), (h5 x hx).2.below hb (Nat.le_refl _)⟩, h6⟩

section
variable {ops : Array Oper} {rest : List Oper} {o : Oper} {a : Act} {w : World} {Q : Exit → Act → World → Prop} {base : Nat}
theorem wpList_append_states {E : Laid → List Value → Prop} (hgd : o.guard = none) (s x : Operand) (ho : o.op = .call { callee := .builtin .append, args := #[s, x], argTypes := #[110, 110] })
    (v : Value) (xs : List Laid) (hs : a.eval s = v) (hown : OwnL E 146 3 base w v xs) (xv : Value) (ns : List Laid) (hx : a.eval x = xv) (hr : ReadL E 3 w xv ns) (hlen : xs.length + ns.length ≤ 1000000) (hbase : base ≤ w.heap.size)
    (h : ∀ p c w', OwnL E 146 3 base w' (.slice p (xs.length + ns.length) c) (xs ++ ns) → w.grownBy w' v.ownBlock → ((Value.slice p (xs.length + ns.length) c).ownBlock = v.ownBlock ∨ (Value.slice p (xs.length + ns.length) c).ownBlock = some w.heap.size) → wpList Try.prog ops Q rest (a.put o.dst (.slice p (xs.length + ns.length) c)) w') : wpList Try.prog ops Q (o :: rest) a w := by
  obtain ⟨i0, hi, hz0, hz1, hz2⟩ := info_parts infoState
  exact wpList_append_L hgd s x 110 ho i0 _ 56 Try.underlying110 hi hz0 hz1 hz2 rfl (by decide) v xs hs hown xv ns hx hr (by unfold maxLen; omega) (by omega) hbase h
end
set_option maxRecDepth 100000 in
set_option maxHeartbeats 4000000 in
theorem add_any (base : Nat) (w0 w : World) (m : Nat) (L : List Sta) (first last : Int) (set : Bool) (tv : Value) (takes : List Int) (hL : L.length + 1 ≤ 1000000) (hm : Mach base w0 m L first last) (hb : Below w0.heap.size w0 w) (ht : OwnL intE 3 1 w0.heap.size w tv takes) :
    Calls Try.prog 72 #[.pointer (some ⟨m, 0, none⟩), .agg #[.slice none 0 0, .bool set, tv]] w fun e w' => e = .returned (.int .i64 L.length) ∧ Mach base w' m (L ++ [⟨[], set, takes⟩]) first last ∧ Below base w w' ∧ KeepN w w' := by
  obtain ⟨lv, Ls, hbm, hbx0, hmap, hown0, hall0, hap⟩ := hm
  have hlen2 : Ls.length = L.length := by rw [← hmap, List.length_map]
  have hbx := (hb.block m (at_lt hbx0)).trans hbx0
  have hown := hown0.below hb (Nat.le_refl _)
  have hall : ∀ x ∈ Ls, OwnL intE 3 1 base w x.fv x.s.free ∧ OwnL intE 3 1 base w x.tv x.s.takes := fun x hx => ⟨(hall0 x hx).1.below hb (Nat.le_refl _), (hall0 x hx).2.below hb (Nat.le_refl _)⟩
  have hold : ∀ x ∈ Ls, ∀ k, x.fv.ownBlock = some k → k < w0.heap.size := fun x hx k hk => ((hall0 x hx).1.lt k hk).2
  obtain ⟨pl, cl, hlv⟩ := hown.form
  subst hlv
  rw [hlen2] at hbx hown
  obtain ⟨pt, ct, htv⟩ := ht.form
  have hbw0 : base ≤ w0.heap.size := by have := at_lt hbx0; omega
  have hbw : base ≤ w.heap.size := by have := at_lt hbx; omega
  have HT := Lib.hid ht
  have HBX := Lib.hid hbx
  have HOWN := Lib.hid hown
  have HALL := Lib.hid hall
  have HOLD := Lib.hid hold
  have HAP := Lib.hid hap
  have HMAP := Lib.hid hmap
  have HTV := Lib.hid htv
  have HBW0 := Lib.hid hbw0
  clear hbx0 hmap hown0 hall0 hap hbx hown ht hb htv hall hold hbw0
  go_enter Try.func72, Try.ntmps72
  go_upto_region 1 with fail
  refine abs_wp fun W hW => ?_
  obtain ⟨B, hB⟩ : ∃ B, B = w.heap.size := ⟨_, rfl⟩
  have hs : W.heap[B]? = some (.cells #[.slice none 0 0, .bool set, tv] 146) := by rw [hW, hB]; exact heap_alloc_new _ _
  have hbe : Below w.heap.size w W := by rw [hW]; exact below_alloc1 _ _
  rw [← hB]
  have HBE := Lib.hid hbe
  have HS := Lib.hid hs
  have HM := Lib.hid ((hbe.block m (at_lt HBX.out)).trans HBX.out)
  have HMB := Lib.hid (show w.heap.size ≤ B by rw [hB]; exact Nat.le_refl _)
  clear hW hs hbe hB
  refine wp_region_fin 10 (fun W => W.heap[m]? = some (.cells #[.slice pl L.length cl, .int .i64 first, .int .i64 last] 112) ∧ W.heap[B]? = some (.cells #[.slice none 0 0, .bool set, tv] 146)) (.reads [0, 1, 2, 3, 4, 5] (.one 6 (.one 7 (.one 8 (.one 9 (.last 10)))))) 21 (by kernel_rfl) (by kernel_rfl) rfl (fun _ _ _ _ _ h => h) ⟨HM.out, HS.out⟩ ?_
  apply plan_reads
  · intro W' hW'
    obtain ⟨s0, s1, s2⟩ := cells3 hW'.2
    obtain ⟨m0, -, -⟩ := cells3 hW'.1
    repeat (refine wpRead_step (fun K hK => ?_); go_simp; refine hK _ ?_; clear hK K)
    exact wpRead_nil rfl
  refine abs_plan fun W0 hW0 => ?_
  have HS0 := Lib.hid (show W0.heap[B]? = some (.cells #[.slice none 0 0, .bool set, tv] 146) by rw [hW0]; exact HS.out)
  have HM0 := Lib.hid (show W0.heap[m]? = some (.cells #[.slice pl L.length cl, .int .i64 first, .int .i64 last] 112) by rw [hW0]; exact HM.out)
  have HB0 := Lib.hid (show Below w.heap.size w W0 by rw [hW0]; exact HBE.out.drew)
  clear hW0
  refine plan_one rfl ?_
  have ha := below_alloc1 W0 (.cells #[.slice none 0 0, .bool set, tv] 146)
  have HN0 := Lib.hid (ReadL.one (E := laidE) W0 146 _ _ (laidE.cells (base := base) (x := ⟨⟨[], set, takes⟩, .slice none 0 0, tv⟩) (OwnL.nil w) (OwnL.based HT.out HBW0.out)) rfl)
  go_wp2_with fail
  refine Then.mk ⟨(ha.block m (at_lt HM0.out)).trans HM0.out, (ha.block B (at_lt HS0.out)).trans HS0.out⟩ ?_
  refine abs_plan fun W1 hW1 => ?_
  have HA1 := Lib.hid (show Below W0.heap.size W0 W1 by rw [hW1]; exact ha)
  have HS1 := Lib.hid ((HA1.out.block B (at_lt HS0.out)).trans HS0.out)
  have HM1 := Lib.hid ((HA1.out.block m (at_lt HM0.out)).trans HM0.out)
  have HB1 := Lib.hid (HB0.out.trans (HA1.out.mono HB0.out.size))
  have HNEW := Lib.hid (show ReadL laidE 3 W1 (.slice (some ⟨W0.heap.size, 0, none⟩) 1 1) [⟨⟨[], set, takes⟩, .slice none 0 0, tv⟩] by rw [hW1]; exact HN0.out)
  clear hW1 ha HN0
  refine plan_one rfl ?_
  refine wpList_append_states rfl (.tmp 9) (.tmp 11) rfl (.slice pl L.length cl) Ls rfl (HOWN.out.below HB1.out (Nat.le_refl _)) _ [⟨⟨[], set, takes⟩, .slice none 0 0, tv⟩] rfl HNEW.out (by simp; omega) (Nat.le_trans hbw HB1.out.size) ?_
  intro p1 c1 w4 hown4 hg4 hlie4
  rw [List.length_singleton, hlen2] at hown4 hlie4 ⊢
  have hne4 := HOWN.out.notAt HBX.out (by decide)
  have HFR4 := Lib.hid (show Fr (fun k => (Value.slice pl L.length cl).ownBlock = some k) W1 w4 from Fr.grown (F := fun k => (Value.slice pl L.length cl).ownBlock = some k) hg4 (fun k h => h))
  have HM4 := Lib.hid ((HFR4.out.block m (at_lt HM1.out) hne4).trans HM1.out)
  have HS4 := Lib.hid ((HFR4.out.block B (at_lt HS1.out) (fun hk => Nat.lt_irrefl _ (Nat.lt_of_lt_of_le (HOWN.out.lt B hk).2 HMB.out))).trans HS1.out)
  have HOW4 := Lib.hid hown4
  have HLIE4 := Lib.hid hlie4
  clear hown4 hg4 hlie4 hne4
  go_wp2_with fail
  refine Then.mk ⟨HM4.out, HS4.out⟩ ?_
  refine plan_one rfl ?_
  go_wp2_with fail
  refine Then.mk ⟨HM4.out, HS4.out⟩ ?_
  refine plan_one rfl ?_
  go_wp2_with fail
  refine Then.mk ⟨HM4.out, HS4.out⟩ ?_
  refine plan_last rfl ?_
  refine wpList_store_row rfl (.tmp 14) (.tmp 12) 110 rfl m 0 rfl (.slice p1 (L.length + 1) c1) rfl _ _ (by kernel_rfl) HM4.out (by simp [Value.cells]) (by simp [Value.cells, Value.oneCell']) ?_
  refine abs_list fun W5 hW5 => ?_
  have HFR5 := Lib.hid (show Fr (fun k => k = m) w4 W5 by rw [hW5]; exact Fr.setRow (F := fun k => k = m) _ rfl _)
  have HM5 := Lib.hid (show W5.heap[m]? = some (.cells #[.slice p1 (L.length + 1) c1, .int .i64 first, .int .i64 last] 112) by rw [hW5, setRow_heap _ m _ _ _ (0, 0) HM4.out]; rfl)
  clear hW5
  have x0 := (cells3 HM5.out).1
  have hL1 : ((L.length : Nat) : Int) + 1 - 1 = L.length := by omega
  go_wp2_with fail
  go_ret
  -- an old list of numbers stays
  have stay : ∀ {v : Value} {xs : List Int}, OwnL intE 3 1 base w v xs → OwnL intE 3 1 base W5 v xs := fun {v xs} h => by
    have h1 := h.below HB1.out (Nat.le_refl _)
    have h4 := h1.fr HFR4.out (fun k hk he => (h.apart HOWN.out (by decide)) k hk he)
    exact h4.fr HFR5.out (fun k hk he => h4.notAt HM4.out (by decide) (by rw [hk]; exact congrArg some he))
  refine ⟨rfl, ⟨_, Ls ++ [⟨⟨[], set, takes⟩, .slice none 0 0, tv⟩], hbm, HM5.out, by rw [List.map_append, HMAP.out]; rfl, ?_, ?_, ?_⟩, ?_, ?_⟩
  · exact HOW4.out.fr HFR5.out (fun k hk he => HOW4.out.notAt HM4.out (by decide) (by rw [hk]; exact congrArg some he))
  · intro x hx
    rcases List.mem_append.1 hx with hx | hx
    · exact ⟨stay (HALL.out x hx).1, stay (HALL.out x hx).2⟩
    · rw [List.mem_singleton.1 hx]
      exact ⟨OwnL.nil _, stay (HT.out.based HBW0.out)⟩
  · obtain ⟨a1, a2⟩ := HAP.out
    refine ⟨fun i j hi hj hij k hk hk2 => ?_, fun x hx y hy k hk hk2 => ?_⟩
    · rw [List.length_append, List.length_singleton] at hi hj
      by_cases hil : i < Ls.length
      · rw [List.getElem_append_left hil] at hk
        by_cases hjl : j < Ls.length
        · rw [List.getElem_append_left hjl] at hk2
          exact a1 i j hil hjl hij k hk hk2
        · rw [List.getElem_append_right (by omega)] at hk2
          simp only [List.getElem_singleton] at hk2
          cases hk2
      · rw [List.getElem_append_right (by omega)] at hk
        simp only [List.getElem_singleton] at hk
        cases hk
    · rcases List.mem_append.1 hx with hx | hx
      · rcases List.mem_append.1 hy with hy | hy
        · exact a2 x hx y hy k hk hk2
        · rw [List.mem_singleton.1 hy] at hk2
          have := (HT.out.lt k hk2).1
          have := HOLD.out x hx k hk
          omega
      · rw [List.mem_singleton.1 hx] at hk
        cases hk
  · have h1 : Below base w W1 := HB1.out.mono hbw
    have h4 : Below base W1 w4 := HFR4.out.below (Nat.le_trans hbw h1.size) (fun q hq => (HOWN.out.lt q hq).1)
    exact (h1.trans h4).trans (HFR5.out.below (Nat.le_trans hbw (Nat.le_trans h1.size h4.size)) (fun q hq => by have h : q = m := hq; omega))
  · exact ((KeepN.of_below HB1.out).trans (KeepN.of_own (HOWN.out.below HB1.out (Nat.le_refl _)) (by decide) HFR4.out rfl)).trans (KeepN.of_at HM4.out (by decide) HFR5.out)
end Go.Proofs.Ytmooflmhbpckjaa
