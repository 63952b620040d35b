import Derived.Test.YthmaokjhncokdaaB9
/-
  dfa: Equal of two machines. No condition beyond what each theorem names.
-/
set_option linter.unusedVariables false
set_option linter.unusedSimpArgs false
namespace Go.Proofs.Ythmaokjhncokdaa
open Go.RowKit Classical

/-- one operation of a plan: what comes behind it is out of sight -/
theorem plan_one_K {P : Program} {ops : Array Oper} {S : World → Prop} {Q : Exit → Act → World → Prop} {i : Nat} {p : Plan} {a : Act} {w : World} {o : Oper} (ho : ops[i]? = some o)
    (h : ∀ K : Exit → Act → World → Prop, (∀ a w, S w → p.wp P ops S Q a w → K .normal a w) → wpList P ops K [o] a w) : Plan.wp P ops S Q (.one i p) a w :=
  plan_one ho (h _ (fun a w h1 h2 => Then.mk h1 h2))

theorem enters_equal : Enters Try.prog 67 := fun args w => by kernel_rfl

set_option maxRecDepth 100000 in
set_option maxHeartbeats 4000000 in
theorem equalF_rows (F G : Nat → Prop) (w : World) (u v : Value) (xs ys : List (List Nat)) (hx : ReadL (nrowE F w) 1 w u xs) (hy : ReadL (nrowE G w) 1 w v ys) (hl : xs.length ≤ 1000000) (hl2 : ys.length ≤ 1000000) (hr : ∀ r ∈ xs, r.length ≤ 1000000) (hr2 : ∀ r ∈ ys, r.length ≤ 1000000) :
    Calls Try.prog 66 #[u, v, .func (.func 67) #[] #[]] w fun e w' => e = .returned (.bool (decide (xs = ys))) ∧ Below w.heap.size w w' := by
  obtain ⟨px, cx, rfl, hcx, hgx⟩ := hx.at (by decide) rfl
  obtain ⟨py, cy, rfl, hcy, hgy⟩ := hy.at (by decide) rfl
  have HGX := Lib.hid hgx
  have HGY := Lib.hid hgy
  have HR := Lib.hid hr
  have HR2 := Lib.hid hr2
  clear hgx hgy hx hy hr hr2
  by_cases hlen : xs.length = ys.length
  · have hli : (xs.length : Int) = ys.length := by omega
    obtain ⟨nn, hnn⟩ : ∃ nn, nn = ys.length := ⟨_, rfl⟩
    rw [← hnn] at hlen hl2 hcy ⊢
    rw [hlen] at hl hcx ⊢
    have HX := Lib.hid hlen
    have HY := Lib.hid hnn
    clear hlen hli hnn
    go_enter Try.func66, Try.ntmps66
    go_wp2_with fail
    go_loopw [17] (fun i wr => ∃ k : Nat, i = .int .i64 k ∧ k ≤ nn ∧ (∀ j (h1 : j < xs.length) (h2 : j < ys.length), j < k → xs[j] = ys[j]) ∧ Below w.heap.size w wr) (fun i _ => nn - (intOf i).toNat)
    case atStart => exact ⟨0, rfl, by omega, fun j _ _ h => by omega, Below.refl _ _⟩
    case round =>
      obtain ⟨k, rfl, hk1, hs, hb⟩ := hrel
      have HS := Lib.hid hs
      have HB := Lib.hid hb
      clear hs
      by_cases hk : k < nn
      · have hkx : k < xs.length := by rw [HX.out]; exact hk
        have hky : k < ys.length := by rw [← HY.out]; exact hk
        obtain ⟨bx, ox, rx, rfl, hbx, ex, fx⟩ := HGX.out k _ (List.getElem?_eq_getElem hkx)
        obtain ⟨by_, oy, ry, rfl, hby, ey, fy⟩ := HGY.out k _ (List.getElem?_eq_getElem hky)
        obtain ⟨a, ha⟩ : ∃ a, a = xs[k] := ⟨_, rfl⟩
        obtain ⟨b, hb2⟩ : ∃ b, b = ys[k] := ⟨_, rfl⟩
        rw [← ha] at fx
        rw [← hb2] at fy
        obtain ⟨va, rfl, -, hva, -⟩ := fx
        obtain ⟨vb, rfl, -, hvb, -⟩ := fy
        have d0 : wr.cell? ⟨bx, ox + k, none⟩ = some va := by have := cell_below hb hbx (ex 0 _ rfl); simpa using this
        have d1 : wr.cell? ⟨by_, oy + k, none⟩ = some vb := by have := cell_below hb hby (ey 0 _ rfl); simpa using this
        have HA := Lib.hid ha
        have HB2 := Lib.hid hb2
        have la : (natsI a).length ≤ 1000000 := by unfold natsI; rw [List.length_map, ha]; exact HR.out _ (List.getElem_mem hkx)
        have lb : (natsI b).length ≤ 1000000 := by unfold natsI; rw [List.length_map, hb2]; exact HR2.out _ (List.getElem_mem hky)
        have HEQ := Lib.hid (equal_ints wr va vb (natsI a) (natsI b) (hva.to hb (Nat.le_refl _)).readL (hvb.to hb (Nat.le_refl _)).readL la lb)
        obtain ⟨pa, ca, rfl, -, -⟩ := hva.get
        obtain ⟨pb, cb, rfl, -, -⟩ := hvb.get
        have hki : (k : Int) < nn := by omega
        have hk0 : (0 : Int) ≤ k := by omega
        have hE := enters_equal
        unfold Enters at hE
        clear ex ey ha hb2 hb hva hvb la lb
        by_cases hab : a = b
        · have hd : decide (natsI a = natsI b) = true := decide_eq_true (by rw [hab])
          rw [hd] at HEQ
          have HAB := Lib.hid hab
          clear hd hab
          go_wp2_with fail
          refine HEQ.out.mono ?_
          rintro e w2 ⟨rfl, hb2⟩
          have HB3 := Lib.hid (HB.out.trans (hb2.mono HB.out.size))
          clear hb2 d0 d1
          go_wp2_with fail
          go_roundw
          case rel => exact ⟨k + 1, by go_num, by omega, fun j h1 h2 hj => by
            by_cases e : j = k
            · subst e; rw [← HA.out, ← HB2.out, HAB.out]
            · exact HS.out j h1 h2 (by omega), HB3.out⟩
          case measure => simp [intOf]; omega
        · have hd : decide (natsI a = natsI b) = false := decide_eq_false (fun h => hab (natsI_inj h))
          rw [hd] at HEQ
          have HNE := Lib.hid (show decide (xs = ys) = false from decide_eq_false fun h => hab (by rw [HA.out, HB2.out]; simp only [h]))
          clear hd hab
          go_wp2_with fail
          refine HEQ.out.mono ?_
          rintro e w2 ⟨rfl, hb2⟩
          have HB3 := Lib.hid (HB.out.trans (hb2.mono HB.out.size))
          clear hb2 d0 d1
          go_wp2_with fail
          go_ret
          exact ⟨ret_val (by rw [HNE.out]; rfl), HB3.out⟩
      · have hki : ¬ (k : Int) < nn := by omega
        have HEQ := Lib.hid (show decide (xs = ys) = true from decide_eq_true (list_upto (by rw [HX.out, HY.out]) (fun j h1 => HS.out j h1 (by rw [← HY.out, ← HX.out]; exact h1) (by rw [HX.out] at h1; omega))))
        go_wp2_with fail
        go_ret
        exact ⟨ret_val (by rw [HEQ.out]; rfl), HB.out⟩
  · have hli : ¬ (xs.length : Int) = ys.length := by omega
    have HNE := Lib.hid (show decide (xs = ys) = false from decide_eq_false fun h => hlen (by rw [h]))
    go_enter Try.func66, Try.ntmps66
    go_wp2_with fail
    go_ret
    exact ⟨ret_val (by rw [HNE.out]; rfl), Below.refl _ _⟩

/-- what bounds a machine's lists -/
structure Bd (N : List (List Nat)) (O : List Nat) : Prop where
  n : N.length ≤ 1000000
  o : O.length ≤ 1000000
  r : ∀ r ∈ N, r.length ≤ 1000000

set_option maxRecDepth 100000 in
set_option maxHeartbeats 32000000 in
theorem equal_m (w : World) (ma mb ca cb : Nat) (N M : List (List Nat)) (O U : List Nat) (hA : MachD w ma ca N O) (hB : MachD w mb cb M U) (b1 : Bd N O) (b2 : Bd M U) :
    Calls Try.prog 44 #[.pointer (some ⟨ma, 0, none⟩), .pointer (some ⟨mb, 0, none⟩)] w fun e w' => e = .returned (.bool (decide (ca = cb ∧ O = U ∧ N = M))) ∧ Below w.heap.size w w' := by
  obtain ⟨nv, ov, h1, h2, h3⟩ := hA
  obtain ⟨nv2, ov2, k1, k2, k3⟩ := hB
  obtain ⟨pn, cn, rfl, -, -⟩ := h2.at (by decide) rfl
  obtain ⟨po, co, rfl, -, -⟩ := h3.at (by decide) rfl
  obtain ⟨pn2, cn2, rfl, -, -⟩ := k2.at (by decide) rfl
  obtain ⟨po2, co2, rfl, -, -⟩ := k3.at (by decide) rfl
  obtain ⟨x0, x1, x2⟩ := cells3 h1
  obtain ⟨y0, y1, y2⟩ := cells3 k1
  have HA := Lib.hid (show ReadL (nrowE (fun _ => True) w) 1 w (.slice pn N.length cn) N ∧ ReadL u64E 1 w (.slice po O.length co) O from ⟨h2, h3⟩)
  have HB := Lib.hid (show ReadL (nrowE (fun _ => True) w) 1 w (.slice pn2 M.length cn2) M ∧ ReadL u64E 1 w (.slice po2 U.length co2) U from ⟨k2, k3⟩)
  have HS := Lib.hid (show w.cell? ⟨ma, 0, none⟩ = some (.int .i64 (ca : Nat)) ∧ w.cell? ⟨ma, 1, none⟩ = some (.slice pn N.length cn) ∧ w.cell? ⟨ma, 2, none⟩ = some (.slice po O.length co) ∧ w.cell? ⟨mb, 0, none⟩ = some (.int .i64 (cb : Nat)) ∧ w.cell? ⟨mb, 1, none⟩ = some (.slice pn2 M.length cn2) ∧ w.cell? ⟨mb, 2, none⟩ = some (.slice po2 U.length co2) from ⟨x0, x1, x2, y0, y1, y2⟩)
  have HLT := Lib.hid (And.intro (at_lt h1) (at_lt k1))
  obtain ⟨rb, hrb⟩ : ∃ rb, rb = decide (ca = cb ∧ O = U ∧ N = M) := ⟨_, rfl⟩
  rw [← hrb]
  have HRB := Lib.hid hrb
  clear hrb
  have HB1 := Lib.hid b1
  have HB2 := Lib.hid b2
  clear h1 h2 h3 k1 k2 k3 x0 x1 x2 y0 y1 y2 b1 b2
  go_enter Try.func44, Try.ntmps44
  go_upto_region 1 with fail
  refine wp_region_plan (fun W => Below w.heap.size w W) (.reads [0, 1, 2, 3, 4, 5, 6, 7, 8, 9, 10, 11, 12, 13, 14, 15, 16, 17] (.one 18 (.reads [19, 20, 21, 22, 23, 24, 25, 26, 27, 28] (.one 29 (.reads [30, 31] .done))))) 36 (by kernel_rfl) (by kernel_rfl) rfl (fun _ _ _ _ _ h => h) ((Fr.of_below (Below.refl w.heap.size w) (fun _ => False)).drewN 1 |>.below (Nat.le_refl _) (fun _ h => h.elim)) ?_
  have keep : ∀ W, Below w.heap.size w W → W.cell? ⟨ma, 0, none⟩ = some (.int .i64 (ca : Nat)) ∧ W.cell? ⟨ma, 1, none⟩ = some (.slice pn N.length cn) ∧ W.cell? ⟨ma, 2, none⟩ = some (.slice po O.length co) ∧ W.cell? ⟨mb, 0, none⟩ = some (.int .i64 (cb : Nat)) ∧ W.cell? ⟨mb, 1, none⟩ = some (.slice pn2 M.length cn2) ∧ W.cell? ⟨mb, 2, none⟩ = some (.slice po2 U.length co2) := fun W h => by
    obtain ⟨a1, a2, a3, a4, a5, a6⟩ := HS.out
    exact ⟨cell_below h HLT.out.1 a1, cell_below h HLT.out.1 a2, cell_below h HLT.out.1 a3, cell_below h HLT.out.2 a4, cell_below h HLT.out.2 a5, cell_below h HLT.out.2 a6⟩
  have HKEEP := Lib.hid keep
  clear keep
  by_cases hc : ca = cb
  · subst hc
    apply plan_reads
    · intro W hW
      obtain ⟨a1, a2, a3, a4, a5, a6⟩ := HKEEP.out W hW
      clear hW
      repeat (refine wpRead_step (fun K hK => ?_); go_simp; refine hK _ ?_; clear hK K)
      exact wpRead_nil rfl
    refine abs_plan fun W0 hW0 => ?_
    have HB0 := Lib.hid (show Below w.heap.size w W0 by rw [hW0]; exact (Fr.of_below (Below.refl w.heap.size w) (fun _ => False)).drewN 1 |>.below (Nat.le_refl _) (fun _ h => h.elim))
    have HEQ := Lib.hid (equal_u64 W0 _ _ O U (HA.out.2.below HB0.out (Nat.le_refl _)) (HB.out.2.below HB0.out (Nat.le_refl _)) HB1.out.o HB2.out.o)
    clear hW0
    refine plan_one_K rfl (fun K hK => ?_)
    by_cases ho : O = U
    · have hd : decide (O = U) = true := decide_eq_true ho
      rw [hd] at HEQ
      have HO := Lib.hid ho
      clear hd ho
      go_wp2_with fail
      refine HEQ.out.mono ?_
      rintro e w2 ⟨rfl, hb2⟩
      have HB2' := Lib.hid (HB0.out.trans (hb2.mono HB0.out.size))
      clear hb2
      go_wp2_with fail
      refine hK _ _ HB2'.out ?_
      clear hK K
      apply plan_reads
      · intro W hW
        obtain ⟨a1, a2, a3, a4, a5, a6⟩ := HKEEP.out W hW
        clear hW
        repeat (refine wpRead_step (fun K hK => ?_); go_simp; refine hK _ ?_; clear hK K)
        exact wpRead_nil rfl
      have HEQ2 := Lib.hid (equalF_rows (fun _ => True) (fun _ => True) w2 _ _ N M ((HA.out.1.below HB2'.out (Nat.le_refl _)).monoE (fun x r hr => rowE.below hr HB2'.out (Nat.le_refl _))) ((HB.out.1.below HB2'.out (Nat.le_refl _)).monoE (fun x r hr => rowE.below hr HB2'.out (Nat.le_refl _))) HB1.out.n HB2.out.n HB1.out.r HB2.out.r)
      obtain ⟨bq, hbq⟩ : ∃ bq, bq = decide (N = M) := ⟨_, rfl⟩
      rw [← hbq] at HEQ2
      have HFIN := Lib.hid (show rb = bq by rw [HRB.out, hbq]; simp [HO.out])
      clear hbq
      refine plan_one_K rfl (fun K hK => ?_)
      go_wp2_with fail
      refine HEQ2.out.mono ?_
      rintro e w3 ⟨rfl, hb3⟩
      have HB3 := Lib.hid (HB2'.out.trans (hb3.mono HB2'.out.size))
      clear hb3
      go_wp2_with fail
      refine hK _ _ HB3.out ?_
      clear hK K
      rcases Bool.eq_false_or_eq_true bq with hb | hb
      all_goals
        subst hb
        apply plan_reads
        · intro W hW
          clear hW
          repeat (refine wpRead_step (fun K hK => ?_); go_simp; refine hK _ ?_; clear hK K)
          exact wpRead_nil rfl
        refine plan_done ?_
        go_wp2_with fail
        go_ret
        exact ⟨ret_val (by rw [HFIN.out]; rfl), HB3.out⟩
    · have hd : decide (O = U) = false := decide_eq_false ho
      rw [hd] at HEQ
      have HFIN := Lib.hid (show rb = false by rw [HRB.out]; exact decide_eq_false fun h => ho h.2.1)
      clear hd ho
      go_wp2_with fail
      refine HEQ.out.mono ?_
      rintro e w2 ⟨rfl, hb2⟩
      have HB2' := Lib.hid (HB0.out.trans (hb2.mono HB0.out.size))
      clear hb2
      go_wp2_with fail
      refine hK _ _ HB2'.out ?_
      clear hK K
      apply plan_reads
      · intro W hW
        obtain ⟨a1, a2, a3, a4, a5, a6⟩ := HKEEP.out W hW
        clear hW
        repeat (refine wpRead_step (fun K hK => ?_); go_simp; refine hK _ ?_; clear hK K)
        exact wpRead_nil rfl
      refine plan_one_K rfl (fun K hK => ?_)
      go_wp2_with fail
      refine hK _ _ HB2'.out ?_
      clear hK K
      apply plan_reads
      · intro W hW
        clear hW
        repeat (refine wpRead_step (fun K hK => ?_); go_simp; refine hK _ ?_; clear hK K)
        exact wpRead_nil rfl
      refine plan_done ?_
      go_wp2_with fail
      go_ret
      exact ⟨ret_val (by rw [HFIN.out]; rfl), HB2'.out⟩
  · have hci : ((ca : Int) == (cb : Int)) = false := beq_eq_false_iff_ne.2 (by omega)
    have HFIN := Lib.hid (show rb = false by rw [HRB.out]; exact decide_eq_false fun h => hc h.1)
    apply plan_reads
    · intro W hW
      obtain ⟨a1, a2, a3, a4, a5, a6⟩ := HKEEP.out W hW
      clear hW
      repeat (refine wpRead_step (fun K hK => ?_); go_simp; refine hK _ ?_; clear hK K)
      exact wpRead_nil rfl
    refine abs_plan fun W0 hW0 => ?_
    have HB0 := Lib.hid (show Below w.heap.size w W0 by rw [hW0]; exact (Fr.of_below (Below.refl w.heap.size w) (fun _ => False)).drewN 1 |>.below (Nat.le_refl _) (fun _ h => h.elim))
    clear hW0
    refine plan_one_K rfl (fun K hK => ?_)
    go_wp2_with fail
    refine hK _ _ HB0.out ?_
    clear hK K
    apply plan_reads
    · intro W hW
      obtain ⟨a1, a2, a3, a4, a5, a6⟩ := HKEEP.out W hW
      clear hW
      repeat (refine wpRead_step (fun K hK => ?_); go_simp; refine hK _ ?_; clear hK K)
      exact wpRead_nil rfl
    refine plan_one_K rfl (fun K hK => ?_)
    go_wp2_with fail
    refine hK _ _ HB0.out ?_
    clear hK K
    apply plan_reads
    · intro W hW
      clear hW
      repeat (refine wpRead_step (fun K hK => ?_); go_simp; refine hK _ ?_; clear hK K)
      exact wpRead_nil rfl
    refine plan_done ?_
    go_wp2_with fail
    go_ret
    exact ⟨ret_val (by rw [HFIN.out]; rfl), HB0.out⟩
end Go.Proofs.Ythmaokjhncokdaa

/-
  dfa: a machine that was built, as one reads it cell by cell. No condition beyond what each theorem names.
-/
set_option linter.unusedVariables false
set_option linter.unusedSimpArgs false
namespace Go.Proofs.Ythmaokjhncokdaa
open Go.RowKit Classical

def rowO (N : List (List Nat)) (i : Nat) : List Nat := N[i]?.getD []
theorem rowO_get {N : List (List Nat)} {i : Nat} (h : i < N.length) : N[i]? = some (rowO N i) := by
  unfold rowO
  rw [List.getElem?_eq_getElem h]
  rfl
theorem at0_get {l : List Nat} {i : Nat} (h : i < l.length) : l[i]? = some (at0 l i) := by
  unfold at0
  rw [List.getElem?_eq_getElem h]
  rfl

/-- the cells of a machine, in each later world -/
def MachV (w : World) (ob classes nn : Nat) (N : List (List Nat)) (O : List Nat) (bN oN cn bO oO co : Nat) : Prop := ∀ W, Below w.heap.size w W →
  W.cell? ⟨ob, 0, none⟩ = some (.int .i64 (classes : Nat)) ∧ W.cell? ⟨ob, 1, none⟩ = some (.slice (some ⟨bN, oN, none⟩) nn cn) ∧ W.cell? ⟨ob, 2, none⟩ = some (.slice (some ⟨bO, oO, none⟩) nn co) ∧
  (∀ i : Nat, i < nn → W.cell? ⟨bO, oO + i, none⟩ = some (.int .u64 (at0 O i : Nat))) ∧
  (∀ i : Nat, i < nn → ∃ b off cr, W.cell? ⟨bN, oN + i, none⟩ = some (.slice (some ⟨b, off, none⟩) classes cr) ∧ classes ≤ cr ∧ ∀ c : Nat, c < classes → W.cell? ⟨b, off + c, none⟩ = some (.int .i64 (at0 (rowO N i) c : Nat)))

theorem MachD.view {w : World} {ob classes nn : Nat} {N : List (List Nat)} {O : List Nat} (h : MachD w ob classes N O) (hok : OkN N O classes) (hn : N.length = nn) (h0 : 0 < nn) (hc : 0 < classes) :
    ∃ bN oN cn bO oO co, nn ≤ cn ∧ nn ≤ co ∧ MachV w ob classes nn N O bN oN cn bO oO co := by
  have hlo : O.length = nn := by rw [← hok.len, hn]
  obtain ⟨hob, pn, cn, po, co, e0, e1, e2, hcn, hco, gN, gO⟩ := h.get hn hlo
  obtain ⟨bN, oN, -, rfl, -, -, -⟩ := gN 0 _ (rowO_get (by omega))
  obtain ⟨bO, oO, rfl, -, -⟩ := gO 0 _ (at0_get (by omega))
  refine ⟨bN, oN, cn, bO, oO, co, hcn, hco, fun W hW => ⟨cell_below hW hob e0, cell_below hW hob e1, cell_below hW hob e2, fun i hi => ?_, fun i hi => ?_⟩⟩
  · obtain ⟨b, off, he, hb, hx⟩ := gO i _ (at0_get (by omega))
    cases he
    exact cell_below hW hb hx
  · obtain ⟨b, off, v, he, hb, hx, hv⟩ := gN i _ (rowO_get (by omega))
    cases he
    have hl : (natsI (rowO N i)).length = classes := by
      unfold natsI
      rw [List.length_map]
      exact (hok.row _ (List.mem_of_getElem? (rowO_get (by omega)))).1
    obtain ⟨p, cr, rfl, hcr, hg⟩ := hv.get
    obtain ⟨b', off', rfl, hb', hx'⟩ := hg (by omega)
    rw [hl] at hx hcr
    refine ⟨b', off', cr, cell_below hW hb hx, hcr, fun c hc2 => ?_⟩
    have := cell_below hW hb' (hx' c (by omega))
    rw [this]
    congr 2
    unfold natsI
    rw [List.getElem_map]
    have h2 := at0_get (l := rowO N i) (i := c) (by unfold natsI at hl; rw [List.length_map] at hl; omega)
    rw [List.getElem?_eq_getElem (by unfold natsI at hl; rw [List.length_map] at hl; omega)] at h2
    rw [Option.some.inj h2]
theorem exprs_to {w w' : World} {v : Value} {L : List (Nd × Bool)} (h : ReadL (exprE w) 4 w v L) (hb : Below w.heap.size w w') : ReadL (exprE w') 4 w' v L :=
  (h.below hb (Nat.le_refl _)).monoE (fun x r hr => by
    obtain ⟨a, b, c, rfl, hn⟩ := hr
    exact ⟨a, b, c, rfl, hn.to hb (Nat.le_refl _)⟩)
theorem bd_of {N : List (List Nat)} {O : List Nat} {classes : Nat} (h : OkN N O classes) (h4 : N.length ≤ 400) (hc : classes ≤ 24) : Bd N O :=
  ⟨by omega, by rw [← h.len]; omega, fun r hr => by rw [(h.row r hr).1]; omega⟩
end Go.Proofs.Ythmaokjhncokdaa

