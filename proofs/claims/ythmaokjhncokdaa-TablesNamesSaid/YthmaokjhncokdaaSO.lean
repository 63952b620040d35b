import Derived.Test.YthmaokjhncokdaaSL
import Derived.Test.YthmaokjhncokdaaSN
import Derived.Test.YthmaokjhncokdaaTK
/-
  TablesNames: how classes are called does not matter. No condition beyond what each theorem names.
-/
set_option linter.unusedVariables false
set_option linter.unusedSimpArgs false
namespace Go.Proofs.Ythmaokjhncokdaa
open Go.RowKit Classical

section
variable {ops : Array Oper} {rest : List Oper} {o : Oper} {a : Act} {w : World} {Q : Exit → Act → World → Prop} {base : Nat}
theorem wpList_append_strs (hgd : o.guard = none) (s x : Operand) (ho : o.op = .call { callee := .builtin .append, args := #[s, x], argTypes := #[22, 22] })
    (v : Value) (xs : List ByteArray) (n : Nat) (hn : xs.length = n) (hs : a.eval s = v) (hown : OwnL strE 9 1 base w v xs) (xv : Value) (ys : List ByteArray) (m : Nat) (hm : ys.length = m) (hx : a.eval x = xv) (hr : ReadL strE 1 w xv ys) (hlen : n + m ≤ 1000000) (hbase : base ≤ w.heap.size)
    (h : ∀ p c w', OwnL strE 9 1 base w' (.slice p (n + m) c) (xs ++ ys) → w.grownBy w' v.ownBlock → ((Value.slice p (n + m) c).ownBlock = v.ownBlock ∨ (Value.slice p (n + m) c).ownBlock = some w.heap.size) → wpList Try.prog ops Q rest (a.put o.dst (.slice p (n + m) c)) w') : wpList Try.prog ops Q (o :: rest) a w := by
  subst hn hm
  obtain ⟨i0, hi, hz0, hz1, hz2⟩ := info_parts infoStr
  exact wpList_append_L hgd s x 22 ho i0 _ 16 Try.underlying22 hi hz0 hz1 hz2 rfl (by decide) v xs hs hown xv ys hx hr (by unfold maxLen; omega) (by omega) hbase h
end

theorem inside_mono {n n' : Int} (hn : n ≤ n') : ∀ x : Nd, insideB n x = true → insideB n' x = true
  | .mk op cls ps, h => by
    have ih : ∀ p ∈ ps, insideB n p = true → insideB n' p = true := fun p hp => by
      have := List.sizeOf_lt_of_mem hp
      exact inside_mono hn p
    rw [insideB, insideL_all, Bool.and_eq_true] at h ⊢
    refine ⟨?_, ?_⟩
    · have h1 := h.1
      rw [Bool.not_eq_true', List.any_eq_false] at h1 ⊢
      intro c hc
      have := h1 c hc
      simp at this ⊢
      omega
    · rw [List.all_eq_true] at *
      exact fun p hp => ih p hp (h.2 p hp)
  termination_by x => SizeOf.sizeOf x
  decreasing_by
    simp
    omega
theorem compOk_more {n : Nat} {rs : List Rl} (h : CompOk n rs) (hn : n < 24) : CompOk (n + 1 : Nat) rs := by
  have key : ∀ l, ArgOk n l → ArgOk (n + 1 : Nat) l := fun l h => ⟨by omega, by omega, h.2.2.1, fun x hx => ⟨(h.2.2.2 x hx).1, inside_mono (by omega) _ (h.2.2.2 x hx).2⟩⟩
  exact ⟨h.1, h.2.1, key _ h.2.2.1, key _ h.2.2.2⟩
theorem compC_25 (rs : List Rl) : compC (24 + 1) rs = 1 := by
  unfold compC
  rw [if_neg (fun h => by have := h.2.2.1.2.1; omega)]
theorem compC_ok' {n : Nat} {rs : List Rl} (h : CompOk n rs) : compC n rs = 0 ∨ compC n rs = 7 := by
  unfold compC
  rw [if_pos h]
  split
  · exact .inl rfl
  · exact .inr rfl

/-- a ruleset whose classes' names are a list of one's own -/
structure NS (base G : Nat) (rv : Value) (W : World) (pv : Value) (n : Nat) : Prop where
  out : W.heap[G]? = some (.cells #[pv, rv] 25)
  own : ∃ xs : List ByteArray, xs.length = n ∧ OwnL strE 9 1 base W pv xs
  apart : pv.ownBlock ≠ some G
theorem NS.put {base G : Nat} {rv : Value} {W : World} {pv : Value} {n : Nat} (h : NS base G rv W pv n) {Wa w4 : World} (ha : Below W.heap.size W Wa) {p4 : Option Addr} {n4 c4 : Nat} {ys : List ByteArray} (hn4 : ys.length = n4) (hown : OwnL strE 9 1 base w4 (.slice p4 n4 c4) ys) (hg : Wa.grownBy w4 pv.ownBlock)
    (hlie : (Value.slice p4 n4 c4).ownBlock = pv.ownBlock ∨ (Value.slice p4 n4 c4).ownBlock = some Wa.heap.size) (hb : base ≤ W.heap.size) (hbG : base ≤ G) : w4.heap[G]? = some (.cells #[pv, rv] 25) ∧ NS base G rv (w4.setCell ⟨G, 0, none⟩ (.slice p4 n4 c4)) (.slice p4 n4 c4) n4 ∧ Below base W (w4.setCell ⟨G, 0, none⟩ (.slice p4 n4 c4)) := by
  obtain ⟨xs, -, hox⟩ := h.own
  have hf4 : Fr (fun j => pv.ownBlock = some j) W w4 := (Fr.of_below ha _).trans (Fr.grown (F := fun j => pv.ownBlock = some j) hg (fun k h => h)) (fun _ _ h => h)
  have hG4 : w4.heap[G]? = some (.cells #[pv, rv] 25) := (hf4.block G (at_lt h.out) h.apart).trans h.out
  have hap : (Value.slice p4 n4 c4).ownBlock ≠ some G := fun he => by
    rcases hlie with h2 | h2
    · exact h.apart (h2 ▸ he)
    · rw [he] at h2; injection h2 with h2; have := ha.size; have := at_lt h.out; omega
  have hFR := Fr.setCell (F := fun j => j = G) w4 (p := ⟨G, 0, none⟩) rfl (.slice p4 n4 c4)
  exact ⟨hG4, ⟨blk_set hG4 0 (.slice p4 n4 c4), ⟨ys, hn4, hown.fr hFR (fun j hj he => hap (he ▸ hj))⟩, hap⟩, (hf4.below hb (fun j hj => (hox.lt j hj).1)).trans (hFR.below (Nat.le_trans hb hf4.size) (fun j hj => by have hj : j = G := hj; omega))⟩

set_option maxRecDepth 100000 in
set_option maxHeartbeats 16000000 in
theorem names_law (w : World) (pc : Option Addr) (nc cc : Nat) (hcc : nc ≤ cc) (hpc : 0 < nc → ∃ a, pc = some a) (rv : Value) (rs0 : List Rl) (hr : Rules w rv rs0) (hl : rs0.length ≤ 9223372036854775807) (v : Value) (ns : List ByteArray) (hv : ReadL strE 1 w v ns) (hns : ns.length ≤ 9223372036854775807) :
    Calls Try.prog 4 #[.agg #[.slice pc nc cc, rv], v] w (Says true w) := by
  obtain ⟨pr, cr, rfl, -, -⟩ := hr.get
  have HR := Lib.hid hr
  have HPC := Lib.hid hpc
  have HL := Lib.hid hl
  obtain ⟨pn, cn, rfl, hcn, hgn⟩ := hv.at (by decide) rfl
  have HGN := Lib.hid hgn
  clear hgn hv
  obtain ⟨m0, hm0⟩ : ∃ m0, m0 = rs0.length := ⟨_, rfl⟩
  rw [← hm0]
  have HM0 := Lib.hid hm0
  clear hr hpc hl hm0
  go_enter Try.func4, Try.ntmps4
  go_upto_region 1 with fail
  refine abs_wp fun W hW => ?_
  obtain ⟨B, hB⟩ : ∃ B, B = w.heap.size := ⟨_, rfl⟩
  have hbx : W.heap[B]? = some (.cells #[.slice pc nc cc, .slice pr m0 cr] 25) := by rw [hW, hB]; exact heap_alloc_new _ _
  have hbe : Below w.heap.size w W := by rw [hW]; exact below_alloc1 _ _
  rw [← hB]
  have HBE := Lib.hid hbe
  have HBX := Lib.hid hbx
  have HBB := Lib.hid hB
  clear hW hbx hbe hB
  go_wp2_with fail
  refine (shown9 W).mono ?_
  rintro e w1 ⟨rfl, hb1⟩
  have HB1 := Lib.hid (HBE.out.trans (hb1.mono HBE.out.size))
  have HBX1 := Lib.hid ((hb1.block _ (at_lt HBX.out)).trans HBX.out)
  clear hb1
  obtain ⟨x0, x1⟩ := cells2 HBX1.out
  have HFW := Lib.hid (few9_any w w1 HB1.out pc nc cc hcc HPC.out (.slice pr m0 cr) rs0 (by have h := HR.out; rwa [← HM0.out] at h) HL.out)
  obtain ⟨rs, hrs⟩ : ∃ rs, rs = few9L rs0 := ⟨_, rfl⟩
  have hr8 : rs.length ≤ 8 := by rw [hrs]; exact few9_length _
  have HRS := Lib.hid hrs
  clear hrs
  go_wp2_with fail
  refine HFW.out.mono ?_
  rintro e w2 ⟨pc2, cc2, pv, rfl, hown, hb2⟩
  rw [← HRS.out] at hown
  obtain ⟨nn, hnn⟩ : ∃ nn, nn = min nc 30 := ⟨_, rfl⟩
  rw [← hnn]
  obtain ⟨pq, cq, hpv⟩ := hown.form
  subst hpv
  obtain ⟨m, hm⟩ : ∃ m, m = rs.length := ⟨_, rfl⟩
  rw [← hm] at hr8 hown ⊢
  have HM := Lib.hid hm
  have HOWN := Lib.hid hown
  have HNN := Lib.hid (show nn ≤ 30 by omega)
  have HBX2 := Lib.hid ((hb2.block _ (at_lt HBX1.out)).trans HBX1.out)
  have HB2 := Lib.hid (HB1.out.trans (hb2.mono HB1.out.size))
  have HS1 := Lib.hid (at_lt HBX1.out)
  clear hm hnn hown hb2 x0 x1 HFW
  go_wp2_with (refine stop_at (.store 25 (.tmp 2) (.tmp 17)) rfl ?_)
  refine ⟨?_⟩
  refine wpList_store_obj rfl (.tmp 2) (.tmp 17) 25 rfl B rfl [.slice pc2 nn cc2, .slice pq m cq] rfl _ _ HBX2.out (by kernel_rfl) rfl (by simp [Value.oneCell']) ?_
  intro w3 hb3 hf3
  have HB3 := Lib.hid (show Below w.heap.size w w3 from HB2.out.trans (hf3.below HB2.out.size (fun j hj => by have hj : j = B := hj; have := HBB.out; omega)))
  have HRU := Lib.hid (show Rules w3 (.slice pq m cq) rs from rules_of_read ((HOWN.out.fr hf3 (fun j hj he => by have he : j = B := he; have h1 := (HOWN.out.lt j hj).1; have h2 := HS1.out; omega)).read.monoE (fun x r hr => hr.to HB3.out (Nat.le_refl _))))
  have HBX3 := Lib.hid (show w3.heap[B]? = some (.cells #[.slice pc2 nn cc2, .slice pq m cq] 25) from hb3)
  clear hb3 hf3
  have HCO := Lib.hid (compile_any w3 pc2 nn cc2 (.slice pq m cq) rs HRU.out (by have := HM.out; omega))
  obtain ⟨x0, x1⟩ := cells2 HBX3.out
  go_wp2_with fail
  refine HCO.out.mono ?_
  rintro e w4 ⟨hb4, hcase⟩
  have HB4 := Lib.hid (HB3.out.trans (hb4.mono HB3.out.size))
  have HD4 := Lib.hid hb4
  clear hb4 HCO x0 x1
  rcases hcase with ⟨-, rfl⟩ | ⟨-, -, rfl⟩ | ⟨hcok, T, oa, ob, N, O, M, U, -, hb1, hb2, rfl, htab, hm1, hm2⟩
  · go_wp2_with fail
    go_ret
    exact ⟨rfl, HB4.out⟩
  · go_wp2_with fail
    go_ret
    exact ⟨rfl, HB4.out⟩
  · rw [← HM.out] at htab
    have HCOK := Lib.hid hcok
    have HBU := Lib.hid (And.intro hb1 hb2)
    have HTB := Lib.hid htab
    have HMM := Lib.hid (And.intro hm1 hm2)
    have HRU4 := Lib.hid (HRU.out.to HD4.out (Nat.le_refl _))
    have HBX4 := Lib.hid ((HD4.out.block _ (at_lt HBX3.out)).trans HBX3.out)
    clear hcok hb1 hb2 htab hm1 hm2
    obtain ⟨x0, x1⟩ := cells2 HBX4.out
    go_upto_region 7 with fail
    refine abs_wp fun w5 hw5 => ?_
    obtain ⟨G, hG⟩ : ∃ G, G = w4.heap.size := ⟨_, rfl⟩
    rw [← hG]
    have HG := Lib.hid hG
    have HGE := Lib.hid (show w4.heap.size ≤ G from by omega)
    have HNS5 := Lib.hid (show NS w4.heap.size G (.slice pq m cq) w5 (.slice none 0 0) 0 from ⟨by rw [hw5, hG]; exact heap_alloc_new _ _, ⟨[], rfl, OwnL.nil _⟩, by simp [Value.ownBlock]⟩)
    have HB5 := Lib.hid (show Below w4.heap.size w4 w5 by rw [hw5]; exact below_alloc1 _ _)
    clear hw5 hG x0 x1
    go_wp2_with fail
    go_loopw [9] (fun i wz => ∃ k : Nat, i = .int .i64 k ∧ k ≤ nn ∧ ∃ u, NS w4.heap.size G (.slice pq m cq) wz u k ∧ Below w4.heap.size w4 wz) (fun i _ => nn - (intOf i).toNat)
    case atStart => exact ⟨0, rfl, by omega, _, HNS5.out, HB5.out⟩
    case round =>
      obtain ⟨k, rfl, hk, u, hns2, hb⟩ := hrel
      have HNS := Lib.hid hns2
      have HBK := Lib.hid hb
      obtain ⟨xs0, hxl0, hxo0⟩ := hns2.own
      obtain ⟨pk, ck, hu⟩ := hxo0.form
      rw [hxl0] at hu
      subst hu
      have HBXR := Lib.hid ((hb.block _ (at_lt HBX4.out)).trans HBX4.out)
      obtain ⟨x0, x1⟩ := cells2 HBXR.out
      obtain ⟨y0, y1⟩ := cells2 hns2.out
      clear hb hns2 hxl0 hxo0 xs0
      by_cases hkn : k < nn
      · have hki : (k : Int) < (nn : Int) := by omega
        have hk0 : (0 : Int) ≤ k := by omega
        have hk30 : k ≤ 30 := by have := HNN.out; omega
        by_cases hks : k < ns.length
        · have hksi : (k : Int) < (ns.length : Int) := by omega
          obtain ⟨bn, on, row1, rfl, hbn, hcn1, hrow1⟩ := HGN.out k ns[k] (List.getElem?_eq_getElem hks)
          obtain ⟨sk, hsk⟩ : ∃ sk, sk = ns[k] := ⟨_, rfl⟩
          rw [← hsk] at hrow1
          have d0 := cell_below (HB4.out.trans (HBK.out.mono HB4.out.size)) hbn (hcn1 0 (.string sk) (by rw [hrow1]; rfl))
          rw [Nat.mul_one, Nat.add_zero] at d0
          clear hcn1 hrow1 hsk hbn
          have HAL := Lib.hid (below_alloc1 wr (.cells #[.string sk] 9))
          have hya : ∀ o, (wr.alloc o).cell? ⟨G, 0, none⟩ = some (.slice pk k ck) := fun o => (World.cell?_alloc_lt _ _ _ (at_lt HNS.out.out)).trans y0
          go_wp2_with (refine stop_at (.call { callee := .builtin .append, args := #[.tmp 49, .tmp 51], argTypes := #[22, 22] }) rfl ?_)
          refine ⟨?_⟩
          obtain ⟨xs, hxl, hxo⟩ := HNS.out.own
          refine wpList_append_strs rfl (.tmp 49) (.tmp 51) rfl (.slice pk k ck) xs k hxl rfl (hxo.below HAL.out (Nat.le_refl _)) _ [sk] 1 rfl rfl (ReadL.one wr _ _ [.string sk] ⟨rfl, by simp [Value.oneCell']⟩ rfl) (by omega) (Nat.le_trans HBK.out.size HAL.out.size) ?_
          intro p6 c6 w6 hown6 hg6 hlie6
          obtain ⟨hG6, hns6, hb6⟩ := HNS.out.put HAL.out (by rw [List.length_append, hxl]; rfl) hown6 hg6 hlie6 HBK.out.size HGE.out
          have HNS6 := Lib.hid hns6
          have HB6 := Lib.hid (HBK.out.trans hb6)
          obtain ⟨q0, q1⟩ := cells2 hG6
          have qf := fz_at hG6 0
          clear hown6 hg6 hlie6 hG6 hns6 hb6 hxl hxo y0 y1 hya x0 x1
          go_wp2_with fail
          go_roundw
          case rel => exact ⟨k + 1, by go_num, by omega, _, HNS6.out, HB6.out⟩
          case measure => simp [intOf]; omega
        · have hksi : ¬ (k : Int) < (ns.length : Int) := by omega
          have HAL := Lib.hid (below_alloc1 wr (.cells #[.string { data := #[120] }] 9))
          have hya : ∀ o, (wr.alloc o).cell? ⟨G, 0, none⟩ = some (.slice pk k ck) := fun o => (World.cell?_alloc_lt _ _ _ (at_lt HNS.out.out)).trans y0
          go_wp2_with (refine stop_at (.call { callee := .builtin .append, args := #[.tmp 49, .tmp 51], argTypes := #[22, 22] }) rfl ?_)
          refine ⟨?_⟩
          obtain ⟨xs, hxl, hxo⟩ := HNS.out.own
          refine wpList_append_strs rfl (.tmp 49) (.tmp 51) rfl (.slice pk k ck) xs k hxl rfl (hxo.below HAL.out (Nat.le_refl _)) _ [{ data := #[120] }] 1 rfl rfl (ReadL.one wr _ _ [.string { data := #[120] }] ⟨rfl, by simp [Value.oneCell']⟩ rfl) (by omega) (Nat.le_trans HBK.out.size HAL.out.size) ?_
          intro p6 c6 w6 hown6 hg6 hlie6
          obtain ⟨hG6, hns6, hb6⟩ := HNS.out.put HAL.out (by rw [List.length_append, hxl]; rfl) hown6 hg6 hlie6 HBK.out.size HGE.out
          have HNS6 := Lib.hid hns6
          have HB6 := Lib.hid (HBK.out.trans hb6)
          obtain ⟨q0, q1⟩ := cells2 hG6
          have qf := fz_at hG6 0
          clear hown6 hg6 hlie6 hG6 hns6 hb6 hxl hxo y0 y1 hya x0 x1
          go_wp2_with fail
          go_roundw
          case rel => exact ⟨k + 1, by go_num, by omega, _, HNS6.out, HB6.out⟩
          case measure => simp [intOf]; omega
      · have hki : ¬ (k : Int) < (nn : Int) := by omega
        obtain rfl : nn = k := by omega
        have HRU5 := Lib.hid (HRU4.out.to HBK.out (Nat.le_refl _))
        have HC5 := Lib.hid (compile_any wr pk nn ck (.slice pq m cq) rs HRU5.out (by have := HM.out; omega))
        go_wp2_with fail
        refine HC5.out.mono ?_
        rintro e w6 ⟨hb6, hcase⟩
        have HD6 := Lib.hid hb6
        have HB6 := Lib.hid (HBK.out.trans (hb6.mono HBK.out.size))
        obtain ⟨T2, oa2, ob2, rfl, htab2, hm1, hm2⟩ : ∃ T2 oa2 ob2, e = .returned (.tuple #[.pointer (some ⟨T2, 0, none⟩), .int .i64 0]) ∧ TabAt w6 T2 (.pointer (some ⟨oa2, 0, none⟩)) (.pointer (some ⟨ob2, 0, none⟩)) (breaksL rs) m ∧ MachD w6 oa2 nn N O ∧ MachD w6 ob2 nn M U := by
          rcases hcase with ⟨h, -⟩ | ⟨-, h, -⟩ | ⟨-, T2, oa2, ob2, N2, O2, M2, U2, -, h1, h2, rfl, h3, h4, h5⟩
          · exact (h HCOK.out).elim
          · rcases h with h | h
            · cases built_det h HBU.out.1
            · cases built_det h HBU.out.2
          · obtain ⟨e1, e2⟩ := some_pairs (Option.some.inj (built_det h1 HBU.out.1))
            obtain ⟨e3, e4⟩ := some_pairs (Option.some.inj (built_det h2 HBU.out.2))
            subst e1 e2 e3 e4
            rw [← HM.out] at h3
            exact ⟨T2, oa2, ob2, rfl, h3, h4, h5⟩
        have HT2 := Lib.hid htab2
        have HM2 := Lib.hid (And.intro hm1 hm2)
        have hk1 := built_bits (lefts_right HCOK.out.2.1) HBU.out.1
        have hk2 := built_bits (rights_right HCOK.out.2.1) HBU.out.2
        have HBD := Lib.hid (And.intro (bd_of hk1.1 hk1.2.2.1 (by have := HCOK.out.2.2.1.2.1; omega)) (bd_of hk2.1 hk2.2.2.1 (by have := HCOK.out.2.2.1.2.1; omega)))
        have HT6 := Lib.hid (show TabAt w6 T (.pointer (some ⟨oa, 0, none⟩)) (.pointer (some ⟨ob, 0, none⟩)) (breaksL rs) m from (HB6.out.block _ (at_lt HTB.out)).trans HTB.out)
        have HEQ := Lib.hid (tabs_same w6 T T2 oa ob oa2 ob2 nn (breaksL rs) m N M O U HT6.out htab2 (HMM.out.1.to HB6.out) (HMM.out.2.to HB6.out) hm1 hm2 HBD.out.1 HBD.out.2)
        have HNS6 := Lib.hid (show w6.heap[G]? = some (.cells #[.slice pk nn ck, .slice pq m cq] 25) from (HD6.out.block _ (at_lt HNS.out.out)).trans HNS.out.out)
        clear hb6 hcase htab2 hm1 hm2 hk1 hk2 HC5 x0 x1 y0 y1
        go_wp2_with fail
        refine HEQ.out.mono ?_
        rintro e w7 ⟨rfl, hb7⟩
        have HD7 := Lib.hid (HD6.out.trans (hb7.mono HD6.out.size))
        have HE7 := Lib.hid hb7
        clear hb7 HEQ
        have HNS7 := Lib.hid (show NS w4.heap.size G (.slice pq m cq) w7 (.slice pk nn ck) nn from ⟨(HE7.out.block _ (at_lt HNS6.out)).trans HNS6.out, by obtain ⟨xs, h1, h2⟩ := HNS.out.own; exact ⟨xs, h1, h2.below HD7.out (Nat.le_refl _)⟩, HNS.out.apart⟩)
        have HB7 := Lib.hid (HBK.out.trans (HD7.out.mono HBK.out.size))
        obtain ⟨y0, y1⟩ := cells2 HNS7.out.out
        have HAL := Lib.hid (below_alloc1 w7 (.cells #[.string { data := #[109, 111, 114, 101] }] 9))
        go_wp2_with (refine stop_at (.call { callee := .builtin .append, args := #[.tmp 72, .tmp 73], argTypes := #[22, 22] }) rfl ?_)
        refine ⟨?_⟩
        obtain ⟨xs, hxl, hxo⟩ := HNS7.out.own
        refine wpList_append_strs rfl (.tmp 72) (.tmp 73) rfl (.slice pk nn ck) xs nn hxl rfl (hxo.below HAL.out (Nat.le_refl _)) _ [{ data := #[109, 111, 114, 101] }] 1 rfl rfl (ReadL.one w7 _ _ [.string { data := #[109, 111, 114, 101] }] ⟨rfl, by simp [Value.oneCell']⟩ rfl) (by have := HNN.out; omega) (Nat.le_trans HB7.out.size HAL.out.size) ?_
        intro p8 c8 w8 hown8 hg8 hlie8
        obtain ⟨hG8, hns8, hb8⟩ := HNS7.out.put HAL.out (by rw [List.length_append, hxl]; rfl) hown8 hg8 hlie8 HB7.out.size HGE.out
        have HNS8 := Lib.hid hns8
        have HB8 := Lib.hid (HB7.out.trans hb8)
        obtain ⟨q0, q1⟩ := cells2 hG8
        have qf := fz_at hG8 0
        clear hown8 hg8 hlie8 hG8 hns8 hb8 hxl hxo y0 y1
        go_upto_region 18 with fail
        refine abs_wp fun w9 hw9 => ?_
        rw [← hw9] at HNS8 HB8
        have HC9 := Lib.hid ((compile_any w9 p8 (nn + 1) c8 (.slice pq m cq) rs (HRU4.out.to HB8.out (Nat.le_refl _)) (by have := HM.out; omega)))
        clear hw9 q0 q1 qf
        obtain ⟨y0, y1⟩ := cells2 HNS8.out.out
        go_wp2_with fail
        refine HC9.out.mono ?_
        rintro e w10 hpost
        have HD10 := Lib.hid hpost.1
        have HB10 := Lib.hid (HB8.out.trans (hpost.1.mono HB8.out.size))
        have HP := Lib.hid hpost
        have HWF := Lib.hid (HB4.out.trans (HB10.out.mono HB4.out.size))
        have HBX10 := Lib.hid ((HB10.out.block _ (at_lt HBX4.out)).trans HBX4.out)
        obtain ⟨x0, x1⟩ := cells2 HBX10.out
        by_cases h24 : nn = 24
        · have HNO := Lib.hid (show ¬ CompOk (nn + 1 : Nat) rs from fun h => by have := h.2.2.1.2.1; omega)
          obtain rfl : e = .returned (.tuple #[.pointer none, .int .i64 1]) := by
            rcases hpost.2 with ⟨-, h⟩ | ⟨h, -⟩ | ⟨h, -⟩
            · exact h
            · exact (HNO.out h).elim
            · exact (HNO.out h).elim
          have h24i : ((nn : Int) == 24) = true := by rw [h24]; rfl
          clear hpost
          go_wp2_with fail
          go_ret
          exact ⟨rfl, HWF.out⟩
        · have h24i : ¬ (nn : Int) = 24 := by omega
          have HOK := Lib.hid (compOk_more HCOK.out (by have := HCOK.out.2.2.1.2.1; omega))
          rcases hpost.2 with ⟨h, -⟩ | ⟨-, -, rfl⟩ | ⟨-, T3, oa3, ob3, N3, O3, M3, U3, -, h1, h2, rfl, h3, h4, h5⟩
          · exact (h HOK.out).elim
          · clear hpost
            go_wp2_with fail
            go_ret
            exact ⟨rfl, HWF.out⟩
          · rw [← HM.out] at h3
            have HT3 := Lib.hid (show TabAt w10 T3 (.pointer (some ⟨oa3, 0, none⟩)) (.pointer (some ⟨ob3, 0, none⟩)) (breaksL rs) m from h3)
            have HT10 := Lib.hid (show TabAt w10 T (.pointer (some ⟨oa, 0, none⟩)) (.pointer (some ⟨ob, 0, none⟩)) (breaksL rs) m from (HB10.out.block _ (at_lt HTB.out)).trans HTB.out)
            have HM3 := Lib.hid (And.intro h4 h5)
            have hk3 := built_bits (lefts_right HCOK.out.2.1) h1
            have HBD3 := Lib.hid (bd_of hk3.1 hk3.2.2.1 (by have := HOK.out.2.2.1.2.1; omega))
            clear hpost h1 h2 h3 h4 h5 hk3 y0 y1
            go_upto_region 23 with fail
            clear x0 x1
            refine wp_region_plan (fun W => Below w10.heap.size w10 W) (.reads [0, 1, 2, 3, 4, 5, 6, 7, 8, 9, 10, 11] (.one 12 (.reads [13, 14, 15, 16, 17, 18, 19, 20, 21, 22, 23, 24, 25, 26, 27, 28, 29, 30, 31, 32, 33, 34, 35, 36, 37] .done))) 134 (by kernel_rfl) (by kernel_rfl) rfl (fun _ _ _ _ _ h => h) (Below.refl _ _).drew ?_
            apply plan_readsW
            · intro W hW
              clear hW
              iterate 12 (refine WR_step (fun K hK => ?_); go_simp; refine hK.out _ ?_; clear hK K)
              exact WR_nil rfl
            refine abs_plan fun W0 hW0 => ?_
            have HZ0 := Lib.hid (show Below w10.heap.size w10 W0 by rw [hW0]; exact (Below.refl _ _).drew)
            clear hW0
            have HUN := Lib.hid (tabs_unlike W0 T T3 oa ob oa3 ob3 nn (nn + 1) (breaksL rs) m (by omega) N M N3 M3 O U O3 U3 ((HZ0.out.block _ (at_lt HT10.out)).trans HT10.out) ((HZ0.out.block _ (at_lt HT3.out)).trans HT3.out) ((HMM.out.1.to HB10.out).to HZ0.out) ((HMM.out.2.to HB10.out).to HZ0.out) (HM3.out.1.to HZ0.out) (HM3.out.2.to HZ0.out) HBD.out.1 HBD3.out)
            refine plan_one rfl ?_
            go_wp2_with fail
            refine HUN.out.mono ?_
            rintro e W1 ⟨rfl, hb1⟩
            have HZ1 := Lib.hid (HZ0.out.trans (hb1.mono HZ0.out.size))
            clear hb1 HUN
            go_wp2_with fail
            refine Then.mk HZ1.out ?_
            apply plan_readsW
            · intro W hW
              obtain ⟨s0, s1, s2, s3⟩ := cells4 ((hW.block _ (at_lt HT10.out)).trans HT10.out)
              obtain ⟨r0, r1, r2, r3⟩ := cells4 ((hW.block _ (at_lt HT3.out)).trans HT3.out)
              have hbb : (((breaksL rs : Nat) : Int) == ((breaksL rs : Nat) : Int)) = true := by simp
              have hmm2 : ((m : Int) == (m : Int)) = true := by simp
              clear hW
              iterate 25 (refine WR_step (fun K hK => ?_); go_simp; refine hK.out _ ?_; clear hK K)
              exact WR_nil rfl
            refine plan_done ?_
            go_wp2_with fail
            go_ret
            exact ⟨rfl, HWF.out.trans (HZ1.out.mono HWF.out.size)⟩
end Go.Proofs.Ythmaokjhncokdaa

