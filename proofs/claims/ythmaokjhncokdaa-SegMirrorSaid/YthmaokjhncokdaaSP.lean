import Derived.Test.YthmaokjhncokdaaSL
import Derived.Test.YthmaokjhncokdaaBF
import Derived.Test.YthmaokjhncokdaaBT
/-
  TablesTell: behind what is ahead Ahead tells whose Lefts end there, and Behind whose Rights begin there. No condition beyond what each theorem names.
-/
set_option linter.unusedVariables false
set_option linter.unusedSimpArgs false
namespace Go.Proofs.Ythmaokjhncokdaa
open Go.RowKit Classical

theorem bit_runs9 {bs : List Bool} {k : Nat} (h8 : bs.length ≤ 8) (hk : k < bs.length) : bits .and .u64 (((bitsL bs : Nat) : Int) / 2 ^ k) 1 = if bs[k] then 1 else 0 := by
  have h := bitsL_lt bs
  have hp : (2 : Nat) ^ bs.length ≤ 2 ^ 8 := Nat.pow_le_pow_right (by omega) h8
  rw [bit_at _ k (by omega), bitsL_get bs k hk]
  cases bs[k] <;> rfl
theorem Ints.drop {w : World} {b off n cap : Nat} {xs : List Int} (h : Ints w (.slice (some ⟨b, off, none⟩) n cap) xs) {k : Nat} (hk : k ≤ n) : Ints w (.slice (some ⟨b, off + k, none⟩) (n - k) (cap - k)) (xs.drop k) := by
  obtain ⟨p', c', he, hc, hx⟩ := h
  injection he with e1 e2 e3
  subst e1 e2 e3
  refine ⟨_, _, by rw [List.length_drop], by rw [List.length_drop]; omega, fun h0 => ⟨b, off + k, rfl, fun j u hu => ?_⟩⟩
  have hl : 0 < xs.length := by
    rw [List.length_map, List.length_drop] at h0; omega
  obtain ⟨b', off', e, hy⟩ := hx (by simpa using hl)
  injection e with e
  injection e with e1 e2
  subst e1 e2
  have := hy (k + j) u (by rw [List.map_drop, List.getElem?_drop] at hu; exact hu)
  rwa [← Nat.add_assoc] at this
theorem Ints.drop0 {w : World} {q : Option Addr} {n cap : Nat} {xs : List Int} (h : Ints w (.slice q n cap) xs) {k : Nat} (hk : k ≤ n) (hn : n ≤ k) : Ints w (.slice q (n - k) (cap - k)) (xs.drop k) := by
  obtain ⟨p', c', he, hc, -⟩ := h
  injection he with e1 e2 e3
  subst e1 e2 e3
  exact ⟨_, _, by rw [List.length_drop], by rw [List.length_drop]; omega, fun h0 => by rw [List.length_map, List.length_drop] at h0; omega⟩
/-- a right side begins at a place just if its turned one ends there, read from the end -/
theorem begins_iff (x : Nd) (l : List Int) : fitsE (revX x) false l.reverse = true ↔ ∃ q, q ≤ l.length ∧ fitsE x true (l.take q) = true := by
  unfold fitsE
  rw [if_neg (by simp), decide_eq_true_iff, List.length_reverse]
  constructor
  · rintro ⟨k, hk, h⟩
    rw [List.drop_reverse, fit_rev] at h
    exact ⟨l.length - k, by omega, by rw [if_pos rfl]; exact h⟩
  · rintro ⟨q, hq, h⟩
    rw [if_pos rfl] at h
    exact ⟨l.length - q, by omega, by rw [List.drop_reverse, show l.length - (l.length - q) = q by omega, fit_rev]; exact h⟩
section
variable {ops : Array Oper} {rest : List Oper} {o : Oper} {a : Act} {w : World} {Q : Exit → Act → World → Prop} {base : Nat}
theorem wpList_append_intsN (hgd : o.guard = none) (s x : Operand) (ho : o.op = .call { callee := .builtin .append, args := #[s, x], argTypes := #[46, 46] })
    (v : Value) (xs : List Int) (n : Nat) (hn : xs.length = n) (hs : a.eval s = v) (hown : OwnL intE 3 1 base w v xs) (xv : Value) (ns : List Int) (m : Nat) (hm : ns.length = m) (hx : a.eval x = xv) (hr : ReadL intE 1 w xv ns) (hlen : n + m ≤ 1000000) (hbase : base ≤ w.heap.size)
    (h : ∀ p c w', OwnL intE 3 1 base w' (.slice p (n + m) c) (xs ++ ns) → w.grownBy w' v.ownBlock → ((Value.slice p (n + m) c).ownBlock = v.ownBlock ∨ (Value.slice p (n + m) c).ownBlock = some w.heap.size) → wpList Try.prog ops Q rest (a.put o.dst (.slice p (n + m) c)) w') : wpList Try.prog ops Q (o :: rest) a w := by
  subst hn hm
  exact wpList_append_ints hgd s x ho v xs hs hown xv ns hx hr hlen hbase h
end

/-- any of the first k -/
noncomputable def anyK (out : List Bool) (k : Nat) : Bool := decide (∃ j, j < k ∧ tr out j)
theorem anyK_succ (out : List Bool) (k : Nat) {b : Bool} (hb : out[k]? = some b) : anyK out (k + 1) = (anyK out k || b) := by
  unfold anyK
  rw [Bool.eq_iff_iff, Bool.or_eq_true, decide_eq_true_iff, decide_eq_true_iff]
  constructor
  · rintro ⟨j, hj, h⟩
    by_cases e : j = k
    · subst e; unfold tr at h; rw [hb] at h; exact .inr (Option.some.inj h)
    · exact .inl ⟨j, by omega, h⟩
  · rintro (⟨j, hj, h⟩ | h)
    · exact ⟨j, by omega, h⟩
    · exact ⟨k, by omega, by unfold tr; rw [hb, h]⟩

set_option maxRecDepth 100000 in
set_option maxHeartbeats 16000000 in
theorem tell_law (w : World) (pc : Option Addr) (nc cc : Nat) (hcc : nc ≤ cc) (hpc : 0 < nc → ∃ a, pc = some a) (rv : Value) (rs0 : List Rl) (hr : Rules w rv rs0) (hl : rs0.length ≤ 9223372036854775807) (v : Value) (t : List Int) (hv : Ints w v t) (hn : t.length ≤ 9223372036854775807) :
    Calls Try.prog 5 #[.agg #[.slice pc nc cc, rv], v] w (Says true w) := by
  obtain ⟨pr, cr, rfl, -, -⟩ := hr.get
  have HR := Lib.hid hr
  have HPC := Lib.hid hpc
  have HL := Lib.hid hl
  obtain ⟨pt, ct, rfl, hct, -⟩ := hv.get
  have HV := Lib.hid hv
  obtain ⟨m0, hm0⟩ : ∃ m0, m0 = rs0.length := ⟨_, rfl⟩
  rw [← hm0]
  have HM0 := Lib.hid hm0
  clear hr hpc hl hm0 hv
  go_enter Try.func5, Try.ntmps5
  go_upto_region 1 with fail
  refine abs_wp fun W hW => ?_
  obtain ⟨B, hB⟩ : ∃ B, B = w.heap.size := ⟨_, rfl⟩
  have hbx : W.heap[B]? = some (.cells #[.slice pc nc cc, .slice pr m0 cr] 25) := by rw [hW, hB]; exact heap_alloc_new _ _
  have hbe : Below w.heap.size w W := by rw [hW]; exact below_alloc1 _ _
  rw [← hB]
  have HBE := Lib.hid hbe
  have HBX := Lib.hid hbx
  have HBB := Lib.hid hB
  clear hW hbx hbe hB
  go_wp2_with fail
  refine (shown9 W).mono ?_
  rintro e w1 ⟨rfl, hb1⟩
  have HB1 := Lib.hid (HBE.out.trans (hb1.mono HBE.out.size))
  have HBX1 := Lib.hid ((hb1.block _ (at_lt HBX.out)).trans HBX.out)
  clear hb1
  obtain ⟨x0, x1⟩ := cells2 HBX1.out
  have HFW := Lib.hid (few9_any w w1 HB1.out pc nc cc hcc HPC.out (.slice pr m0 cr) rs0 (by have h := HR.out; rwa [← HM0.out] at h) HL.out)
  obtain ⟨rs, hrs⟩ : ∃ rs, rs = few9L rs0 := ⟨_, rfl⟩
  have hr8 : rs.length ≤ 8 := by rw [hrs]; exact few9_length _
  have HRS := Lib.hid hrs
  clear hrs
  go_wp2_with fail
  refine HFW.out.mono ?_
  rintro e w2 ⟨pc2, cc2, pv, rfl, hown, hb2⟩
  rw [← HRS.out] at hown
  obtain ⟨nn, hnn⟩ : ∃ nn, nn = min nc 30 := ⟨_, rfl⟩
  rw [← hnn]
  obtain ⟨pq, cq, hpv⟩ := hown.form
  subst hpv
  obtain ⟨m, hm⟩ : ∃ m, m = rs.length := ⟨_, rfl⟩
  rw [← hm] at hr8 hown ⊢
  have HM := Lib.hid hm
  have HOWN := Lib.hid hown
  have HNN := Lib.hid (show nn ≤ 30 by omega)
  have HBX2 := Lib.hid ((hb2.block _ (at_lt HBX1.out)).trans HBX1.out)
  have HB2 := Lib.hid (HB1.out.trans (hb2.mono HB1.out.size))
  have HS1 := Lib.hid (at_lt HBX1.out)
  clear hm hnn hown hb2 x0 x1 HFW
  go_wp2_with (refine stop_at (.store 25 (.tmp 2) (.tmp 23)) rfl ?_)
  refine ⟨?_⟩
  refine wpList_store_obj rfl (.tmp 2) (.tmp 23) 25 rfl B rfl [.slice pc2 nn cc2, .slice pq m cq] rfl _ _ HBX2.out (by kernel_rfl) rfl (by simp [Value.oneCell']) ?_
  intro w3 hb3 hf3
  have HB3 := Lib.hid (show Below w.heap.size w w3 from HB2.out.trans (hf3.below HB2.out.size (fun j hj => by have hj : j = B := hj; have := HBB.out; omega)))
  have HRU := Lib.hid (show Rules w3 (.slice pq m cq) rs from rules_of_read ((HOWN.out.fr hf3 (fun j hj he => by have he : j = B := he; have h1 := (HOWN.out.lt j hj).1; have h2 := HS1.out; omega)).read.monoE (fun x r hr => hr.to HB3.out (Nat.le_refl _))))
  have HBX3 := Lib.hid (show w3.heap[B]? = some (.cells #[.slice pc2 nn cc2, .slice pq m cq] 25) from hb3)
  clear hb3 hf3
  obtain ⟨row, hrow⟩ : ∃ row, row = t.take 20 := ⟨_, rfl⟩
  have hrl : row.length = min t.length 20 := by rw [hrow, List.length_take, Nat.min_comm]
  go_upto_region 3 with fail
  change Code.wp Try.prog _ _ { tmps := _, defers := _ } _
  go_cut [1] (fun rv wx => Ints w rv row ∧ wx = w3)
  case first =>
    as_aux_lemma =>
      cases pt with
      | none =>
        have h0 : t = [] := by
          obtain ⟨p', c', he, -, hx⟩ := HV.out
          injection he with he1 he2 he3
          subst he1
          cases t with
          | nil => rfl
          | cons x r => obtain ⟨b, off, e, -⟩ := hx (by simp); cases e
        subst h0
        have HI := Lib.hid (show Ints w (.slice none 0 ct) row by rw [hrow]; exact HV.out)
        clear hrow hrl
        go_wp2_with fail
        go_meet
        case rel => exact ⟨HI.out, rfl⟩
      | some ad =>
        by_cases h40 : t.length ≤ 20
        · have h41 : ¬ (20 : Int) < t.length := by omega
          have HI := Lib.hid (show Ints w (.slice (some ad) (min (t.length : Int) 20).toNat ct) row by rw [hrow, List.take_of_length_le h40, show (min (t.length : Int) 20).toNat = t.length by omega]; exact HV.out)
          clear hrow hrl
          go_wp2_with fail
          go_meet
          case rel => exact ⟨HI.out, rfl⟩
        · have h41 : (20 : Int) < t.length := by omega
          have HI := Lib.hid (show Ints w (.slice (some ad) (min (t.length : Int) 20).toNat ct) row by rw [hrow, show (min (t.length : Int) 20).toNat = 20 by omega]; exact HV.out.take (by omega))
          clear hrow hrl
          go_wp2_with fail
          go_meet
          case rel => exact ⟨HI.out, rfl⟩
  case rest =>
    obtain ⟨hi, rfl⟩ := hcut
    obtain ⟨ptr, ctr, rfl, hcr, -⟩ := hi.get
    have hr30 : row.length ≤ 20 := by omega
    have HI := Lib.hid hi
    obtain ⟨nr, hnr⟩ : ∃ nr, nr = row.length := ⟨_, rfl⟩
    rw [← hnr] at hr30 hcr ⊢
    have HNR := Lib.hid hnr
    rw [← hnr] at HI
    clear hi hrow hrl hnr
    have HCO := Lib.hid (compile_any wc pc2 nn cc2 (.slice pq m cq) rs HRU.out (by have := HM.out; omega))
    obtain ⟨x0, x1⟩ := cells2 HBX3.out
    go_wp2_with fail
    refine HCO.out.mono ?_
    rintro e w4 ⟨hb4, hcase⟩
    have HD4 := Lib.hid hb4
    have HB4 := Lib.hid (HB3.out.trans (hb4.mono HB3.out.size))
    clear hb4 HCO x0 x1
    rcases hcase with ⟨-, rfl⟩ | ⟨-, -, rfl⟩ | ⟨hcok, T, oa, ob, N, O, M, U, -, hb1, hb2, rfl, htab, hm1, hm2⟩
    · go_wp2_with fail
      go_ret
      exact ⟨rfl, HB4.out⟩
    · go_wp2_with fail
      go_ret
      exact ⟨rfl, HB4.out⟩
    · have HCOK := Lib.hid hcok
      have HBU := Lib.hid (And.intro hb1 hb2)
      have HTB := Lib.hid htab
      have HMM := Lib.hid (And.intro hm1 hm2)
      have HBX4 := Lib.hid ((HD4.out.block _ (at_lt HBX3.out)).trans HBX3.out)
      have hkk1 := built_bits (lefts_right hcok.2.1) hb1
      have hkk2 := built_bits (rights_right hcok.2.1) hb2
      have HOK := Lib.hid (And.intro hkk1.1 (And.intro hkk1.2.1 (And.intro hkk2.1 hkk2.2.1)))
      obtain ⟨y0, y1, y2, y3⟩ := cells4 htab
      obtain ⟨x0, x1⟩ := cells2 HBX4.out
      obtain ⟨ptr', ctr', her, -, hxr⟩ := HI.out.get
      injection her with her1 her2 her3
      subst her1 her3
      have HXR := Lib.hid (show ∀ W, Below w.heap.size w W → ∀ i : Nat, i < nr → ∃ b off x, ptr = some ⟨b, off, none⟩ ∧ row[i]? = some x ∧ W.cell? ⟨b, off + i, none⟩ = some (.int .i64 x) from fun W hW i hi => by
        obtain ⟨b, off, e, hbl, hx⟩ := hxr (by omega)
        have hil : i < row.length := by rw [← HNR.out]; exact hi
        exact ⟨b, off, row[i], e, List.getElem?_eq_getElem hil, cell_below hW hbl (hx i hil)⟩)
      clear hcok hb1 hb2 htab hm1 hm2 hkk1 hkk2 hxr her2
      go_upto_region 7 with fail
      clear y0 y1 y2 y3
      go_wp2_with fail
      go_loopw [8, 9] (fun u i wz => ∃ j : Nat, i = .int .i64 ((nr : Int) - 1 - j) ∧ j ≤ nr ∧ OwnL intE 3 1 w4.heap.size wz u (row.reverse.take j) ∧ (∀ x ∈ row.reverse.take j, 0 ≤ x ∧ x < nn) ∧ Below w4.heap.size w4 wz) (fun _ i _ => (intOf i + 1).toNat)
      case atStart => exact ⟨0, by simp, by omega, OwnL.nil _, by simp, Below.refl _ _⟩
      case round =>
        obtain ⟨j, rfl, hj, hown, hok, hb⟩ := hrel
        have HOWN2 := Lib.hid hown
        have HOKJ := Lib.hid hok
        have HBJ := Lib.hid hb
        obtain ⟨pj, cj, rfl⟩ := hown.form
        have hjl : (row.reverse.take j).length = j := by rw [List.length_take, List.length_reverse, ← HNR.out]; omega
        rw [hjl] at HOWN2 ⊢
        obtain ⟨x0, x1⟩ := cells2 ((hb.block _ (at_lt HBX4.out)).trans HBX4.out)
        have HFINB := Lib.hid (show ∀ n, Below w.heap.size w (wr.drewN n) from fun n => HB4.out.trans (Below.mono (⟨hb.os, hb.tape, hb.output, hb.size, hb.block⟩ : Below w4.heap.size w4 (wr.drewN n)) HB4.out.size))
        clear hown hok hb
        by_cases hjn : j < nr
        · obtain ⟨i, hi⟩ : ∃ i, i = nr - 1 - j := ⟨_, rfl⟩
          have hii : (nr : Int) - 1 - j = (i : Nat) := by omega
          have hi0 : (0 : Int) ≤ i := by omega
          have hin : (i : Int) < (nr : Int) := by omega
          rw [hii]
          obtain ⟨b, off, x, rfl, hx, d0⟩ := HXR.out wr (HB4.out.trans (HBJ.out.mono HB4.out.size)) i (by omega)
          have HXE := Lib.hid (show row.reverse.take (j + 1) = row.reverse.take j ++ [x] from by
            have hl : j < row.reverse.length := by rw [List.length_reverse, ← HNR.out]; exact hjn
            rw [List.take_succ_eq_append_getElem hl, List.getElem_reverse]
            have hil : i < row.length := by rw [← HNR.out]; omega
            rw [List.getElem?_eq_getElem hil] at hx
            have e : row.length - 1 - j = i := by rw [← HNR.out]; exact hi.symm
            simp only [e]
            rw [Option.some.inj hx])
          have HII := Lib.hid (And.intro hi hii)
          clear hx hi hii
          by_cases g1 : x < 0
          · go_upto_region 11 with fail
            go_quiet (fail)
            go_wp2_with fail
            go_ret
            exact ⟨rfl, HFINB.out _⟩
          · by_cases g2 : (nn : Int) ≤ x
            · have g3 : 0 ≤ x := by omega
              go_upto_region 11 with fail
              go_quiet (fail)
              go_wp2_with fail
              go_ret
              exact ⟨rfl, HFINB.out _⟩
            · have g3 : 0 ≤ x := by omega
              have g4 : x < (nn : Int) := by omega
              go_upto_region 11 with fail
              go_quiet (fail)
              go_upto_region 13 with fail
              refine abs_wp fun w5 hw5 => ?_
              have HB5 := Lib.hid (show Below w4.heap.size w4 w5 by rw [hw5]; exact ⟨HBJ.out.os, HBJ.out.tape, HBJ.out.output, HBJ.out.size, HBJ.out.block⟩)
              have HO5 := Lib.hid (show OwnL intE 3 1 w4.heap.size w5 (.slice pj j cj) (row.reverse.take j) from by
                rw [hw5]
                exact HOWN2.out.fr (G := fun _ => False) (Fr.drewN (Fr.refl _ _) _) (fun _ _ h => h))
              clear hw5 x0 x1 d0
              have d0 := (HXR.out w5 (HB4.out.trans (HB5.out.mono HB4.out.size)) i (by have := HII.out.1; omega))
              obtain ⟨b2, off2, x2, e2, hx2, d0⟩ := d0
              cases e2
              have hxx : x2 = x := by
                have h1 := HXE.out
                have hl : j < row.reverse.length := by rw [List.length_reverse, ← HNR.out]; exact hjn
                rw [List.take_succ_eq_append_getElem hl, List.getElem_reverse] at h1
                have h2 := List.append_cancel_left h1
                injection h2 with h2
                have e : row.length - 1 - j = i := by rw [← HNR.out]; exact HII.out.1.symm
                have hil : i < row.length := by rw [← HNR.out]; have := HII.out.1; omega
                simp only [e] at h2
                rw [List.getElem?_eq_getElem hil, h2] at hx2
                exact (Option.some.inj hx2).symm
              subst hxx
              clear hx2
              have HAL := Lib.hid (below_alloc1 w5 (.cells #[.int .i64 x2] 3))
              go_wp2_with (refine stop_at (.call { callee := .builtin .append, args := #[.tmp 82, .tmp 87], argTypes := #[46, 46] }) rfl ?_)
              refine ⟨?_⟩
              have hj20 : j ≤ 20 := by omega
              refine wpList_append_intsN rfl (.tmp 82) (.tmp 87) rfl (.slice pj j cj) (row.reverse.take j) j hjl rfl (base := w4.heap.size) (HO5.out.below HAL.out (Nat.le_refl _)) _ [x2] 1 rfl rfl (ReadL.one (E := intE) w5 _ x2 [.int .i64 x2] ⟨rfl, by simp [Value.oneCell']⟩ rfl) (by omega) (Nat.le_trans HB5.out.size HAL.out.size) ?_
              intro p6 c6 w6 hown6 hg6 hlie6
              rw [← HXE.out] at hown6
              have HO6 := Lib.hid hown6
              have HB6 := Lib.hid (show Below w4.heap.size w4 w6 from (HB5.out.trans (HAL.out.mono HB5.out.size)).trans ((Fr.grown (F := fun q => (Value.slice pj j cj).ownBlock = some q) hg6 (fun k h => h)).below (Nat.le_trans HB5.out.size HAL.out.size) (fun q hq => (HO5.out.lt q hq).1)))
              have HOKN := Lib.hid (show ∀ x ∈ row.reverse.take (j + 1), 0 ≤ x ∧ x < nn from fun x hx => by
                rw [HXE.out] at hx
                rcases List.mem_append.1 hx with hx | hx
                · exact HOKJ.out x hx
                · rw [List.mem_singleton.1 hx]; exact ⟨g3, g4⟩)
              have hnext : (i : Int) - 1 = (nr : Int) - 1 - ((j + 1 : Nat) : Int) := by have := HII.out.2; omega
              have HNXT := Lib.hid hnext
              clear hown6 hg6 hlie6 d0 hnext
              go_wp2_with fail
              go_roundw
              case rel => exact ⟨j + 1, by rw [HNXT.out], by omega, HO6.out, HOKN.out, HB6.out⟩
              case measure => (simp [intOf]; try omega)
        · have hjj : j = nr := by omega
          have HROW := Lib.hid (show RowOk nn row from fun c hc => HOKJ.out c (by rw [hjj, HNR.out, List.take_of_length_le (by simp)]; exact List.mem_reverse.2 hc))
          have HREV := Lib.hid (show Ints wr (.slice pj nr cj) row.reverse from by
            have h := HOWN2.out.read.ints
            rw [hjj, List.take_of_length_le (by rw [List.length_reverse, ← HNR.out]; exact Nat.le_refl _)] at h
            exact h)
          have hii : (nr : Int) - 1 - j = -1 := by omega
          rw [hii, hjj]
          clear hii
          have HBRW := Lib.hid (HB4.out.trans (HBJ.out.mono HB4.out.size))
          have HTW := Lib.hid (show ∀ W, Below wr.heap.size wr W → TabAt W T (.pointer (some ⟨oa, 0, none⟩)) (.pointer (some ⟨ob, 0, none⟩)) (breaksL rs) rs.length from fun W hW => ((HBJ.out.trans (hW.mono HBJ.out.size)).block _ (at_lt HTB.out)).trans HTB.out)
          have HBXW := Lib.hid (show ∀ W, Below wr.heap.size wr W → W.heap[B]? = some (.cells #[.slice pc2 nn cc2, .slice pq m cq] 25) from fun W hW => ((HBJ.out.trans (hW.mono HBJ.out.size)).block _ (at_lt HBX4.out)).trans HBX4.out)
          have HBCW := Lib.hid (HD4.out.trans (HBJ.out.mono HD4.out.size))
          have HR1 := Lib.hid (run_m wr oa nn N O (HMM.out.1.to HBJ.out) HOK.out.1 HOK.out.2.1 (.slice ptr nr ctr) row (HI.out.to HBRW.out (Nat.le_refl _)) (by rw [← HNR.out]; omega))
          obtain ⟨y0, y1, y2, y3⟩ := cells4 (HTW.out wr (Below.refl _ _))
          clear x0 x1 hjl
          go_wp2_with fail
          refine HR1.out.mono ?_
          rintro e w7 ⟨hb7, hcase⟩
          have HB7 := Lib.hid hb7
          obtain ⟨va, rfl, hva⟩ : ∃ v, e = .returned (.tuple #[v, .int .i64 0]) ∧ ReadL u64E 1 w7 v (runsN N O row) := by
            rcases hcase with ⟨-, h⟩ | ⟨h, -⟩
            · exact h
            · exact (h HROW.out).elim
          have HVA := Lib.hid hva
          have hla : (runsN N O row).length = nr + 1 := by unfold runsN; rw [List.length_map, List.length_range, ← HNR.out]
          obtain ⟨pa, ca, rfl, hca, hga⟩ := hva.at (by decide) hla
          have HGA := Lib.hid hga
          have HR2 := Lib.hid (run_m w7 ob nn M U ((HMM.out.2.to HBJ.out).to hb7) HOK.out.2.2.1 HOK.out.2.2.2 (.slice pj nr cj) row.reverse (HREV.out.to hb7 (Nat.le_refl _)) (by rw [List.length_reverse, ← HNR.out]; omega))
          clear hb7 hcase hva hla hga y0 y1 y2 y3 HR1
          obtain ⟨y0, y1, y2, y3⟩ := cells4 (HTW.out w7 HB7.out)
          go_wp2_with fail
          refine HR2.out.mono ?_
          rintro e w8 ⟨hb8, hcase⟩
          have HB8 := Lib.hid (HB7.out.trans (hb8.mono HB7.out.size))
          have HC8 := Lib.hid hb8
          obtain ⟨vb, rfl, hvb⟩ : ∃ v, e = .returned (.tuple #[v, .int .i64 0]) ∧ ReadL u64E 1 w8 v (runsN M U row.reverse) := by
            rcases hcase with ⟨-, h⟩ | ⟨h, -⟩
            · exact h
            · exact (h (rowOk_rev HROW.out)).elim
          have hlb : (runsN M U row.reverse).length = nr + 1 := by unfold runsN; rw [List.length_map, List.length_range, List.length_reverse, ← HNR.out]
          obtain ⟨pb, cb, rfl, hcb, hgb⟩ := hvb.at (by decide) hlb
          have HGB := Lib.hid hgb
          have HA8 := Lib.hid (show ∀ W, Below w8.heap.size w8 W → ∀ i : Nat, i < nr + 1 → ∃ b off, pa = some ⟨b, off, none⟩ ∧ W.cell? ⟨b, off + i, none⟩ = some (.int .u64 (at0 O (stA N row i) : Nat)) from fun W hW i hi => by
            obtain ⟨b, off, row1, e, hb, hc, hr⟩ := HGA.out i (at0 O (stA N row i)) (by unfold runsN; rw [List.getElem?_map, List.getElem?_range (by rw [← HNR.out]; exact hi)]; rfl)
            have := hc 0 (.int .u64 (at0 O (stA N row i) : Nat)) (by rw [hr]; rfl)
            rw [Nat.mul_one, Nat.add_zero] at this
            exact ⟨b, off, e, cell_below (HC8.out.trans (hW.mono HC8.out.size)) hb this⟩)
          have HV8 := Lib.hid (show ∀ W, Below w8.heap.size w8 W → ∀ i : Nat, i < nr + 1 → ∃ b off, pb = some ⟨b, off, none⟩ ∧ W.cell? ⟨b, off + i, none⟩ = some (.int .u64 (at0 U (stA M row.reverse i) : Nat)) from fun W hW i hi => by
            obtain ⟨b, off, row1, e, hb, hc, hr⟩ := HGB.out i (at0 U (stA M row.reverse i)) (by unfold runsN; rw [List.getElem?_map, List.getElem?_range (by rw [List.length_reverse, ← HNR.out]; exact hi)]; rfl)
            have := hc 0 (.int .u64 (at0 U (stA M row.reverse i) : Nat)) (by rw [hr]; rfl)
            rw [Nat.mul_one, Nat.add_zero] at this
            exact ⟨b, off, e, cell_below hW hb this⟩)
          have HGET := Lib.hid (show ∀ i r, rs[i]? = some r → ∃ b off, pq = some ⟨b, off, none⟩ ∧ ∃ a1 b1 c1 d1 e1 f1, NodeIs w8 r.left a1 b1 c1 ∧ NodeIs w8 r.right d1 e1 f1 ∧ ∀ W, Below w8.heap.size w8 W → ∀ q u, [a1, b1, c1, d1, e1, f1, .bool r.brk, .bool r.start][q]? = some u → W.cell? ⟨b, off + i * 8 + q, none⟩ = some u from fun i r h => by
            obtain ⟨prr, crr, herr, hcrr, hget⟩ := HRU.out.get
            obtain ⟨hi, rfl⟩ := List.getElem?_eq_some_iff.1 h
            obtain ⟨b, off, e, h1, h2⟩ := hget (by omega)
            injection herr with h3
            obtain ⟨row8, hc, a1, b1, c1, d1, e1, f1, rfl, hnl, hnr⟩ := h2 i hi
            have hbb := HBCW.out.trans (HB8.out.mono HBCW.out.size)
            exact ⟨b, off, h3.trans e, a1, b1, c1, d1, e1, f1, hnl.to hbb (Nat.le_refl _), hnr.to hbb (Nat.le_refl _), fun W hW q u hu => cell_below (hbb.trans (hW.mono hbb.size)) h1 (hc q u hu)⟩)
          have HPTR := Lib.hid (show (nr = 0 ∧ ptr = none) ∨ (nr = 0 ∧ ∃ ad, ptr = some ad) ∨ ∃ bb oo, ptr = some ⟨bb, oo, none⟩ from by
            by_cases h0 : nr = 0
            · cases ptr with
              | none => exact .inl ⟨h0, rfl⟩
              | some ad => exact .inr (.inl ⟨h0, ad, rfl⟩)
            · obtain ⟨b, off, x, e, -, -⟩ := HXR.out w (Below.refl _ _) 0 (by omega)
              exact .inr (.inr ⟨b, off, e⟩))
          have hn2 : ((nr : Int) + 1 == (nr : Int) + 1) = true := by simp
          clear hb8 hcase hvb hlb hgb y0 y1 y2 y3 HR2
          have HWW := Lib.hid (HBRW.out.trans (HB8.out.mono HBRW.out.size))
          go_wp2_with fail
          go_loopw [14] (fun i wz => ∃ p : Nat, i = .int .i64 p ∧ p ≤ nr + 1 ∧ Below w8.heap.size w8 wz) (fun i _ => nr + 1 - (intOf i).toNat)
          case atStart => exact ⟨0, rfl, by omega, Below.refl _ _⟩
          case round =>
            obtain ⟨p, rfl, hp1, hb⟩ := hrel
            have HP := Lib.hid hb
            by_cases hpn : p < nr + 1
            · have hpi : (p : Int) ≤ (nr : Int) := by omega
              have hp : p ≤ nr := by omega
              have hp0 : (0 : Int) ≤ p := by omega
              clear hb
              go_wp2_with fail
              go_loopw [15] (fun i wz => ∃ k : Nat, i = .int .i64 k ∧ k ≤ m ∧ Below w8.heap.size w8 wz) (fun i _ => m - (intOf i).toNat)
              case atStart => exact ⟨0, rfl, by omega, HP.out⟩
              case round =>
                obtain ⟨k, rfl, hk, hb⟩ := hrel
                have HK := Lib.hid hb
                obtain ⟨x0, x1⟩ := cells2 (HBXW.out wr (HB8.out.trans (hb.mono HB8.out.size)))
                clear hb
                by_cases hkm : k < m
                · have hki : (k : Int) < (m : Int) := by omega
                  have hk0 : (0 : Int) ≤ k := by omega
                  have hkr : k < rs.length := by rw [← HM.out]; exact hkm
                  obtain ⟨r, hrk⟩ : ∃ r, rs[k]? = some r := ⟨_, List.getElem?_eq_getElem hkr⟩
                  have HRM := Lib.hid (HCOK.out.2.1 r (List.mem_of_getElem? hrk))
                  have HRK := Lib.hid hrk
                  obtain ⟨bp, op, rfl, a1, b1, c1', d1, e1, f1, hnl, hnr9, hcell⟩ := HGET.out k r hrk
                  obtain ⟨opx, ppx, lx, c1x, qx, mx, dx, rfl, rfl, rfl⟩ := hnl.form
                  obtain ⟨opy, ppy, ly, c1y, qy, my, dy, rfl, rfl, rfl⟩ := hnr9.form
                  have HND_left := Lib.hid hnl
                  have HND_right := Lib.hid hnr9
                  obtain ⟨bk, hbk⟩ : ∃ bk, bk = r.brk := ⟨_, rfl⟩
                  obtain ⟨st, hst⟩ : ∃ st, st = r.start := ⟨_, rfl⟩
                  have HST := Lib.hid hst
                  rw [← hbk, ← hst] at hcell
                  have z0 := hcell wr HK.out 0 _ rfl
                  have z1 := hcell wr HK.out 1 _ rfl
                  have z2 := hcell wr HK.out 2 _ rfl
                  have z3 := hcell wr HK.out 3 _ rfl
                  have z4 := hcell wr HK.out 4 _ rfl
                  have z5 := hcell wr HK.out 5 _ rfl
                  have z6 := hcell wr HK.out 6 _ rfl
                  have z7 := hcell wr HK.out 7 _ rfl
                  simp only [Nat.add_zero] at z0
                  clear hcell hnl hnr9 hbk hst hrk hkr
                  go_upto_region 25 with fail
                  refine abs_wp fun w9 hw9 => ?_
                  obtain ⟨X, hX⟩ : ∃ X, X = wr.heap.size := ⟨_, rfl⟩
                  rw [← hX]
                  have HX_w9 := Lib.hid (show w9.heap[X]? = some (.cells #[.int .i64 opx, .slice ppx lx c1x, .slice qx mx dx, .int .i64 opy, .slice ppy ly c1y, .slice qy my dy, .bool bk, .bool st] 54) by rw [hw9, hX]; exact heap_alloc_new _ _)
                  have HBC_w9 := Lib.hid (show Below w8.heap.size w8 w9 by rw [hw9]; exact HK.out.trans ((below_alloc1 _ _).mono HK.out.size))
                  have HBW_w9 := Lib.hid (HWW.out.trans (HBC_w9.out.mono HWW.out.size))
                  have HGOOD_left := Lib.hid (Wf_good _ _ HRM.out.1.1)
                  have HGOOD_right := Lib.hid (Wf_good _ _ HRM.out.2.1)
                  clear hw9 hX x0 x1 z0 z1 z2 z3 z4 z5 z6 z7
                  go_upto_region 25 with fail
                  go_cut [17] (fun rv wx => ∃ out, Bools wx rv out ∧ out.length = p + 1 ∧ (∀ q, q ≤ p → (tr out q ↔ fitsE r.left false ((row.take p).take q) = true)) ∧ Below w9.heap.size w9 wx)
                  case first =>
                    as_aux_lemma =>
                      rcases HPTR.out with ⟨hz, hpn⟩ | ⟨hz, ad, hpn⟩ | ⟨bb, oo, hpn⟩
                      · subst hpn
                        have hr0 : row = [] := List.eq_nil_of_length_eq_zero (by rw [← HNR.out]; exact hz)
                        obtain rfl : p = 0 := by omega
                        subst hz
                        have HSI := Lib.hid (show Ints w (.slice none 0 ctr) (row.take 0) from by rw [hr0]; have := HI.out; rw [hr0] at this; exact this)
                        refine wp_region_plan (fun W => Below w9.heap.size w9 W) (.reads [0, 1, 2, 3, 4] (.one 5 (.reads [6] .done))) 211 (by kernel_rfl) (by kernel_rfl) rfl (fun _ _ _ _ _ h => h) (Below.refl _ _).drew ?_
                        apply plan_readsW
                        · intro W hW
                          obtain ⟨z0, z1, z2, z3, z4, z5, z6, z7⟩ := cells8 ((hW.block _ (at_lt HX_w9.out)).trans HX_w9.out)
                          clear hW
                          iterate 5 (refine WR_step (fun K hK => ?_); go_simp; refine hK.out _ ?_; clear hK K)
                          exact WR_nil rfl
                        refine abs_plan fun W0 hW0 => ?_
                        have HZ0 := Lib.hid (show Below w9.heap.size w9 W0 by rw [hW0]; exact (Below.refl _ _).drew)
                        clear hW0
                        have HCA := Lib.hid (suffix8 (row.take 0) (by rw [List.length_take, ← HNR.out]; omega) r.left HGOOD_left.out W0 (.slice none 0 ctr) _ _ _ (HSI.out.to (HBW_w9.out.trans (HZ0.out.mono HBW_w9.out.size)) (Nat.le_refl _)) ((HND_left.out.to HBC_w9.out (Nat.le_refl _)).to HZ0.out (Nat.le_refl _)))
                        refine plan_one rfl ?_
                        go_wp2_with fail
                        refine HCA.out.mono ?_
                        rintro e W1 ⟨v1, out, rfl, hout, hol, htr, hb1⟩
                        have HREL := Lib.hid (show Bools W1 v1 out ∧ out.length = 0 + 1 ∧ (∀ q, q ≤ 0 → (tr out q ↔ fitsE r.left false ((row.take 0).take q) = true)) ∧ Below w9.heap.size w9 W1 from ⟨hout, by rw [hol, List.length_take, ← HNR.out, Nat.min_eq_left hp], fun q hq => htr q (by rw [List.length_take, ← HNR.out]; omega), HZ0.out.trans (hb1.mono HZ0.out.size)⟩)
                        clear hout hol htr hb1 HCA
                        go_wp2_with fail
                        refine Then.mk HREL.out.2.2.2 ?_
                        apply plan_readsW
                        · intro W hW
                          clear hW
                          iterate 1 (refine WR_step (fun K hK => ?_); go_simp; refine hK.out _ ?_; clear hK K)
                          exact WR_nil rfl
                        refine plan_done ?_
                        go_wp2_with fail
                        go_meet
                        case rel => exact ⟨out, HREL.out⟩
                      · subst hpn
                        have hr0 : row = [] := List.eq_nil_of_length_eq_zero (by rw [← HNR.out]; exact hz)
                        obtain rfl : p = 0 := by omega
                        subst hz
                        have HSI := Lib.hid (show Ints w (.slice (some ad) 0 ctr) (row.take 0) from by rw [hr0]; have := HI.out; rw [hr0] at this; exact this)
                        refine wp_region_plan (fun W => Below w9.heap.size w9 W) (.reads [0, 1, 2, 3, 4] (.one 5 (.reads [6] .done))) 211 (by kernel_rfl) (by kernel_rfl) rfl (fun _ _ _ _ _ h => h) (Below.refl _ _).drew ?_
                        apply plan_readsW
                        · intro W hW
                          obtain ⟨z0, z1, z2, z3, z4, z5, z6, z7⟩ := cells8 ((hW.block _ (at_lt HX_w9.out)).trans HX_w9.out)
                          clear hW
                          iterate 5 (refine WR_step (fun K hK => ?_); go_simp; refine hK.out _ ?_; clear hK K)
                          exact WR_nil rfl
                        refine abs_plan fun W0 hW0 => ?_
                        have HZ0 := Lib.hid (show Below w9.heap.size w9 W0 by rw [hW0]; exact (Below.refl _ _).drew)
                        clear hW0
                        have HCA := Lib.hid (suffix8 (row.take 0) (by rw [List.length_take, ← HNR.out]; omega) r.left HGOOD_left.out W0 (.slice (some ad) 0 ctr) _ _ _ (HSI.out.to (HBW_w9.out.trans (HZ0.out.mono HBW_w9.out.size)) (Nat.le_refl _)) ((HND_left.out.to HBC_w9.out (Nat.le_refl _)).to HZ0.out (Nat.le_refl _)))
                        refine plan_one rfl ?_
                        go_wp2_with fail
                        refine HCA.out.mono ?_
                        rintro e W1 ⟨v1, out, rfl, hout, hol, htr, hb1⟩
                        have HREL := Lib.hid (show Bools W1 v1 out ∧ out.length = 0 + 1 ∧ (∀ q, q ≤ 0 → (tr out q ↔ fitsE r.left false ((row.take 0).take q) = true)) ∧ Below w9.heap.size w9 W1 from ⟨hout, by rw [hol, List.length_take, ← HNR.out, Nat.min_eq_left hp], fun q hq => htr q (by rw [List.length_take, ← HNR.out]; omega), HZ0.out.trans (hb1.mono HZ0.out.size)⟩)
                        clear hout hol htr hb1 HCA
                        go_wp2_with fail
                        refine Then.mk HREL.out.2.2.2 ?_
                        apply plan_readsW
                        · intro W hW
                          clear hW
                          iterate 1 (refine WR_step (fun K hK => ?_); go_simp; refine hK.out _ ?_; clear hK K)
                          exact WR_nil rfl
                        refine plan_done ?_
                        go_wp2_with fail
                        go_meet
                        case rel => exact ⟨out, HREL.out⟩
                      · subst hpn
                        have hpc : p ≤ ctr := by omega
                        have HSI := Lib.hid (show Ints w (.slice (some ⟨bb, oo, none⟩) p ctr) (row.take p) from HI.out.take hp)
                        refine wp_region_plan (fun W => Below w9.heap.size w9 W) (.reads [0, 1, 2, 3, 4] (.one 5 (.reads [6] .done))) 211 (by kernel_rfl) (by kernel_rfl) rfl (fun _ _ _ _ _ h => h) (Below.refl _ _).drew ?_
                        apply plan_readsW
                        · intro W hW
                          obtain ⟨z0, z1, z2, z3, z4, z5, z6, z7⟩ := cells8 ((hW.block _ (at_lt HX_w9.out)).trans HX_w9.out)
                          clear hW
                          iterate 5 (refine WR_step (fun K hK => ?_); go_simp; refine hK.out _ ?_; clear hK K)
                          exact WR_nil rfl
                        refine abs_plan fun W0 hW0 => ?_
                        have HZ0 := Lib.hid (show Below w9.heap.size w9 W0 by rw [hW0]; exact (Below.refl _ _).drew)
                        clear hW0
                        have HCA := Lib.hid (suffix8 (row.take p) (by rw [List.length_take, ← HNR.out]; omega) r.left HGOOD_left.out W0 (.slice (some ⟨bb, oo, none⟩) p ctr) _ _ _ (HSI.out.to (HBW_w9.out.trans (HZ0.out.mono HBW_w9.out.size)) (Nat.le_refl _)) ((HND_left.out.to HBC_w9.out (Nat.le_refl _)).to HZ0.out (Nat.le_refl _)))
                        refine plan_one rfl ?_
                        go_wp2_with fail
                        refine HCA.out.mono ?_
                        rintro e W1 ⟨v1, out, rfl, hout, hol, htr, hb1⟩
                        have HREL := Lib.hid (show Bools W1 v1 out ∧ out.length = p + 1 ∧ (∀ q, q ≤ p → (tr out q ↔ fitsE r.left false ((row.take p).take q) = true)) ∧ Below w9.heap.size w9 W1 from ⟨hout, by rw [hol, List.length_take, ← HNR.out, Nat.min_eq_left hp], fun q hq => htr q (by rw [List.length_take, ← HNR.out]; omega), HZ0.out.trans (hb1.mono HZ0.out.size)⟩)
                        clear hout hol htr hb1 HCA
                        go_wp2_with fail
                        refine Then.mk HREL.out.2.2.2 ?_
                        apply plan_readsW
                        · intro W hW
                          clear hW
                          iterate 1 (refine WR_step (fun K hK => ?_); go_simp; refine hK.out _ ?_; clear hK K)
                          exact WR_nil rfl
                        refine plan_done ?_
                        go_wp2_with fail
                        go_meet
                        case rel => exact ⟨out, HREL.out⟩
                  case rest =>
                    go_upto_region 26 with fail
                    refine abs_wp fun w10 hw10 => ?_
                    rw [← hw10] at hcut
                    obtain ⟨outL, hL1, hL2, hL3, hL4⟩ := hcut
                    have HL := Lib.hid hL1
                    have HLL := Lib.hid hL2
                    have HLT := Lib.hid hL3
                    have HX_w10 := Lib.hid ((hL4.block _ (at_lt HX_w9.out)).trans HX_w9.out)
                    have HBC_w10 := Lib.hid (HBC_w9.out.trans (hL4.mono HBC_w9.out.size))
                    have HBW_w10 := Lib.hid (HWW.out.trans (HBC_w10.out.mono HWW.out.size))
                    clear hw10 hL1 hL2 hL3 hL4
                    cases st
                    · obtain ⟨z0, z1, z2, z3, z4, z5, z6, z7⟩ := cells8 HX_w10.out
                      have HX_W := HX_w10
                      go_upto_region 28 with fail
                      go_cut [18] (fun rv wx => ∃ out, Bools wx rv out ∧ out.length = nr - p + 1 ∧ (∀ q, q ≤ nr - p → (tr out q ↔ fitsE r.right true ((row.drop p).take q) = true)) ∧ Below w10.heap.size w10 wx)
                      case first =>
                        as_aux_lemma =>
                          rcases HPTR.out with ⟨hz, hpn⟩ | ⟨hz, ad, hpn⟩ | ⟨bb, oo, hpn⟩
                          · subst hpn
                            have hr0 : row = [] := List.eq_nil_of_length_eq_zero (by rw [← HNR.out]; exact hz)
                            obtain rfl : p = 0 := by omega
                            subst hz
                            have HSI := Lib.hid (show Ints w (.slice none 0 ctr) (row.drop 0) from by rw [hr0]; have := HI.out; rw [hr0] at this; exact this)
                            refine wp_region_plan (fun W => Below w10.heap.size w10 W) (.reads [0, 1, 2, 3, 4] (.one 5 (.reads [6] .done))) 211 (by kernel_rfl) (by kernel_rfl) rfl (fun _ _ _ _ _ h => h) (Below.refl _ _).drew ?_
                            apply plan_readsW
                            · intro W hW
                              obtain ⟨z0, z1, z2, z3, z4, z5, z6, z7⟩ := cells8 ((hW.block _ (at_lt HX_w10.out)).trans HX_w10.out)
                              clear hW
                              iterate 5 (refine WR_step (fun K hK => ?_); go_simp; refine hK.out _ ?_; clear hK K)
                              exact WR_nil rfl
                            refine abs_plan fun W0 hW0 => ?_
                            have HZ0 := Lib.hid (show Below w10.heap.size w10 W0 by rw [hW0]; exact (Below.refl _ _).drew)
                            clear hW0
                            have HCA := Lib.hid (whole8 (row.drop 0) (by rw [List.length_drop, ← HNR.out]; omega) r.right HGOOD_right.out W0 (.slice none 0 ctr) _ _ _ (HSI.out.to (HBW_w10.out.trans (HZ0.out.mono HBW_w10.out.size)) (Nat.le_refl _)) ((HND_right.out.to HBC_w10.out (Nat.le_refl _)).to HZ0.out (Nat.le_refl _)))
                            refine plan_one rfl ?_
                            go_wp2_with fail
                            refine HCA.out.mono ?_
                            rintro e W1 ⟨v1, out, rfl, hout, hol, htr, hb1⟩
                            have HREL := Lib.hid (show Bools W1 v1 out ∧ out.length = 0 - 0 + 1 ∧ (∀ q, q ≤ 0 - 0 → (tr out q ↔ fitsE r.right true ((row.drop 0).take q) = true)) ∧ Below w10.heap.size w10 W1 from ⟨hout, by rw [hol, List.length_drop, ← HNR.out], fun q hq => htr q (by rw [List.length_drop, ← HNR.out]; exact hq), HZ0.out.trans (hb1.mono HZ0.out.size)⟩)
                            clear hout hol htr hb1 HCA
                            go_wp2_with fail
                            refine Then.mk HREL.out.2.2.2 ?_
                            apply plan_readsW
                            · intro W hW
                              clear hW
                              iterate 1 (refine WR_step (fun K hK => ?_); go_simp; refine hK.out _ ?_; clear hK K)
                              exact WR_nil rfl
                            refine plan_done ?_
                            go_wp2_with fail
                            go_meet
                            case rel => exact ⟨out, HREL.out⟩
                          · subst hpn
                            have hr0 : row = [] := List.eq_nil_of_length_eq_zero (by rw [← HNR.out]; exact hz)
                            obtain rfl : p = 0 := by omega
                            subst hz
                            have HSI := Lib.hid (show Ints w (.slice (some ad) 0 ctr) (row.drop 0) from by rw [hr0]; have := HI.out; rw [hr0] at this; exact this)
                            refine wp_region_plan (fun W => Below w10.heap.size w10 W) (.reads [0, 1, 2, 3, 4] (.one 5 (.reads [6] .done))) 211 (by kernel_rfl) (by kernel_rfl) rfl (fun _ _ _ _ _ h => h) (Below.refl _ _).drew ?_
                            apply plan_readsW
                            · intro W hW
                              obtain ⟨z0, z1, z2, z3, z4, z5, z6, z7⟩ := cells8 ((hW.block _ (at_lt HX_w10.out)).trans HX_w10.out)
                              clear hW
                              iterate 5 (refine WR_step (fun K hK => ?_); go_simp; refine hK.out _ ?_; clear hK K)
                              exact WR_nil rfl
                            refine abs_plan fun W0 hW0 => ?_
                            have HZ0 := Lib.hid (show Below w10.heap.size w10 W0 by rw [hW0]; exact (Below.refl _ _).drew)
                            clear hW0
                            have HCA := Lib.hid (whole8 (row.drop 0) (by rw [List.length_drop, ← HNR.out]; omega) r.right HGOOD_right.out W0 (.slice (some ad) 0 ctr) _ _ _ (HSI.out.to (HBW_w10.out.trans (HZ0.out.mono HBW_w10.out.size)) (Nat.le_refl _)) ((HND_right.out.to HBC_w10.out (Nat.le_refl _)).to HZ0.out (Nat.le_refl _)))
                            refine plan_one rfl ?_
                            go_wp2_with fail
                            refine HCA.out.mono ?_
                            rintro e W1 ⟨v1, out, rfl, hout, hol, htr, hb1⟩
                            have HREL := Lib.hid (show Bools W1 v1 out ∧ out.length = 0 - 0 + 1 ∧ (∀ q, q ≤ 0 - 0 → (tr out q ↔ fitsE r.right true ((row.drop 0).take q) = true)) ∧ Below w10.heap.size w10 W1 from ⟨hout, by rw [hol, List.length_drop, ← HNR.out], fun q hq => htr q (by rw [List.length_drop, ← HNR.out]; exact hq), HZ0.out.trans (hb1.mono HZ0.out.size)⟩)
                            clear hout hol htr hb1 HCA
                            go_wp2_with fail
                            refine Then.mk HREL.out.2.2.2 ?_
                            apply plan_readsW
                            · intro W hW
                              clear hW
                              iterate 1 (refine WR_step (fun K hK => ?_); go_simp; refine hK.out _ ?_; clear hK K)
                              exact WR_nil rfl
                            refine plan_done ?_
                            go_wp2_with fail
                            go_meet
                            case rel => exact ⟨out, HREL.out⟩
                          · subst hpn
                            have hpc : p ≤ ctr := by omega
                            by_cases hpc2 : ctr = p
                            · have hnc : nr ≤ ctr := by omega
                              have HPC2 := Lib.hid hpc2
                              have hpc2p : (ctr = p) = True := eq_true hpc2
                              clear hpc2
                              have HSI := Lib.hid (show Ints w (.slice (some ⟨bb, oo, none⟩) (nr - p) (ctr - p)) (row.drop p) from HI.out.drop0 hp (by have := HPC2.out; omega))
                              refine wp_region_plan (fun W => Below w10.heap.size w10 W) (.reads [0, 1, 2, 3, 4] (.one 5 (.reads [6] .done))) 211 (by kernel_rfl) (by kernel_rfl) rfl (fun _ _ _ _ _ h => h) (Below.refl _ _).drew ?_
                              apply plan_readsW
                              · intro W hW
                                obtain ⟨z0, z1, z2, z3, z4, z5, z6, z7⟩ := cells8 ((hW.block _ (at_lt HX_w10.out)).trans HX_w10.out)
                                clear hW
                                iterate 5 (refine WR_step (fun K hK => ?_); go_simp; refine hK.out _ ?_; clear hK K)
                                exact WR_nil rfl
                              refine abs_plan fun W0 hW0 => ?_
                              have HZ0 := Lib.hid (show Below w10.heap.size w10 W0 by rw [hW0]; exact (Below.refl _ _).drew)
                              clear hW0
                              have HCA := Lib.hid (whole8 (row.drop p) (by rw [List.length_drop, ← HNR.out]; omega) r.right HGOOD_right.out W0 (.slice (some ⟨bb, oo, none⟩) (nr - p) (ctr - p)) _ _ _ (HSI.out.to (HBW_w10.out.trans (HZ0.out.mono HBW_w10.out.size)) (Nat.le_refl _)) ((HND_right.out.to HBC_w10.out (Nat.le_refl _)).to HZ0.out (Nat.le_refl _)))
                              refine plan_one rfl ?_
                              go_wp2_with fail
                              refine HCA.out.mono ?_
                              rintro e W1 ⟨v1, out, rfl, hout, hol, htr, hb1⟩
                              have HREL := Lib.hid (show Bools W1 v1 out ∧ out.length = nr - p + 1 ∧ (∀ q, q ≤ nr - p → (tr out q ↔ fitsE r.right true ((row.drop p).take q) = true)) ∧ Below w10.heap.size w10 W1 from ⟨hout, by rw [hol, List.length_drop, ← HNR.out], fun q hq => htr q (by rw [List.length_drop, ← HNR.out]; exact hq), HZ0.out.trans (hb1.mono HZ0.out.size)⟩)
                              clear hout hol htr hb1 HCA
                              go_wp2_with fail
                              refine Then.mk HREL.out.2.2.2 ?_
                              apply plan_readsW
                              · intro W hW
                                clear hW
                                iterate 1 (refine WR_step (fun K hK => ?_); go_simp; refine hK.out _ ?_; clear hK K)
                                exact WR_nil rfl
                              refine plan_done ?_
                              go_wp2_with fail
                              go_meet
                              case rel => exact ⟨out, HREL.out⟩
                            · have hnc : nr ≤ ctr := by omega
                              have HSI := Lib.hid (show Ints w (.slice (some ⟨bb, oo + p, none⟩) (nr - p) (ctr - p)) (row.drop p) from HI.out.drop hp)
                              refine wp_region_plan (fun W => Below w10.heap.size w10 W) (.reads [0, 1, 2, 3, 4] (.one 5 (.reads [6] .done))) 211 (by kernel_rfl) (by kernel_rfl) rfl (fun _ _ _ _ _ h => h) (Below.refl _ _).drew ?_
                              apply plan_readsW
                              · intro W hW
                                obtain ⟨z0, z1, z2, z3, z4, z5, z6, z7⟩ := cells8 ((hW.block _ (at_lt HX_w10.out)).trans HX_w10.out)
                                clear hW
                                iterate 5 (refine WR_step (fun K hK => ?_); go_simp; refine hK.out _ ?_; clear hK K)
                                exact WR_nil rfl
                              refine abs_plan fun W0 hW0 => ?_
                              have HZ0 := Lib.hid (show Below w10.heap.size w10 W0 by rw [hW0]; exact (Below.refl _ _).drew)
                              clear hW0
                              have HCA := Lib.hid (whole8 (row.drop p) (by rw [List.length_drop, ← HNR.out]; omega) r.right HGOOD_right.out W0 (.slice (some ⟨bb, oo + p, none⟩) (nr - p) (ctr - p)) _ _ _ (HSI.out.to (HBW_w10.out.trans (HZ0.out.mono HBW_w10.out.size)) (Nat.le_refl _)) ((HND_right.out.to HBC_w10.out (Nat.le_refl _)).to HZ0.out (Nat.le_refl _)))
                              refine plan_one rfl ?_
                              go_wp2_with fail
                              refine HCA.out.mono ?_
                              rintro e W1 ⟨v1, out, rfl, hout, hol, htr, hb1⟩
                              have HREL := Lib.hid (show Bools W1 v1 out ∧ out.length = nr - p + 1 ∧ (∀ q, q ≤ nr - p → (tr out q ↔ fitsE r.right true ((row.drop p).take q) = true)) ∧ Below w10.heap.size w10 W1 from ⟨hout, by rw [hol, List.length_drop, ← HNR.out], fun q hq => htr q (by rw [List.length_drop, ← HNR.out]; exact hq), HZ0.out.trans (hb1.mono HZ0.out.size)⟩)
                              clear hout hol htr hb1 HCA
                              go_wp2_with fail
                              refine Then.mk HREL.out.2.2.2 ?_
                              apply plan_readsW
                              · intro W hW
                                clear hW
                                iterate 1 (refine WR_step (fun K hK => ?_); go_simp; refine hK.out _ ?_; clear hK K)
                                exact WR_nil rfl
                              refine plan_done ?_
                              go_wp2_with fail
                              go_meet
                              case rel => exact ⟨out, HREL.out⟩
                      case rest =>
                        go_upto_region 29 with fail
                        refine abs_wp fun w12 hw12 => ?_
                        rw [← hw12] at hcut
                        obtain ⟨outR, hR1, hR2, hR3, hR4⟩ := hcut
                        have HR := Lib.hid hR1
                        have HRL := Lib.hid hR2
                        have HRT := Lib.hid hR3
                        have HBC_w12 := Lib.hid (HBC_w10.out.trans (hR4.mono HBC_w10.out.size))
                        have HL12 := Lib.hid (HL.out.to hR4 (Nat.le_refl _))
                        obtain ⟨pL, cL, rfl, hcL, hgL⟩ := HL12.out.get
                        obtain ⟨pR, cR, rfl, hcR, hgR⟩ := hR1.get
                        have HGL := Lib.hid hgL
                        have HGR := Lib.hid hgR
                        obtain ⟨nq, hnq⟩ : ∃ nq, nq = nr - p := ⟨_, rfl⟩
                        have HNQ := Lib.hid hnq
                        rw [← hnq] at hR2
                        have HLL9 := Lib.hid HLL.out
                        rw [hR2] at hcR ⊢
                        rw [HLL.out] at hcL ⊢
                        have HRL2 := Lib.hid hR2
                        have hnq20 : nq ≤ 20 := by omega
                        clear hw12 hR1 hR2 hR3 hR4 hgL hgR hnq HX_W
                        go_wp2_with fail
                        go_loopw [19, 20] (fun b i wz => ∃ j : Nat, i = .int .i64 j ∧ j ≤ nq + 1 ∧ b = .bool (anyK outR j) ∧ Below w12.heap.size w12 wz) (fun _ i _ => nq + 1 - (intOf i).toNat)
                        case atStart => exact ⟨0, rfl, by omega, by unfold anyK; rw [decide_eq_false (fun ⟨j, h, _⟩ => by omega)], Below.refl _ _⟩
                        case round =>
                          obtain ⟨j, rfl, hj, rfl, hb⟩ := hrel
                          have HJ := Lib.hid hb
                          by_cases hjn : j < nq + 1
                          · have hji : (j : Int) < (nq : Int) + 1 := by omega
                            have hj0 : (0 : Int) ≤ j := by omega
                            have hjl : j < outR.length := by rw [HRL2.out]; exact hjn
                            obtain ⟨bR, oR, rfl, hbR, hxR⟩ := HGR.out (by omega)
                            have d0 := cell_below hb hbR (hxR j hjl)
                            have HSUC := Lib.hid (anyK_succ outR j (List.getElem?_eq_getElem hjl))
                            generalize outR[j] = cur at *
                            generalize anyK outR j = acc at *
                            clear hb hxR hbR hjl
                            cases acc
                            · go_wp2_with fail
                              go_roundw
                              case rel => exact ⟨j + 1, by go_num, by omega, by rw [HSUC.out, Bool.false_or], HJ.out⟩
                              case measure => simp [intOf]; omega
                            · go_wp2_with fail
                              go_roundw
                              case rel => exact ⟨j + 1, by go_num, by omega, by rw [HSUC.out, Bool.true_or], HJ.out⟩
                              case measure => simp [intOf]; omega
                          · have hji : ¬ (j : Int) < (nq : Int) + 1 := by omega
                            have HJN := Lib.hid (show j = nq + 1 from by omega)
                            obtain ⟨fb2, hfb2⟩ : ∃ fb2, fb2 = anyK outR j := ⟨_, rfl⟩
                            rw [← hfb2]
                            have HF2 := Lib.hid hfb2
                            have hplt : p < outL.length := by rw [HLL.out]; omega
                            obtain ⟨bL, oL, rfl, hbL, hxL⟩ := HGL.out (by omega)
                            have d0 := cell_below hb hbL (hxL p hplt)
                            obtain ⟨fb1, hfb1⟩ : ∃ fb1, fb1 = outL[p] := ⟨_, rfl⟩
                            rw [← hfb1] at d0
                            have HWR := Lib.hid (HBC_w12.out.trans (hb.mono HBC_w12.out.size))
                            obtain ⟨bA, oA, rfl, d1⟩ := HA8.out wr HWR.out p (by omega)
                            obtain ⟨bB, oB, rfl, d2⟩ := HV8.out wr HWR.out nq (by have := HNQ.out; omega)
                            have hnk : IntKind.i64.wrap ((nr : Int) - p) = (nq : Nat) := by
                              rw [show (nr : Int) - p = (nq : Nat) by have := HNQ.out; omega]
                              exact IntWalk.i64_in _ (by omega)
                            have hnk0 : (0 : Int) ≤ nq := by omega
                            have hnk1 : (nq : Int) < (nr : Int) + 1 := by have := HNQ.out; omega
                            have hpi1 : (p : Int) < (nr : Int) + 1 := by omega
                            have hpi2 : (p : Int) < (p : Int) + 1 := by omega
                            have hkl : k < (leftsL rs).length := by unfold leftsL; rw [List.length_map, ← HM.out]; exact hkm
                            have hkl2 : k < (rightsL rs).length := by unfold rightsL; rw [List.length_map, ← HM.out]; exact hkm
                            have hge : ∀ h, rs[k]'h = r := fun h => by have := HRK.out; rw [List.getElem?_eq_getElem h] at this; exact Option.some.inj this
                            have hbq1 : (bits .and .u64 ((at0 O (stA N row p) : Nat) / 2 ^ k) 1 == 1) = fb1 := by
                              rw [st_bits (lefts_right HCOK.out.2.1) HBU.out.1 HROW.out p, bit_runs9 (by rw [List.length_map]; unfold leftsL; rw [List.length_map, ← HM.out]; exact hr8) (by rw [List.length_map]; exact hkl), List.getElem_map]
                              have e1 : fb1 = fitsE r.left false (row.take p) := by
                                rw [hfb1, Bool.eq_iff_iff, ← tr_get hplt]
                                have h := HLT.out p (Nat.le_refl _)
                                rw [List.take_take, Nat.min_self] at h
                                exact h
                              have e2 : (leftsL rs)[k]'hkl = (r.left, false) := by
                                simp only [leftsL, List.getElem_map, hge]
                                rw [← HST.out]
                              rw [e2, e1]
                              cases fitsE r.left false (row.take p) <;> rfl
                            have hbq2 : (bits .and .u64 ((at0 U (stA M row.reverse nq) : Nat) / 2 ^ k) 1 == 1) = fb2 := by
                              rw [st_bits (rights_right HCOK.out.2.1) HBU.out.2 (rowOk_rev HROW.out) nq, bit_runs9 (by rw [List.length_map]; unfold rightsL; rw [List.length_map, ← HM.out]; exact hr8) (by rw [List.length_map]; exact hkl2), List.getElem_map]
                              have e2 : (rightsL rs)[k]'hkl2 = (revX r.right, false) := by simp only [rightsL, List.getElem_map, hge]
                              have e1 : fb2 = fitsE (revX r.right) false (row.reverse.take nq) := by
                                rw [hfb2, HNQ.out, HNR.out, take_rev row (by rw [← HNR.out]; exact hp), Bool.eq_iff_iff, begins_iff]
                                unfold anyK
                                rw [decide_eq_true_iff, List.length_drop, ← HNR.out, HJN.out, HNQ.out]
                                exact ⟨fun ⟨q, h1, h2⟩ => ⟨q, by omega, (HRT.out q (by omega)).1 h2⟩, fun ⟨q, h1, h2⟩ => ⟨q, by omega, (HRT.out q h1).2 h2⟩⟩
                              rw [e2, e1]
                              cases fitsE (revX r.right) false (row.reverse.take nq) <;> rfl
                            have hne1 : (fb1 != fb1) = false := by cases fb1 <;> rfl
                            have hne2 : (fb2 != fb2) = false := by cases fb2 <;> rfl
                            generalize at0 O (stA N row p) = oo1 at *
                            generalize at0 U (stA M row.reverse nq) = oo2 at *
                            clear hb hxL hbL hplt hfb1 hfb2 hkl hkl2 hge
                            go_upto_region 34 with fail
                            go_quiet (fail)
                            go_wp2_with fail
                            exact ⟨⟨k + 1, by go_num, by omega, ⟨HWR.out.os, HWR.out.tape, HWR.out.output, HWR.out.size, HWR.out.block⟩⟩, by simp [intOf]; omega⟩
                    · obtain ⟨z0, z1, z2, z3, z4, z5, z6, z7⟩ := cells8 HX_w10.out
                      clear HL HLL HLT
                      go_upto_region 27 with fail
                      go_cut [17] (fun rv wx => ∃ out, Bools wx rv out ∧ out.length = p + 1 ∧ (∀ q, q ≤ p → (tr out q ↔ fitsE r.left true ((row.take p).take q) = true)) ∧ Below w10.heap.size w10 wx)
                      case first =>
                        as_aux_lemma =>
                          rcases HPTR.out with ⟨hz, hpn⟩ | ⟨hz, ad, hpn⟩ | ⟨bb, oo, hpn⟩
                          · subst hpn
                            have hr0 : row = [] := List.eq_nil_of_length_eq_zero (by rw [← HNR.out]; exact hz)
                            obtain rfl : p = 0 := by omega
                            subst hz
                            have HSI := Lib.hid (show Ints w (.slice none 0 ctr) (row.take 0) from by rw [hr0]; have := HI.out; rw [hr0] at this; exact this)
                            refine wp_region_plan (fun W => Below w10.heap.size w10 W) (.reads [0, 1, 2, 3, 4] (.one 5 (.reads [6] .done))) 211 (by kernel_rfl) (by kernel_rfl) rfl (fun _ _ _ _ _ h => h) (Below.refl _ _).drew ?_
                            apply plan_readsW
                            · intro W hW
                              obtain ⟨z0, z1, z2, z3, z4, z5, z6, z7⟩ := cells8 ((hW.block _ (at_lt HX_w10.out)).trans HX_w10.out)
                              clear hW
                              iterate 5 (refine WR_step (fun K hK => ?_); go_simp; refine hK.out _ ?_; clear hK K)
                              exact WR_nil rfl
                            refine abs_plan fun W0 hW0 => ?_
                            have HZ0 := Lib.hid (show Below w10.heap.size w10 W0 by rw [hW0]; exact (Below.refl _ _).drew)
                            clear hW0
                            have HCA := Lib.hid (whole8 (row.take 0) (by rw [List.length_take, ← HNR.out]; omega) r.left HGOOD_left.out W0 (.slice none 0 ctr) _ _ _ (HSI.out.to (HBW_w10.out.trans (HZ0.out.mono HBW_w10.out.size)) (Nat.le_refl _)) ((HND_left.out.to HBC_w10.out (Nat.le_refl _)).to HZ0.out (Nat.le_refl _)))
                            refine plan_one rfl ?_
                            go_wp2_with fail
                            refine HCA.out.mono ?_
                            rintro e W1 ⟨v1, out, rfl, hout, hol, htr, hb1⟩
                            have HREL := Lib.hid (show Bools W1 v1 out ∧ out.length = 0 + 1 ∧ (∀ q, q ≤ 0 → (tr out q ↔ fitsE r.left true ((row.take 0).take q) = true)) ∧ Below w10.heap.size w10 W1 from ⟨hout, by rw [hol, List.length_take, ← HNR.out, Nat.min_eq_left hp], fun q hq => htr q (by rw [List.length_take, ← HNR.out]; omega), HZ0.out.trans (hb1.mono HZ0.out.size)⟩)
                            clear hout hol htr hb1 HCA
                            go_wp2_with fail
                            refine Then.mk HREL.out.2.2.2 ?_
                            apply plan_readsW
                            · intro W hW
                              clear hW
                              iterate 1 (refine WR_step (fun K hK => ?_); go_simp; refine hK.out _ ?_; clear hK K)
                              exact WR_nil rfl
                            refine plan_done ?_
                            go_wp2_with fail
                            go_meet
                            case rel => exact ⟨out, HREL.out⟩
                          · subst hpn
                            have hr0 : row = [] := List.eq_nil_of_length_eq_zero (by rw [← HNR.out]; exact hz)
                            obtain rfl : p = 0 := by omega
                            subst hz
                            have HSI := Lib.hid (show Ints w (.slice (some ad) 0 ctr) (row.take 0) from by rw [hr0]; have := HI.out; rw [hr0] at this; exact this)
                            refine wp_region_plan (fun W => Below w10.heap.size w10 W) (.reads [0, 1, 2, 3, 4] (.one 5 (.reads [6] .done))) 211 (by kernel_rfl) (by kernel_rfl) rfl (fun _ _ _ _ _ h => h) (Below.refl _ _).drew ?_
                            apply plan_readsW
                            · intro W hW
                              obtain ⟨z0, z1, z2, z3, z4, z5, z6, z7⟩ := cells8 ((hW.block _ (at_lt HX_w10.out)).trans HX_w10.out)
                              clear hW
                              iterate 5 (refine WR_step (fun K hK => ?_); go_simp; refine hK.out _ ?_; clear hK K)
                              exact WR_nil rfl
                            refine abs_plan fun W0 hW0 => ?_
                            have HZ0 := Lib.hid (show Below w10.heap.size w10 W0 by rw [hW0]; exact (Below.refl _ _).drew)
                            clear hW0
                            have HCA := Lib.hid (whole8 (row.take 0) (by rw [List.length_take, ← HNR.out]; omega) r.left HGOOD_left.out W0 (.slice (some ad) 0 ctr) _ _ _ (HSI.out.to (HBW_w10.out.trans (HZ0.out.mono HBW_w10.out.size)) (Nat.le_refl _)) ((HND_left.out.to HBC_w10.out (Nat.le_refl _)).to HZ0.out (Nat.le_refl _)))
                            refine plan_one rfl ?_
                            go_wp2_with fail
                            refine HCA.out.mono ?_
                            rintro e W1 ⟨v1, out, rfl, hout, hol, htr, hb1⟩
                            have HREL := Lib.hid (show Bools W1 v1 out ∧ out.length = 0 + 1 ∧ (∀ q, q ≤ 0 → (tr out q ↔ fitsE r.left true ((row.take 0).take q) = true)) ∧ Below w10.heap.size w10 W1 from ⟨hout, by rw [hol, List.length_take, ← HNR.out, Nat.min_eq_left hp], fun q hq => htr q (by rw [List.length_take, ← HNR.out]; omega), HZ0.out.trans (hb1.mono HZ0.out.size)⟩)
                            clear hout hol htr hb1 HCA
                            go_wp2_with fail
                            refine Then.mk HREL.out.2.2.2 ?_
                            apply plan_readsW
                            · intro W hW
                              clear hW
                              iterate 1 (refine WR_step (fun K hK => ?_); go_simp; refine hK.out _ ?_; clear hK K)
                              exact WR_nil rfl
                            refine plan_done ?_
                            go_wp2_with fail
                            go_meet
                            case rel => exact ⟨out, HREL.out⟩
                          · subst hpn
                            have hpc : p ≤ ctr := by omega
                            have HSI := Lib.hid (show Ints w (.slice (some ⟨bb, oo, none⟩) p ctr) (row.take p) from HI.out.take hp)
                            refine wp_region_plan (fun W => Below w10.heap.size w10 W) (.reads [0, 1, 2, 3, 4] (.one 5 (.reads [6] .done))) 211 (by kernel_rfl) (by kernel_rfl) rfl (fun _ _ _ _ _ h => h) (Below.refl _ _).drew ?_
                            apply plan_readsW
                            · intro W hW
                              obtain ⟨z0, z1, z2, z3, z4, z5, z6, z7⟩ := cells8 ((hW.block _ (at_lt HX_w10.out)).trans HX_w10.out)
                              clear hW
                              iterate 5 (refine WR_step (fun K hK => ?_); go_simp; refine hK.out _ ?_; clear hK K)
                              exact WR_nil rfl
                            refine abs_plan fun W0 hW0 => ?_
                            have HZ0 := Lib.hid (show Below w10.heap.size w10 W0 by rw [hW0]; exact (Below.refl _ _).drew)
                            clear hW0
                            have HCA := Lib.hid (whole8 (row.take p) (by rw [List.length_take, ← HNR.out]; omega) r.left HGOOD_left.out W0 (.slice (some ⟨bb, oo, none⟩) p ctr) _ _ _ (HSI.out.to (HBW_w10.out.trans (HZ0.out.mono HBW_w10.out.size)) (Nat.le_refl _)) ((HND_left.out.to HBC_w10.out (Nat.le_refl _)).to HZ0.out (Nat.le_refl _)))
                            refine plan_one rfl ?_
                            go_wp2_with fail
                            refine HCA.out.mono ?_
                            rintro e W1 ⟨v1, out, rfl, hout, hol, htr, hb1⟩
                            have HREL := Lib.hid (show Bools W1 v1 out ∧ out.length = p + 1 ∧ (∀ q, q ≤ p → (tr out q ↔ fitsE r.left true ((row.take p).take q) = true)) ∧ Below w10.heap.size w10 W1 from ⟨hout, by rw [hol, List.length_take, ← HNR.out, Nat.min_eq_left hp], fun q hq => htr q (by rw [List.length_take, ← HNR.out]; omega), HZ0.out.trans (hb1.mono HZ0.out.size)⟩)
                            clear hout hol htr hb1 HCA
                            go_wp2_with fail
                            refine Then.mk HREL.out.2.2.2 ?_
                            apply plan_readsW
                            · intro W hW
                              clear hW
                              iterate 1 (refine WR_step (fun K hK => ?_); go_simp; refine hK.out _ ?_; clear hK K)
                              exact WR_nil rfl
                            refine plan_done ?_
                            go_wp2_with fail
                            go_meet
                            case rel => exact ⟨out, HREL.out⟩
                      case rest =>
                        go_upto_region 28 with fail
                        refine abs_wp fun w11 hw11 => ?_
                        rw [← hw11] at hcut
                        obtain ⟨outL, hL1, hL2, hL3, hL4⟩ := hcut
                        have HL := Lib.hid hL1
                        have HLL := Lib.hid hL2
                        have HLT := Lib.hid hL3
                        have HX_w11 := Lib.hid ((hL4.block _ (at_lt HX_w10.out)).trans HX_w10.out)
                        have HBC_w11 := Lib.hid (HBC_w10.out.trans (hL4.mono HBC_w10.out.size))
                        have HBW_w11 := Lib.hid (HWW.out.trans (HBC_w11.out.mono HWW.out.size))
                        clear hw11 hL1 hL2 hL3 hL4
                        have HX_W := HX_w11
                        go_upto_region 28 with fail
                        go_cut [18] (fun rv wx => ∃ out, Bools wx rv out ∧ out.length = nr - p + 1 ∧ (∀ q, q ≤ nr - p → (tr out q ↔ fitsE r.right true ((row.drop p).take q) = true)) ∧ Below w11.heap.size w11 wx)
                        case first =>
                          as_aux_lemma =>
                            rcases HPTR.out with ⟨hz, hpn⟩ | ⟨hz, ad, hpn⟩ | ⟨bb, oo, hpn⟩
                            · subst hpn
                              have hr0 : row = [] := List.eq_nil_of_length_eq_zero (by rw [← HNR.out]; exact hz)
                              obtain rfl : p = 0 := by omega
                              subst hz
                              have HSI := Lib.hid (show Ints w (.slice none 0 ctr) (row.drop 0) from by rw [hr0]; have := HI.out; rw [hr0] at this; exact this)
                              refine wp_region_plan (fun W => Below w11.heap.size w11 W) (.reads [0, 1, 2, 3, 4] (.one 5 (.reads [6] .done))) 211 (by kernel_rfl) (by kernel_rfl) rfl (fun _ _ _ _ _ h => h) (Below.refl _ _).drew ?_
                              apply plan_readsW
                              · intro W hW
                                obtain ⟨z0, z1, z2, z3, z4, z5, z6, z7⟩ := cells8 ((hW.block _ (at_lt HX_w11.out)).trans HX_w11.out)
                                clear hW
                                iterate 5 (refine WR_step (fun K hK => ?_); go_simp; refine hK.out _ ?_; clear hK K)
                                exact WR_nil rfl
                              refine abs_plan fun W0 hW0 => ?_
                              have HZ0 := Lib.hid (show Below w11.heap.size w11 W0 by rw [hW0]; exact (Below.refl _ _).drew)
                              clear hW0
                              have HCA := Lib.hid (whole8 (row.drop 0) (by rw [List.length_drop, ← HNR.out]; omega) r.right HGOOD_right.out W0 (.slice none 0 ctr) _ _ _ (HSI.out.to (HBW_w11.out.trans (HZ0.out.mono HBW_w11.out.size)) (Nat.le_refl _)) ((HND_right.out.to HBC_w11.out (Nat.le_refl _)).to HZ0.out (Nat.le_refl _)))
                              refine plan_one rfl ?_
                              go_wp2_with fail
                              refine HCA.out.mono ?_
                              rintro e W1 ⟨v1, out, rfl, hout, hol, htr, hb1⟩
                              have HREL := Lib.hid (show Bools W1 v1 out ∧ out.length = 0 - 0 + 1 ∧ (∀ q, q ≤ 0 - 0 → (tr out q ↔ fitsE r.right true ((row.drop 0).take q) = true)) ∧ Below w11.heap.size w11 W1 from ⟨hout, by rw [hol, List.length_drop, ← HNR.out], fun q hq => htr q (by rw [List.length_drop, ← HNR.out]; exact hq), HZ0.out.trans (hb1.mono HZ0.out.size)⟩)
                              clear hout hol htr hb1 HCA
                              go_wp2_with fail
                              refine Then.mk HREL.out.2.2.2 ?_
                              apply plan_readsW
                              · intro W hW
                                clear hW
                                iterate 1 (refine WR_step (fun K hK => ?_); go_simp; refine hK.out _ ?_; clear hK K)
                                exact WR_nil rfl
                              refine plan_done ?_
                              go_wp2_with fail
                              go_meet
                              case rel => exact ⟨out, HREL.out⟩
                            · subst hpn
                              have hr0 : row = [] := List.eq_nil_of_length_eq_zero (by rw [← HNR.out]; exact hz)
                              obtain rfl : p = 0 := by omega
                              subst hz
                              have HSI := Lib.hid (show Ints w (.slice (some ad) 0 ctr) (row.drop 0) from by rw [hr0]; have := HI.out; rw [hr0] at this; exact this)
                              refine wp_region_plan (fun W => Below w11.heap.size w11 W) (.reads [0, 1, 2, 3, 4] (.one 5 (.reads [6] .done))) 211 (by kernel_rfl) (by kernel_rfl) rfl (fun _ _ _ _ _ h => h) (Below.refl _ _).drew ?_
                              apply plan_readsW
                              · intro W hW
                                obtain ⟨z0, z1, z2, z3, z4, z5, z6, z7⟩ := cells8 ((hW.block _ (at_lt HX_w11.out)).trans HX_w11.out)
                                clear hW
                                iterate 5 (refine WR_step (fun K hK => ?_); go_simp; refine hK.out _ ?_; clear hK K)
                                exact WR_nil rfl
                              refine abs_plan fun W0 hW0 => ?_
                              have HZ0 := Lib.hid (show Below w11.heap.size w11 W0 by rw [hW0]; exact (Below.refl _ _).drew)
                              clear hW0
                              have HCA := Lib.hid (whole8 (row.drop 0) (by rw [List.length_drop, ← HNR.out]; omega) r.right HGOOD_right.out W0 (.slice (some ad) 0 ctr) _ _ _ (HSI.out.to (HBW_w11.out.trans (HZ0.out.mono HBW_w11.out.size)) (Nat.le_refl _)) ((HND_right.out.to HBC_w11.out (Nat.le_refl _)).to HZ0.out (Nat.le_refl _)))
                              refine plan_one rfl ?_
                              go_wp2_with fail
                              refine HCA.out.mono ?_
                              rintro e W1 ⟨v1, out, rfl, hout, hol, htr, hb1⟩
                              have HREL := Lib.hid (show Bools W1 v1 out ∧ out.length = 0 - 0 + 1 ∧ (∀ q, q ≤ 0 - 0 → (tr out q ↔ fitsE r.right true ((row.drop 0).take q) = true)) ∧ Below w11.heap.size w11 W1 from ⟨hout, by rw [hol, List.length_drop, ← HNR.out], fun q hq => htr q (by rw [List.length_drop, ← HNR.out]; exact hq), HZ0.out.trans (hb1.mono HZ0.out.size)⟩)
                              clear hout hol htr hb1 HCA
                              go_wp2_with fail
                              refine Then.mk HREL.out.2.2.2 ?_
                              apply plan_readsW
                              · intro W hW
                                clear hW
                                iterate 1 (refine WR_step (fun K hK => ?_); go_simp; refine hK.out _ ?_; clear hK K)
                                exact WR_nil rfl
                              refine plan_done ?_
                              go_wp2_with fail
                              go_meet
                              case rel => exact ⟨out, HREL.out⟩
                            · subst hpn
                              have hpc : p ≤ ctr := by omega
                              by_cases hpc2 : ctr = p
                              · have hnc : nr ≤ ctr := by omega
                                have HPC2 := Lib.hid hpc2
                                have hpc2p : (ctr = p) = True := eq_true hpc2
                                clear hpc2
                                have HSI := Lib.hid (show Ints w (.slice (some ⟨bb, oo, none⟩) (nr - p) (ctr - p)) (row.drop p) from HI.out.drop0 hp (by have := HPC2.out; omega))
                                refine wp_region_plan (fun W => Below w11.heap.size w11 W) (.reads [0, 1, 2, 3, 4] (.one 5 (.reads [6] .done))) 211 (by kernel_rfl) (by kernel_rfl) rfl (fun _ _ _ _ _ h => h) (Below.refl _ _).drew ?_
                                apply plan_readsW
                                · intro W hW
                                  obtain ⟨z0, z1, z2, z3, z4, z5, z6, z7⟩ := cells8 ((hW.block _ (at_lt HX_w11.out)).trans HX_w11.out)
                                  clear hW
                                  iterate 5 (refine WR_step (fun K hK => ?_); go_simp; refine hK.out _ ?_; clear hK K)
                                  exact WR_nil rfl
                                refine abs_plan fun W0 hW0 => ?_
                                have HZ0 := Lib.hid (show Below w11.heap.size w11 W0 by rw [hW0]; exact (Below.refl _ _).drew)
                                clear hW0
                                have HCA := Lib.hid (whole8 (row.drop p) (by rw [List.length_drop, ← HNR.out]; omega) r.right HGOOD_right.out W0 (.slice (some ⟨bb, oo, none⟩) (nr - p) (ctr - p)) _ _ _ (HSI.out.to (HBW_w11.out.trans (HZ0.out.mono HBW_w11.out.size)) (Nat.le_refl _)) ((HND_right.out.to HBC_w11.out (Nat.le_refl _)).to HZ0.out (Nat.le_refl _)))
                                refine plan_one rfl ?_
                                go_wp2_with fail
                                refine HCA.out.mono ?_
                                rintro e W1 ⟨v1, out, rfl, hout, hol, htr, hb1⟩
                                have HREL := Lib.hid (show Bools W1 v1 out ∧ out.length = nr - p + 1 ∧ (∀ q, q ≤ nr - p → (tr out q ↔ fitsE r.right true ((row.drop p).take q) = true)) ∧ Below w11.heap.size w11 W1 from ⟨hout, by rw [hol, List.length_drop, ← HNR.out], fun q hq => htr q (by rw [List.length_drop, ← HNR.out]; exact hq), HZ0.out.trans (hb1.mono HZ0.out.size)⟩)
                                clear hout hol htr hb1 HCA
                                go_wp2_with fail
                                refine Then.mk HREL.out.2.2.2 ?_
                                apply plan_readsW
                                · intro W hW
                                  clear hW
                                  iterate 1 (refine WR_step (fun K hK => ?_); go_simp; refine hK.out _ ?_; clear hK K)
                                  exact WR_nil rfl
                                refine plan_done ?_
                                go_wp2_with fail
                                go_meet
                                case rel => exact ⟨out, HREL.out⟩
                              · have hnc : nr ≤ ctr := by omega
                                have HSI := Lib.hid (show Ints w (.slice (some ⟨bb, oo + p, none⟩) (nr - p) (ctr - p)) (row.drop p) from HI.out.drop hp)
                                refine wp_region_plan (fun W => Below w11.heap.size w11 W) (.reads [0, 1, 2, 3, 4] (.one 5 (.reads [6] .done))) 211 (by kernel_rfl) (by kernel_rfl) rfl (fun _ _ _ _ _ h => h) (Below.refl _ _).drew ?_
                                apply plan_readsW
                                · intro W hW
                                  obtain ⟨z0, z1, z2, z3, z4, z5, z6, z7⟩ := cells8 ((hW.block _ (at_lt HX_w11.out)).trans HX_w11.out)
                                  clear hW
                                  iterate 5 (refine WR_step (fun K hK => ?_); go_simp; refine hK.out _ ?_; clear hK K)
                                  exact WR_nil rfl
                                refine abs_plan fun W0 hW0 => ?_
                                have HZ0 := Lib.hid (show Below w11.heap.size w11 W0 by rw [hW0]; exact (Below.refl _ _).drew)
                                clear hW0
                                have HCA := Lib.hid (whole8 (row.drop p) (by rw [List.length_drop, ← HNR.out]; omega) r.right HGOOD_right.out W0 (.slice (some ⟨bb, oo + p, none⟩) (nr - p) (ctr - p)) _ _ _ (HSI.out.to (HBW_w11.out.trans (HZ0.out.mono HBW_w11.out.size)) (Nat.le_refl _)) ((HND_right.out.to HBC_w11.out (Nat.le_refl _)).to HZ0.out (Nat.le_refl _)))
                                refine plan_one rfl ?_
                                go_wp2_with fail
                                refine HCA.out.mono ?_
                                rintro e W1 ⟨v1, out, rfl, hout, hol, htr, hb1⟩
                                have HREL := Lib.hid (show Bools W1 v1 out ∧ out.length = nr - p + 1 ∧ (∀ q, q ≤ nr - p → (tr out q ↔ fitsE r.right true ((row.drop p).take q) = true)) ∧ Below w11.heap.size w11 W1 from ⟨hout, by rw [hol, List.length_drop, ← HNR.out], fun q hq => htr q (by rw [List.length_drop, ← HNR.out]; exact hq), HZ0.out.trans (hb1.mono HZ0.out.size)⟩)
                                clear hout hol htr hb1 HCA
                                go_wp2_with fail
                                refine Then.mk HREL.out.2.2.2 ?_
                                apply plan_readsW
                                · intro W hW
                                  clear hW
                                  iterate 1 (refine WR_step (fun K hK => ?_); go_simp; refine hK.out _ ?_; clear hK K)
                                  exact WR_nil rfl
                                refine plan_done ?_
                                go_wp2_with fail
                                go_meet
                                case rel => exact ⟨out, HREL.out⟩
                        case rest =>
                          go_upto_region 29 with fail
                          refine abs_wp fun w12 hw12 => ?_
                          rw [← hw12] at hcut
                          obtain ⟨outR, hR1, hR2, hR3, hR4⟩ := hcut
                          have HR := Lib.hid hR1
                          have HRL := Lib.hid hR2
                          have HRT := Lib.hid hR3
                          have HBC_w12 := Lib.hid (HBC_w11.out.trans (hR4.mono HBC_w11.out.size))
                          have HL12 := Lib.hid (HL.out.to hR4 (Nat.le_refl _))
                          obtain ⟨pL, cL, rfl, hcL, hgL⟩ := HL12.out.get
                          obtain ⟨pR, cR, rfl, hcR, hgR⟩ := hR1.get
                          have HGL := Lib.hid hgL
                          have HGR := Lib.hid hgR
                          obtain ⟨nq, hnq⟩ : ∃ nq, nq = nr - p := ⟨_, rfl⟩
                          have HNQ := Lib.hid hnq
                          rw [← hnq] at hR2
                          have HLL9 := Lib.hid HLL.out
                          rw [hR2] at hcR ⊢
                          rw [HLL.out] at hcL ⊢
                          have HRL2 := Lib.hid hR2
                          have hnq20 : nq ≤ 20 := by omega
                          clear hw12 hR1 hR2 hR3 hR4 hgL hgR hnq HX_W
                          go_wp2_with fail
                          go_loopw [19, 20] (fun b i wz => ∃ j : Nat, i = .int .i64 j ∧ j ≤ nq + 1 ∧ b = .bool (anyK outR j) ∧ Below w12.heap.size w12 wz) (fun _ i _ => nq + 1 - (intOf i).toNat)
                          case atStart => exact ⟨0, rfl, by omega, by unfold anyK; rw [decide_eq_false (fun ⟨j, h, _⟩ => by omega)], Below.refl _ _⟩
                          case round =>
                            obtain ⟨j, rfl, hj, rfl, hb⟩ := hrel
                            have HJ := Lib.hid hb
                            by_cases hjn : j < nq + 1
                            · have hji : (j : Int) < (nq : Int) + 1 := by omega
                              have hj0 : (0 : Int) ≤ j := by omega
                              have hjl : j < outR.length := by rw [HRL2.out]; exact hjn
                              obtain ⟨bR, oR, rfl, hbR, hxR⟩ := HGR.out (by omega)
                              have d0 := cell_below hb hbR (hxR j hjl)
                              have HSUC := Lib.hid (anyK_succ outR j (List.getElem?_eq_getElem hjl))
                              generalize outR[j] = cur at *
                              generalize anyK outR j = acc at *
                              clear hb hxR hbR hjl
                              cases acc
                              · go_wp2_with fail
                                go_roundw
                                case rel => exact ⟨j + 1, by go_num, by omega, by rw [HSUC.out, Bool.false_or], HJ.out⟩
                                case measure => simp [intOf]; omega
                              · go_wp2_with fail
                                go_roundw
                                case rel => exact ⟨j + 1, by go_num, by omega, by rw [HSUC.out, Bool.true_or], HJ.out⟩
                                case measure => simp [intOf]; omega
                            · have hji : ¬ (j : Int) < (nq : Int) + 1 := by omega
                              have HJN := Lib.hid (show j = nq + 1 from by omega)
                              obtain ⟨fb2, hfb2⟩ : ∃ fb2, fb2 = anyK outR j := ⟨_, rfl⟩
                              rw [← hfb2]
                              have HF2 := Lib.hid hfb2
                              have hplt : p < outL.length := by rw [HLL.out]; omega
                              obtain ⟨bL, oL, rfl, hbL, hxL⟩ := HGL.out (by omega)
                              have d0 := cell_below hb hbL (hxL p hplt)
                              obtain ⟨fb1, hfb1⟩ : ∃ fb1, fb1 = outL[p] := ⟨_, rfl⟩
                              rw [← hfb1] at d0
                              have HWR := Lib.hid (HBC_w12.out.trans (hb.mono HBC_w12.out.size))
                              obtain ⟨bA, oA, rfl, d1⟩ := HA8.out wr HWR.out p (by omega)
                              obtain ⟨bB, oB, rfl, d2⟩ := HV8.out wr HWR.out nq (by have := HNQ.out; omega)
                              have hnk : IntKind.i64.wrap ((nr : Int) - p) = (nq : Nat) := by
                                rw [show (nr : Int) - p = (nq : Nat) by have := HNQ.out; omega]
                                exact IntWalk.i64_in _ (by omega)
                              have hnk0 : (0 : Int) ≤ nq := by omega
                              have hnk1 : (nq : Int) < (nr : Int) + 1 := by have := HNQ.out; omega
                              have hpi1 : (p : Int) < (nr : Int) + 1 := by omega
                              have hpi2 : (p : Int) < (p : Int) + 1 := by omega
                              have hkl : k < (leftsL rs).length := by unfold leftsL; rw [List.length_map, ← HM.out]; exact hkm
                              have hkl2 : k < (rightsL rs).length := by unfold rightsL; rw [List.length_map, ← HM.out]; exact hkm
                              have hge : ∀ h, rs[k]'h = r := fun h => by have := HRK.out; rw [List.getElem?_eq_getElem h] at this; exact Option.some.inj this
                              have hbq1 : (bits .and .u64 ((at0 O (stA N row p) : Nat) / 2 ^ k) 1 == 1) = fb1 := by
                                rw [st_bits (lefts_right HCOK.out.2.1) HBU.out.1 HROW.out p, bit_runs9 (by rw [List.length_map]; unfold leftsL; rw [List.length_map, ← HM.out]; exact hr8) (by rw [List.length_map]; exact hkl), List.getElem_map]
                                have e1 : fb1 = fitsE r.left true (row.take p) := by
                                  rw [hfb1, Bool.eq_iff_iff, ← tr_get hplt]
                                  have h := HLT.out p (Nat.le_refl _)
                                  rw [List.take_take, Nat.min_self] at h
                                  exact h
                                have e2 : (leftsL rs)[k]'hkl = (r.left, true) := by
                                  simp only [leftsL, List.getElem_map, hge]
                                  rw [← HST.out]
                                rw [e2, e1]
                                cases fitsE r.left true (row.take p) <;> rfl
                              have hbq2 : (bits .and .u64 ((at0 U (stA M row.reverse nq) : Nat) / 2 ^ k) 1 == 1) = fb2 := by
                                rw [st_bits (rights_right HCOK.out.2.1) HBU.out.2 (rowOk_rev HROW.out) nq, bit_runs9 (by rw [List.length_map]; unfold rightsL; rw [List.length_map, ← HM.out]; exact hr8) (by rw [List.length_map]; exact hkl2), List.getElem_map]
                                have e2 : (rightsL rs)[k]'hkl2 = (revX r.right, false) := by simp only [rightsL, List.getElem_map, hge]
                                have e1 : fb2 = fitsE (revX r.right) false (row.reverse.take nq) := by
                                  rw [hfb2, HNQ.out, HNR.out, take_rev row (by rw [← HNR.out]; exact hp), Bool.eq_iff_iff, begins_iff]
                                  unfold anyK
                                  rw [decide_eq_true_iff, List.length_drop, ← HNR.out, HJN.out, HNQ.out]
                                  exact ⟨fun ⟨q, h1, h2⟩ => ⟨q, by omega, (HRT.out q (by omega)).1 h2⟩, fun ⟨q, h1, h2⟩ => ⟨q, by omega, (HRT.out q h1).2 h2⟩⟩
                                rw [e2, e1]
                                cases fitsE (revX r.right) false (row.reverse.take nq) <;> rfl
                              have hne1 : (fb1 != fb1) = false := by cases fb1 <;> rfl
                              have hne2 : (fb2 != fb2) = false := by cases fb2 <;> rfl
                              generalize at0 O (stA N row p) = oo1 at *
                              generalize at0 U (stA M row.reverse nq) = oo2 at *
                              clear hb hxL hbL hplt hfb1 hfb2 hkl hkl2 hge
                              go_upto_region 34 with fail
                              go_quiet (fail)
                              go_wp2_with fail
                              exact ⟨⟨k + 1, by go_num, by omega, ⟨HWR.out.os, HWR.out.tape, HWR.out.output, HWR.out.size, HWR.out.block⟩⟩, by simp [intOf]; omega⟩
                · have hki : ¬ (k : Int) < (m : Int) := by omega
                  go_wp2_with fail
                  go_roundw
                  case rel => exact ⟨p + 1, by go_num, by omega, HK.out⟩
                  case measure => simp [intOf]; omega
            · have hpi : ¬ (p : Int) ≤ (nr : Int) := by omega
              clear hb
              go_wp2_with fail
              go_ret
              exact ⟨rfl, HWW.out.trans (HP.out.mono HWW.out.size)⟩
end Go.Proofs.Ythmaokjhncokdaa

