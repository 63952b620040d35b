/-
  reader.step, places.add. No condition beyond what each theorem names.
-/
import Derived.Test.YtphgjppeindbaaaSpec
import Derived.Test.YtphgjppeindbaaaA
import Derived.Test.YtphgjppeindbaaaMix
import Derived.Deep.CutBlock
import Derived.Deep.DeepCutAuto
set_option linter.unusedVariables false
set_option linter.unusedSimpArgs false
namespace Go.Proofs.Ytphgjppeindbaaa
open Go.RowKit

theorem made_bools (n : Nat) : madeCells #[Value.bool false] n = (List.replicate n (Value.bool false)).toArray := by
  apply Array.ext
  · simp [madeCells]
  · intro i h1 h2
    have e : i % 1 = 0 := Nat.mod_one i
    simp [madeCells, e]

theorem make_bools (t : TypeId) (ht : Try.prog.underlying t = some (.slice 4)) (w : World) (c : Int) (n : Nat) (hc : c = n) (hn : n ≤ 1000001) :
    (Instr.makeSlice t (.int .i64 c) (.int .i64 c)).run Try.prog w = .ok (.slice (some ⟨w.heap.size, 0, none⟩) n n) (w.alloc (.cells (List.replicate n (Value.bool false)).toArray 4)) := by
  subst hc
  obtain ⟨i0, hi, hz0, hz1, hz2⟩ := info_parts infoE4
  have := run_make (P := Try.prog) w t 4 i0 (.bool false) ht hi hz0 .i64 .i64 n n (by omega) (by omega) (by rw [hz2]; omega) (by omega)
  rw [hz1] at this
  simp only [Int.toNat_natCast, Nat.mul_one] at this
  rw [this, show (Value.bool false).cells = #[Value.bool false] from rfl, made_bools]

/-- one character on -/
def one (t : List Int) (cls : List Int) (p q : Nat) : Prop := q = p + 1 ∧ ∃ c, t[p]? = some c ∧ c ∈ cls

theorem any_mem {c : Int} {cls : List Int} : cls.any (fun x => c == x) = true ↔ c ∈ cls := by
  simp

def Got (bs cur : List Bool) (r : Nat → Nat → Prop) (k : Nat) : Prop := cur.length = bs.length ∧ ∀ q, tr cur q ↔ ∃ p, p < k ∧ tr bs p ∧ r p q

theorem Got.skip {bs cur : List Bool} {r : Nat → Nat → Prop} {k : Nat} (h : Got bs cur r k) (hk : k < bs.length) (hn : bs[k] = true → ∀ q, ¬ r k q) : Got bs cur r (k + 1) := by
  refine ⟨h.1, fun q => (h.2 q).trans ⟨fun ⟨p, h1, h2⟩ => ⟨p, by omega, h2⟩, fun ⟨p, h1, h2, h3⟩ => ?_⟩⟩
  by_cases e : p = k
  · subst e
    have : bs[p] = true := by simpa [tr, hk] using h2
    exact absurd h3 (hn this q)
  · exact ⟨p, by omega, h2, h3⟩

theorem Got.put {bs cur : List Bool} {r : Nat → Nat → Prop} {k d : Nat} (h : Got bs cur r k) (hk : k < bs.length) (hb : bs[k] = true) (hto : d < bs.length) (hr : ∀ q, r k q ↔ q = d) : Got bs (cur.set d true) r (k + 1) := by
  refine ⟨by simp [h.1], fun q => ?_⟩
  have hkt : tr bs k := by simp [tr, hk, hb]
  by_cases e : q = d
  · subst e
    refine ⟨fun _ => ⟨k, by omega, hkt, (hr q).2 rfl⟩, fun _ => ?_⟩
    simp [tr, h.1, hto]
  · have : tr (cur.set d true) q ↔ tr cur q := by
      unfold tr; rw [List.getElem?_set_ne (by omega)]
    rw [this, h.2 q]
    refine ⟨fun ⟨p, h1, h2⟩ => ⟨p, by omega, h2⟩, fun ⟨p, h1, h2, h3⟩ => ?_⟩
    by_cases e' : p = k
    · subst e'; exact absurd ((hr q).1 h3) e
    · exact ⟨p, by omega, h2, h3⟩

theorem Got.start (bs : List Bool) (r : Nat → Nat → Prop) : Got bs (List.replicate bs.length false) r 0 := by
  refine ⟨by simp, fun q => ⟨fun h => ?_, fun ⟨p, h, _⟩ => by omega⟩⟩
  unfold tr at h
  rw [List.getElem?_replicate] at h
  split at h <;> simp at h

theorem Got.fin {bs cur : List Bool} {r : Nat → Nat → Prop} {k : Nat} (h : Got bs cur r k) (hk : bs.length ≤ k) : img r bs cur :=
  ⟨h.1, fun q => (h.2 q).trans ⟨fun ⟨p, _, h2⟩ => ⟨p, h2⟩, fun ⟨p, h1, h2⟩ => ⟨p, by have := tr_lt h1; omega, h1, h2⟩⟩⟩

/-- a set in a block of its own, made since a world -/
def Fresh (w : World) (r : Nat → Nat → Prop) (bs : List Bool) (e : Ending) (w' : World) : Prop :=
  ∃ g out, e = .returned (.slice (some ⟨g, 0, none⟩) bs.length bs.length) ∧ w.heap.size ≤ g ∧ BRow w' g out ∧ img r bs out ∧ Below w.heap.size w w'

set_option maxHeartbeats 1000000 in
theorem step_false (w : World) (tv fv cv : Value) (t cls : List Int) (bs : List Bool) (hn : t.length ≤ 1000000) (hl : bs.length = t.length + 1) (hc : cls.length ≤ 9223372036854775807) (ht : Ints w tv t) (hf : Bools w fv bs) (hcl : Ints w cv cls) :
    Calls Try.prog 37 #[.agg #[tv, .bool false], fv, cv] w (Fresh w (Rel false (one t cls)) bs) := by
  obtain ⟨pf, capf, rfl, hcf, hxf⟩ := hf.get
  obtain ⟨pt, capt, rfl, hct, hxt⟩ := ht.get
  have HF := Lib.hid hxf
  have HT := Lib.hid hxt
  have HCL := Lib.hid hcl
  have HLE := Lib.hid hl
  obtain ⟨m, hm⟩ : ∃ m, m = bs.length := ⟨_, rfl⟩
  obtain ⟨n, hnn⟩ : ∃ n, n = t.length := ⟨_, rfl⟩
  have hmn : m = n + 1 := by omega
  subst hmn
  rw [← hm] at hcf ⊢
  rw [← hnn] at hn hct ⊢
  have HM := Lib.hid hm
  have HN := Lib.hid hnn
  have hmk := fun w => make_bools 51 Try.underlying51 w ((n : Int) + 1) (n + 1) (by omega) (by omega)
  clear hxf hxt ht hf hcl hm hnn hl
  go_enter Try.func37, Try.ntmps37
  go_upto_block 0 with fail
  refine abs_wp fun W hW0 => ?_
  have hW : W = (w.alloc (.cells #[.slice pt n capt, .bool false] 53)).alloc (.cells (List.replicate (n + 1) (Value.bool false)).toArray 4) := hW0
  clear hW0
  have hBW : Below w.heap.size w W := by rw [hW]; exact ((Below.refl _ _).alloc (Nat.le_refl _) _).alloc (by simp) _
  have hbox : W.heap[w.heap.size]? = some (.cells #[.slice pt n capt, .bool false] 53) := by
    rw [hW, Below.heap_alloc _ _ _ (by simp)]; exact heap_alloc_new _ _
  have hrow : BRow W (w.heap.size + 1) (List.replicate (n + 1) false) := by
    unfold BRow
    rw [hW, List.map_replicate]
    have := heap_alloc_new (w.alloc (.cells #[.slice pt n capt, .bool false] 53)) (.cells (List.replicate (n + 1) (Value.bool false)).toArray 4)
    simpa using this
  obtain ⟨B, hB⟩ : ∃ B, B = w.heap.size := ⟨_, rfl⟩
  rw [← hB] at hbox hrow ⊢
  have HB := Lib.hid hB
  have HBW := Lib.hid hBW
  have HROW := Lib.hid hrow
  have HBOX := Lib.hid hbox
  have hszW : B + 1 < W.heap.size := hrow.lt
  clear hW hB hBW hrow hbox hmk
  go_wp2_with fail
  go_loopw [17] (fun i wr => ∃ (k : Nat) (cur : List Bool), i = .int .i64 k ∧ k ≤ n + 1 ∧ Got bs cur (Rel false (one t cls)) k ∧ BRow wr (B + 1) cur ∧ Fr (fun j => j = B + 1) W wr) (fun i _ => n + 1 - (intOf i).toNat)
  case atStart => exact ⟨0, _, rfl, by omega, by rw [HM.out]; exact Got.start _ _, HROW.out, Fr.refl _ _⟩
  case round =>
    obtain ⟨k, cur, rfl, h1, hgot, hrw, hfr⟩ := hrel
    have HG := Lib.hid hgot
    have HR := Lib.hid hrw
    have HFR := Lib.hid hfr
    have hsz : B + 1 < wr.heap.size := hrw.lt
    have hbw : Below w.heap.size w wr := HBW.out.trans (hfr.below (by rw [← HB.out]; omega) (fun j hj => by rw [← HB.out]; omega))
    have HBR := Lib.hid hbw
    have hboxr : wr.heap[B]? = some (.cells #[.slice pt n capt, .bool false] 53) := (hfr.block B (by omega) (by omega)).trans HBOX.out
    have x0 : wr.cell? ⟨B, 0, none⟩ = some (.slice pt n capt) := by simp [World.cell?, hboxr]
    have x1 : wr.cell? ⟨B, 1, none⟩ = some (.bool false) := by simp [World.cell?, hboxr]
    clear hgot hrw hfr hbw hboxr HROW
    by_cases hlt : k < n + 1
    · have hkb : k < bs.length := by rw [← HM.out]; exact hlt
      obtain ⟨bf, of_, rfl, hbf, hyf⟩ := HF.out (by omega)
      have y1 := cell_below HBR.out hbf (hyf k hkb)
      clear hyf
      cases hbk : bs[k]
      · rw [hbk] at y1
        have HBK := Lib.hid hbk
        clear hbk
        go_wp2
        go_roundw
        case rel => exact ⟨k + 1, cur, by go_num, by omega, HG.out.skip hkb (fun h => by rw [HBK.out] at h; cases h), HR.out, HFR.out⟩
        case measure => simp [intOf]; omega
      · rw [hbk] at y1
        have HBK := Lib.hid hbk
        clear hbk
        by_cases hkn : k < n
        · have hkt : k < t.length := by rw [← HN.out]; exact hkn
          obtain ⟨bt, ot, rfl, hbt, hyt⟩ := HT.out (by omega)
          have y2 := cell_below HBR.out hbt (hyt k hkt)
          have HCN := Lib.hid (contains_ints wr cv cls t[k] hc (HCL.out.to HBR.out (Nat.le_refl _)))
          have HAM := Lib.hid (any_mem (c := t[k]) (cls := cls))
          clear hyt
          cases hin : cls.any (fun x => t[k] == x)
          · have HIN := Lib.hid hin
            clear hin
            go_wp2_with fail
            refine HCN.out.mono ?_
            rw [HIN.out]
            rintro e w' ⟨rfl, rfl⟩
            go_wp2
            go_roundw
            case rel => exact ⟨k + 1, cur, by go_num, by omega, HG.out.skip hkb (fun _ q h => by
              obtain ⟨-, c, h1, h2⟩ := (h : one t cls k q)
              rw [List.getElem?_eq_getElem hkt] at h1
              cases h1
              have := HAM.out.2 h2
              rw [HIN.out] at this; cases this), HR.out, HFR.out⟩
            case measure => simp [intOf]; omega
          · have HIN := Lib.hid hin
            have z1 := HR.out.cell (i := k + 1) (by rw [HG.out.1, ← HM.out]; omega)
            have z2 := HR.out.frozen (k + 1)
            clear hin
            go_wp2_with fail
            refine HCN.out.mono ?_
            rw [HIN.out]
            rintro e w' ⟨rfl, rfl⟩
            go_wp2
            go_roundw
            case rel => exact ⟨k + 1, cur.set (k + 1) true, by go_num, by omega, HG.out.put hkb HBK.out (by rw [← HM.out]; omega) (fun q => ⟨fun h => h.1, fun h => ⟨h, _, List.getElem?_eq_getElem hkt, HAM.out.1 HIN.out⟩⟩), HR.out.set _ _, HFR.out.trans (Fr.setCell (F := fun j => j = B + 1) _ rfl _) (fun _ _ h => h)⟩
            case measure => simp [intOf]; omega
        · go_wp2
          go_roundw
          case rel => exact ⟨k + 1, cur, by go_num, by omega, HG.out.skip hkb (fun _ q h => by
            obtain ⟨-, c, h1, h2⟩ := (h : one t cls k q)
            have := (List.getElem?_eq_some_iff.1 h1).1
            rw [← HN.out] at this; omega), HR.out, HFR.out⟩
          case measure => simp [intOf]; omega
    · go_wp2
      go_ret
      exact ⟨B + 1, cur, ret_val (by rw [← HM.out]; rfl), by rw [← HB.out]; omega, HR.out, HG.out.fin (by rw [← HM.out]; omega), HBR.out⟩

set_option maxHeartbeats 1000000 in
theorem step_true (w : World) (tv fv cv : Value) (t cls : List Int) (bs : List Bool) (hn : t.length ≤ 1000000) (hl : bs.length = t.length + 1) (hc : cls.length ≤ 9223372036854775807) (ht : Ints w tv t) (hf : Bools w fv bs) (hcl : Ints w cv cls) :
    Calls Try.prog 37 #[.agg #[tv, .bool true], fv, cv] w (Fresh w (Rel true (one t cls)) bs) := by
  obtain ⟨pf, capf, rfl, hcf, hxf⟩ := hf.get
  obtain ⟨pt, capt, rfl, hct, hxt⟩ := ht.get
  have HF := Lib.hid hxf
  have HT := Lib.hid hxt
  have HCL := Lib.hid hcl
  have HLE := Lib.hid hl
  obtain ⟨m, hm⟩ : ∃ m, m = bs.length := ⟨_, rfl⟩
  obtain ⟨n, hnn⟩ : ∃ n, n = t.length := ⟨_, rfl⟩
  have hmn : m = n + 1 := by omega
  subst hmn
  rw [← hm] at hcf ⊢
  rw [← hnn] at hn hct ⊢
  have HM := Lib.hid hm
  have HN := Lib.hid hnn
  have hmk := fun w => make_bools 51 Try.underlying51 w ((n : Int) + 1) (n + 1) (by omega) (by omega)
  clear hxf hxt ht hf hcl hm hnn hl
  go_enter Try.func37, Try.ntmps37
  go_upto_block 0 with fail
  refine abs_wp fun W hW0 => ?_
  have hW : W = (w.alloc (.cells #[.slice pt n capt, .bool true] 53)).alloc (.cells (List.replicate (n + 1) (Value.bool false)).toArray 4) := hW0
  clear hW0
  have hBW : Below w.heap.size w W := by rw [hW]; exact ((Below.refl _ _).alloc (Nat.le_refl _) _).alloc (by simp) _
  have hbox : W.heap[w.heap.size]? = some (.cells #[.slice pt n capt, .bool true] 53) := by
    rw [hW, Below.heap_alloc _ _ _ (by simp)]; exact heap_alloc_new _ _
  have hrow : BRow W (w.heap.size + 1) (List.replicate (n + 1) false) := by
    unfold BRow
    rw [hW, List.map_replicate]
    have := heap_alloc_new (w.alloc (.cells #[.slice pt n capt, .bool true] 53)) (.cells (List.replicate (n + 1) (Value.bool false)).toArray 4)
    simpa using this
  obtain ⟨B, hB⟩ : ∃ B, B = w.heap.size := ⟨_, rfl⟩
  rw [← hB] at hbox hrow ⊢
  have HB := Lib.hid hB
  have HBW := Lib.hid hBW
  have HROW := Lib.hid hrow
  have HBOX := Lib.hid hbox
  have hszW : B + 1 < W.heap.size := hrow.lt
  clear hW hB hBW hrow hbox hmk
  go_wp2_with fail
  go_loopw [17] (fun i wr => ∃ (k : Nat) (cur : List Bool), i = .int .i64 k ∧ k ≤ n + 1 ∧ Got bs cur (Rel true (one t cls)) k ∧ BRow wr (B + 1) cur ∧ Fr (fun j => j = B + 1) W wr) (fun i _ => n + 1 - (intOf i).toNat)
  case atStart => exact ⟨0, _, rfl, by omega, by rw [HM.out]; exact Got.start _ _, HROW.out, Fr.refl _ _⟩
  case round =>
    obtain ⟨k, cur, rfl, h1, hgot, hrw, hfr⟩ := hrel
    have HG := Lib.hid hgot
    have HR := Lib.hid hrw
    have HFR := Lib.hid hfr
    have hsz : B + 1 < wr.heap.size := hrw.lt
    have hbw : Below w.heap.size w wr := HBW.out.trans (hfr.below (by rw [← HB.out]; omega) (fun j hj => by rw [← HB.out]; omega))
    have HBR := Lib.hid hbw
    have hboxr : wr.heap[B]? = some (.cells #[.slice pt n capt, .bool true] 53) := (hfr.block B (by omega) (by omega)).trans HBOX.out
    have x0 : wr.cell? ⟨B, 0, none⟩ = some (.slice pt n capt) := by simp [World.cell?, hboxr]
    have x1 : wr.cell? ⟨B, 1, none⟩ = some (.bool true) := by simp [World.cell?, hboxr]
    clear hgot hrw hfr hbw hboxr HROW
    by_cases hlt : k < n + 1
    · have hkb : k < bs.length := by rw [← HM.out]; exact hlt
      obtain ⟨bf, of_, rfl, hbf, hyf⟩ := HF.out (by omega)
      have y1 := cell_below HBR.out hbf (hyf k hkb)
      clear hyf
      cases hbk : bs[k]
      · rw [hbk] at y1
        have HBK := Lib.hid hbk
        clear hbk
        go_wp2
        go_roundw
        case rel => exact ⟨k + 1, cur, by go_num, by omega, HG.out.skip hkb (fun h => by rw [HBK.out] at h; cases h), HR.out, HFR.out⟩
        case measure => simp [intOf]; omega
      · rw [hbk] at y1
        have HBK := Lib.hid hbk
        clear hbk
        by_cases hkn : 1 ≤ k
        · obtain ⟨j, rfl⟩ : ∃ j, k = j + 1 := ⟨k - 1, by omega⟩
          have hjn : j < n := by omega
          have hkt : j < t.length := by rw [← HN.out]; exact hjn
          obtain ⟨bt, ot, rfl, hbt, hyt⟩ := HT.out (by omega)
          have y2 := cell_below HBR.out hbt (hyt j hkt)
          have HCN := Lib.hid (contains_ints wr cv cls t[j] hc (HCL.out.to HBR.out (Nat.le_refl _)))
          have HAM := Lib.hid (any_mem (c := t[j]) (cls := cls))
          clear hyt
          cases hin : cls.any (fun x => t[j] == x)
          · have HIN := Lib.hid hin
            clear hin
            go_wp2_with fail
            refine HCN.out.mono ?_
            rw [HIN.out]
            rintro e w' ⟨rfl, rfl⟩
            go_wp2
            go_roundw
            case rel => exact ⟨j + 1 + 1, cur, by go_num, by omega, HG.out.skip hkb (fun _ q h => by
              obtain ⟨g0, c, g1, g2⟩ := (h : one t cls q (j + 1))
              obtain rfl : q = j := by omega
              rw [List.getElem?_eq_getElem hkt] at g1
              cases g1
              have := HAM.out.2 g2
              rw [HIN.out] at this; cases this), HR.out, HFR.out⟩
            case measure => simp [intOf]; omega
          · have HIN := Lib.hid hin
            have z1 := HR.out.cell (i := j) (by rw [HG.out.1, ← HM.out]; omega)
            have z2 := HR.out.frozen j
            clear hin
            go_wp2_with fail
            refine HCN.out.mono ?_
            rw [HIN.out]
            rintro e w' ⟨rfl, rfl⟩
            go_wp2
            go_roundw
            case rel => exact ⟨j + 1 + 1, cur.set j true, by go_num, by omega, HG.out.put hkb HBK.out (by rw [← HM.out]; omega) (fun q => ⟨fun h => by have := (h : one t cls q (j + 1)).1; omega, fun h => by subst h; exact ⟨rfl, _, List.getElem?_eq_getElem hkt, HAM.out.1 HIN.out⟩⟩), HR.out.set _ _, HFR.out.trans (Fr.setCell (F := fun j => j = B + 1) _ rfl _) (fun _ _ h => h)⟩
            case measure => simp [intOf]; omega
        · go_wp2
          go_roundw
          case rel => exact ⟨k + 1, cur, by go_num, by omega, HG.out.skip hkb (fun _ q h => by
            have := (h : one t cls q k).1
            omega), HR.out, HFR.out⟩
          case measure => simp [intOf]; omega
    · go_wp2
      go_ret
      exact ⟨B + 1, cur, ret_val (by rw [← HM.out]; rfl), by rw [← HB.out]; omega, HR.out, HG.out.fin (by rw [← HM.out]; omega), HBR.out⟩
end Go.Proofs.Ytphgjppeindbaaa
