/-
  ReadingLeft ends true. No condition beyond what each theorem names.
-/
import Derived.Test.YtphgjppeindbaaaO
set_option linter.unusedVariables false
set_option linter.unusedSimpArgs false
namespace Go.Proofs.Ytphgjppeindbaaa
open Go.RowKit

theorem left_M {s u : List Int} {x : Nd} {a p : Nat} (hp : p ≤ s.length) : M s x a p ↔ M (s ++ u) x a p := by
  constructor
  · exact M_map (n := p) x (fun i c hi hc _ => by rw [List.getElem?_append_left (by omega)]; exact hc) (Nat.le_refl _)
  · exact M_map (n := p) x (fun i c hi hc _ => by rw [List.getElem?_append_left (by omega)] at hc; exact hc) (Nat.le_refl _)

theorem left_fits {s u : List Int} {r : Rl} (hr : r.right = .mk 0 [] []) {p : Nat} (hp : p ≤ s.length) : fitsB r s (p : Int) = fitsB r (s ++ u) (p : Int) := by
  rw [Bool.eq_iff_iff, fitsB_iff, fitsB_iff]
  unfold FitsAt
  simp only [Int.toNat_natCast, hr, M_0]
  constructor
  · rintro ⟨h1, h2, ⟨a, h3, h4⟩, h5⟩
    exact ⟨h1, by simp; omega, ⟨a, (left_M hp).1 h3, h4⟩, p, by simp; omega, rfl⟩
  · rintro ⟨h1, h2, ⟨a, h3, h4⟩, h5⟩
    exact ⟨h1, by omega, ⟨a, (left_M hp).2 h3, h4⟩, p, hp, rfl⟩

theorem left_bnd {s u : List Int} {l : List Rl} (hl : ∀ r ∈ l, r.right = .mk 0 [] []) {p : Nat} (hp : p < s.length) : bndB l s p = bndB l (s ++ u) p := by
  by_cases h0 : p = 0
  · rw [bnd_end (.inl h0), bnd_end (.inl h0)]
    simp
    omega
  · rw [bnd_in (by omega) hp, bnd_in (by omega) (by simp; omega), find_congr (fun r hr => left_fits (hl r hr) (by omega))]

theorem OwnL.apart {α β : Type} {E : α → List Value → Prop} {F : β → List Value → Prop} {T U : TypeId} {sz sy base base' : Nat} {w : World} {v u : Value} {xs : List α} {ys : List β} (h : OwnL E T sz base w v xs) (k : OwnL F U sy base' w u ys) (hne : T ≠ U) : ∀ g, v.ownBlock = some g → u.ownBlock ≠ some g := by
  obtain ⟨_, ⟨-, h⟩, -⟩ := h
  obtain ⟨_, ⟨-, k⟩, -⟩ := k
  intro g hg hu
  rcases h with ⟨rfl, -⟩ | ⟨g1, c1, cur1, rfl, -, h1, -⟩
  · cases hg
  · rcases k with ⟨rfl, -⟩ | ⟨g2, c2, cur2, rfl, -, h2, -⟩
    · cases hu
    · simp only [Value.ownBlock, Option.some.injEq] at hg hu
      subst hg hu
      rw [h1] at h2
      cases h2
      exact hne rfl

set_option maxRecDepth 100000 in
set_option maxHeartbeats 8000000 in
theorem left_law (w : World) (v tv uv : Value) (rs : List Rl) (t u : List Int) (hr : rs.length ≤ 9223372036854775807) (hn : t.length ≤ 9223372036854775807) (hu : u.length ≤ 9223372036854775807) (hv : Rules w v rs) (ht : Ints w tv t) (hut : Ints w uv u) :
    Calls Try.prog 8 #[v, tv, uv] w (Says true w) := by
  have HV := Lib.hid hv
  have HT := Lib.hid ht
  have HU := Lib.hid hut
  obtain ⟨pv0, cv0, hv0, -⟩ := hv.get
  obtain ⟨pt, ct, ht0, hct, -⟩ := ht.get
  obtain ⟨pu, cu, hu0, hcu, -⟩ := hut.get
  subst hv0 ht0 hu0
  clear hv ht hut
  go_enter Try.func8, Try.ntmps8
  go_wp2_with fail
  refine (shown_any w).mono ?_
  rintro e w1 ⟨rfl, hb1⟩
  have HB1 := Lib.hid hb1
  have HFEW := Lib.hid (fun (tv : Value) (t : List Int) (hn : t.length ≤ 9223372036854775807) (ht : Ints w1 tv t) => few_from w w1 (.slice pv0 rs.length cv0) tv rs t hr hn ht (HV.out.readL.below hb1 (Nat.le_refl _)) hb1)
  have HT1 := Lib.hid (HT.out.to hb1 (Nat.le_refl _))
  clear hb1
  go_upto_region 2 with fail
  go_cut [0, 1] (fun lv av wx => OwnL (RuleIs w) 35 8 w1.heap.size wx lv (fewR rs) ∧ OwnL intE 3 1 w1.heap.size wx av (t.take 8) ∧ Below w1.heap.size w1 wx)
  case first =>
    cases pt with
    | none =>
      have h0 : t = [] := by
        obtain ⟨p', c', he, -, hx⟩ := HT1.out
        injection he with he1 he2 he3
        subst he1
        cases t with
        | nil => rfl
        | cons x r => obtain ⟨b, off, e, -⟩ := hx (by simp); cases e
      subst h0
      have HC := Lib.hid (HFEW.out (.slice none 0 ct) [] (by simp) HT1.out)
      go_wp2_with fail
      refine HC.out.mono ?_
      rintro e w2 ⟨v1, v2, rfl, ho1, ho2, hb2⟩
      have HO1 := Lib.hid ho1
      have HO2 := Lib.hid ho2
      have HB2 := Lib.hid hb2
      clear ho1 ho2 hb2
      go_wp2_with fail
      go_meet
      case rel => exact ⟨HO1.out, HO2.out, HB2.out⟩
    | some ad =>
      by_cases h8 : t.length ≤ 8
      · have h9 : ¬ (8 : Int) < t.length := by omega
        have HC := Lib.hid (HFEW.out (.slice (some ad) t.length ct) t hn HT1.out)
        have HTK := Lib.hid (show t.take 16 = t.take 8 by rw [List.take_of_length_le (by omega), List.take_of_length_le (by omega)])
        go_wp2_with fail
        refine HC.out.mono ?_
        rintro e w2 ⟨v1, v2, rfl, ho1, ho2, hb2⟩
        have HO1 := Lib.hid ho1
        have HO2 := Lib.hid ho2
        have HB2 := Lib.hid hb2
        clear ho1 ho2 hb2
        go_wp2_with fail
        go_meet
        case rel => exact ⟨HO1.out, by rw [← HTK.out]; exact HO2.out, HB2.out⟩
      · have h9 : (8 : Int) < t.length := by omega
        have hl : (t.take 8).length = 8 := by rw [List.length_take]; omega
        have HC := Lib.hid (HFEW.out (.slice (some ad) 8 ct) (t.take 8) (by omega) (HT1.out.take (by omega)))
        have HTK := Lib.hid (show (t.take 8).take 16 = t.take 8 by rw [List.take_of_length_le (by omega)])
        clear hl
        go_wp2_with fail
        refine HC.out.mono ?_
        rintro e w2 ⟨v1, v2, rfl, ho1, ho2, hb2⟩
        have HO1 := Lib.hid ho1
        have HO2 := Lib.hid ho2
        have HB2 := Lib.hid hb2
        clear ho1 ho2 hb2
        go_wp2_with fail
        go_meet
        case rel => exact ⟨HO1.out, by rw [← HTK.out]; exact HO2.out, HB2.out⟩
  case rest =>
    obtain ⟨ho1, ho2, hb2⟩ := hcut
    have hl10 := fewR_len rs
    have hs8 : (t.take 8).length ≤ 8 := by simp; omega
    generalize fewR rs = l at *
    generalize t.take 8 = s at *
    have HAP := Lib.hid (ho1.apart ho2 (by decide))
    obtain ⟨p1, c1, rfl⟩ := ho1.form
    obtain ⟨p2, c2, rfl⟩ := ho2.form
    have HO1 := Lib.hid ho1
    have HO2 := Lib.hid ho2
    have HB2 := Lib.hid hb2
    clear ho1 ho2 hb2 HFEW
    go_wp2_with fail
    go_loopw [8] (fun i wr => ∃ (k : Nat) (ys : List Rl), i = .int .i64 k ∧ k ≤ l.length ∧ ys.length = l.length ∧ (∀ j (h : j < ys.length), j < k → ys[j].right = .mk 0 [] []) ∧ OwnL (RuleIs w) 35 8 w1.heap.size wr (.slice p1 l.length c1) ys ∧ OwnL intE 3 1 w1.heap.size wr (.slice p2 s.length c2) s ∧ Below w1.heap.size w1 wr) (fun i _ => l.length - (intOf i).toNat)
    case atStart => exact ⟨0, l, rfl, by omega, rfl, fun _ _ h => absurd h (Nat.not_lt_zero _), HO1.out, HO2.out, HB2.out⟩
    case round =>
      obtain ⟨k, ys, rfl, h1, hyl, hbare, hown, hownt, hb⟩ := hrel
      have HYL := Lib.hid hyl
      have HBARE := Lib.hid hbare
      have HOWN := Lib.hid hown
      have HOWT := Lib.hid hownt
      have HB := Lib.hid hb
      by_cases hk : k < l.length
      · have hky : k < ys.length := by omega
        obtain ⟨g, cap, cur, row, hve, hg, hheap, hrow, hrl, hrc, hE, hcsz, hst⟩ := hown.store (by omega) (k := k) hky
        injection hve with e1 e2 e3
        subst e1 e3
        have HE := Lib.hid hE
        obtain ⟨a, b, c, d, e, f, rfl, hx1, hx2⟩ := hE
        have HST := Lib.hid (hst 3 [.int .i64 0, .slice none 0 0, .slice none 0 0] (by simp) (by simp [Value.oneCell']) ⟨ys[k].left, .mk 0 [] [], ys[k].brk, ys[k].start⟩ ⟨a, b, c, _, _, _, rfl, hx1, nodeZ w⟩)
        have HH := Lib.hid hheap
        have hfit : k * 8 + 3 + 3 ≤ cur.size := by omega
        have j0 : (0 : Int) ≤ k := by omega
        have j1 : (k : Int) < l.length := by omega
        clear hyl hbare hown hownt hb hheap hrow hrl hrc hx1 hx2 hst e2 hcsz
        go_wp2_with (refine wpList_store_row rfl (.tmp 33) (.tmp 31) 33 rfl g (k * 8 + 3) rfl (.agg #[.int .i64 0, .slice none 0 0, .slice none 0 0]) rfl cur _ (by kernel_rfl) HH.out hfit (by simp [Value.cells, Value.oneCell']) ?_)
        go_roundw
        case rel =>
          refine ⟨k + 1, ys.set k ⟨ys[k].left, .mk 0 [] [], ys[k].brk, ys[k].start⟩, by go_num, by omega, by rw [List.length_set]; exact HYL.out, fun j hj hjk => ?_, ?_, ?_, ?_⟩
          · rw [List.getElem_set]
            split
            · rfl
            · rename_i hne
              rw [List.length_set] at hj
              exact HBARE.out j hj (by omega)
          · exact HST.out _ (setRow_heap _ g _ _ _ (0, 0) HH.out)
          · exact HOWT.out.fr (Fr.setRow (F := fun k => k = g) _ rfl _) (fun q hq hqg => HAP.out g rfl (by rw [hq, hqg]))
          · exact HB.out.trans ((Fr.setRow (F := fun k => k = g) wr rfl _).below HB.out.size (fun q hq => by omega))
        case measure => simp [intOf]; omega
      · have HALL := Lib.hid (show ∀ r ∈ ys, r.right = .mk 0 [] [] from fun r hr => by
          obtain ⟨j, hj, rfl⟩ := List.getElem_of_mem hr
          exact HBARE.out j hj (by omega))
        have HBW := Lib.hid (HB1.out.trans (hb.mono HB1.out.size))
        have HRR := Lib.hid (hown.read.rules HBW.out)
        have HIR := Lib.hid hownt.read.ints
        have HC1 := Lib.hid (bounds_any wr (.slice p1 l.length c1) (.slice p2 s.length c2) ys s (by omega) (by omega) HIR.out HRR.out)
        have hyl10 : ys.length ≤ 10 := by omega
        clear hyl hbare hown hownt hb
        go_wp2_with fail
        refine HC1.out.mono ?_
        rintro e w3 ⟨va, rfl, hba, hb3⟩
        obtain ⟨ba, oa, ca, rfl, hca, hbla, hya⟩ := hba.bnds
        have HYA := Lib.hid hya
        have HB3 := Lib.hid (HBW.out.trans (hb3.mono HBW.out.size))
        have HR3 := Lib.hid (HRR.out.to hb3 (Nat.le_refl _))
        have HA3 := Lib.hid (HIR.out.to hb3 (Nat.le_refl _))
        have HU3 := Lib.hid (HU.out.to HB3.out (Nat.le_refl _))
        clear hba hya hb3 HC1
        go_upto_region 8 with fail
        go_cut [10] (fun v wx => Bools wx v (bnds ys (s ++ u.take 8)) ∧ Below w3.heap.size w3 wx)
        case first =>
          cases pu with
          | none =>
            have h0 : u = [] := by
              obtain ⟨p', c', he, -, hx⟩ := HU3.out
              injection he with he1 he2 he3
              subst he1
              cases u with
              | nil => rfl
              | cons x r => obtain ⟨b, off, e, -⟩ := hx (by simp); cases e
            subst h0
            obtain ⟨bl, hbl0⟩ : ∃ q : List Int, q = [] := ⟨_, rfl⟩
            have HD3 := Lib.hid (show Ints w3 (.slice none 0 cu) bl by rw [hbl0]; exact ⟨none, cu, rfl, Nat.zero_le _, fun h => by simp at h⟩)
            have HBLN := Lib.hid (show bl.length = 0 by rw [hbl0]; rfl)
            have HDL := Lib.hid (show s.length + bl.length ≤ 1000000 by rw [hbl0]; simp; omega)
            have HDT := Lib.hid (show s ++ ([] : List Int).take 8 = s ++ bl by rw [hbl0]; simp)
            clear hbl0
            refine wp_region_plan (fun _ => True) (.reads [0, 2, 4, 5, 6, 7, 8] (.one 1 (.one 3 (.one 9 (.one 10 (.reads [11] .done)))))) 77 (by kernel_rfl) (by kernel_rfl) rfl (fun _ _ _ _ _ h => h) trivial ?_
            apply plan_reads
            · intro W hW
              repeat (refine wpRead_step (fun K hK => ?_); go_simp; refine hK _ ?_; clear hK K)
              exact wpRead_nil rfl
            refine abs_plan fun W0 hW0 => ?_
            have HB0 := Lib.hid (show Below w3.heap.size w3 W0 by rw [hW0]; exact (Below.refl _ _).drew)
            clear hW0
            refine plan_one rfl ?_
            go_wp2_with fail
            refine Then.mk trivial ?_
            have ha := below_alloc1 W0 (.cells #[] 3)
            have HB01 := Lib.hid (HB0.out.trans (ha.mono HB0.out.size))
            have HO1 := Lib.hid (OwnL.made (α := Int) (E := intE) (T := 3) (sz := 1) (base := w3.heap.size) W0 HB0.out.size)
            have HA1 := Lib.hid (HA3.out.to HB01.out (Nat.le_refl _)).readL
            have HZ1 := Lib.hid (HB01.out.size)
            clear ha
            refine plan_one rfl ?_
            refine wpList_append_ints rfl (.tmp 38) (.tmp 39) rfl (.slice (some ⟨W0.heap.size, 0, none⟩) 0 0) [] rfl HO1.out _ s rfl HA1.out (by simp; omega) HZ1.out ?_
            intro p4 c4 w4 hown hg _
            simp only [List.length_nil, Nat.zero_add, List.nil_append] at hown ⊢
            have HO4 := Lib.hid hown
            have HB4 := Lib.hid (HB01.out.grown hg HZ1.out (fun k hk => (HO1.out.lt k hk).1))
            have HD4 := Lib.hid ((HD3.out.to HB4.out (Nat.le_refl _)).readL)
            clear hown hg
            go_wp2_with fail
            refine Then.mk trivial ?_
            refine plan_one rfl ?_
            refine wpList_append_ints rfl (.tmp 40) (.tmp 45) rfl (.slice p4 s.length c4) s rfl HO4.out _ bl rfl HD4.out (by have := HDL.out; omega) HB4.out.size ?_
            intro p5 c5 w5 hown hg _
            simp only [HBLN.out, Nat.add_zero] at hown ⊢
            have HB5 := Lib.hid (HB4.out.grown hg HB4.out.size (fun k hk => (HO4.out.lt k hk).1))
            have HC5 := Lib.hid (bounds_any w5 _ _ ys (s ++ bl) (by have := HDL.out; rw [List.length_append]; omega) (by omega) hown.read.ints (HR3.out.to HB5.out (Nat.le_refl _)))
            clear hown hg
            go_wp2_with fail
            refine Then.mk trivial ?_
            refine plan_one rfl ?_
            go_wp2_with fail
            refine HC5.out.mono ?_
            rintro e w6 ⟨vb, rfl, hbb, hb6⟩
            have HBB := Lib.hid hbb
            have HB6 := Lib.hid (HB5.out.trans (hb6.mono HB5.out.size))
            clear hbb hb6
            go_wp2_with fail
            refine Then.mk trivial ?_
            apply plan_reads
            · intro W hW
              repeat (refine wpRead_step (fun K hK => ?_); go_simp; refine hK _ ?_; clear hK K)
              exact wpRead_nil rfl
            refine plan_done ?_
            go_wp2_with fail
            go_meet
            case rel => exact ⟨by rw [HDT.out]; exact HBB.out, HB6.out⟩
          | some ad =>
            by_cases h8 : u.length ≤ 8
            · have h9 : ¬ (8 : Int) < u.length := by omega
              obtain ⟨bl, hbl0⟩ : ∃ q : List Int, q = u := ⟨_, rfl⟩
              have HD3 := Lib.hid (show Ints w3 (.slice (some ad) u.length cu) bl by rw [hbl0]; exact HU3.out)
              have HBLN := Lib.hid (show bl.length = u.length by rw [hbl0])
              have HDL := Lib.hid (show s.length + bl.length ≤ 1000000 by rw [hbl0]; omega)
              have HDT := Lib.hid (show s ++ u.take 8 = s ++ bl by rw [hbl0, List.take_of_length_le h8])
              clear hbl0
              refine wp_region_plan (fun _ => True) (.reads [0, 2, 4, 5, 6, 7, 8] (.one 1 (.one 3 (.one 9 (.one 10 (.reads [11] .done)))))) 77 (by kernel_rfl) (by kernel_rfl) rfl (fun _ _ _ _ _ h => h) trivial ?_
              apply plan_reads
              · intro W hW
                repeat (refine wpRead_step (fun K hK => ?_); go_simp; refine hK _ ?_; clear hK K)
                exact wpRead_nil rfl
              refine abs_plan fun W0 hW0 => ?_
              have HB0 := Lib.hid (show Below w3.heap.size w3 W0 by rw [hW0]; exact (Below.refl _ _).drew)
              clear hW0
              refine plan_one rfl ?_
              go_wp2_with fail
              refine Then.mk trivial ?_
              have ha := below_alloc1 W0 (.cells #[] 3)
              have HB01 := Lib.hid (HB0.out.trans (ha.mono HB0.out.size))
              have HO1 := Lib.hid (OwnL.made (α := Int) (E := intE) (T := 3) (sz := 1) (base := w3.heap.size) W0 HB0.out.size)
              have HA1 := Lib.hid (HA3.out.to HB01.out (Nat.le_refl _)).readL
              have HZ1 := Lib.hid (HB01.out.size)
              clear ha
              refine plan_one rfl ?_
              refine wpList_append_ints rfl (.tmp 38) (.tmp 39) rfl (.slice (some ⟨W0.heap.size, 0, none⟩) 0 0) [] rfl HO1.out _ s rfl HA1.out (by simp; omega) HZ1.out ?_
              intro p4 c4 w4 hown hg _
              simp only [List.length_nil, Nat.zero_add, List.nil_append] at hown ⊢
              have HO4 := Lib.hid hown
              have HB4 := Lib.hid (HB01.out.grown hg HZ1.out (fun k hk => (HO1.out.lt k hk).1))
              have HD4 := Lib.hid ((HD3.out.to HB4.out (Nat.le_refl _)).readL)
              clear hown hg
              go_wp2_with fail
              refine Then.mk trivial ?_
              refine plan_one rfl ?_
              refine wpList_append_ints rfl (.tmp 40) (.tmp 45) rfl (.slice p4 s.length c4) s rfl HO4.out _ bl rfl HD4.out (by have := HDL.out; omega) HB4.out.size ?_
              intro p5 c5 w5 hown hg _
              simp only [HBLN.out, Nat.add_zero] at hown ⊢
              have HB5 := Lib.hid (HB4.out.grown hg HB4.out.size (fun k hk => (HO4.out.lt k hk).1))
              have HC5 := Lib.hid (bounds_any w5 _ _ ys (s ++ bl) (by have := HDL.out; rw [List.length_append]; omega) (by omega) hown.read.ints (HR3.out.to HB5.out (Nat.le_refl _)))
              clear hown hg
              go_wp2_with fail
              refine Then.mk trivial ?_
              refine plan_one rfl ?_
              go_wp2_with fail
              refine HC5.out.mono ?_
              rintro e w6 ⟨vb, rfl, hbb, hb6⟩
              have HBB := Lib.hid hbb
              have HB6 := Lib.hid (HB5.out.trans (hb6.mono HB5.out.size))
              clear hbb hb6
              go_wp2_with fail
              refine Then.mk trivial ?_
              apply plan_reads
              · intro W hW
                repeat (refine wpRead_step (fun K hK => ?_); go_simp; refine hK _ ?_; clear hK K)
                exact wpRead_nil rfl
              refine plan_done ?_
              go_wp2_with fail
              go_meet
              case rel => exact ⟨by rw [HDT.out]; exact HBB.out, HB6.out⟩
            · have h9 : (8 : Int) < u.length := by omega
              have h11 : 8 ≤ cu := by omega
              have h12 : (8 : Int) ≤ cu := by omega
              obtain ⟨bl, hbl0⟩ : ∃ q : List Int, q = u.take 8 := ⟨_, rfl⟩
              have hbll : bl.length = 8 := by rw [hbl0, List.length_take]; omega
              have HD3 := Lib.hid (show Ints w3 (.slice (some ad) 8 cu) bl by rw [hbl0]; exact HU3.out.take (k := 8) (by omega))
              have HBLN := Lib.hid hbll
              have HDL := Lib.hid (show s.length + bl.length ≤ 1000000 by omega)
              have HDT := Lib.hid (show s ++ u.take 8 = s ++ bl by rw [hbl0])
              clear hbl0 hbll
              refine wp_region_plan (fun _ => True) (.reads [0, 2, 4, 5, 6, 7, 8] (.one 1 (.one 3 (.one 9 (.one 10 (.reads [11] .done)))))) 77 (by kernel_rfl) (by kernel_rfl) rfl (fun _ _ _ _ _ h => h) trivial ?_
              apply plan_reads
              · intro W hW
                repeat (refine wpRead_step (fun K hK => ?_); go_simp; refine hK _ ?_; clear hK K)
                exact wpRead_nil rfl
              refine abs_plan fun W0 hW0 => ?_
              have HB0 := Lib.hid (show Below w3.heap.size w3 W0 by rw [hW0]; exact (Below.refl _ _).drew)
              clear hW0
              refine plan_one rfl ?_
              go_wp2_with fail
              refine Then.mk trivial ?_
              have ha := below_alloc1 W0 (.cells #[] 3)
              have HB01 := Lib.hid (HB0.out.trans (ha.mono HB0.out.size))
              have HO1 := Lib.hid (OwnL.made (α := Int) (E := intE) (T := 3) (sz := 1) (base := w3.heap.size) W0 HB0.out.size)
              have HA1 := Lib.hid (HA3.out.to HB01.out (Nat.le_refl _)).readL
              have HZ1 := Lib.hid (HB01.out.size)
              clear ha
              refine plan_one rfl ?_
              refine wpList_append_ints rfl (.tmp 38) (.tmp 39) rfl (.slice (some ⟨W0.heap.size, 0, none⟩) 0 0) [] rfl HO1.out _ s rfl HA1.out (by simp; omega) HZ1.out ?_
              intro p4 c4 w4 hown hg _
              simp only [List.length_nil, Nat.zero_add, List.nil_append] at hown ⊢
              have HO4 := Lib.hid hown
              have HB4 := Lib.hid (HB01.out.grown hg HZ1.out (fun k hk => (HO1.out.lt k hk).1))
              have HD4 := Lib.hid ((HD3.out.to HB4.out (Nat.le_refl _)).readL)
              clear hown hg
              go_wp2_with fail
              refine Then.mk trivial ?_
              refine plan_one rfl ?_
              refine wpList_append_ints rfl (.tmp 40) (.tmp 45) rfl (.slice p4 s.length c4) s rfl HO4.out _ bl rfl HD4.out (by have := HDL.out; omega) HB4.out.size ?_
              intro p5 c5 w5 hown hg _
              simp only [HBLN.out, Nat.add_zero] at hown ⊢
              have HB5 := Lib.hid (HB4.out.grown hg HB4.out.size (fun k hk => (HO4.out.lt k hk).1))
              have HC5 := Lib.hid (bounds_any w5 _ _ ys (s ++ bl) (by have := HDL.out; rw [List.length_append]; omega) (by omega) hown.read.ints (HR3.out.to HB5.out (Nat.le_refl _)))
              clear hown hg
              go_wp2_with fail
              refine Then.mk trivial ?_
              refine plan_one rfl ?_
              go_wp2_with fail
              refine HC5.out.mono ?_
              rintro e w6 ⟨vb, rfl, hbb, hb6⟩
              have HBB := Lib.hid hbb
              have HB6 := Lib.hid (HB5.out.trans (hb6.mono HB5.out.size))
              clear hbb hb6
              go_wp2_with fail
              refine Then.mk trivial ?_
              apply plan_reads
              · intro W hW
                repeat (refine wpRead_step (fun K hK => ?_); go_simp; refine hK _ ?_; clear hK K)
                exact wpRead_nil rfl
              refine plan_done ?_
              go_wp2_with fail
              go_meet
              case rel => exact ⟨by rw [HDT.out]; exact HBB.out, HB6.out⟩
        case rest =>
          obtain ⟨hbb, hbc⟩ := hcut
          obtain ⟨bb, ob, cb, rfl, hcb, hblb, hyb⟩ := hbb.bnds
          have HYB := Lib.hid hyb
          have HBC := Lib.hid hbc
          have HBW3 := Lib.hid (HB3.out.trans (hbc.mono HB3.out.size))
          have HLB := Lib.hid (fun (p : Nat) (hp : p < s.length) => left_bnd (u := u.take 8) HALL.out hp)
          have hlen : s.length ≤ (s ++ u.take 8).length := by rw [List.length_append]; omega
          generalize s ++ u.take 8 = su at *
          have hl1 : ¬ ((su.length : Int) + 1 < (s.length : Int) + 1) := by omega
          have hl2 : ¬ (su.length < s.length) := by omega
          clear hbb hyb hbc
          go_wp2_with fail
          go_loopw [11] (fun i wz => ∃ k : Nat, i = .int .i64 k ∧ k ≤ s.length ∧ Below wc.heap.size wc wz) (fun i _ => s.length - (intOf i).toNat)
          case atStart => exact ⟨0, rfl, by omega, Below.refl _ _⟩
          case round =>
            obtain ⟨m, rfl, h2, hb⟩ := hrel
            have HB2 := Lib.hid hb
            by_cases hm : m < s.length
            · have ya := cell_below hb (Nat.lt_of_lt_of_le hbla HBC.out.size) (cell_below HBC.out hbla (HYA.out m (by omega)))
              have yb := cell_below hb hblb (HYB.out m (by omega))
              rw [← HLB.out m hm] at yb
              generalize bndB ys s m = ans at *
              have hne : (ans != ans) = false := by simp
              have j3 : m ≤ s.length := by omega
              have j4 : m < s.length + 1 := by omega
              have j5 : m ≤ su.length := by omega
              have j6 : m < su.length + 1 := by omega
              have j7 : (m : Int) < (s.length : Int) + 1 := by omega
              have j8 : (m : Int) < (su.length : Int) + 1 := by omega
              clear hb
              go_wp2_with fail
              go_quiet (fail)
              go_wp2_with fail
              go_roundw
              case rel => exact ⟨m + 1, by go_num, by omega, below_drewN HB2.out _⟩
              case measure => simp [intOf]; omega
            · clear hb
              go_wp2_with fail
              go_ret
              exact Says.mk rfl (HBW3.out.trans (HB2.out.mono HBW3.out.size))
end Go.Proofs.Ytphgjppeindbaaa
