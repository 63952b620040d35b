/-
  Expressions as rows; matching. No condition beyond what each theorem names.
-/
import Derived.Test.YtmooflmhbpckjaaKD
set_option linter.unusedVariables false
set_option linter.unusedSimpArgs false
namespace Go.Proofs.Ytmooflmhbpckjaa
open Go.RowKit

/-- one character on -/
def one (t : List Int) (cls : List Int) (p q : Nat) : Prop := q = p + 1 ∧ ∃ c, t[p]? = some c ∧ c ∈ cls
theorem M_0 {t : List Int} {cls : List Int} {ps : List Nd} (p q : Nat) : M t (.mk 0 cls ps) p q ↔ p = q := by unfold M; simp

theorem M_1 {t : List Int} {cls : List Int} {ps : List Nd} (p q : Nat) : M t (.mk 1 cls ps) p q ↔ one t cls p q := by unfold M; simp [one]

theorem M_2 {t : List Int} {cls : List Int} {ps : List Nd} (p q : Nat) : M t (.mk 2 cls ps) p q ↔ Mseq t ps p q := by unfold M; simp

theorem M_3 {t : List Int} {cls : List Int} {ps : List Nd} (p q : Nat) : M t (.mk 3 cls ps) p q ↔ Malt t ps p q := by unfold M; simp

theorem M_4 {t : List Int} {cls : List Int} {ps : List Nd} (p q : Nat) : M t (.mk 4 cls ps) p q ↔ ps.length = 1 ∧ Star (Malt t ps) p q := by unfold M; simp

theorem M_5 {t : List Int} {cls : List Int} {ps : List Nd} (p q : Nat) : M t (.mk 5 cls ps) p q ↔ ps.length = 1 ∧ (p = q ∨ Malt t ps p q) := by unfold M; simp

theorem M_else {t : List Int} {op : Int} {cls : List Int} {ps : List Nd} (h0 : op ≠ 0) (h1 : op ≠ 1) (h2 : op ≠ 2) (h3 : op ≠ 3) (h4 : op ≠ 4) (h5 : op ≠ 5) (p q : Nat) : ¬ M t (.mk op cls ps) p q := by unfold M; simp [*]

theorem no_places (n : Nat) (q : Nat) : ¬ tr (List.replicate n false) q := by
  unfold tr; rw [List.getElem?_replicate]; split <;> simp
theorem NodeIs.form {w : World} {x : Nd} {a b c : Value} (h : NodeIs w x a b c) : ∃ op p l c1 q m d, a = .int .i64 op ∧ b = .slice p l c1 ∧ c = .slice q m d := by
  obtain ⟨op, cls, ps⟩ := x
  rw [nodeIs_iff] at h
  obtain ⟨rfl, h1, -, -, h2⟩ := h
  obtain ⟨p, c1, rfl, -⟩ := h1.get
  obtain ⟨q, d, rfl, -⟩ := h2.get
  exact ⟨_, _, _, _, _, _, _, rfl, rfl, rfl⟩

theorem Nodes.rows {w : World} {v : Value} {ns : List Nd} (h : Nodes w v ns) : ∃ rows : List (List Value), Raw w v ns.length rows.flatten ∧ rows.length = ns.length ∧ rows.flatten.length = ns.length * 3 ∧
    (∀ u ∈ rows.flatten, u.oneCell' = true) ∧ (∀ r ∈ rows, ndRow r) ∧ ∀ i (h : i < ns.length), ∃ x y z, rows[i]? = some [x, y, z] ∧ NodeIs w ns[i] x y z := by
  obtain ⟨rows, ⟨h1, h2⟩, h3, h4⟩ := h
  have hnd : ∀ r ∈ rows, ndRow r := by
    intro r hr
    obtain ⟨i, hi, rfl⟩ := List.getElem_of_mem hr
    obtain ⟨x, y, z, h5, h6⟩ := h4 i (by omega)
    obtain ⟨op, p, l, c1, q, m, d, rfl, rfl, rfl⟩ := h6.form
    rw [List.getElem?_eq_getElem hi] at h5
    exact ⟨op, p, l, c1, q, m, d, Option.some.inj h5⟩
  refine ⟨rows, by rwa [h3] at h2, h3, by rw [flatten_length h1, h3], fun u hu => ?_, hnd, h4⟩
  obtain ⟨r, hr, hu⟩ := List.mem_flatten.1 hu
  obtain ⟨op, p, l, c1, q, m, d, rfl⟩ := hnd r hr
  simp at hu
  rcases hu with rfl | rfl | rfl <;> rfl

theorem Nodes.mk {w : World} {v : Value} {ns : List Nd} {rows : List (List Value)} (h1 : Raw w v ns.length rows.flatten) (h2 : rows.length = ns.length) (h3 : ∀ r ∈ rows, ndRow r) (h4 : ∀ i (h : i < ns.length), ∃ x y z, rows[i]? = some [x, y, z] ∧ NodeIs w ns[i] x y z) : Nodes w v ns :=
  ⟨rows, ⟨fun r hr => by obtain ⟨op, p, l, c1, q, m, d, rfl⟩ := h3 r hr; rfl, by rwa [h2]⟩, h2, h4⟩

theorem NRow.of_own {w : World} {base g n cap : Nat} {rows : List (List Value)} (h : w.ownsRow base 49 3 (.slice (some ⟨g, 0, none⟩) n cap) n rows.flatten) (hr : ∀ r ∈ rows, ndRow r) : NRow w g rows := by
  have hraw := Raw.of_own h
  obtain ⟨h1, h2⟩ := h
  rcases h2 with ⟨h3, -⟩ | ⟨g', cap', cur, h3, -, h4, -⟩
  · cases h3
  · cases h3
    refine ⟨fun o => by simp [World.frozen?, h4], fun i r hi => ⟨hr r (List.mem_of_getElem? hi), ?_⟩⟩
    have hrows : Rows w 3 (.slice (some ⟨g, 0, none⟩) n cap) rows := ⟨fun r hr' => by obtain ⟨op, p, l, c1, q, m, d, rfl⟩ := hr r hr'; rfl, by
      have e : rows.length = n := by
        have := flatten_length (sz := 3) (rows := rows) (fun r hr' => by obtain ⟨op, p, l, c1, q, m, d, rfl⟩ := hr r hr'; rfl)
        omega
      rw [e]; exact hraw⟩
    obtain ⟨p, c, h5, -, h6⟩ := hrows.get (by omega)
    obtain ⟨b, off, h7, -, h8⟩ := h6 (by have := (List.getElem?_eq_some_iff.1 hi).1; omega)
    injection h5 with h5
    subst h5
    cases h7
    obtain ⟨op, p, l, c1, q, m, d, rfl⟩ := hr r (List.mem_of_getElem? hi)
    have h9 := h8 i _ hi
    exact ⟨_, _, _, rfl, by simpa using h9 0 _ rfl, by simpa using h9 1 _ rfl, by simpa using h9 2 _ rfl⟩

theorem NRow.raw {w : World} {g n cap : Nat} {rows : List (List Value)} (h : NRow w g rows) (hl : rows.length = n) (hn : n ≤ cap) : Raw w (.slice (some ⟨g, 0, none⟩) n cap) n rows.flatten := by
  refine ⟨_, cap, rfl, hn, fun h0 => ⟨g, 0, rfl, fun j u hu => ?_⟩⟩
  have h3 : ∀ r ∈ rows, r.length = 3 := fun r hr => by
    obtain ⟨i, hi, rfl⟩ := List.getElem_of_mem hr
    obtain ⟨⟨op, p, l, c1, q, m, d, e⟩, -⟩ := h.2 i _ (List.getElem?_eq_getElem hi)
    rw [e]; rfl
  have hj := (List.getElem?_eq_some_iff.1 hu).1
  rw [flatten_length h3] at hj
  have hi : j / 3 < rows.length := by omega
  have := flatten_get h3 (List.getElem?_eq_getElem hi) (j % 3) (Nat.mod_lt _ (by omega))
  rw [show j / 3 * 3 + j % 3 = j by omega, hu] at this
  obtain ⟨-, x, y, z, e, c0, c1, c2⟩ := h.2 (j / 3) _ (List.getElem?_eq_getElem hi)
  rw [e] at this
  have hm : j % 3 = 0 ∨ j % 3 = 1 ∨ j % 3 = 2 := by omega
  rcases hm with hm | hm | hm <;> rw [hm] at this <;> simp at this <;> subst this
  · rw [show 0 + j = j / 3 * 3 by omega]; exact c0
  · rw [show 0 + j = j / 3 * 3 + 1 by omega]; exact c1
  · rw [show 0 + j = j / 3 * 3 + 2 by omega]; exact c2

/-- slices.Reverse of whatever the call owns -/
theorem rev_own (w : World) (base n : Nat) (v : Value) (rows : List (List Value)) (hn : n ≤ 9000000000000000000) (hl : rows.length = n) (hr : ∀ r ∈ rows, ndRow r) (h : w.ownsRow base 49 3 v n rows.flatten) :
    Calls Try.prog 34 #[v] w fun e w' => Raw w' v n rows.reverse.flatten ∧ Fr (fun k => base ≤ k) w w' ∧ ∃ u, e = .returned u := by
  have h' := h
  obtain ⟨h1, h2⟩ := h'
  rcases h2 with ⟨rfl, rfl⟩ | ⟨g, cap, cur, rfl, hb, hg, hnc, -⟩
  · have : rows = [] := by simpa using hl
    subst this
    clear h h1 hl hr
    go_enter Try.func34, Try.ntmps34
    go_wp2_with fail
    go_loopw [2, 3] (fun u v wr => u = .int .i64 0 ∧ v = .int .i64 (-1) ∧ wr = w) (fun _ v _ => 0)
    case atStart => exact ⟨rfl, rfl, rfl⟩
    case round =>
      obtain ⟨rfl, rfl, rfl⟩ := hrel
      go_wp2
      go_end0
      exact ⟨⟨none, 0, rfl, Nat.le_refl _, fun h => by simp at h⟩, Fr.refl _ _, _, rfl⟩
  · refine (rev_any w g n cap rows hl hn (Array.getElem?_eq_some_iff.1 hg).1 (NRow.of_own h hr)).mono fun e w' ⟨k1, k2, k3⟩ => ⟨k1.raw (by simpa using hl) hnc, k2.mono (fun k _ hk => by subst hk; exact hb), k3⟩
theorem Malt_take {t : List Int} {ps : List Nd} {k : Nat} (h : k < ps.length) (p q : Nat) : Malt t (ps.take (k + 1)) p q ↔ Malt t (ps.take k) p q ∨ M t ps[k] p q := by
  rw [Malt_mem, Malt_mem, List.take_succ_eq_append_getElem h]
  simp only [List.mem_append, List.mem_singleton]
  constructor
  · rintro ⟨x, h1 | rfl, h2⟩
    · exact .inl ⟨x, h1, h2⟩
    · exact .inr h2
  · rintro (⟨x, h1, h2⟩ | h2)
    · exact ⟨x, .inl h1, h2⟩
    · exact ⟨_, .inr rfl, h2⟩

theorem malt_one {t : List Int} {ps : List Nd} (h : ps.length = 1) (p q : Nat) : M t (ps[0]'(by omega)) p q ↔ Malt t ps p q := by
  match ps, h with
  | [x], _ => simp [Malt]

theorem Bools.ne {w : World} {pf : Option Addr} {n cap : Nat} {bs : List Bool} (h : Bools w (.slice pf n cap) bs) (h0 : 0 < bs.length) : ∀ j, pf.map (·.block) = some j → j < w.heap.size := by
  obtain ⟨b, off, cap', he, -, hb, -⟩ := Raw.lt h (by simpa using h0)
  injection he with he
  subst he
  intro j hj
  obtain rfl : b = j := by simpa using hj
  exact hb

theorem Bools.fr {F : Nat → Prop} {w w' : World} {v : Value} {bs : List Bool} (h : Bools w v bs) (hf : Fr F w w') (hn : 0 < bs.length → ∀ k, v.ownBlock = some k → ¬ F k) : Bools w' v bs := Raw.fr hf h (by simpa using hn)

theorem ownBlock_map (pf : Option Addr) (n c : Nat) : (Value.slice pf n c).ownBlock = pf.map (·.block) := by cases pf <;> rfl

end Go.Proofs.Ytmooflmhbpckjaa
