/-
  slices.IndexFunc tells the first operation that a predicate takes. No condition beyond what each theorem names.
-/
import Derived.Test.YtpkdhmljbpbcfaaT2
set_option linter.unusedVariables false
set_option linter.unusedSimpArgs false
namespace Go.Proofs.Ytpkdhmljbpbcfaa
open Go.RowKit

theorem opAt_below {B : Nat} {w w' : World} (hb : Below B w w') {b off : Nat} (h : b < B) {o : OpV} (ho : opAt w b off o) : opAt w' b off o := by
  unfold opAt at *
  simp only [hb.cell (p := ⟨b, _, none⟩) h]
  exact ho

theorem opAt_lt {w : World} {b off : Nat} {o : OpV} (ho : opAt w b off o) : b < w.heap.size := World.block_lt_of_cell? w _ ho.1

/-- a slice of operations, read only -/
def Rd (w : World) (v : Value) (xs : List OpV) : Prop :=
  ∃ ad cap, v = .slice ad xs.length cap ∧ (0 < xs.length → ∃ b off, ad = some ⟨b, off, none⟩ ∧ ∀ j (h : j < xs.length), opAt w b (off + j * 7) xs[j])

theorem Rd.below {B : Nat} {w w' : World} (hb : Below B w w') (hB : w.heap.size ≤ B) {v : Value} {xs : List OpV} (h : Rd w v xs) : Rd w' v xs := by
  obtain ⟨ad, cap, rfl, h⟩ := h
  refine ⟨ad, cap, rfl, fun h0 => ?_⟩
  obtain ⟨b, off, rfl, g⟩ := h h0
  exact ⟨b, off, rfl, fun j hj => opAt_below hb (Nat.lt_of_lt_of_le (opAt_lt (g j hj)) hB) (g j hj)⟩

/-- an operation as a value -/
def OpV.val (o : OpV) : Value := .agg #[.int .i64 o.ctr, .int .i64 o.author, .int .i64 o.seq, .bool o.ins, .int .i64 o.rctr, .int .i64 o.rauthor, .int .i32 o.rune]

/-- a predicate on operations, as a closure; in whatever later world in which the blocks outside G are as they were -/
def Decides (F : FuncId) (C : Array Value) (q : OpV → Bool) (w : World) (G : Nat → Prop) : Prop :=
  ∀ (o : OpV) (w1 : World), Fr G w w1 → Calls Try.prog F (#[.agg #[.int .i64 o.ctr, .int .i64 o.author, .int .i64 o.seq, .bool o.ins, .int .i64 o.rctr, .int .i64 o.rauthor, .int .i32 o.rune]] ++ C) w1
    fun e w2 => e = .returned (.bool (q o)) ∧ Below w1.heap.size w1 w2

theorem Decides.fr {F : FuncId} {C : Array Value} {q : OpV → Bool} {w w1 : World} {G : Nat → Prop} (h : Decides F C q w G) (hf : Fr G w w1) : Decides F C q w1 G :=
  fun o w2 hw => h o w2 (hf.trans hw (fun _ _ h => h))

def idx (q : OpV → Bool) (xs : List OpV) : Int := match xs.findIdx? q with | some i => (i : Int) | none => -1

theorem idx_some {q : OpV → Bool} {xs : List OpV} {k : Nat} (hk : k < xs.length) (h1 : ∀ j (h : j < k), q (xs[j]'(by omega)) = false) (h2 : q xs[k] = true) : idx q xs = k := by
  have : xs.findIdx? q = some k := by
    rw [List.findIdx?_eq_some_iff_getElem]
    exact ⟨hk, h2, fun j hj => by simp [h1 j hj]⟩
  simp [idx, this]

theorem idx_none {q : OpV → Bool} {xs : List OpV} (h1 : ∀ j (h : j < xs.length), q xs[j] = false) : idx q xs = -1 := by
  have : xs.findIdx? q = none := by
    rw [List.findIdx?_eq_none_iff]
    intro x hx
    obtain ⟨j, hj, rfl⟩ := List.getElem_of_mem hx
    exact h1 j hj
  simp [idx, this]


set_option maxHeartbeats 400000 in
theorem index_any (w : World) (v : Value) (xs : List OpV) (q : OpV → Bool) (F : FuncId) (C : Array Value) (hn : xs.length ≤ 9223372036854775807) (hF : Enters Try.prog F)
    (hv : Rd w v xs) {G : Nat → Prop} (hq : Decides F C q w G) :
    Calls Try.prog 34 #[v, .func (.func F) #[] C] w fun e w' => e = .returned (.int .i64 (idx q xs)) ∧ Below w.heap.size w w' := by
  obtain ⟨ad, cap, rfl, hx⟩ := hv
  have HX := Lib.hid hx
  clear hx
  unfold Enters at hF
  obtain ⟨n, hlen⟩ : ∃ n, n = xs.length := ⟨_, rfl⟩
  rw [← hlen] at hn ⊢
  have HL := Lib.hid hlen
  clear hlen
  go_enter Try.func34, Try.ntmps34
  go_wp2
  go_loopw [8] (fun i wr => ∃ k : Nat, i = .int .i64 k ∧ k ≤ n ∧ (∀ j (h : j < xs.length), j < k → q xs[j] = false) ∧ Below w.heap.size w wr) (fun i _ => n - (intOf i).toNat)
  case atStart => exact ⟨0, rfl, by omega, by intro j hj h; omega, Below.refl _ _⟩
  case round =>
    obtain ⟨k, rfl, h1, h2, hb⟩ := hrel
    have H2 := Lib.hid h2
    clear h2
    by_cases hlt : k < n
    · have hl : k < xs.length := HL.out ▸ hlt
      obtain ⟨b, off, rfl, hx⟩ := HX.out (by omega)
      have hbk := opAt_lt (hx k hl)
      obtain ⟨k0, k1, k2, k3, k4, k5, k6⟩ := opAt_below hb hbk (hx k hl)
      clear hx
      have HQ := Lib.hid (hq xs[k])
      cases hqk : q xs[k]
      · have Hqk := Lib.hid hqk
        clear hqk
        go_wp2
        refine (HQ.out _ (Fr.of_below hb G)).mono ?_
        rw [Hqk.out]
        rintro e w' ⟨rfl, hb2⟩
        go_wp2
        go_roundw
        case rel => exact ⟨k + 1, by go_num, by omega, fun j hj hjk => by
          by_cases e : j = k
          · subst e; exact Hqk.out
          · exact H2.out j hj (by omega), hb.trans (hb2.mono hb.size)⟩
        case measure => simp [intOf]; omega
      · have Hqk := Lib.hid hqk
        clear hqk
        go_wp2
        refine (HQ.out _ (Fr.of_below hb G)).mono ?_
        rw [Hqk.out]
        rintro e w' ⟨rfl, hb2⟩
        go_wp2
        go_ret
        exact ⟨ret_int (idx_some hl (fun j hj => H2.out j (by omega) hj) Hqk.out).symm, hb.trans (hb2.mono hb.size)⟩
    · go_wp2
      go_ret
      exact ⟨ret_int (idx_none (fun j hj => H2.out j hj (by have := HL.out; omega))).symm, hb⟩
end Go.Proofs.Ytpkdhmljbpbcfaa
