/- Plain laws: Valid. -/
import Derived.Test.YtijehblohblnbaaPu2
namespace Go.Proofs.Ytijehblohblnbaa.UA
open Go.RowKit Go.Proofs.YtijehblohblnbaaW.PrintWords
set_option linter.unusedVariables false
set_option linter.unusedSimpArgs false

theorem up {α : Type} {f : Nat → Option α} (hm : ∀ k, LeO (f k) (f (k + 1))) {k0 : Nat} {r : α} (h : f k0 = some r) : ∀ j, f (k0 + j) = some r
  | 0 => h
  | j + 1 => hm (k0 + j) r (up hm h j)
theorem awake_100 : lurcherlaw01_awake.f 100 = some true := by kernel_rfl
theorem awake_up (k : Nat) : lurcherlaw01_awake.f (100 + k) = some true := up lurcherlaw01_awake.mono awake_100 k
theorem point_f {l : List Int} {a : Int} (h0 : 0 ≤ a) (ha : a < l.length) (hN : l.length < 4611686018427387904) (hby : ∀ x ∈ l, Byte x) : utf_point.f l a = some (pt l a) := by
  unfold utf_point.f
  rw [if_pos ⟨h0, ha, hN, List.all_eq_true.2 fun x hx => by have := hby x hx; unfold Byte at this; simpa using this⟩]
theorem valid_both (l : List Int) (hN : l.length < 4611686018427387904) (hby : ∀ x ∈ l, Byte x) : ∀ (r : Nat) (a : Int), 0 ≤ a → a ≤ l.length → l.length - a ≤ r → ∃ p, (∀ j, utf_Valid.l0 (r + 1 + j) l a = some p) ∧ (∀ j, lurcherref01_Valid.l0 (r + 12 + j) l a = some p) := by
  intro r
  induction r with
  | zero =>
    intro a h0 h1 h2
    refine ⟨((l.length : Int), true), fun j => ?_, fun j => ?_⟩
    · rw [show 0 + 1 + j = j + 1 by omega, utf_Valid.l0, if_neg (by omega)]
    · rw [show 0 + 12 + j = (j + 11) + 1 by omega, lurcherref01_Valid.l0, if_neg (by omega), show a = l.length by omega]
  | succ r ih =>
    intro a h0 h1 h2
    by_cases ha : a < l.length
    · have hb := byte_at hby h0 ha
      rcases pt_seq l a hb ha with hs | ⟨hn, he⟩
      · have hp := seq_pos hb hs
        obtain ⟨p, e1, e2⟩ := ih (a + (pt l a).2) (by omega) (by omega) (by omega)
        refine ⟨p, fun j => ?_, fun j => ?_⟩
        · rw [show r + 1 + 1 + j = (r + 1 + j) + 1 by omega, utf_Valid.l0, if_pos ha, point_f h0 ha hN hby, Option.bind_some, if_neg (by omega), w64 (by omega) (by omega)]
          exact e1 j
        · rw [show r + 1 + 12 + j = (r + 12 + j) + 1 by omega, lurcherref01_Valid.l0, if_pos ha, show r + 12 + j = (r + 2 + j) + 10 by omega, at_f _ l a h0 ha hN hby, Option.bind_some, if_neg (show ¬ (pt l a).2 = 0 by omega), if_neg (by omega), w64 (by omega) (by omega)]
          rw [show r + 2 + j + 10 = r + 12 + j by omega]
          exact e2 j
      · refine ⟨(a, false), fun j => ?_, fun j => ?_⟩
        · rw [show r + 1 + 1 + j = (r + 1 + j) + 1 by omega, utf_Valid.l0, if_pos ha, point_f h0 ha hN hby, Option.bind_some, he, if_pos rfl]
        · rw [show r + 1 + 12 + j = (r + 12 + j) + 1 by omega, lurcherref01_Valid.l0, if_pos ha, show r + 12 + j = (r + 2 + j) + 10 by omega, at_f _ l a h0 ha hN hby, Option.bind_some, he, if_pos rfl, if_pos rfl]
    · refine ⟨((l.length : Int), true), fun j => ?_, fun j => ?_⟩
      · rw [show r + 1 + 1 + j = (r + 1 + j) + 1 by omega, utf_Valid.l0, if_neg ha]
      · rw [show r + 1 + 12 + j = (r + 12 + j) + 1 by omega, lurcherref01_Valid.l0, if_neg ha, show a = l.length by omega]
theorem byte_of_wf {l : List Int} (h : ∀ x ∈ l, (Lit.int .u8 x).wf = true) : ∀ x ∈ l, Byte x := by
  intro x hx
  have := h x hx
  unfold Byte
  simp [Lit.wf] at this
  have e1 : IntKind.u8.min = 0 := rfl
  have e2 : IntKind.u8.max = 255 := rfl
  omega
end Go.Proofs.Ytijehblohblnbaa.UA
