import Derived.Test.YtijehblohblnbaaPu3
import Derived.Test.YtijehblohblnbaaUB1
namespace Go.Proofs.Ytijehblohblnbaa.Pure
open Go.RowKit Go.Proofs.Ytijehblohblnbaa.UA Go.Proofs.Ytijehblohblnbaa.UB Go.Proofs.YtijehblohblnbaaW.PrintWords Go.Proofs.YtijehblohblnbaaW.PrintLast
set_option linter.unusedVariables false
set_option linter.unusedSimpArgs false

theorem seqP_nil (c : Int) : ((seqP c).length : Int) = 0 ↔ (c < 0 ∨ c > 1114111 ∨ (55296 ≤ c ∧ c ≤ 57343)) := by
  unfold seqP
  by_cases h : c < 0 ∨ c > 1114111 ∨ (55296 ≤ c ∧ c ≤ 57343)
  · rw [if_pos h]; simpa using h
  · rw [if_neg h]
    constructor
    · intro e
      exfalso
      split at e
      · simp at e
      split at e
      · simp at e
      split at e
      · simp at e
      · simp at e
    · intro e; exact absurd e h
theorem ref_enc (k : Nat) (c : Int) (m : Bool) : lurcherref01_Encode.f (k + 1) c m = some (encP c m) := by
  unfold lurcherref01_Encode.f encP
  cases m
  · rw [if_neg (show ¬ (false = true) by simp), if_pos (show false = false from rfl)]
    by_cases h1 : c < 0
    · rw [if_pos h1, lurcherref01_Encode.j0, if_pos rfl, if_pos (show encBad c false from Or.inl h1)]
    rw [if_neg h1]
    by_cases h2 : c > 255
    · rw [decide_eq_true h2, lurcherref01_Encode.j0, if_pos rfl, if_pos (show encBad c false from Or.inr (Or.inl ⟨rfl, h2⟩))]
    · have hb : ¬ encBad c false := by unfold encBad; simp; omega
      rw [decide_eq_false h2, lurcherref01_Encode.j0, if_neg (show ¬ (false = true) by simp), if_neg hb, show c % 256 = c by omega]
  · rw [if_pos rfl]
    show (some (seqP c)).bind _ = _
    rw [Option.bind_some, if_neg (show ¬ (true = false) by simp)]
    by_cases h : ((seqP c).length : Int) = 0
    · have hb : encBad c true := by
        have := (seqP_nil c).1 h
        unfold encBad
        rcases this with x | x | x
        · exact Or.inl x
        · exact Or.inr (Or.inr (Or.inl x))
        · exact Or.inr (Or.inr (Or.inr ⟨rfl, x⟩))
      rw [if_pos h, if_pos hb]
    · have hb : ¬ encBad c true := by
        intro hb
        apply h
        rw [seqP_nil]
        unfold encBad at hb
        rcases hb with x | x | x | x
        · exact Or.inl x
        · exact absurd x.1 (by simp)
        · exact Or.inr (Or.inl x)
        · exact Or.inr (Or.inr x.2)
      rw [if_neg h, if_neg hb]
theorem UtfEncodes : lurcherlaw01_UtfEncodes.Pure := by
  intro c m _
  refine ⟨101, ?_⟩
  unfold lurcherlaw01_UtfEncodes.f utf_Encode.f
  rw [awake_up 1, Option.bind_some, if_pos rfl, Option.bind_some, ref_enc 100, Option.bind_some, if_pos rfl]
  simp

end Go.Proofs.Ytijehblohblnbaa.Pure
