import Derived.Test.YtijehblohblnbaaPu4
import Derived.Test.YtijehblohblnbaaUA3
namespace Go.Proofs.Ytijehblohblnbaa.UA
open Go.RowKit Go.Proofs.YtijehblohblnbaaW.PrintWords
set_option linter.unusedVariables false
set_option linter.unusedSimpArgs false

theorem four {l : List Int} (hN : l.length < 4611686018427387904) (hby : ∀ x ∈ l, Byte x) (k : Nat) (a : Int) (m : Bool) :
    utf_Next.f (k + 20) l a m = some (nextP l a m) ∧ lurcherref01_Next.f (k + 20) l a m = some (nextP l a m) ∧ utf_Prev.f (k + 20) l a m = some (prevP l a m) ∧ lurcherref01_Prev.f (k + 20) l a m = some (prevP l a m) :=
  ⟨uNext hN hby (k + 19) a m, rNext hN hby (k + 9) a m, uPrev hN hby k a m, rPrev hN hby k a m⟩
theorem steps_l0 {l : List Int} (hN : l.length < 4611686018427387904) (hby : ∀ x ∈ l, Byte x) (o : Int) (m : Bool) : ∀ (r : Nat) (x : Int), -1 ≤ x → x ≤ l.length + 2 → l.length + 2 - x ≤ r → ∀ j, lurcherlaw01_UtfSteps.l0 (r + 21 + j) l o m x = some true := by
  intro r
  induction r with
  | zero =>
    intro x h0 h1 h2 j
    obtain ⟨e1, e2, e3, e4⟩ := four hN hby j o m
    rw [show 0 + 21 + j = (j + 20) + 1 by omega, lurcherlaw01_UtfSteps.l0, w64 (by omega) (by omega), if_neg (by omega), e1, Option.bind_some, e2, Option.bind_some, e3, Option.bind_some, e4, Option.bind_some, if_pos rfl, if_pos rfl, if_pos rfl]
    simp
  | succ r ih =>
    intro x h0 h1 h2 j
    by_cases hx : x ≤ l.length + 1
    · obtain ⟨e1, e2, e3, e4⟩ := four hN hby (r + 1 + j) x m
      rw [show r + 1 + 21 + j = (r + 1 + j + 20) + 1 by omega, lurcherlaw01_UtfSteps.l0, w64 (x := (l.length : Int) + 1) (by omega) (by omega), if_pos hx, e1, Option.bind_some, e2, Option.bind_some, e3, Option.bind_some, e4, Option.bind_some, if_pos rfl, if_pos rfl, if_pos rfl, if_pos rfl, w64 (by omega) (by omega), show r + 1 + j + 20 = r + 21 + j by omega]
      exact ih (x + 1) (by omega) (by omega) (by omega) j
    · obtain ⟨e1, e2, e3, e4⟩ := four hN hby (r + 1 + j) o m
      rw [show r + 1 + 21 + j = (r + 1 + j + 20) + 1 by omega, lurcherlaw01_UtfSteps.l0, w64 (by omega) (by omega), if_neg hx, e1, Option.bind_some, e2, Option.bind_some, e3, Option.bind_some, e4, Option.bind_some, if_pos rfl, if_pos rfl, if_pos rfl]
      simp
end Go.Proofs.Ytijehblohblnbaa.UA
namespace Go.Proofs.Ytijehblohblnbaa.Pure
open Go.RowKit Go.Proofs.Ytijehblohblnbaa.UA Go.Proofs.YtijehblohblnbaaW.PrintWords Go.Proofs.YtijehblohblnbaaW.PrintLast

theorem UtfSteps : lurcherlaw01_UtfSteps.Pure := by
  intro l o m h1 h2 h3 _
  have hby := byte_of_wf h3
  have hN : l.length < 4611686018427387904 := by omega
  refine ⟨l.length + 200, ?_⟩
  unfold lurcherlaw01_UtfSteps.f
  rw [show l.length + 200 = 100 + (l.length + 100) by omega, awake_up, Option.bind_some, if_pos rfl]
  by_cases h : (l.length : Int) > 5000
  · rw [if_pos h]
  · rw [if_neg h, show 100 + (l.length + 100) = (l.length + 3) + 21 + 176 by omega]
    exact steps_l0 hN hby o m (l.length + 3) (-1) (by omega) (by omega) (by omega) 176

end Go.Proofs.Ytijehblohblnbaa.Pure
