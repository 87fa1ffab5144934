import Derived.Test.YtijehblohblnbaaPu3
namespace Go.Proofs.Ytijehblohblnbaa.Pure
open Go.RowKit Go.Proofs.Ytijehblohblnbaa.UA Go.Proofs.YtijehblohblnbaaW.PrintWords Go.Proofs.YtijehblohblnbaaW.PrintLast

theorem UtfValid : lurcherlaw01_UtfValid.Pure := by
  intro l h1 h2 h3
  have hby := byte_of_wf h3
  have hN : l.length < 4611686018427387904 := by omega
  obtain ⟨p, e1, e2⟩ := valid_both l hN hby l.length 0 (by omega) (by omega) (by omega)
  refine ⟨l.length + 200, ?_⟩
  unfold lurcherlaw01_UtfValid.f utf_Valid.f lurcherref01_Valid.f
  rw [show l.length + 200 = 100 + (l.length + 100) by omega, awake_up, Option.bind_some, if_pos rfl, show 100 + (l.length + 100) = l.length + 1 + 199 by omega, e1, Option.bind_some, show l.length + 1 + 199 = l.length + 12 + 188 by omega, e2, Option.bind_some, if_pos rfl]
  simp

end Go.Proofs.Ytijehblohblnbaa.Pure
