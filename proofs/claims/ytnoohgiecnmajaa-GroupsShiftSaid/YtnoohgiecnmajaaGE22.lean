/- A part of the ground of the proof. No condition. -/
import Derived.Test.YtnoohgiecnmajaaGE21

/- The engine, part 22: two ways, stepped. -/
namespace Go.Proofs.Ytnoohgiecnmajaa.VC
open Go Go.RowKit
set_option linter.unusedVariables false
theorem RWP.cond {P : Program} {T : Tab} {c : Operand} {a b : Code} {Q : Ex → St → Prop} {st : St}
    (h : match val1 st c with | some (.bool t) => Spl t (RWP P T a Q st) (RWP P T b Q st) | _ => False) : RWP P T (.cond c a b) Q st := by
  split at h
  · rename_i t ht
    refine ⟨fun M0 base ac w hr => ?_⟩
    have hcv : ac.eval c = .bool t := by obtain ⟨g, hr⟩ := hr; exact hr.val1 ht
    exact wp_cond_split hcv (fun e => (h.t e).run M0 base ac w hr) (fun e => (h.f e).run M0 base ac w hr)
  · exact h.elim
end Go.Proofs.Ytnoohgiecnmajaa.VC

