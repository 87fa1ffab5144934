/- A part of the ground of the proof. No condition. -/
import Derived.Test.YtnoohgiecnmajaaGE26

/- The engine, part 27: some maps alone. -/
namespace Go.Proofs.Ytnoohgiecnmajaa.VC
open Go Go.RowKit
set_option linter.unusedVariables false
def St.maps (st : St) (ks : List Nat) : St := { n := st.n, env := st.env, box := st.box, own := st.own, mp := sel ks st.mp }
theorem Wk.maps (st : St) (ks : List Nat) : Wk st (st.maps ks) := by
  rintro M0 base a w ⟨g, h⟩
  exact ⟨g, h.below, h.m0, h.keep, h.hn, h.pin, h.size, h.defers, h.env, h.box, h.own, h.omine, fun k m hk => h.map k m (look_sel_some hk), h.dbb, h.dbo, h.doo, fun k k' m m' h1 h2 => h.dmm k k' m m' (look_sel_some h1) (look_sel_some h2)⟩
end Go.Proofs.Ytnoohgiecnmajaa.VC

