/- A part of the ground of the proof. No condition. -/
import Derived.Test.YtnoohgiecnmajaaGE38

/- The engine, part 39: a nil in a box, as a slice without elements. -/
namespace Go.Proofs.Ytnoohgiecnmajaa.VC
open Go Go.RowKit
set_option linter.unusedVariables false
set_option linter.unusedSimpArgs false
def St.boxSl (st : St) (s i sz : Nat) (T : TypeId) (cs : List FE) : St := { n := st.n, env := st.env, box := ins s (T, cs.set i (.pv (.sl sz []))) st.box, own := st.own, mp := st.mp }
theorem Wk.boxSl {st : St} {s i sz : Nat} {T : TypeId} {cs : List FE} (hl : look s st.box = some (T, cs)) (hc : cs[i]? = some (.pv (.val nilV))) : Wk st (st.boxSl s i sz T cs) := by
  rintro M0 base a w ⟨g, h⟩
  have lb : ∀ {s' c'}, look s' (st.boxSl s i sz T cs).box = some c' → (s' = s ∧ c' = (T, cs.set i (.pv (.sl sz [])))) ∨ look s' st.box = some c' := by
    intro s' c' q
    simp only [St.boxSl, look_ins] at q
    split at q
    · rename_i e; cases q; exact .inl ⟨e, rfl⟩
    · exact .inr q
  have lx : ∀ {s' c'}, look s' (st.boxSl s i sz T cs).box = some c' → ∃ c2, look s' st.box = some c2 := by
    intro s' c' q
    rcases lb q with ⟨rfl, _⟩ | q
    · exact ⟨_, hl⟩
    · exact ⟨_, q⟩
  have hsub : ∀ b off, Mset M0 g (st.boxSl s i sz T cs) b off → Mset M0 g st b off := by
    rintro b off (q | ⟨s', c', h1, h2⟩ | ⟨k, o, h1, h2, h3⟩)
    · exact .inl q
    · obtain ⟨c2, h3⟩ := lx h1
      exact .inr (.inl ⟨s', c2, h3, h2⟩)
    · exact .inr (.inr ⟨k, o, h1, h2, h3⟩)
  have mv : Mv (Mset M0 g st) w (Mset M0 g (st.boxSl s i sz T cs)) w := ⟨fun b off u hu hn => ⟨hu, fun q => hn (hsub b off q)⟩⟩
  refine ⟨g, h.below, h.m0, h.keep.trans mv, h.hn, h.pin, h.size, h.defers, ?_, ?_, ?_, h.omine, h.map, ?_, ?_, h.doo, h.dmm⟩
  · intro t fe hf
    obtain ⟨v, h1, h2⟩ := h.env t fe hf
    exact ⟨v, h1, FR.mv mv h2⟩
  · intro s' T' cs' hs
    rcases lb hs with ⟨rfl, e⟩ | q
    · cases e
      obtain ⟨k1, vs, k2, k3⟩ := h.box s' T cs hl
      refine ⟨k1, vs, k2, FRc.mv mv (FRc.set_at k3 fun v hv => ?_)⟩
      have := FRc.at k3 hc v hv
      have hv : v = nilV := by simpa [FR, VR] using this
      subst hv
      simp only [FR, VR]
      exact ⟨none, 0, rfl, Nat.zero_le _, .inl trivial⟩
    · obtain ⟨k1, vs, k2, k3⟩ := h.box s' T' cs' q
      exact ⟨k1, vs, k2, FRc.mv mv k3⟩
  · intro k o ho
    obtain ⟨vals, q1, q2, q3⟩ := h.own k o ho
    exact ⟨vals, q1, VRc.mv mv _ _ q2, q3⟩
  · intro s1 s2 c1 c2 h1 h2 hne
    obtain ⟨x, p1⟩ := lx h1
    obtain ⟨y, p2⟩ := lx h2
    exact h.dbb s1 s2 x y p1 p2 hne
  · intro s1 k c1 o h1 h2
    obtain ⟨x, p1⟩ := lx h1
    exact h.dbo s1 k x o p1 h2
end Go.Proofs.Ytnoohgiecnmajaa.VC

