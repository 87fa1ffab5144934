/- A part of the ground of the proof. No condition. -/
import Derived.Test.YtnoohgiecnmajaaGE39

/- The engine, part 40: an own slice without elements, out of nothing. -/
namespace Go.Proofs.Ytnoohgiecnmajaa.VC
open Go Go.RowKit
set_option linter.unusedVariables false
set_option linter.unusedSimpArgs false
def St.addNil (st : St) (k sz : Nat) (e : TypeId) : St := { st.noOwn k with own := ins k ⟨sz, e, true, []⟩ (st.noOwn k).own, mp := st.mp }
theorem Wk.addNil {st : St} (k sz : Nat) (e : TypeId) : Wk st (st.addNil k sz e) := by
  rintro M0 base a w ⟨g, h⟩
  have h1 : RpM (Mset M0 g st) M0 base _ (st.noOwn k) a w := RpM.noOwn h k nilV
  have hm : Mv (Mset M0 g st) w (Mset M0 { g with ν := fun i => if i = k then nilV else g.ν i } (st.addNil k sz e)) w := ⟨fun b off u hu hn => ⟨hu, by
    rintro (hh | ⟨s, c, q1, q2⟩ | ⟨k', o, q1, q2, q3⟩)
    · exact hn (.inl hh)
    · obtain ⟨c', hc'⟩ := look_noOwn_box (st := st) (k := k) q1
      exact hn (.inr (.inl ⟨s, c', hc', q2⟩))
    · simp only [St.addNil, look_ins] at q1
      simp only at q2
      by_cases ek : k' = k
      · rw [if_pos ek] at q2; simp [nilV, Value.ownBlock] at q2
      · rw [if_neg ek] at q1 q2
        exact hn (.inr (.inr ⟨k', o, (look_noOwn_own q1).2, q2, q3⟩))⟩⟩
  refine ⟨_, h1.below, h1.m0, h1.keep.trans hm, h1.hn, h1.pin, h1.size, h1.defers, ?_, ?_, ?_, ?_, h1.map, h1.dbb, ?_, ?_, h1.dmm⟩
  · intro u fe hf
    obtain ⟨x, hx, hr⟩ := h1.env u fe hf
    exact ⟨x, hx, FR.mv hm hr⟩
  · intro s TT cs hs
    obtain ⟨k1, vs, k2, k3⟩ := h1.box s TT cs hs
    exact ⟨k1, vs, k2, FRc.mv hm k3⟩
  · intro k' o ho
    simp only [St.addNil, look_ins] at ho
    by_cases ek : k' = k
    · rw [if_pos ek] at ho
      cases ho
      simp only [if_pos ek]
      exact ⟨[], World.ownsRow_nil w 0 e sz, by simp [VRc], by simp⟩
    · rw [if_neg ek] at ho
      obtain ⟨vals, q1, q2, q3⟩ := h1.own k' o ho
      exact ⟨vals, q1, VRc.mv hm _ _ q2, q3⟩
  · intro k' o b ho hb
    simp only [St.addNil, look_ins] at ho
    by_cases ek : k' = k
    · simp only [if_pos ek] at hb; simp [nilV, Value.ownBlock] at hb
    · rw [if_neg ek] at ho; exact h1.omine k' o b ho hb
  · intro s k' c o q1 q2
    simp only [St.addNil, look_ins] at q2
    by_cases ek : k' = k
    · simp only [if_pos ek]; simp [nilV, Value.ownBlock]
    · rw [if_neg ek] at q2; exact h1.dbo s k' c o q1 q2
  · intro k1 k2 o1 o2 q1 q2 hne
    simp only [St.addNil, look_ins] at q1 q2
    by_cases e1 : k1 = k
    · left; simp only [if_pos e1]; simp [nilV, Value.ownBlock]
    · rw [if_neg e1] at q1
      by_cases e2 : k2 = k
      · simp only [if_neg e1, if_pos e2]
        cases hq : (g.ν k1).ownBlock with
        | none => exact .inl rfl
        | some b => exact .inr (by simp [nilV, Value.ownBlock])
      · rw [if_neg e2] at q2; exact h1.doo k1 k2 o1 o2 q1 q2 hne
end Go.Proofs.Ytnoohgiecnmajaa.VC

