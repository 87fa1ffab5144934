/- A part of the ground of the proof. No condition. -/
import Derived.Test.YtnoohgiecnmajaaGE25

/- The engine, part 26: an own slice gets another name, wherever it is told. -/
namespace Go.Proofs.Ytnoohgiecnmajaa.VC
open Go Go.RowKit
set_option linter.unusedVariables false
set_option linter.unusedSimpArgs false
def FE.rn (k k' : Nat) : FE → FE
  | .own i => if i = k then .own k' else .own i
  | .optr i sz j off => if i = k then .optr k' sz j off else .optr i sz j off
  | x => x
def St.rn (st : St) (k k' : Nat) (o : Own) : St :=
  { n := st.n, env := mapv (FE.rn k k') (st.noOwn k').env, box := mapv (fun c => (c.1, c.2.map (FE.rn k k'))) (st.noOwn k').box, own := ins k' o (del k (st.noOwn k').own), mp := st.mp }
theorem FR.rn {g : Gh} {M : Region} {w : World} {k k' : Nat} (e : g.ν k' = g.ν k) {fe : FE} {v : Value} (h : FR g M w fe v) : FR g M w (FE.rn k k' fe) v := by
  cases fe <;> simp only [FE.rn]
  case own i =>
    split
    · rename_i hi
      subst hi
      simp only [FR] at h ⊢
      rw [e]; exact h
    · exact h
  case optr i sz j off =>
    split
    · rename_i hi
      subst hi
      simp only [FR] at h ⊢
      rw [e]; exact h
    · exact h
  all_goals exact h
theorem Wk.rn {st : St} (k k' : Nat) {o : Own} (ho : look k st.own = some o) (hne : Nat.beq k' k = false) : Wk st (st.rn k k' o) := by
  have hne : ¬ k' = k := fun e => by rw [e, Nat.beq_refl] at hne; cases hne
  rintro M0 base a w ⟨g, h⟩
  have h1 := RpM.noOwn h k' (g.ν k)
  have hν : ({ g with ν := fun i => if i = k' then g.ν k else g.ν i } : Gh).ν k' = ({ g with ν := fun i => if i = k' then g.ν k else g.ν i } : Gh).ν k := by
    show (if k' = k' then g.ν k else g.ν k') = (if k = k' then g.ν k else g.ν k)
    rw [if_pos rfl]; split <;> rfl
  have lk : ∀ {i p}, look i (st.rn k k' o).own = some p → (i = k' ∧ p = o) ∨ (i ≠ k' ∧ i ≠ k ∧ look i st.own = some p) := by
    intro i p q
    simp only [St.rn, look_ins] at q
    by_cases ei : i = k'
    · rw [if_pos ei] at q; cases q; exact .inl ⟨ei, rfl⟩
    · rw [if_neg ei, look_del] at q
      by_cases e2 : i = k
      · rw [if_pos e2] at q; cases q
      · rw [if_neg e2] at q
        exact .inr ⟨ei, e2, (look_noOwn_own q).2⟩
  have lb : ∀ {s c}, look s (st.rn k k' o).box = some c → ∃ c', look s (st.noOwn k').box = some c' ∧ c = (c'.1, c'.2.map (FE.rn k k')) := by
    intro s c q
    simp only [St.rn, look_mapv] at q
    obtain ⟨c', hc', rfl⟩ := Option.map_eq_some_iff.1 q
    exact ⟨c', hc', rfl⟩
  have hm : Mv (Mset M0 g st) w (Mset M0 { g with ν := fun i => if i = k' then g.ν k else g.ν i } (st.rn k k' o)) w := ⟨fun b off u hu hn => ⟨hu, by
    rintro (hh | ⟨s, c, q1, q2⟩ | ⟨i, p, q1, q2, q3⟩)
    · exact hn (.inl hh)
    · obtain ⟨c', hc', _⟩ := lb q1
      obtain ⟨c2, hc2⟩ := look_noOwn_box (st := st) (k := k') hc'
      exact hn (.inr (.inl ⟨s, c2, hc2, q2⟩))
    · simp only at q2
      rcases lk q1 with ⟨rfl, rfl⟩ | ⟨e1, e2, q1⟩
      · rw [if_pos rfl] at q2
        exact hn (.inr (.inr ⟨k, p, ho, q2, q3⟩))
      · rw [if_neg e1] at q2
        exact hn (.inr (.inr ⟨i, p, q1, q2, q3⟩))⟩⟩
  refine ⟨_, h1.below, h1.m0, h1.keep.trans hm, h1.hn, h1.pin, h1.size, h1.defers, ?_, ?_, ?_, ?_, h1.map, ?_, ?_, ?_, h1.dmm⟩
  · intro u fe hf
    simp only [St.rn, look_mapv] at hf
    obtain ⟨fe', hfe, rfl⟩ := Option.map_eq_some_iff.1 hf
    obtain ⟨x, hx, hr⟩ := h1.env u fe' hfe
    exact ⟨x, hx, FR.mv hm (FR.rn hν hr)⟩
  · intro s TT cs hs
    obtain ⟨⟨T1, c1⟩, hc', e⟩ := lb hs
    cases e
    obtain ⟨k1, vs, k2, k3⟩ := h1.box s T1 c1 hc'
    exact ⟨k1, vs, k2, FRc.mv hm (FRc.map _ (fun _ _ hh => FR.rn hν hh) k3)⟩
  · intro i p hp
    rcases lk hp with ⟨rfl, rfl⟩ | ⟨e1, e2, q⟩
    · obtain ⟨vals, q1, q2, q3⟩ := h.own k p ho
      simp only [if_pos]
      exact ⟨vals, q1, VRc.mv hm _ _ q2, q3⟩
    · obtain ⟨vals, q1, q2, q3⟩ := h.own i p q
      simp only [if_neg e1]
      exact ⟨vals, q1, VRc.mv hm _ _ q2, q3⟩
  · intro i p b hp hb
    rcases lk hp with ⟨rfl, rfl⟩ | ⟨e1, e2, q⟩
    · simp only [if_pos] at hb
      exact h.omine k p b ho hb
    · simp only [if_neg e1] at hb
      exact h.omine i p b q hb
  · intro s1 s2 c1 c2 q1 q2 hn2
    obtain ⟨c1', q1, _⟩ := lb q1
    obtain ⟨c2', q2, _⟩ := lb q2
    exact h1.dbb s1 s2 c1' c2' q1 q2 hn2
  · intro s i c p q1 q2
    obtain ⟨c1', q1, _⟩ := lb q1
    obtain ⟨c3, hc3⟩ := look_noOwn_box (st := st) (k := k') q1
    rcases lk q2 with ⟨rfl, rfl⟩ | ⟨e1, e2, q⟩
    · simp only [if_pos]
      exact h.dbo s k c3 p hc3 ho
    · simp only [if_neg e1]
      exact h.dbo s i c3 p hc3 q
  · intro k1 k2 o1 o2 q1 q2 hn2
    rcases lk q1 with ⟨rfl, rfl⟩ | ⟨e1, e2, q⟩
    · rcases lk q2 with ⟨rfl, rfl⟩ | ⟨e3, e4, q'⟩
      · exact absurd rfl hn2
      · simp only [if_pos, if_neg e3]
        exact h.doo k k2 o1 o2 ho q' (fun e => e4 e.symm)
    · rcases lk q2 with ⟨rfl, rfl⟩ | ⟨e3, e4, q'⟩
      · simp only [if_pos, if_neg e1]
        exact h.doo k1 k o1 o2 q ho e2
      · simp only [if_neg e1, if_neg e3]
        exact h.doo k1 k2 o1 o2 q q' hn2
end Go.Proofs.Ytnoohgiecnmajaa.VC

