/- A part of the ground of the proof. No condition. -/
import Derived.Test.YtnoohgiecnmajaaGE29

/- The engine, part 30: an own slice's rows told in other words. -/
namespace Go.Proofs.Ytnoohgiecnmajaa.VC
open Go Go.RowKit
set_option linter.unusedVariables false
set_option linter.unusedSimpArgs false
def St.xs (st : St) (k : Nat) (o : Own) (xs' : List (List SV)) : St := { st with own := ins k ⟨o.sz, o.e, o.virgin, xs'⟩ st.own }
theorem Wk.xs {st : St} {k : Nat} {o : Own} {xs' : List (List SV)} (hl : look k st.own = some o) (hlen : xs'.length = o.xs.length) (hrow : ∀ x ∈ xs', x.length = o.sz)
    (himp : ∀ (M : Region) (w : World) (vals : List Value), VRc M w o.xs.flatten vals → VRc M w xs'.flatten vals) : Wk st (st.xs k o xs') := by
  rintro M0 base a w ⟨g, h⟩
  have hM : Mset M0 g (st.xs k o xs') = Mset M0 g st := by
    funext b off
    apply propext
    constructor
    · rintro (hh | hh | ⟨k', o', q1, q2, q3⟩)
      · exact .inl hh
      · exact .inr (.inl hh)
      · simp only [St.xs, look_ins] at q1
        by_cases e : k' = k
        · subst e
          rw [if_pos rfl] at q1
          cases q1
          refine .inr (.inr ⟨k', o, hl, q2, ?_⟩)
          simp only [hlen] at q3
          exact q3
        · rw [if_neg e] at q1
          exact .inr (.inr ⟨k', o', q1, q2, q3⟩)
    · rintro (hh | hh | ⟨k', o', q1, q2, q3⟩)
      · exact .inl hh
      · exact .inr (.inl hh)
      · by_cases e : k' = k
        · subst e
          rw [hl] at q1
          cases q1
          refine .inr (.inr ⟨k', ⟨o.sz, o.e, o.virgin, xs'⟩, by simp only [St.xs, look_ins, if_true], q2, ?_⟩)
          simp only [hlen]
          exact q3
        · exact .inr (.inr ⟨k', o', by simp only [St.xs, look_ins]; rw [if_neg e]; exact q1, q2, q3⟩)
  have hown : ∀ k' o', look k' (st.xs k o xs').own = some o' → ∃ o'', look k' st.own = some o'' ∧ o''.sz = o'.sz ∧ o''.e = o'.e := by
    intro k' o' q
    simp only [St.xs, look_ins] at q
    by_cases e : k' = k
    · subst e
      rw [if_pos rfl] at q
      cases q
      exact ⟨o, hl, rfl, rfl⟩
    · rw [if_neg e] at q
      exact ⟨o', q, rfl, rfl⟩
  refine ⟨g, ?_⟩
  show RpM (Mset M0 g (st.xs k o xs')) M0 base g (st.xs k o xs') a w
  rw [hM]
  refine ⟨h.below, h.m0, h.keep, h.hn, h.pin, h.size, h.defers, h.env, h.box, ?_, ?_, h.map, h.dbb, ?_, ?_, h.dmm⟩
  · intro k' o' q
    simp only [St.xs, look_ins] at q
    by_cases e : k' = k
    · subst e
      rw [if_pos rfl] at q
      cases q
      obtain ⟨vals, h1, h2, h3⟩ := h.own _ _ hl
      exact ⟨vals, by simp only [hlen]; exact h1, himp _ _ _ h2, hrow⟩
    · rw [if_neg e] at q
      exact h.own k' o' q
  · intro k' o' b q hb
    obtain ⟨o'', q1, _⟩ := hown k' o' q
    exact h.omine k' o'' b q1 hb
  · intro s k' c o' q1 q2
    obtain ⟨o'', q3, _⟩ := hown k' o' q2
    exact h.dbo s k' c o'' q1 q3
  · intro k1 k2 o1 o2 q1 q2 hne
    obtain ⟨p1, q3, _⟩ := hown k1 o1 q1
    obtain ⟨p2, q4, _⟩ := hown k2 o2 q2
    exact h.doo k1 k2 p1 p2 q3 q4 hne
/-- A nil slice is a slice without elements. -/
def nil1 (a b : SV) : Prop := a = b ∨ (a = .val (.slice none 0 0) ∧ ∃ sz, b = .sl sz [])
theorem nil1_vr {M : Region} {w : World} {a b : SV} {v : Value} (h : nil1 a b) (hv : VR M w a v) : VR M w b v := by
  rcases h with rfl | ⟨rfl, sz, rfl⟩
  · exact hv
  · simp only [VR] at hv ⊢
    subst hv
    exact ⟨none, 0, rfl, by simp, by simp⟩
def nilL : List SV → List SV → Prop
  | [], [] => True
  | a :: l, b :: m => nil1 a b ∧ nilL l m
  | _, _ => False
theorem nilL_vrc {M : Region} {w : World} : ∀ {l m : List SV} {vals : List Value}, nilL l m → VRc M w l vals → VRc M w m vals
  | [], [], vals, _, h => h
  | [], _ :: _, _, hn, _ => hn.elim
  | _ :: _, [], _, hn, _ => hn.elim
  | a :: l, b :: m, vals, hn, h => by
    simp only [VRc] at h ⊢
    obtain ⟨v, vs, rfl, h1, h2, h3⟩ := h
    exact ⟨v, vs, rfl, nil1_vr hn.1 h1, h2, nilL_vrc hn.2 h3⟩
theorem nilL_refl : ∀ l : List SV, nilL l l
  | [] => trivial
  | a :: l => ⟨.inl rfl, nilL_refl l⟩
theorem nilL_app : ∀ {a b c d : List SV}, nilL a b → nilL c d → nilL (a ++ c) (b ++ d)
  | [], [], _, _, _, h => h
  | [], _ :: _, _, _, hn, _ => hn.elim
  | _ :: _, [], _, _, hn, _ => hn.elim
  | x :: a, y :: b, c, d, h1, h2 => ⟨h1.1, nilL_app h1.2 h2⟩
end Go.Proofs.Ytnoohgiecnmajaa.VC

