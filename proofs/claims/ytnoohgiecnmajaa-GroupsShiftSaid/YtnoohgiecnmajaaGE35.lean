/- A part of the ground of the proof. No condition. -/
import Derived.Test.YtnoohgiecnmajaaGE34

/- The engine, part 35: what was handed in is done with. -/
namespace Go.Proofs.Ytnoohgiecnmajaa.VC
open Go Go.RowKit
set_option linter.unusedVariables false
set_option linter.unusedSimpArgs false
def FE.pure : FE → FE
  | .pv x => .pv x
  | .ptr s off => .ptr s off
  | _ => .dead
def nilO (sz : Nat) (e : TypeId) : List Nat → List (Nat × Own)
  | [] => []
  | k :: ks => (k, ⟨sz, e, true, []⟩) :: nilO sz e ks
theorem look_nilO {sz : Nat} {e : TypeId} {k : Nat} {o : Own} : ∀ {ks : List Nat}, look k (nilO sz e ks) = some o → o = ⟨sz, e, true, []⟩
  | [], h => by simp [nilO, look] at h
  | i :: ks, h => by
    simp only [nilO, look_cons] at h
    split at h
    · cases h; rfl
    · exact look_nilO h
/-- A box whose cells are not told any more, own slices without elements, and some temporaries and boxes of values. -/
def St.wipe (st : St) (ts ss : List Nat) (s : Nat) (c : TypeId × List FE) (sz : Nat) (e : TypeId) (ks : List Nat) : St :=
  { n := st.n, env := mapv FE.pure (sel ts st.env), box := (s, (c.1, c.2.map fun _ => .dead)) :: mapv (fun c => (c.1, c.2.map FE.pure)) (sel ss st.box), own := nilO sz e ks, mp := st.mp }
theorem Wk.wipe {st : St} (ts ss : List Nat) {s : Nat} {c : TypeId × List FE} (sz : Nat) (e : TypeId) (ks : List Nat) (hl : look s st.box = some c) : Wk st (st.wipe ts ss s c sz e ks) := by
  rintro M0 base a w ⟨g, h⟩
  obtain ⟨g2, hg2⟩ : ∃ g2 : Gh, g2 = { g with ν := fun _ => nilV } := ⟨_, rfl⟩
  have ν0 : ∀ k, (g2.ν k).ownBlock = none := fun k => by rw [hg2]; rfl
  have β0 : g2.β = g.β := by rw [hg2]
  have μ0 : g2.μ = g.μ := by rw [hg2]
  have lb : ∀ {s' c'}, look s' (st.wipe ts ss s c sz e ks).box = some c' → ∃ c2, look s' st.box = some c2 ∧ c'.1 = c2.1 ∧ (c'.2 = c2.2.map (fun _ => .dead) ∨ c'.2 = c2.2.map FE.pure) := by
    intro s' c' q
    simp only [St.wipe, look_cons] at q
    split at q
    · rename_i e1; subst e1; cases q; exact ⟨c, hl, rfl, .inl rfl⟩
    · rw [look_mapv] at q
      obtain ⟨c2, h1, rfl⟩ := Option.map_eq_some_iff.1 q
      exact ⟨c2, look_sel_some h1, rfl, .inr rfl⟩
  have hsub : ∀ b off, Mset M0 g2 (st.wipe ts ss s c sz e ks) b off → Mset M0 g st b off := by
    rintro b off (q | ⟨s', c', h1, h2⟩ | ⟨k, o, h1, h2, h3⟩)
    · exact .inl q
    · obtain ⟨c2, h3, _⟩ := lb h1
      exact .inr (.inl ⟨s', c2, h3, by rw [← β0]; exact h2⟩)
    · rw [ν0] at h2; cases h2
  have mv : Mv (Mset M0 g st) w (Mset M0 g2 (st.wipe ts ss s c sz e ks)) w := ⟨fun b off u hu hn => ⟨hu, fun q => hn (hsub b off q)⟩⟩
  have fr : ∀ fe v, FR g (Mset M0 g st) w fe v → FR g2 (Mset M0 g2 (st.wipe ts ss s c sz e ks)) w (FE.pure fe) v := by
    intro fe v hf
    cases fe with
    | pv x => exact VR.mv mv x v hf
    | ptr s off => simp only [FE.pure, FR] at hf ⊢; rw [β0]; exact hf
    | _ => trivial
  have frp : ∀ (cs : List FE) (vs : List Value), FRc g (Mset M0 g st) w cs vs → FRc g2 (Mset M0 g2 (st.wipe ts ss s c sz e ks)) w (cs.map FE.pure) vs := by
    intro cs
    induction cs with
    | nil => intro vs hf; exact hf
    | cons x cs ih =>
      intro vs hf
      simp only [List.map_cons, FRc] at hf ⊢
      obtain ⟨v, vs', q1, q2, q3, q4⟩ := hf
      exact ⟨v, vs', q1, fr _ _ q2, q3, ih _ q4⟩
  have frd : ∀ (cs : List FE) (vs : List Value), FRc g (Mset M0 g st) w cs vs → FRc g2 (Mset M0 g2 (st.wipe ts ss s c sz e ks)) w (cs.map fun _ => .dead) vs := by
    intro cs
    induction cs with
    | nil => intro vs hf; exact hf
    | cons x cs ih =>
      intro vs hf
      simp only [List.map_cons, FRc] at hf ⊢
      obtain ⟨v, vs', q1, q2, q3, q4⟩ := hf
      exact ⟨v, vs', q1, trivial, q3, ih _ q4⟩
  refine ⟨g2, h.below, h.m0, h.keep.trans mv, h.hn, by rw [β0, μ0]; exact h.pin, h.size, h.defers, ?_, ?_, ?_, ?_, by rw [μ0]; exact h.map, ?_, ?_, ?_, by rw [μ0]; exact h.dmm⟩
  · intro t fe hf
    simp only [St.wipe, look_mapv] at hf
    obtain ⟨fe', h1, rfl⟩ := Option.map_eq_some_iff.1 hf
    obtain ⟨v, h2, h3⟩ := h.env t fe' (look_sel_some h1)
    exact ⟨v, h2, fr _ _ h3⟩
  · intro s' T cs hs
    obtain ⟨⟨T2, c2⟩, h1, e1, e2⟩ := lb hs
    simp only at e1
    subst e1
    obtain ⟨k1, vs, k2, k3⟩ := h.box s' T c2 h1
    rw [β0]
    rcases e2 with e2 | e2
    · exact ⟨k1, vs, k2, by rw [show cs = _ from e2]; exact frd _ _ k3⟩
    · exact ⟨k1, vs, k2, by rw [show cs = _ from e2]; exact frp _ _ k3⟩
  · intro k o ho
    have := look_nilO (ks := ks) ho
    subst this
    refine ⟨[], ?_, by simp [VRc], by simp⟩
    have : g2.ν k = nilV := by rw [hg2]
    rw [this]
    exact World.ownsRow_nil w 0 e sz
  · intro k o b ho hb; rw [ν0] at hb; cases hb
  · intro s1 s2 c1 c2 h1 h2 hne
    obtain ⟨x, p1, _⟩ := lb h1
    obtain ⟨y, p2, _⟩ := lb h2
    rw [β0]
    exact h.dbb s1 s2 x y p1 p2 hne
  · intro s1 k c1 o h1 h2; rw [ν0]; simp
  · intro k k' o o' h1 h2 hne; exact .inl (ν0 k)
end Go.Proofs.Ytnoohgiecnmajaa.VC

