/- A part of the ground of the proof. No condition. -/
import Derived.Test.YtnoohgiecnmajaaGE19

/- The engine, part 20: a call that is handed memory, told by the caller's state. -/
namespace Go.Proofs.Ytnoohgiecnmajaa.VC
open Go Go.RowKit
set_option linter.unusedVariables false
set_option linter.unusedSimpArgs false

/-- What the function's names are called where it is called. -/
structure Ren where
  b : Nat → Nat
  o : Nat → Nat
  m : Nat → Nat
def FE.ren (ρ : Ren) (H : St) : FE → FE
  | .ptr s off => match look s H.box with | some _ => .ptr (ρ.b s) off | none => .dead
  | .own k => match look k H.own with | some _ => .own (ρ.o k) | none => .dead
  | .map k => match look k H.mp with | some _ => .map (ρ.m k) | none => .dead
  | .optr _ _ _ _ => .dead
  | x => x
/-- Does it name only what is told? -/
def FE.closed (H : St) : FE → Bool
  | .ptr s _ => (look s H.box).isSome
  | .own k => (look k H.own).isSome
  | .map k => (look k H.mp).isSome
  | .optr _ _ _ _ => false
  | _ => true
def FE.koAll (ks : List Nat) : FE → FE
  | .own k => if ks.contains k then .dead else .own k
  | .optr k sz i off => if ks.contains k then .dead else .optr k sz i off
  | x => x
def delAll {α : Type} (ks : List Nat) : List (Nat × α) → List (Nat × α)
  | [] => []
  | (k, v) :: l => if ks.contains k then delAll ks l else (k, v) :: delAll ks l
def renL {α β : Type} (f : Nat → Nat) (F : α → β) : List (Nat × α) → List (Nat × β)
  | [] => []
  | (k, v) :: l => (f k, F v) :: renL f F l
def nms {α : Type} (f : Nat → Nat) : List (Nat × α) → List Nat
  | [] => []
  | (k, _) :: l => f k :: nms f l
def app {α : Type} : List (Nat × α) → List (Nat × α) → List (Nat × α)
  | [], l => l
  | p :: a, l => p :: app a l
/-- The caller's state behind the call. -/
def St.back (ρ : Ren) (st H H' : St) : St :=
  { n := st.n
    env := mapv (FE.koAll (nms ρ.o H.own)) st.env
    box := app (renL ρ.b (fun c => (c.1, c.2.map (FE.ren ρ H'))) H'.box) (delAll (nms ρ.b H.box) (mapv (fun c => (c.1, c.2.map (FE.koAll (nms ρ.o H.own)))) st.box))
    own := app (renL ρ.o id H'.own) (delAll (nms ρ.o H.own) st.own)
    mp := app (renL ρ.m id H'.mp) (delAll (nms ρ.m H.mp) st.mp) }

theorem look_delAll {α : Type} (ks : List Nat) (t : Nat) : ∀ l : List (Nat × α), look t (delAll ks l) = if ks.contains t = true then none else look t l
  | [] => by simp [delAll, look]
  | (k, v) :: l => by
    have ih := look_delAll ks t l
    unfold delAll
    by_cases hk : ks.contains k = true
    · rw [if_pos hk, ih, look_cons]
      by_cases e : k = t
      · subst e; rw [if_pos hk, if_pos hk]
      · rw [if_neg e]
    · rw [if_neg hk, look_cons, look_cons, ih]
      by_cases e : k = t
      · subst e; rw [if_pos rfl, if_neg hk, if_pos rfl]
      · rw [if_neg e, if_neg e]
theorem look_app {α : Type} (t : Nat) : ∀ (A B : List (Nat × α)), look t (app A B) = match look t A with | some x => some x | none => look t B
  | [], B => by simp [app, look]
  | (k, v) :: A, B => by
    unfold app
    rw [look_cons, look_cons, look_app t A B]
    by_cases e : k = t
    · rw [if_pos e, if_pos e]
    · rw [if_neg e, if_neg e]
theorem look_renL {α β : Type} (f : Nat → Nat) (F : α → β) (t : Nat) : ∀ (A : List (Nat × α)) (c : β), look t (renL f F A) = some c → ∃ s x, f s = t ∧ look s A = some x ∧ c = F x
  | [], c, h => by simp [renL, look] at h
  | (k, v) :: A, c, h => by
    unfold renL at h
    rw [look_cons] at h
    by_cases e : f k = t
    · rw [if_pos e] at h
      cases h
      exact ⟨k, v, e, by rw [look_cons, if_pos rfl], rfl⟩
    · rw [if_neg e] at h
      obtain ⟨s, x, h1, h2, h3⟩ := look_renL f F t A c h
      refine ⟨s, x, h1, ?_, h3⟩
      rw [look_cons, if_neg (fun ek => e (by rw [ek, h1]))]
      exact h2
theorem nms_mem {α : Type} (f : Nat → Nat) {s : Nat} {x : α} : ∀ {A : List (Nat × α)}, look s A = some x → (nms f A).contains (f s) = true
  | [], h => by simp [look] at h
  | (k, v) :: A, h => by
    rw [look_cons] at h
    unfold nms
    by_cases e : k = s
    · subst e; simp
    · rw [if_neg e] at h
      have := nms_mem f h
      simp only [List.contains_cons, Bool.or_eq_true]
      exact .inr this
theorem mem_nms {α : Type} (f : Nat → Nat) {t : Nat} : ∀ {A : List (Nat × α)}, (nms f A).contains t = true → ∃ s x, f s = t ∧ look s A = some x
  | [], h => by simp [nms] at h
  | (k, v) :: A, h => by
    unfold nms at h
    by_cases e : f k = t
    · exact ⟨k, v, e, by rw [look_cons, if_pos rfl]⟩
    · simp only [List.contains_cons, Bool.or_eq_true, beq_iff_eq] at h
      rcases h with h | h
      · exact absurd h.symm e
      · obtain ⟨s, x, h1, h2⟩ := mem_nms f h
        refine ⟨s, x, h1, ?_⟩
        rw [look_cons, if_neg (fun ek => e (by rw [ek, h1]))]
        exact h2
/-- What is handed over is what the caller has. -/
def OkB (ρ : Ren) (H st : St) : List (Nat × (TypeId × List FE)) → Prop
  | [] => True
  | (s, c) :: l => (look (ρ.b s) st.box = some (c.1, c.2.map (FE.ren ρ H)) ∧ (c.2.all (FE.closed H) && Nat.ble HI s && !(nms ρ.b l).contains (ρ.b s)) = true) ∧ OkB ρ H st l
def OkO (ρ : Ren) (st : St) : List (Nat × Own) → Prop
  | [] => True
  | (k, o) :: l => (look (ρ.o k) st.own = some o ∧ (!(nms ρ.o l).contains (ρ.o k)) = true) ∧ OkO ρ st l
def OkM (ρ : Ren) (st : St) : List (Nat × Mp) → Prop
  | [] => True
  | (k, o) :: l => (look (ρ.m k) st.mp = some o ∧ (Nat.ble HI k && !(nms ρ.m l).contains (ρ.m k)) = true) ∧ OkM ρ st l
theorem OkB.get {ρ : Ren} {H st : St} : ∀ {l : List (Nat × (TypeId × List FE))}, OkB ρ H st l → ∀ {s c}, look s l = some c → look (ρ.b s) st.box = some (c.1, c.2.map (FE.ren ρ H)) ∧ c.2.all (FE.closed H) = true ∧ HI ≤ s
  | [], h, s, c, hs => by simp [look] at hs
  | (k, d) :: l, h, s, c, hs => by
    rw [look_cons] at hs
    by_cases e : k = s
    · rw [if_pos e] at hs
      cases hs
      subst e
      have h2 := h.1.2
      simp only [Bool.and_eq_true] at h2
      exact ⟨h.1.1, h2.1.1, Nat.le_of_ble_eq_true h2.1.2⟩
    · rw [if_neg e] at hs; exact OkB.get h.2 hs
theorem OkB.inj {ρ : Ren} {H st : St} : ∀ {l : List (Nat × (TypeId × List FE))}, OkB ρ H st l → ∀ {s s' c c'}, look s l = some c → look s' l = some c' → s ≠ s' → ρ.b s ≠ ρ.b s'
  | [], h, s, s', c, c', hs, _, _ => by simp [look] at hs
  | (k, d) :: l, h, s, s', c, c', hs, hs', hne => by
    rw [look_cons] at hs hs'
    have h2 := h.1.2
    simp only [Bool.and_eq_true, Bool.not_eq_true'] at h2
    by_cases e : k = s
    · subst e
      rw [if_neg hne] at hs'
      intro ee
      have := nms_mem ρ.b hs'
      rw [← ee, h2.2] at this
      cases this
    · rw [if_neg e] at hs
      by_cases e' : k = s'
      · subst e'
        intro ee
        have := nms_mem ρ.b hs
        rw [ee, h2.2] at this
        cases this
      · rw [if_neg e'] at hs'
        exact OkB.inj h.2 hs hs' hne
theorem OkO.get {ρ : Ren} {st : St} : ∀ {l : List (Nat × Own)}, OkO ρ st l → ∀ {s c}, look s l = some c → look (ρ.o s) st.own = some c
  | [], h, s, c, hs => by simp [look] at hs
  | (k, d) :: l, h, s, c, hs => by
    rw [look_cons] at hs
    by_cases e : k = s
    · rw [if_pos e] at hs
      cases hs
      subst e
      exact h.1.1
    · rw [if_neg e] at hs; exact OkO.get h.2 hs
theorem OkO.inj {ρ : Ren} {st : St} : ∀ {l : List (Nat × Own)}, OkO ρ st l → ∀ {s s' c c'}, look s l = some c → look s' l = some c' → s ≠ s' → ρ.o s ≠ ρ.o s'
  | [], h, s, s', c, c', hs, _, _ => by simp [look] at hs
  | (k, d) :: l, h, s, s', c, c', hs, hs', hne => by
    rw [look_cons] at hs hs'
    have h2 := h.1.2
    simp only [Bool.not_eq_true'] at h2
    by_cases e : k = s
    · subst e
      rw [if_neg hne] at hs'
      intro ee
      have := nms_mem ρ.o hs'
      rw [← ee, h2] at this
      cases this
    · rw [if_neg e] at hs
      by_cases e' : k = s'
      · subst e'
        intro ee
        have := nms_mem ρ.o hs
        rw [ee, h2] at this
        cases this
      · rw [if_neg e'] at hs'
        exact OkO.inj h.2 hs hs' hne
theorem OkM.get {ρ : Ren} {st : St} : ∀ {l : List (Nat × Mp)}, OkM ρ st l → ∀ {s c}, look s l = some c → look (ρ.m s) st.mp = some c ∧ HI ≤ s
  | [], h, s, c, hs => by simp [look] at hs
  | (k, d) :: l, h, s, c, hs => by
    rw [look_cons] at hs
    by_cases e : k = s
    · rw [if_pos e] at hs
      cases hs
      subst e
      have h2 := h.1.2
      simp only [Bool.and_eq_true] at h2
      exact ⟨h.1.1, Nat.le_of_ble_eq_true h2.1⟩
    · rw [if_neg e] at hs; exact OkM.get h.2 hs
theorem OkM.inj {ρ : Ren} {st : St} : ∀ {l : List (Nat × Mp)}, OkM ρ st l → ∀ {s s' c c'}, look s l = some c → look s' l = some c' → s ≠ s' → ρ.m s ≠ ρ.m s'
  | [], h, s, s', c, c', hs, _, _ => by simp [look] at hs
  | (k, d) :: l, h, s, s', c, c', hs, hs', hne => by
    rw [look_cons] at hs hs'
    have h2 := h.1.2
    simp only [Bool.and_eq_true, Bool.not_eq_true'] at h2
    by_cases e : k = s
    · subst e
      rw [if_neg hne] at hs'
      intro ee
      have := nms_mem ρ.m hs'
      rw [← ee, h2.2] at this
      cases this
    · rw [if_neg e] at hs
      by_cases e' : k = s'
      · subst e'
        intro ee
        have := nms_mem ρ.m hs
        rw [ee, h2.2] at this
        cases this
      · rw [if_neg e'] at hs'
        exact OkM.inj h.2 hs hs' hne
theorem nms_look {α : Type} {s : Nat} : ∀ {A B : List (Nat × α)}, nms id A = nms id B → ∀ {x : α}, look s A = some x → ∃ y, look s B = some y := by
  intro A B e x h
  have h1 := nms_mem id h
  rw [e] at h1
  obtain ⟨s', y, h2, h3⟩ := mem_nms id h1
  simp only [id] at h2
  subst h2
  exact ⟨y, h3⟩
end Go.Proofs.Ytnoohgiecnmajaa.VC

