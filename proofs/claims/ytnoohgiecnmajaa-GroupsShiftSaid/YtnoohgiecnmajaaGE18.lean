/- A part of the ground of the proof. No condition. -/
import Derived.Test.YtnoohgiecnmajaaGE14

/- The engine, part 18: code from a state on, taken apart. -/
namespace Go.Proofs.Ytnoohgiecnmajaa.VC
open Go Go.RowKit
set_option linter.unusedVariables false
set_option linter.unusedSimpArgs false

/-- An own slice becomes a value. -/
theorem Wk.freeze {st : St} (t : Nat) {k : Nat} {o : Own} (hl : look t st.env = some (.own k)) (ho : look k st.own = some o) : Wk st ((st.expose k).put t (.pv (.sl o.sz o.xs))) := by
  rintro M0 base a w ⟨g, h⟩
  have hp := h.own_pure ho
  have hx := h.expose k
  refine ⟨g, hx.below, hx.m0, hx.keep, hx.hn, hx.pin, hx.size, hx.defers, ?_, hx.box, hx.own, hx.omine, hx.map, hx.dbb, hx.dbo, hx.doo, hx.dmm⟩
  intro t' fe hf
  simp only [St.put, look_ins] at hf
  by_cases e : t' = t
  · rw [if_pos e] at hf
    cases hf
    subst e
    obtain ⟨v, h1, h2⟩ := h.env t' _ hl
    have h2 : v = g.ν k := h2
    exact ⟨v, h1, by rw [h2]; exact hp⟩
  · rw [if_neg e] at hf
    exact hx.env t' fe hf
/-- An own slice gets another name. -/
def St.renOwn (st : St) (t k k' : Nat) (o : Own) : St := { (st.noOwn k').noOwn k with env := ins t (.own k') ((st.noOwn k').noOwn k).env, own := ins k' o ((st.noOwn k').noOwn k).own }
theorem Wk.renOwn {st : St} (t : Nat) {k : Nat} (k' : Nat) {o : Own} (hl : look t st.env = some (.own k)) (ho : look k st.own = some o) (hne : Nat.beq k' k = false) : Wk st (st.renOwn t k k' o) := by
  have hne : ¬ k' = k := fun e => by rw [e, Nat.beq_refl] at hne; cases hne
  rintro M0 base a w ⟨g, h⟩
  obtain ⟨v, hv, hr⟩ := h.env t _ hl
  have hr : v = g.ν k := hr
  subst hr
  have h1 := RpM.noOwn (RpM.noOwn h k' (g.ν k)) k (g.ν k)
  have hm : Mv (Mset M0 g st) w (Mset M0 { g with ν := fun i => if i = k then g.ν k else if i = k' then g.ν k else g.ν i } (st.renOwn t k k' o)) w := ⟨fun b off u hu hn => ⟨hu, by
    rintro (hh | ⟨s, c, q1, q2⟩ | ⟨i, p, q1, q2, q3⟩)
    · exact hn (.inl hh)
    · obtain ⟨c', hc'⟩ := look_noOwn_box (st := st.noOwn k') (k := k) q1
      obtain ⟨c2, hc2⟩ := look_noOwn_box (st := st) (k := k') hc'
      exact hn (.inr (.inl ⟨s, c2, hc2, q2⟩))
    · simp only [St.renOwn, look_ins] at q1
      simp only at q2
      by_cases ek : i = k'
      · rw [if_pos ek] at q1
        cases q1
        have e2 : ¬ i = k := by omega
        rw [if_neg e2, if_pos ek] at q2
        exact hn (.inr (.inr ⟨k, o, ho, q2, q3⟩))
      · rw [if_neg ek] at q1
        obtain ⟨e3, q1⟩ := look_noOwn_own q1
        obtain ⟨_, q1⟩ := look_noOwn_own q1
        rw [if_neg e3, if_neg ek] at q2
        exact hn (.inr (.inr ⟨i, p, q1, q2, q3⟩))⟩⟩
  refine ⟨_, h1.below, h1.m0, h1.keep.trans hm, h1.hn, h1.pin, h1.size, h1.defers, ?_, ?_, ?_, ?_, h1.map, h1.dbb, ?_, ?_, h1.dmm⟩
  · intro u fe hf
    simp only [St.renOwn, look_ins] at hf
    by_cases eu : u = t
    · rw [if_pos eu] at hf
      cases hf
      subst eu
      exact ⟨_, hv, by simp only [FR]; rw [if_neg hne]; simp⟩
    · rw [if_neg eu] at hf
      obtain ⟨x, hx, hr⟩ := h1.env u fe hf
      exact ⟨x, hx, FR.mv hm hr⟩
  · intro s TT cs hs
    obtain ⟨k1, vs, k2, k3⟩ := h1.box s TT cs hs
    exact ⟨k1, vs, k2, FRc.mv hm k3⟩
  · intro i p hp
    simp only [St.renOwn, look_ins] at hp
    by_cases ek : i = k'
    · rw [if_pos ek] at hp
      cases hp
      obtain ⟨vals, q1, q2, q3⟩ := h.own k o ho
      have e2 : ¬ i = k := by omega
      simp only [if_neg e2, if_pos ek]
      exact ⟨vals, q1, VRc.mv hm _ _ q2, q3⟩
    · rw [if_neg ek] at hp
      obtain ⟨vals, q1, q2, q3⟩ := h1.own i p hp
      exact ⟨vals, q1, VRc.mv hm _ _ q2, q3⟩
  · intro i p b hp hb
    simp only [St.renOwn, look_ins] at hp
    by_cases ek : i = k'
    · have e2 : ¬ i = k := by omega
      simp only [if_neg e2, if_pos ek] at hb
      exact h.omine k o b ho hb
    · rw [if_neg ek] at hp; exact h1.omine i p b hp hb
  · intro s i c p q1 q2
    simp only [St.renOwn, look_ins] at q2
    by_cases ek : i = k'
    · have e2 : ¬ i = k := by omega
      simp only [if_neg e2, if_pos ek]
      obtain ⟨c', hc'⟩ := look_noOwn_box (st := st.noOwn k') (k := k) q1
      obtain ⟨c2, hc2⟩ := look_noOwn_box (st := st) (k := k') hc'
      exact h.dbo s k c2 o hc2 ho
    · rw [if_neg ek] at q2; exact h1.dbo s i c p q1 q2
  · intro k1 k2 o1 o2 q1 q2 hne2
    simp only [St.renOwn, look_ins] at q1 q2
    by_cases e1 : k1 = k'
    · have e2 : ¬ k2 = k' := by omega
      have e3 : ¬ k1 = k := by omega
      rw [if_neg e2] at q2
      obtain ⟨e4, q2⟩ := look_noOwn_own q2
      obtain ⟨_, q2⟩ := look_noOwn_own q2
      simp only [if_neg e3, if_pos e1, if_neg e4, if_neg e2]
      exact h.doo k k2 o o2 ho q2 (fun e => e4 e.symm)
    · rw [if_neg e1] at q1
      by_cases e2 : k2 = k'
      · have e3 : ¬ k2 = k := by omega
        obtain ⟨e4, q1⟩ := look_noOwn_own q1
        obtain ⟨_, q1⟩ := look_noOwn_own q1
        simp only [if_neg e4, if_neg e1, if_neg e3, if_pos e2]
        exact h.doo k1 k o1 o q1 ho e4
      · rw [if_neg e2] at q2; exact h1.doo k1 k2 o1 o2 q1 q2 hne2
section
variable {P : Program} {T : Tab}
theorem Lift.mono {M0 : Region} {base : Bs} {Q Q' : Ex → St → Prop} (h : ∀ e st, Q e st → Q' e st) {e : Exit} {a : Act} {w : World} (hq : Lift M0 base Q e a w) : Lift M0 base Q' e a w := by
  cases e with
  | normal => obtain ⟨st, q, r⟩ := hq; exact ⟨st, h _ _ q, r⟩
  | exit i => obtain ⟨st, q, r⟩ := hq; exact ⟨st, h _ _ q, r⟩
  | ret => obtain ⟨st, q, r⟩ := hq; exact ⟨st, h _ _ q, r⟩
  | goto l => exact hq.elim
  | panic c => exact hq.elim
  | outgrown => exact hq.elim
theorem RWP.mono {c : Code} {Q Q' : Ex → St → Prop} {st : St} (h : RWP P T c Q st) (hq : ∀ e st, Q e st → Q' e st) : RWP P T c Q' st :=
  ⟨fun M0 base a w hr => wp_mono (h.run M0 base a w hr) (fun e a' w' q => Lift.mono hq q)⟩
theorem RWP.seq {a b : Code} {Q : Ex → St → Prop} {st : St} (h : RWP P T a (Ex.then (fun st' => RWP P T b Q st') Q) st) : RWP P T (.seq a b) Q st := by
  refine ⟨fun M0 base ac w hr => wp_seq (wp_mono (h.run M0 base ac w hr) ?_)⟩
  intro e a' w' hq
  cases e with
  | normal => obtain ⟨st', hq, hr'⟩ := hq; exact hq.run M0 base a' w' hr'
  | exit id => exact hq
  | ret => exact hq
  | goto l => exact hq.elim
  | panic c => exact hq.elim
  | outgrown => exact hq.elim
theorem RWP.block {id : Nat} {b : Code} {Q : Ex → St → Prop} {st : St} (h : RWP P T b (Ex.inBlock id Q) st) : RWP P T (.block id b) Q st := by
  refine ⟨fun M0 base ac w hr => wp_block (wp_mono (h.run M0 base ac w hr) ?_)⟩
  intro e a' w' hq
  cases e with
  | normal => exact hq
  | exit i =>
    obtain ⟨st', hq, hr'⟩ := hq
    simp only [Ex.inBlock] at hq
    simp only [Exit.inBlock]
    by_cases hi : i = id
    · rw [if_pos hi] at hq ⊢; exact ⟨st', hq, hr'⟩
    · rw [if_neg hi] at hq ⊢; exact ⟨st', hq, hr'⟩
  | ret => exact hq
  | goto l => exact hq.elim
  | panic c => exact hq.elim
  | outgrown => exact hq.elim
theorem RWP.loop {b : Code} {Q : Ex → St → Prop} {st : St} (I : Nat → St → Prop) (h : ∃ n st0, Wk st st0 ∧ I n st0)
    (round : ∀ n st', I n st' → RWP P T b (Ex.then (fun st'' => ∃ m st0, m < n ∧ Wk st'' st0 ∧ I m st0) Q) st') : RWP P T (.loop b) Q st := by
  obtain ⟨n, st0, hw, hI⟩ := h
  refine ⟨fun M0 base a w hr => wp_loop_ghost (fun n a w => ∃ st', I n st' ∧ Rep M0 base st' a w) n ⟨st0, hI, hw _ _ _ _ hr⟩ ?_⟩
  rintro n a' w' ⟨st', hI', hr'⟩
  refine wp_mono ((round n st' hI').run M0 base a' w' hr') ?_
  intro e a2 w2 hq
  cases e with
  | normal =>
    obtain ⟨st2, ⟨m, st3, hlt, hw3, hI3⟩, hr2⟩ := hq
    exact ⟨m, hlt, st3, hI3, hw3 _ _ _ _ hr2⟩
  | exit i => exact hq
  | ret => exact hq
  | goto l => exact hq.elim
  | panic c => exact hq.elim
  | outgrown => exact hq.elim
/-- What holds behind several. -/
theorem RWP.cut2 (mid : St → Prop) (hT : TabOk P T) (hm : P.follows .mixedOrders = true) {a b c : Code} {Q : Ex → St → Prop} {st : St} (h : xwp P T (.seq a b) (Ex.then (fun st' => ∃ st0, Wk st' st0 ∧ mid st0) Q) st)
    (k : ∀ st0, mid st0 → RWP P T c Q st0) : RWP P T (.seq a (.seq b c)) Q st :=
  RWP.seqx hT hm (by
    have h' : xwp P T a (Ex.then (xwp P T b (Ex.then (fun st' => ∃ st0, Wk st' st0 ∧ mid st0) Q)) (Ex.then (fun st' => ∃ st0, Wk st' st0 ∧ mid st0) Q)) st := h
    refine xwp_mono a _ _ st (fun e st' q => ?_) h'
    cases e with
    | normal => exact RWP.cut mid hT hm q k
    | exit i => exact q
    | ret => exact q)
theorem RWP.cut3 (mid : St → Prop) (hT : TabOk P T) (hm : P.follows .mixedOrders = true) {a b c d : Code} {Q : Ex → St → Prop} {st : St} (h : xwp P T (.seq a (.seq b c)) (Ex.then (fun st' => ∃ st0, Wk st' st0 ∧ mid st0) Q) st)
    (k : ∀ st0, mid st0 → RWP P T d Q st0) : RWP P T (.seq a (.seq b (.seq c d))) Q st :=
  RWP.seqx hT hm (by
    have h' : xwp P T a (Ex.then (xwp P T (.seq b c) (Ex.then (fun st' => ∃ st0, Wk st' st0 ∧ mid st0) Q)) (Ex.then (fun st' => ∃ st0, Wk st' st0 ∧ mid st0) Q)) st := h
    refine xwp_mono a _ _ st (fun e st' q => ?_) h'
    cases e with
    | normal => exact RWP.cut2 mid hT hm q k
    | exit i => exact q
    | ret => exact q)
theorem RWP.cut4 (mid : St → Prop) (hT : TabOk P T) (hm : P.follows .mixedOrders = true) {a b c d f : Code} {Q : Ex → St → Prop} {st : St} (h : xwp P T (.seq a (.seq b (.seq c d))) (Ex.then (fun st' => ∃ st0, Wk st' st0 ∧ mid st0) Q) st)
    (k : ∀ st0, mid st0 → RWP P T f Q st0) : RWP P T (.seq a (.seq b (.seq c (.seq d f)))) Q st :=
  RWP.seqx hT hm (by
    have h' : xwp P T a (Ex.then (xwp P T (.seq b (.seq c d)) (Ex.then (fun st' => ∃ st0, Wk st' st0 ∧ mid st0) Q)) (Ex.then (fun st' => ∃ st0, Wk st' st0 ∧ mid st0) Q)) st := h
    refine xwp_mono a _ _ st (fun e st' q => ?_) h'
    cases e with
    | normal => exact RWP.cut3 mid hT hm q k
    | exit i => exact q
    | ret => exact q)
/-- The same, where the first part is told as it is. -/
theorem RWP.cutr (mid : St → Prop) {a b : Code} {Q : Ex → St → Prop} {st : St} (h : RWP P T a (Ex.then (fun st' => ∃ st0, Wk st' st0 ∧ mid st0) Q) st)
    (k : ∀ st0, mid st0 → RWP P T b Q st0) : RWP P T (.seq a b) Q st :=
  RWP.seq (RWP.mono h fun e st' q => by
    cases e with
    | normal => obtain ⟨st0, hw, hq⟩ := q; exact RWP.weak hw (k st0 hq)
    | exit i => exact q
    | ret => exact q)
end
end Go.Proofs.Ytnoohgiecnmajaa.VC

