/- A part of the ground of the proof. No condition. -/
import Derived.Test.YtnoohgiecnmajaaGE16

/- The engine, part 17: a nil slice that is to be appended to. -/
namespace Go.Proofs.Ytnoohgiecnmajaa.VC
open Go Go.RowKit
set_option linter.unusedVariables false
set_option linter.unusedSimpArgs false

theorem drawn_plan (pl : Plan) {P : Program} {T : Tab} {ops : Array Oper} {Q : St → Prop} {st : St} (h : okReg T ops pl = true) (k : xplan P T ops.toList Q pl st) :
    ∃ pl, okReg T ops pl = true ∧ xplan P T ops.toList Q pl st := ⟨_, h, k⟩
theorem drawn_text {P : Program} {T : Tab} {ops : Array Oper} {Q : St → Prop} {st : St} (h : okReg T ops (Plan.ofList (List.range ops.size)) = true) (k : xplan P T ops.toList Q (Plan.ofList (List.range ops.size)) st) :
    ∃ pl, okReg T ops pl = true ∧ xplan P T ops.toList Q pl st := ⟨_, h, k⟩
theorem drawn_ord (ord : List Nat) {P : Program} {T : Tab} {ops : Array Oper} {Q : St → Prop} {st : St} (h : okReg T ops (Plan.ofList ord) = true) (k : xplan P T ops.toList Q (Plan.ofList ord) st) :
    ∃ pl, okReg T ops pl = true ∧ xplan P T ops.toList Q pl st := ⟨_, h, k⟩
/-- The nil in a temporary, as an own slice without elements. -/
def St.ownNil (st : St) (t k sz : Nat) (e : TypeId) : St := { st.noOwn k with env := ins t (.own k) (st.noOwn k).env, own := ins k ⟨sz, e, true, []⟩ (st.noOwn k).own, mp := st.mp }
theorem Wk.ownNil {st : St} {t k sz : Nat} {e : TypeId} (hl : look t st.env = some (.pv (.val nilV))) : Wk st (st.ownNil t k sz e) := by
  rintro M0 base a w ⟨g, h⟩
  obtain ⟨v, hv, hr⟩ := h.env t _ hl
  have hr : v = nilV := by simpa [FR, VR] using hr
  subst hr
  have h1 : RpM (Mset M0 g st) M0 base _ (st.noOwn k) a w := RpM.noOwn h k nilV
  have hm : Mv (Mset M0 g st) w (Mset M0 { g with ν := fun i => if i = k then nilV else g.ν i } (st.ownNil t k sz e)) w := ⟨fun b off u hu hn => ⟨hu, by
    rintro (hh | ⟨s, c, q1, q2⟩ | ⟨k', o, q1, q2, q3⟩)
    · exact hn (.inl hh)
    · obtain ⟨c', hc'⟩ := look_noOwn_box (st := st) (k := k) q1
      exact hn (.inr (.inl ⟨s, c', hc', q2⟩))
    · simp only [St.ownNil, look_ins] at q1
      simp only at q2
      by_cases ek : k' = k
      · rw [if_pos ek] at q2; simp [nilV, Value.ownBlock] at q2
      · rw [if_neg ek] at q1 q2
        exact hn (.inr (.inr ⟨k', o, (look_noOwn_own q1).2, q2, q3⟩))⟩⟩
  refine ⟨_, h1.below, h1.m0, h1.keep.trans hm, h1.hn, h1.pin, h1.size, h1.defers, ?_, ?_, ?_, ?_, h1.map, h1.dbb, ?_, ?_, h1.dmm⟩
  · intro u fe hf
    simp only [St.ownNil, look_ins] at hf
    by_cases eu : u = t
    · rw [if_pos eu] at hf
      cases hf
      subst eu
      exact ⟨_, hv, by simp [FR]⟩
    · rw [if_neg eu] at hf
      obtain ⟨x, hx, hr⟩ := h1.env u fe hf
      exact ⟨x, hx, FR.mv hm hr⟩
  · intro s TT cs hs
    obtain ⟨k1, vs, k2, k3⟩ := h1.box s TT cs hs
    exact ⟨k1, vs, k2, FRc.mv hm k3⟩
  · intro k' o ho
    simp only [St.ownNil, look_ins] at ho
    by_cases ek : k' = k
    · rw [if_pos ek] at ho
      cases ho
      simp only [if_pos ek]
      exact ⟨[], World.ownsRow_nil w 0 e sz, by simp [VRc], by simp⟩
    · rw [if_neg ek] at ho
      obtain ⟨vals, q1, q2, q3⟩ := h1.own k' o ho
      exact ⟨vals, q1, VRc.mv hm _ _ q2, q3⟩
  · intro k' o b ho hb
    simp only [St.ownNil, look_ins] at ho
    by_cases ek : k' = k
    · simp only [if_pos ek] at hb; simp [nilV, Value.ownBlock] at hb
    · rw [if_neg ek] at ho; exact h1.omine k' o b ho hb
  · intro s k' c o q1 q2
    simp only [St.ownNil, look_ins] at q2
    by_cases ek : k' = k
    · simp only [if_pos ek]; simp [nilV, Value.ownBlock]
    · rw [if_neg ek] at q2; exact h1.dbo s k' c o q1 q2
  · intro k1 k2 o1 o2 q1 q2 hne
    simp only [St.ownNil, look_ins] at q1 q2
    by_cases e1 : k1 = k
    · left; simp only [if_pos e1]; simp [nilV, Value.ownBlock]
    · rw [if_neg e1] at q1
      by_cases e2 : k2 = k
      · simp only [if_neg e1, if_pos e2]
        cases hq : (g.ν k1).ownBlock with
        | none => exact .inl rfl
        | some b => exact .inr (by simp [nilV, Value.ownBlock])
      · rw [if_neg e2] at q2; exact h1.doo k1 k2 o1 o2 q1 q2 hne

/-! ### Cuts: where ways meet -/
/-- Code from a state on, as a fact of its own. -/
structure RWP (P : Program) (T : Tab) (c : Code) (Q : Ex → St → Prop) (st : St) : Prop where
  run : ∀ M0 base a w, Rep M0 base st a w → c.wp P (Lift M0 base Q) a w
section
variable {P : Program} {T : Tab}
theorem RWP.of (hT : TabOk P T) (hm : P.follows .mixedOrders = true) {c : Code} {Q : Ex → St → Prop} {st : St} (h : xwp P T c Q st) : RWP P T c Q st :=
  ⟨fun M0 base a w hr => vwp_sound hT hm c Q st a w (xwp_ok c Q Q st (fun _ _ q => q) h) hr⟩
theorem RWP.weak {c : Code} {Q : Ex → St → Prop} {st st0 : St} (hw : Wk st st0) (h : RWP P T c Q st0) : RWP P T c Q st := ⟨fun M0 base a w hr => h.run M0 base a w (hw _ _ _ _ hr)⟩
theorem RWP.seqx (hT : TabOk P T) (hm : P.follows .mixedOrders = true) {a b : Code} {Q : Ex → St → Prop} {st : St} (h : xwp P T a (Ex.then (fun st' => RWP P T b Q st') Q) st) : RWP P T (.seq a b) Q st := by
  refine ⟨fun M0 base ac w hr => wp_seq (wp_mono (vwp_sound hT hm a _ st ac w (xwp_ok a _ _ st (fun _ _ q => q) h) hr) ?_)⟩
  intro e a' w' hq
  cases e with
  | normal => obtain ⟨st', hq, hr'⟩ := hq; exact hq.run M0 base a' w' hr'
  | exit id => exact hq
  | ret => exact hq
  | goto l => exact hq.elim
  | panic c => exact hq.elim
  | outgrown => exact hq.elim
/-- What holds where ways meet. -/
theorem RWP.cut (mid : St → Prop) (hT : TabOk P T) (hm : P.follows .mixedOrders = true) {a b : Code} {Q : Ex → St → Prop} {st : St} (h : xwp P T a (Ex.then (fun st' => ∃ st0, Wk st' st0 ∧ mid st0) Q) st)
    (k : ∀ st0, mid st0 → RWP P T b Q st0) : RWP P T (.seq a b) Q st :=
  RWP.seqx hT hm (by
    have mono := xwp_mono a (Ex.then (fun st' => ∃ st0, Wk st' st0 ∧ mid st0) Q) (Ex.then (fun st' => RWP P T b Q st') Q) st (fun e st' q => by
      cases e with
      | normal => obtain ⟨st0, hw, hq⟩ := q; exact RWP.weak hw (k st0 hq)
      | exit i => exact q
      | ret => exact q) h
    exact mono)
theorem VCalls.ofr {f : FuncId} {fn : Func} {c : Code} {xs : List SV} {Q : SV → Prop} (hT : TabOk P T) (hf : P.funcs[f]? = some fn) (hname : (fn.name == "runtime.NumGoroutine") = false)
    (hb : fn.body = some c) (hn : (Nat.ble xs.length fn.ntmps && Nat.ble fn.ntmps HI) = true) (h : RWP P T c (xbody T fn Q) (entry fn.ntmps xs)) : VCalls P f xs Q :=
  VCalls.of_wp hT hf hname hb (by rw [Bool.and_eq_true] at hn; exact ⟨Nat.le_of_ble_eq_true hn.1, Nat.le_of_ble_eq_true hn.2⟩) (fun M0 base a w hr => wp_mono (h.run M0 base a w hr) (by
    intro e a' w' hq
    cases e with
    | normal => obtain ⟨st, hq, hr⟩ := hq; exact ⟨st, xret_ok hq, hr⟩
    | exit i => obtain ⟨st, hq, hr⟩ := hq; exact hq.elim
    | ret => obtain ⟨st, hq, hr⟩ := hq; exact ⟨st, xret_ok hq, hr⟩
    | goto l => exact hq.elim
    | panic c => exact hq.elim
    | outgrown => exact hq.elim))
end
end Go.Proofs.Ytnoohgiecnmajaa.VC

