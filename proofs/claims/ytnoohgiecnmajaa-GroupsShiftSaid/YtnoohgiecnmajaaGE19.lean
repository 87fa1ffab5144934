/- A part of the ground of the proof. No condition. -/
import Derived.Test.YtnoohgiecnmajaaGE18

/- The engine, part 19: functions that are handed boxes, own slices, maps. -/
namespace Go.Proofs.Ytnoohgiecnmajaa.VC
open Go Go.RowKit
set_option linter.unusedVariables false
set_option linter.unusedSimpArgs false

/-- What was handed in, alone. -/
def hiOnly {α : Type} : List (Nat × α) → List (Nat × α)
  | [] => []
  | (k, v) :: l => match Nat.ble HI k with | true => (k, v) :: hiOnly l | false => hiOnly l
theorem look_hiOnly {α : Type} {t : Nat} {x : α} : ∀ {l : List (Nat × α)}, look t (hiOnly l) = some x → look t l = some x ∧ HI ≤ t
  | [], h => by simp [hiOnly, look] at h
  | (k, v) :: l, h => by
    unfold hiOnly at h
    rw [look_cons]
    split at h
    · rename_i hk
      rw [look_cons] at h
      by_cases e : k = t
      · rw [if_pos e] at h ⊢
        subst e
        exact ⟨h, Nat.le_of_ble_eq_true hk⟩
      · rw [if_neg e] at h ⊢
        exact look_hiOnly h
    · rename_i hk
      have ih := look_hiOnly h
      by_cases e : k = t
      · subst e
        have := Nat.ble_eq_true_of_le ih.2
        rw [hk] at this
        cases this
      · rw [if_neg e]
        exact ih
/-- What a state tells of the memory that was handed in. -/
def heap (st : St) : St := { n := 0, env := [], box := hiOnly st.box, own := hiOnly st.own, mp := hiOnly st.mp }
def a0 : Act := { tmps := #[], defers := [] }
def bs0 (w : World) (X : Nat → Prop) (M0 : Region) (g : Gh) (H : St) : Bs := ⟨w, X, Mset M0 g H, g.β, g.μ⟩
/-- What a function answers that is handed memory (H): a value and that memory, as Q tells. -/
structure HCalls (P : Program) (f : FuncId) (H : St) (args : List FE) (Q : FE → St → Prop) : Prop where
  there : ∃ fn, P.funcs[f]? = some fn ∧ (fn.name == "runtime.NumGoroutine") = false ∧ fn.body.isNone = false
  calls : ∀ (M0 : Region) (X : Nat → Prop) (g : Gh) (w : World) (vs : List Value), Rp M0 (bs0 w X M0 g H) g H a0 w → FRs g (Mset M0 g H) w args vs →
    Calls P f vs.toArray w fun e w' => ∃ v fe g' H', e = .returned v ∧ Rp M0 (bs0 w X M0 g H) g' H' a0 w' ∧ FR g' (Mset M0 g' H') w' fe v ∧ Q fe H'
theorem HCalls.mono {P : Program} {f : FuncId} {H : St} {args : List FE} {Q Q' : FE → St → Prop} (h : HCalls P f H args Q) (hq : ∀ fe H', Q fe H' → Q' fe H') : HCalls P f H args Q' :=
  ⟨h.there, fun M0 X g w vs h1 h2 => (h.calls M0 X g w vs h1 h2).mono fun e w' ⟨v, fe, g', H', q1, q2, q3, q4⟩ => ⟨v, fe, g', H', q1, q2, q3, hq _ _ q4⟩⟩

def enumF (n : Nat) : List FE → List (Nat × FE)
  | [] => []
  | x :: xs => (n, x) :: enumF (n + 1) xs
def entryH (n : Nat) (args : List FE) (H : St) : St := { n := n, env := enumF 0 args, box := H.box, own := H.own, mp := H.mp }
/-- What is told at the end: values, or one own slice. -/
def hres (T : Tab) (fn : Func) (Q : FE → St → Prop) (st : St) : Prop :=
  match vres T st fn.results.toList fn.resultTypes.toList with
  | some r => Q (.pv (mkres r.1)) (heap (st.exposes r.2))
  | none => False
def hown (fn : Func) (Q : FE → St → Prop) (st : St) : Prop :=
  match fn.results.toList with
  | [.tmp t] => match look t st.env with
    | some (.own k) => Q (.own k) (heap st)
    | _ => False
  | _ => False
def hret (T : Tab) (fn : Func) (Q : FE → St → Prop) (st : St) : Prop := ∃ st0, Wk st st0 ∧ (hres T fn Q st0 ∨ hown fn Q st0)
def hbody (T : Tab) (fn : Func) (Q : FE → St → Prop) : Ex → St → Prop
  | .normal, st => hret T fn Q st
  | .ret, st => hret T fn Q st
  | .exit _, _ => False
theorem enumF_look : ∀ (xs : List FE) (n t : Nat) (fe : FE), look t (enumF n xs) = some fe → ∃ i, t = n + i ∧ xs[i]? = some fe
  | [], n, t, fe, h => by simp [enumF, look] at h
  | x :: xs, n, t, fe, h => by
    simp only [enumF, look_cons] at h
    split at h
    · rename_i e
      cases h
      exact ⟨0, by omega, by simp⟩
    · obtain ⟨i, h1, h2⟩ := enumF_look xs (n + 1) t fe h
      exact ⟨i + 1, by omega, by simpa using h2⟩
theorem FRs.length {g : Gh} {M : Region} {w : World} : ∀ {cs : List FE} {vs : List Value}, FRs g M w cs vs → vs.length = cs.length
  | [], vs, h => by simp only [FRs] at h; simp [h]
  | c :: cs, vs, h => by
    simp only [FRs] at h
    obtain ⟨v, vs', rfl, _, h4⟩ := h
    simp [FRs.length h4]
theorem FRs.get {g : Gh} {M : Region} {w : World} : ∀ {cs : List FE} {vs : List Value}, FRs g M w cs vs → ∀ {i : Nat} {c : FE}, cs[i]? = some c → ∃ v, vs[i]? = some v ∧ FR g M w c v
  | [], vs, h, i, c, hc => by simp at hc
  | d :: cs, vs, h, i, c, hc => by
    simp only [FRs] at h
    obtain ⟨v, vs', rfl, h2, h4⟩ := h
    cases i with
    | zero => simp at hc; subst hc; exact ⟨v, by simp, h2⟩
    | succ i => simp at hc ⊢; exact FRs.get h4 hc

section
variable {P : Program} {T : Tab} {M0 : Region} {base : Bs} {g : Gh} {w : World} {a : Act}
theorem Mv.heap (M0 : Region) (g : Gh) (st : St) (w : World) : Mv (Mset M0 g st) w (Mset M0 g (heap st)) w := ⟨fun b off u hu hn => ⟨hu, by
  rintro (hh | ⟨s, c, q1, q2⟩ | ⟨k, o, q1, q2, q3⟩)
  · exact hn (.inl hh)
  · exact hn (.inr (.inl ⟨s, c, (look_hiOnly q1).1, q2⟩))
  · exact hn (.inr (.inr ⟨k, o, (look_hiOnly q1).1, q2, q3⟩))⟩⟩
/-- The memory alone, of a state. -/
theorem Rp.toHeap {st : St} (h : Rp M0 base g st a w) : Rp M0 base g (heap st) a0 w := by
  have hm := Mv.heap M0 g st w
  refine ⟨h.below, h.m0, h.keep.trans hm, Nat.zero_le _, h.pin, rfl, rfl, fun t fe hf => by simp [VC.heap, look] at hf, ?_, ?_, fun k o b hk => h.omine k o b (look_hiOnly hk).1, fun k m hk => h.map k m (look_hiOnly hk).1,
    fun s s' c c' h1 h2 => h.dbb s s' c c' (look_hiOnly h1).1 (look_hiOnly h2).1, fun s k c o h1 h2 => h.dbo s k c o (look_hiOnly h1).1 (look_hiOnly h2).1, fun k k' o o' h1 h2 => h.doo k k' o o' (look_hiOnly h1).1 (look_hiOnly h2).1, fun k k' m m' h1 h2 => h.dmm k k' m m' (look_hiOnly h1).1 (look_hiOnly h2).1⟩
  · intro s T cs hs
    obtain ⟨k1, vs, k2, k3⟩ := h.box s T cs (look_hiOnly hs).1
    exact ⟨k1, vs, k2, FRc.mv hm k3⟩
  · intro k o ho
    obtain ⟨vals, q1, q2, q3⟩ := h.own k o (look_hiOnly ho).1
    exact ⟨vals, q1, VRc.mv hm _ _ q2, q3⟩
/-- A contract out of the code. -/
theorem HCalls.of_wp {f : FuncId} {fn : Func} {c : Code} {H : St} {args : List FE} {Q : FE → St → Prop} (hT : TabOk P T) (hf : P.funcs[f]? = some fn) (hname : (fn.name == "runtime.NumGoroutine") = false)
    (hb : fn.body = some c) (hn : args.length ≤ fn.ntmps ∧ fn.ntmps ≤ HI) (h : ∀ M0 base a w, Rep M0 base (entryH fn.ntmps args H) a w → c.wp P (Lift M0 base (hbody T fn Q)) a w) : HCalls P f H args Q := by
  refine ⟨⟨fn, hf, hname, by rw [hb]; rfl⟩, fun M0 X g w vs hp hvs => calls_of_wp hf hb ?_⟩
  have hl := hvs.length
  have hsz : (vs.toArray ++ Array.replicate (fn.ntmps - vs.toArray.size) undef).size = fn.ntmps := by have := hn.1; simp; omega
  have hrep : Rep M0 (bs0 w X M0 g H) (entryH fn.ntmps args H) { tmps := vs.toArray ++ Array.replicate (fn.ntmps - vs.toArray.size) undef, defers := [] } w := by
    refine ⟨g, hp.below, hp.m0, hp.keep, hn.2, hp.pin, hsz, rfl, ?_, hp.box, hp.own, hp.omine, hp.map, hp.dbb, hp.dbo, hp.doo, hp.dmm⟩
    intro t fe hfe
    obtain ⟨i, rfl, hx⟩ := enumF_look args 0 t fe hfe
    obtain ⟨v, h1, h2⟩ := hvs.get hx
    have hlt := (List.getElem?_eq_some_iff.1 h1).1
    refine ⟨v, ?_, h2⟩
    rw [Nat.zero_add, Array.getElem?_append_left (by simpa using hlt)]
    simpa using h1
  refine wp_mono (h M0 _ _ _ hrep) ?_
  have key : ∀ (st : St) (a' : Act) (w' : World), hret T fn Q st → Rep M0 (bs0 w X M0 g H) st a' w' → a'.defers = [] ∧ ∃ v, (results fn a'.tmps).run P w' = .ok v w' ∧ ∃ v' fe g' H', Ending.returned v = .returned v' ∧ Rp M0 (bs0 w X M0 g H) g' H' a0 w' ∧ FR g' (Mset M0 g' H') w' fe v' ∧ Q fe H' := by
    rintro st a' w' ⟨st0, hw, hres | hown⟩ hr
    · obtain ⟨g', hp'⟩ := hw _ _ _ _ hr
      refine ⟨hp'.defers, ?_⟩
      unfold VC.hres at hres
      split at hres
      · rename_i r hvr
        obtain ⟨us, h1, h2⟩ := vres_ok hT hp' [] hvr
        simp only [List.nil_append] at h2
        have hmap : (fn.results.mapM (getRes a'.tmps)).run P w' = .ok us.toArray w' := by
          rw [Array.mapM_eq_mapM_toList]
          simp only [Sem.run_map, h1, Result.andThen_ok]
        have hres' : (results fn a'.tmps).run P w' = .ok (if hh : us.toArray.size = 1 then us.toArray[0] else .tuple us.toArray) w' := by
          rw [results_eq]
          simp only [Sem.run_bind, Sem.run_pure, hmap]
          rfl
        refine ⟨_, hres', _, _, g', _, rfl, (hp'.exposes r.2).toHeap, ?_, hres⟩
        have h2 := h2
        show VR (Mset M0 g' (heap (st0.exposes r.2))) w' (mkres r.1) _
        refine VR.mv (Mv.heap M0 g' (st0.exposes r.2) w') _ _ ?_
        generalize r.1 = xs2 at h2
        match xs2, h2 with
        | [], h2 =>
          simp only [VRs] at h2
          subst h2
          exact ⟨[], rfl, by simp [VRs]⟩
        | [x], h2 =>
          simp only [VRs] at h2
          obtain ⟨v, vs', rfl, h3, rfl⟩ := h2
          exact h3
        | x :: y :: zs, h2 =>
          have hlen := VRs.length h2
          have hne : ¬ us.toArray.size = 1 := by simp at hlen ⊢; omega
          rw [dif_neg hne]
          show VR (Mset M0 g' (st0.exposes r.2)) w' (.tuple (x :: y :: zs)) (.tuple us.toArray)
          simp only [VR]
          exact ⟨us, rfl, h2⟩
      · exact hres.elim
    · obtain ⟨g', hp'⟩ := hw _ _ _ _ hr
      refine ⟨hp'.defers, ?_⟩
      unfold VC.hown at hown
      split at hown
      · rename_i t ht
        split at hown
        · rename_i k hk
          obtain ⟨v, hv, hfr⟩ := hp'.env t _ hk
          refine ⟨v, ?_, v, .own k, g', heap st0, rfl, hp'.toHeap, hfr, hown⟩
          have hr1 : fn.results = #[.tmp t] := by rw [← Array.toArray_toList (xs := fn.results), ht]
          rw [results_eq, hr1]
          simp [getRes, hv]
        · exact hown.elim
      · exact hown.elim
  intro e a' w' hq
  cases e with
  | normal => obtain ⟨st, hq, hp⟩ := hq; exact key st a' w' hq hp
  | ret => obtain ⟨st, hq, hp⟩ := hq; exact key st a' w' hq hp
  | exit i => obtain ⟨st, hq, hp⟩ := hq; exact hq.elim
  | goto l => exact hq.elim
  | panic c => exact hq.elim
  | outgrown => exact hq.elim
theorem HCalls.ofr {f : FuncId} {fn : Func} {c : Code} {H : St} {args : List FE} {Q : FE → St → Prop} (hT : TabOk P T) (hf : P.funcs[f]? = some fn) (hname : (fn.name == "runtime.NumGoroutine") = false)
    (hb : fn.body = some c) (hn : (Nat.ble args.length fn.ntmps && Nat.ble fn.ntmps HI) = true) (h : RWP P T c (hbody T fn Q) (entryH fn.ntmps args H)) : HCalls P f H args Q :=
  HCalls.of_wp hT hf hname hb (by rw [Bool.and_eq_true] at hn; exact ⟨Nat.le_of_ble_eq_true hn.1, Nat.le_of_ble_eq_true hn.2⟩) (fun M0 base a w hr => h.run M0 base a w hr)
end
end Go.Proofs.Ytnoohgiecnmajaa.VC

