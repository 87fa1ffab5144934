/- A part of the ground of the proof. No condition. -/
import Derived.Test.YtnoohgiecnmajaaGE12

/- The engine, part 13: code, and a function's contract out of it. -/
namespace Go.Proofs.Ytnoohgiecnmajaa.VC
open Go Go.RowKit
set_option linter.unusedVariables false
set_option linter.unusedSimpArgs false

inductive Ex where
  | normal
  | exit (id : Nat)
  | ret
/-- A state that tells less. -/
def Wk (st st' : St) : Prop := ∀ M0 base a w, Rep M0 base st a w → Rep M0 base st' a w
theorem Wk.refl (st : St) : Wk st st := fun _ _ _ _ h => h
theorem Wk.trans {a b c : St} (h : Wk a b) (k : Wk b c) : Wk a c := fun _ _ _ _ hh => k _ _ _ _ (h _ _ _ _ hh)
theorem Wk.narrow (st : St) (ts ss ks : List Nat) : Wk st (st.narrow ts ss ks) := fun _ _ _ _ ⟨g, h⟩ => ⟨g, h.narrow ts ss ks⟩

def Ex.then (next : St → Prop) (Q : Ex → St → Prop) : Ex → St → Prop
  | .normal, st => next st
  | e, st => Q e st
def Ex.inBlock (id : Nat) (Q : Ex → St → Prop) : Ex → St → Prop
  | .exit i, st => if i = id then Q .normal st else Q (.exit i) st
  | e, st => Q e st
def vwp (P : Program) (T : Tab) : Code → (Ex → St → Prop) → St → Prop
  | .skip, Q, st => Q .normal st
  | .region _ ops true, Q, st => ∃ pl, okReg T ops pl = true ∧ vplan P T ops (Q .normal) pl st
  | .region _ ops false, Q, st => vops P T ops (Q .normal) ops.toList st
  | .seq a b, Q, st => vwp P T a (Ex.then (vwp P T b Q) Q) st
  | .cond c a b, Q, st => ∃ t, val1 st c = some (.bool t) ∧ (t = true → vwp P T a Q st) ∧ (t = false → vwp P T b Q st)
  | .block id b, Q, st => vwp P T b (Ex.inBlock id Q) st
  | .loop b, Q, st => ∃ I : Nat → St → Prop, (∃ n st0, Wk st st0 ∧ I n st0) ∧ ∀ n st', I n st' → vwp P T b (Ex.then (fun st'' => ∃ m st0, m < n ∧ Wk st'' st0 ∧ I m st0) Q) st'
  | .exit id, Q, st => Q (.exit id) st
  | .ret, Q, st => Q .ret st
  | _, _, _ => False

/-- What is meant of the frame and the world. -/
def Lift (M0 : Region) (base : Bs) (Q : Ex → St → Prop) : Exit → Act → World → Prop
  | .normal, a, w => ∃ st, Q .normal st ∧ Rep M0 base st a w
  | .exit id, a, w => ∃ st, Q (.exit id) st ∧ Rep M0 base st a w
  | .ret, a, w => ∃ st, Q .ret st ∧ Rep M0 base st a w
  | _, _, _ => False
section
variable {P : Program} {T : Tab} {M0 : Region} {base : Bs}
theorem vwp_sound (hT : TabOk P T) (hm : P.follows .mixedOrders = true) : ∀ (c : Code) (Q : Ex → St → Prop) (st : St) (a : Act) (w : World), vwp P T c Q st → Rep M0 base st a w → c.wp P (Lift M0 base Q) a w
  | .skip, Q, st, a, w, h, hr => wp_skip ⟨st, h, hr⟩
  | .region id ops true, Q, st, a, w, h, hr => by
    simp only [vwp] at h
    obtain ⟨ord, h1, h2⟩ := h
    obtain ⟨g, hr⟩ := hr
    exact region_drawn_sound hT hm (fun g' st' a' w' hq hp => ⟨st', hq, g', hp⟩) (fun _ _ _ hh => hh) h1 h2 hr
  | .region id ops false, Q, st, a, w, h, hr => by
    simp only [vwp] at h
    obtain ⟨g, hr⟩ := hr
    exact region_sound hT (fun g' st' a' w' hq hp => ⟨st', hq, g', hp⟩) h hr
  | .seq x y, Q, st, a, w, h, hr => by
    simp only [vwp] at h
    refine wp_seq (wp_mono (vwp_sound hT hm x _ st a w h hr) ?_)
    intro e a' w' hq
    cases e with
    | normal => obtain ⟨st', hq, hr'⟩ := hq; exact vwp_sound hT hm y Q st' a' w' hq hr'
    | exit id => exact hq
    | ret => exact hq
    | goto l => exact hq.elim
    | panic c => exact hq.elim
    | outgrown => exact hq.elim
  | .cond c x y, Q, st, a, w, h, hr => by
    simp only [vwp] at h
    obtain ⟨t, hc, h1, h2⟩ := h
    have hcv : a.eval c = .bool t := by obtain ⟨g, hr⟩ := hr; exact hr.val1 hc
    exact wp_cond_split hcv (fun ht => vwp_sound hT hm x Q st a w (h1 ht) hr) (fun ht => vwp_sound hT hm y Q st a w (h2 ht) hr)
  | .block id b, Q, st, a, w, h, hr => by
    simp only [vwp] at h
    refine wp_block (wp_mono (vwp_sound hT hm b _ st a w h hr) ?_)
    intro e a' w' hq
    cases e with
    | normal => exact hq
    | exit i =>
      obtain ⟨st', hq, hr'⟩ := hq
      simp only [Ex.inBlock] at hq
      simp only [Exit.inBlock]
      by_cases hi : i = id
      · rw [if_pos hi] at hq ⊢; exact ⟨st', hq, hr'⟩
      · rw [if_neg hi] at hq ⊢; exact ⟨st', hq, hr'⟩
    | ret => exact hq
    | goto l => exact hq.elim
    | panic c => exact hq.elim
    | outgrown => exact hq.elim
  | .loop b, Q, st, a, w, h, hr => by
    simp only [vwp] at h
    obtain ⟨I, ⟨n, st0, hw, hI⟩, hround⟩ := h
    refine wp_loop_ghost (fun n a w => ∃ st', I n st' ∧ Rep M0 base st' a w) n ⟨st0, hI, hw _ _ _ _ hr⟩ ?_
    rintro n a' w' ⟨st', hI', hr'⟩
    refine wp_mono (vwp_sound hT hm b _ st' a' w' (hround n st' hI') hr') ?_
    intro e a2 w2 hq
    cases e with
    | normal =>
      obtain ⟨st2, ⟨m, st3, hlt, hw3, hI3⟩, hr2⟩ := hq
      exact ⟨m, hlt, st3, hI3, hw3 _ _ _ _ hr2⟩
    | exit i => exact hq
    | ret => exact hq
    | goto l => exact hq.elim
    | panic c => exact hq.elim
    | outgrown => exact hq.elim
  | .exit id, Q, st, a, w, h, hr => wp_exit ⟨st, h, hr⟩
  | .ret, Q, st, a, w, h, hr => wp_ret ⟨st, h, hr⟩
  | .rangeFunc .., Q, st, a, w, h, hr => by simp only [vwp] at h
  | .scope .., Q, st, a, w, h, hr => by simp only [vwp] at h
  | .label .., Q, st, a, w, h, hr => by simp only [vwp] at h
  | .goto .., Q, st, a, w, h, hr => by simp only [vwp] at h
  | .refuse .., Q, st, a, w, h, hr => by simp only [vwp] at h

/-! ### A function -/
def vres1 (T : Tab) (st : St) (t : Option TypeId) : ResultVar → Option (SV × List Nat)
  | .tmp d => (look d st.env).bind fun fe => (pf st fe).map fun p => (normO T t p.1, p.2)
  | .cell d ty =>
    match look d st.env, T ty with
    | some (.ptr s off), some ti => (look s st.box).bind fun b =>
      if ti.sh.row then (if ti.size ≤ (b.2.drop off).length then (pfs st ((b.2.drop off).take ti.size)).map fun p => (normO T t (.agg p.1), p.2) else none)
      else ((b.2.drop off)[0]?).bind fun fe => (pf st fe).map fun p => (normO T t p.1, p.2)
    | _, _ => none
def vres (T : Tab) (st : St) : List ResultVar → List TypeId → Option (List SV × List Nat)
  | [], _ => some ([], [])
  | r :: rs, ts => (vres1 T st ts.head? r).bind fun x => (vres T st rs ts.tail).map fun y => (x.1 :: y.1, x.2 ++ y.2)
def mkres : List SV → SV
  | [x] => x
  | xs => .tuple xs
def vret (T : Tab) (fn : Func) (Q : SV → Prop) (st : St) : Prop := ∃ r, vres T st fn.results.toList fn.resultTypes.toList = some r ∧ Q (mkres r.1)
def enum (n : Nat) : List SV → List (Nat × FE)
  | [] => []
  | x :: xs => (n, .pv x) :: enum (n + 1) xs
def entry (n : Nat) (xs : List SV) : St := { n := n, env := enum 0 xs, box := [], own := [], mp := [] }
def body (T : Tab) (fn : Func) (Q : SV → Prop) : Ex → St → Prop
  | .normal => vret T fn Q
  | .ret => vret T fn Q
  | .exit _ => fun _ => False

def getRes (tmps : Array Value) : ResultVar → Sem Value
  | .tmp t => pure (tmps.getD t undef)
  | .cell a t => do loadVar t (← asAddr (tmps.getD a undef))
theorem results_eq (fn : Func) (tmps : Array Value) : results fn tmps = (do let vs ← fn.results.mapM (getRes tmps); pure (if h : vs.size = 1 then vs[0] else .tuple vs)) := by
  have : (fun x => match x with | .tmp t => pure (tmps.getD t undef) | .cell a t => do loadVar t (← asAddr (tmps.getD a undef)) : ResultVar → Sem Value) = getRes tmps := by
    funext r
    cases r <;> rfl
  rw [← this]
  rfl
theorem pf_exp {st : St} {fe : FE} {p : SV × List Nat} (h : pf st fe = some p) (js : List Nat) : pf (st.exposes js) fe = some p := pf_exposes (x := p.1) (ks := p.2) h js
theorem vres1_ok (hT : TabOk P T) {g : Gh} {st : St} {a : Act} {w : World} (h : Rp M0 base g st a w) {t : Option TypeId} {r : ResultVar} {x : SV × List Nat} (hx : vres1 T st t r = some x) :
    ∃ v, (getRes a.tmps r).run P w = .ok v w ∧ VR (Mset M0 g (st.exposes x.2)) w x.1 v := by
  cases r with
  | tmp d =>
    simp only [vres1] at hx
    obtain ⟨fe, hl, hx⟩ := Option.bind_eq_some_iff.1 hx
    obtain ⟨p, hp, rfl⟩ := Option.map_eq_some_iff.1 hx
    obtain ⟨v, hv, hr⟩ := h.env d fe hl
    refine ⟨v, by simp [getRes, hv], normO_ok T t (h.pf hr (x := p.1) (ks := p.2) hp)⟩
  | cell d ty =>
    simp only [vres1] at hx
    split at hx
    · rename_i s off ti hl hti
      obtain ⟨⟨TT, cs⟩, hb, hx⟩ := Option.bind_eq_some_iff.1 hx
      obtain ⟨u, hu, hr⟩ := h.env d _ hl
      have hu' : a.tmps.getD d undef = .pointer (some ⟨g.β s, off, none⟩) := by
        have hr : u = .pointer (some ⟨g.β s, off, none⟩) := hr
        simp [hu, hr]
      have ty' := hT _ _ hti
      -- the load, as the operation does it
      have hload : ∀ K : FE → List Nat → Prop, vload st ti (cs.drop off) K → ∃ fe ks v, K fe ks ∧ FR g (Mset M0 g (st.exposes ks)) w fe v ∧ (Instr.loadAt ty (.pointer (some ⟨g.β s, off, none⟩))).run P w = .ok v w := by
        intro K hK
        have hp : Rp M0 base g (st.set (some d) (.ptr s off)) (a.put (some d) u) w := h.set (some d) (by
          have := (Array.getElem?_eq_some_iff.1 hu).1
          show d < st.n
          rw [← h.size]; exact this) hr
        have hv : va T (st.set (some d) (.ptr s off)) K (.load ty (.tmp d)) := by
          simp only [va]
          refine ⟨ti, hti, ?_⟩
          have : ev (st.set (some d) (.ptr s off)) (.tmp d) = some (.ptr s off) := by simp [ev, St.set, St.put, look_ins]
          rw [this]
          refine ⟨(TT, cs), hb, ?_⟩
          have e : ∀ fs : List FE, pfs (st.set (some d) (.ptr s off)) fs = pfs st fs := by
            intro fs
            induction fs with
            | nil => rfl
            | cons f fs ih =>
              simp only [pfs, ih]
              have : pf (st.set (some d) (.ptr s off)) f = pf st f := by cases f <;> rfl
              rw [this]
          unfold vload at hK ⊢
          simp only [e]
          exact hK
        obtain ⟨fe, ks, v, k1, k2, k3⟩ := va_sound (o := ⟨none, .load ty (.tmp d), ty, "", #[], none⟩) hT hp hv
        have k3 := k3 w (.inr (Hold.refl w))
        have hev : (a.put (some d) u).eval (.tmp d) = .pointer (some ⟨g.β s, off, none⟩) := by
          have hr : u = .pointer (some ⟨g.β s, off, none⟩) := hr
          have hlt := (Array.getElem?_eq_some_iff.1 hu).1
          simp [Act.put, Act.eval, hlt, hr]
        simp only [execOp, hev, Sem.run_bind, Sem.run_pure] at k3
        refine ⟨fe, ks, v, k1, ?_, ?_⟩
        · have ex : ∀ (ks : List Nat) (st : St), (st.set (some d) (.ptr s off)).exposes ks = (st.exposes ks).set (some d) (.ptr s off) := by
            intro ks
            induction ks with
            | nil => intro st; rfl
            | cons k ks ih =>
              intro st
              simp only [St.exposes]
              rw [← ih]
              congr 1
              unfold St.expose St.set St.put
              simp only
              cases look k st.own <;> rfl
          rw [ex] at k2
          exact k2
        · cases hq : (Instr.loadAt ty (.pointer (some ⟨g.β s, off, none⟩))).run P w with
          | ok v2 w2 =>
            rw [hq] at k3
            simp only [Result.andThen_ok] at k3
            injection k3 with k3 k4
            injection k3 with k3
            rw [k3, k4]
          | halt hh w2 => rw [hq] at k3; simp at k3
      have fin : ∀ v, (Instr.loadAt ty (.pointer (some ⟨g.β s, off, none⟩))).run P w = .ok v w → (getRes a.tmps (.cell d ty)).run P w = .ok v w := by
        intro v hv
        simp only [getRes]
        rw [hu']
        simpa [asAddr, Instr.loadAt, Instr.sureAddr] using hv
      split at hx
      · rename_i hrow
        split at hx
        · rename_i hsz
          obtain ⟨p, hp, rfl⟩ := Option.map_eq_some_iff.1 hx
          obtain ⟨fe, ks, v, k1, k2, k3⟩ := hload (fun fe ks => fe = .pv (.agg p.1) ∧ ks = p.2) (by
            unfold vload
            rw [hrow]
            exact ⟨hsz, p, hp, rfl, rfl⟩)
          obtain ⟨rfl, rfl⟩ := k1
          exact ⟨v, fin v k3, normO_ok T t k2⟩
        · cases hx
      · rename_i hrow
        obtain ⟨f, hf, hx⟩ := Option.bind_eq_some_iff.1 hx
        obtain ⟨p, hp, rfl⟩ := Option.map_eq_some_iff.1 hx
        obtain ⟨fe, ks, v, k1, k2, k3⟩ := hload (fun fe ks => fe = f ∧ ks = []) (by
          unfold vload
          have : ti.sh.row = false := by cases hh : ti.sh.row <;> simp_all
          rw [this]
          exact ⟨f, hf, rfl, rfl⟩)
        obtain ⟨rfl, rfl⟩ := k1
        exact ⟨v, fin v k3, normO_ok T t (h.pf k2 (x := p.1) (ks := p.2) hp)⟩
    · cases hx
theorem vres1_exposes {st : St} {t : Option TypeId} {r : ResultVar} {x : SV × List Nat} (hx : vres1 T st t r = some x) (js : List Nat) : vres1 T (st.exposes js) t r = some x := by
  have env : ∀ (ks : List Nat) (st : St), (st.exposes ks).env = st.env ∧ (st.exposes ks).box = st.box := by
    intro ks
    induction ks with
    | nil => intro st; exact ⟨rfl, rfl⟩
    | cons k ks ih =>
      intro st
      simp only [St.exposes]
      rw [(ih _).1, (ih _).2]
      unfold St.expose
      cases look k st.own <;> exact ⟨rfl, rfl⟩
  have pfs' : ∀ (fs : List FE) (q : List SV × List Nat), pfs st fs = some q → pfs (st.exposes js) fs = some q := by
    intro fs
    induction fs with
    | nil => intro q hq; exact hq
    | cons f fs ih =>
      intro q hq
      simp only [pfs] at hq ⊢
      obtain ⟨p, hp, hq⟩ := Option.bind_eq_some_iff.1 hq
      obtain ⟨p2, hp2, hq⟩ := Option.map_eq_some_iff.1 hq
      rw [pf_exp hp js]
      simp only [Option.bind_some]
      rw [ih _ hp2]
      exact congrArg some hq
  cases r with
  | tmp d =>
    simp only [vres1, (env js st).1] at hx ⊢
    obtain ⟨fe, hl, hx⟩ := Option.bind_eq_some_iff.1 hx
    obtain ⟨p, hp, hx⟩ := Option.map_eq_some_iff.1 hx
    rw [hl]
    simp only [Option.bind_some]
    rw [pf_exp hp js]
    exact congrArg some hx
  | cell d ty =>
    simp only [vres1, (env js st).1, (env js st).2] at hx ⊢
    split at hx
    · rename_i s off ti hl hti
      obtain ⟨b, hb, hx⟩ := Option.bind_eq_some_iff.1 hx
      rw [hb]
      simp only [Option.bind_some]
      split at hx
      · rename_i hrow
        rw [if_pos hrow]
        split at hx
        · rename_i hsz
          rw [if_pos hsz]
          obtain ⟨p, hp, hx⟩ := Option.map_eq_some_iff.1 hx
          rw [pfs' _ _ hp]
          exact congrArg some hx
        · cases hx
      · rename_i hrow
        rw [if_neg hrow]
        obtain ⟨f, hf, hx⟩ := Option.bind_eq_some_iff.1 hx
        obtain ⟨p, hp, hx⟩ := Option.map_eq_some_iff.1 hx
        rw [hf]
        simp only [Option.bind_some]
        rw [pf_exp hp js]
        exact congrArg some hx
    · cases hx
theorem vres_ok (hT : TabOk P T) {g : Gh} {st : St} {a : Act} {w : World} (h : Rp M0 base g st a w) : ∀ {rs : List ResultVar} {ts : List TypeId} {x : List SV × List Nat} (ks0 : List Nat), vres T st rs ts = some x →
    ∃ vs : List Value, (rs.mapM (getRes a.tmps)).run P w = .ok vs w ∧ VRs (Mset M0 g (st.exposes (ks0 ++ x.2))) w x.1 vs := by
  intro rs
  induction rs with
  | nil => intro ts x ks0 hx; simp only [vres] at hx; cases hx; exact ⟨[], by simp, by simp [VRs]⟩
  | cons r rs ih =>
    intro ts x ks0 hx
    simp only [vres] at hx
    obtain ⟨y, hy, hx⟩ := Option.bind_eq_some_iff.1 hx
    obtain ⟨z, hz, rfl⟩ := Option.map_eq_some_iff.1 hx
    obtain ⟨v, h1, h2⟩ := vres1_ok hT (h.exposes ks0) (vres1_exposes hy ks0)
    obtain ⟨vs, h3, h4⟩ := ih (ks0 ++ y.2) hz
    refine ⟨v :: vs, ?_, ?_⟩
    · rw [List.mapM_cons]
      simp only [Sem.run_bind, h1, Result.andThen_ok, h3, Sem.run_pure]
    · simp only [VRs]
      refine ⟨v, vs, rfl, ?_, by rw [← List.append_assoc]; exact h4⟩
      rw [← List.append_assoc, exposes_append, exposes_append]
      exact VR.mv (Mv.exposes M0 g z.2 w _) _ _ h2
theorem Mset_sub0 {g : Gh} {st : St} {w : World} {x : SV} {v : Value} (h : VR (Mset M0 g st) w x v) : VR M0 w x v :=
  VR.mv ⟨fun b off u hu hn => ⟨hu, fun hh => hn (.inl hh)⟩⟩ _ _ h
theorem enum_look : ∀ (xs : List SV) (n t : Nat) (fe : FE), look t (enum n xs) = some fe → ∃ i x, t = n + i ∧ xs[i]? = some x ∧ fe = .pv x
  | [], n, t, fe, h => by simp [enum, look] at h
  | x :: xs, n, t, fe, h => by
    simp only [enum, look_cons] at h
    split at h
    · rename_i e
      cases h
      exact ⟨0, x, by omega, by simp, rfl⟩
    · obtain ⟨i, y, h1, h2, h3⟩ := enum_look xs (n + 1) t fe h
      exact ⟨i + 1, y, by omega, by simpa using h2, h3⟩
/-- A contract out of the code. -/
theorem VCalls.of_wp {f : FuncId} {fn : Func} {c : Code} {xs : List SV} {Q : SV → Prop} (hT : TabOk P T) (hf : P.funcs[f]? = some fn) (hname : (fn.name == "runtime.NumGoroutine") = false)
    (hb : fn.body = some c) (hn : xs.length ≤ fn.ntmps ∧ fn.ntmps ≤ HI) (h : ∀ M0 base a w, Rep M0 base (entry fn.ntmps xs) a w → c.wp P (Lift M0 base (body T fn Q)) a w) : VCalls P f xs Q := by
  refine ⟨⟨fn, hf, hname, by rw [hb]; rfl⟩, fun M0 w vs hM hvs => calls_of_wp hf hb ?_⟩
  have hl := VRs.length hvs
  have hsz : (vs.toArray ++ Array.replicate (fn.ntmps - vs.toArray.size) undef).size = fn.ntmps := by have := hn.1; simp; omega
  have hrep : Rep M0 ⟨w, fun _ => False, M0, fun _ => 0, fun _ => 0⟩ (entry fn.ntmps xs) { tmps := vs.toArray ++ Array.replicate (fn.ntmps - vs.toArray.size) undef, defers := [] } w := by
    have hmv : Mv M0 w (Mset M0 ⟨fun _ => 0, fun _ => nilV, fun _ => 0⟩ (entry fn.ntmps xs)) w := ⟨fun b off u hu hn => ⟨hu, by
      rintro (hh | ⟨s, c, q1, _⟩ | ⟨k, o, q1, _⟩)
      · exact hn hh
      · simp [entry, look] at q1
      · simp [entry, look] at q1⟩⟩
    refine ⟨⟨fun _ => 0, fun _ => nilV, fun _ => 0⟩, ⟨Bel.refl _ _, fun b off hh => ⟨hM b off hh, fun q => q⟩, hmv, hn.2, fun _ _ => ⟨rfl, rfl⟩, hsz, rfl, ?_, ?_, ?_, ?_, ?_, ?_, ?_, ?_, ?_⟩⟩
    · intro t fe hf
      obtain ⟨i, x, rfl, hx, rfl⟩ := enum_look xs 0 t fe hf
      obtain ⟨v, h1, h2⟩ := VRs.get hvs hx
      have hlt := (List.getElem?_eq_some_iff.1 h1).1
      refine ⟨v, ?_, VR.mv ⟨fun b off u hu hn => ⟨hu, ?_⟩⟩ _ _ h2⟩
      · rw [Nat.zero_add, Array.getElem?_append_left (by simpa using hlt)]
        simpa using h1
      · rintro (hh | ⟨s, c, q1, _⟩ | ⟨k, o, q1, _⟩)
        · exact hn hh
        · simp [entry, look] at q1
        · simp [entry, look] at q1
    all_goals (intros; simp_all [entry, look])
  refine wp_mono (h M0 _ _ _ hrep) ?_
  have key : ∀ (st : St) (a' : Act) (w' : World), vret T fn Q st → Rep M0 ⟨w, fun _ => False, M0, fun _ => 0, fun _ => 0⟩ st a' w' → a'.defers = [] ∧ ∃ v, (results fn a'.tmps).run P w' = .ok v w' ∧ ∃ v' r, Ending.returned v = .returned v' ∧ Below w.heap.size w w' ∧ VR M0 w' r v' ∧ Q r := by
    rintro st a' w' ⟨r, hr, hQ⟩ ⟨g, hp⟩
    obtain ⟨us, h1, h2⟩ := vres_ok hT hp [] hr
    simp only [List.nil_append] at h2
    refine ⟨hp.defers, ?_⟩
    have hmap : (fn.results.mapM (getRes a'.tmps)).run P w' = .ok us.toArray w' := by
      rw [Array.mapM_eq_mapM_toList]
      simp only [Sem.run_map, h1, Result.andThen_ok]
    have hres : (results fn a'.tmps).run P w' = .ok (if hh : us.toArray.size = 1 then us.toArray[0] else .tuple us.toArray) w' := by
      rw [results_eq]
      simp only [Sem.run_bind, Sem.run_pure, hmap]
      rfl
    refine ⟨_, hres, _, _, rfl, ⟨hp.below.os, hp.below.tape, hp.below.output, hp.below.size, fun k hk => hp.below.block k hk (fun q => q)⟩, ?_, hQ⟩
    have h2 := h2
    generalize r.1 = xs2 at h2
    match xs2, h2 with
    | [], h2 =>
      simp only [VRs] at h2
      subst h2
      exact ⟨[], rfl, by simp [VRs]⟩
    | [x], h2 =>
      simp only [VRs] at h2
      obtain ⟨v, vs', rfl, h3, rfl⟩ := h2
      exact Mset_sub0 h3
    | x :: y :: zs, h2 =>
      have hlen := VRs.length h2
      have hne : ¬ us.toArray.size = 1 := by simp at hlen ⊢; omega
      rw [dif_neg hne]
      have ht : VR (Mset M0 g (st.exposes r.2)) w' (.tuple (x :: y :: zs)) (.tuple us.toArray) := by
        simp only [VR]
        exact ⟨us, rfl, h2⟩
      exact Mset_sub0 ht
  intro e a' w' hq
  cases e with
  | normal => obtain ⟨st, hq, hp⟩ := hq; exact key st a' w' hq hp
  | ret => obtain ⟨st, hq, hp⟩ := hq; exact key st a' w' hq hp
  | exit i => obtain ⟨st, hq, hp⟩ := hq; exact hq.elim
  | goto l => exact hq.elim
  | panic c => exact hq.elim
  | outgrown => exact hq.elim
theorem VCalls.of {f : FuncId} {fn : Func} {c : Code} {xs : List SV} {Q : SV → Prop} (hT : TabOk P T) (hm : P.follows .mixedOrders = true) (hf : P.funcs[f]? = some fn) (hname : (fn.name == "runtime.NumGoroutine") = false)
    (hb : fn.body = some c) (hn : xs.length ≤ fn.ntmps ∧ fn.ntmps ≤ HI) (h : vwp P T c (body T fn Q) (entry fn.ntmps xs)) : VCalls P f xs Q :=
  VCalls.of_wp hT hf hname hb hn (fun M0 base a w hr => vwp_sound hT hm c _ _ _ _ h hr)
end
end Go.Proofs.Ytnoohgiecnmajaa.VC

