/- A part of the ground of the proof. No condition. -/
import Derived.Deep.MidRow
import Derived.Laws.Strings2
import Derived.Laws.Slices
import Derived.Laws.Build
import Derived.Laws.BytesArg
import Derived.Test.YtnoohgiecnmajaaGE1

/- The engine, part 2: the types that are told, and the operations that make no memory. -/
namespace Go.Proofs.Ytnoohgiecnmajaa.VC
open Go Go.RowKit
set_option linter.unusedVariables false
set_option linter.unusedSimpArgs false

inductive Sh where
  | bool | int (k : IntKind) | str | slice (e : TypeId) | struct (fs : List (Nat × Nat)) | ptr (e : TypeId) | map (k e : TypeId)
structure TI where
  sh : Sh
  size : Nat
  bytes : Nat
  zero : List SV
  nz : List (Option Nat)
abbrev Tab := TypeId → Option TI
def Sh.row : Sh → Bool
  | .struct _ => true
  | _ => false
def nilV : Value := .slice none 0 0
/-- What the table tells of a type is so. -/
structure TyOk (P : Program) (t : TypeId) (ti : TI) : Prop where
  desc : match ti.sh with
    | .bool => P.underlying t = some .bool
    | .int k => P.underlying t = some (.int k)
    | .str => P.underlying t = some .string
    | .slice e => P.underlying t = some (.slice e)
    | .ptr e => P.underlying t = some (.pointer e)
    | .map k e => P.underlying t = some (.map k e)
    | .struct fs => ∃ fields, P.underlying t = some (.struct fields) ∧ fields.toList.mapM (fun f => (P.info? f.type).map fun i => (f.offset, i.size)) = some fs ∧ ∀ f ∈ fs, f.2 ≠ 0
  info : ∃ i z, P.info? t = some i ∧ i.size = ti.size ∧ i.bytes = ti.bytes ∧ i.zero = some z ∧ (∀ M w, VRc M w ti.zero z.cells.toList) ∧ ti.zero.length = ti.size ∧ (z = .agg z.cells ∨ ti.sh.row = false ∧ ∃ c, z.cells = #[c] ∧ z = c)
def TabOk (P : Program) (T : Tab) : Prop := ∀ t ti, T t = some ti → TyOk P t ti

def ofV : Value → SV
  | .agg cs => .agg (cs.toList.map .val)
  | v => .val v
def aggOk : Value → Bool
  | .agg cs => cs.toList.all (·.oneCell')
  | _ => true
def ev (st : St) : Operand → Option FE
  | .tmp t => look t st.env
  | .const v => if aggOk v then some (.pv (ofV v)) else none
  | _ => none
def pf (st : St) : FE → Option (SV × List Nat)
  | .pv x => some (x, [])
  | .own k => (look k st.own).map fun o => (.sl o.sz o.xs, [k])
  | _ => none
def pfs (st : St) : List FE → Option (List SV × List Nat)
  | [] => some ([], [])
  | f :: fs => (pf st f).bind fun a => (pfs st fs).map fun b => (a.1 :: b.1, a.2 ++ b.2)
def St.exposes (st : St) : List Nat → St
  | [] => st
  | k :: ks => (st.expose k).exposes ks
def val1 (st : St) (x : Operand) : Option Value := match ev st x with | some (.pv (.val v)) => some v | _ => none
def byteAt (s : ByteArray) (n : Int) : Int := ((s.data.toList.getD n.toNat 0).toNat : Int)

theorem expose_n (st : St) (k : Nat) : (st.expose k).n = st.n := by unfold St.expose; split <;> rfl
theorem exposes_n (ks : List Nat) : ∀ st : St, (st.exposes ks).n = st.n := by
  induction ks with
  | nil => intro st; rfl
  | cons k ks ih => intro st; simp only [St.exposes]; rw [ih, expose_n]
theorem expose_look_own {st : St} {k k' : Nat} {o : Own} (ho : look k' st.own = some o) : ∃ o', look k' (st.expose k).own = some o' ∧ o'.sz = o.sz ∧ o'.xs = o.xs ∧ o'.e = o.e := by
  cases h : look k st.own with
  | none => unfold St.expose; rw [h]; exact ⟨o, ho, rfl, rfl, rfl⟩
  | some p =>
    rw [expose_own h]
    simp only [look_ins]
    by_cases e : k' = k
    · subst e; rw [if_pos rfl]; rw [h] at ho; cases ho; exact ⟨_, rfl, rfl, rfl, rfl⟩
    · rw [if_neg e]; exact ⟨o, ho, rfl, rfl, rfl⟩
theorem exposes_append (ks js : List Nat) : ∀ st : St, st.exposes (ks ++ js) = (st.exposes ks).exposes js := by
  induction ks with
  | nil => intro st; rfl
  | cons k ks ih => intro st; simp only [List.cons_append, St.exposes]; exact ih _
section
variable {M0 : Region} {base : Bs} {g : Gh} {st : St} {a : Act} {w w' : World} {P : Program} {T : Tab}
theorem Rp.exposes (h : Rp M0 base g st a w) (ks : List Nat) : Rp M0 base g (st.exposes ks) a w := by
  induction ks generalizing st with
  | nil => exact h
  | cons k ks ih => exact ih (h.expose k)
theorem Mv.expose (M0 : Region) (g : Gh) (st : St) (k : Nat) (w : World) : Mv (Mset M0 g st) w (Mset M0 g (st.expose k)) w := ⟨fun b off u hu hn => ⟨hu, fun hh => hn (Mset_expose M0 g k hh)⟩⟩
theorem Mv.exposes (M0 : Region) (g : Gh) (ks : List Nat) (w : World) : ∀ st : St, Mv (Mset M0 g st) w (Mset M0 g (st.exposes ks)) w := by
  induction ks with
  | nil => intro st; exact Mv.refl _ _
  | cons k ks ih => intro st; exact (Mv.expose M0 g st k w).trans (ih _)
/-- What an operand is. -/
theorem Rp.ev (h : Rp M0 base g st a w) {x : Operand} {fe : FE} (hx : ev st x = some fe) : FR g (Mset M0 g st) w fe (a.eval x) := by
  cases x with
  | tmp t =>
    obtain ⟨v, h1, h2⟩ := h.env t fe hx
    simp only [Act.eval, Array.getD_eq_getD_getElem?, h1, Option.getD_some]
    exact h2
  | const v =>
    have hx : (if aggOk v then some (FE.pv (ofV v)) else none) = some fe := hx
    split at hx
    · rename_i hok
      cases hx
      simp only [Act.eval]
      cases v <;> simp only [ofV, FR, VR]
      rename_i cs
      refine ⟨cs.toList, by simp, ?_⟩
      have : ∀ l : List Value, l.all (·.oneCell') = true → VRc (Mset M0 g st) w (l.map .val) l := by
        intro l
        induction l with
        | nil => intro _; simp [VRc]
        | cons c l ih =>
          intro hl
          simp only [List.all_cons, Bool.and_eq_true] at hl
          simp only [List.map_cons, VRc, VR]
          exact ⟨c, l, rfl, rfl, hl.1, ih hl.2⟩
      exact this _ hok
    · cases hx
  | global g => cases hx
  | func f => cases hx
theorem Rp.val1 (h : Rp M0 base g st a w) {x : Operand} {v : Value} (hx : val1 st x = some v) : a.eval x = v := by
  have e : VC.val1 st x = match VC.ev st x with | some (.pv (.val v)) => some v | _ => none := rfl
  rw [e] at hx
  generalize hu : VC.ev st x = u at hx
  match u, hx with
  | some (.pv (.val v')), hx =>
    cases hx
    have := h.ev hu
    simpa [FR, VR] using this
theorem Rp.evv (h : Rp M0 base g st a w) {x : Operand} {v : Value} (hx : VC.ev st x = some (.pv (.val v))) : a.eval x = v := by
  have := h.ev hx
  simpa [FR, VR] using this
theorem Rp.pf (h : Rp M0 base g st a w) {fe : FE} {v : Value} (hv : FR g (Mset M0 g st) w fe v) {x : SV} {ks : List Nat} (hx : pf st fe = some (x, ks)) : VR (Mset M0 g (st.exposes ks)) w x v := by
  cases fe <;> simp only [VC.pf] at hx
  case pv y => cases hx; exact hv
  case own k =>
    cases ho : look k st.own with
    | none => rw [ho] at hx; cases hx
    | some o =>
      rw [ho] at hx
      cases hx
      have : v = g.ν k := hv
      subst this
      exact h.own_pure ho
  all_goals cases hx
theorem pf_exposes {st : St} {fe : FE} {x : SV} {ks : List Nat} (hx : VC.pf st fe = some (x, ks)) (js : List Nat) : VC.pf (st.exposes js) fe = some (x, ks) := by
  induction js generalizing st with
  | nil => exact hx
  | cons j js ih =>
    refine ih ?_
    cases fe <;> simp only [VC.pf] at hx ⊢
    case pv y => exact hx
    case own k =>
      cases ho : look k st.own with
      | none => rw [ho] at hx; cases hx
      | some o =>
        obtain ⟨o', h1, h2, h3, h4⟩ := expose_look_own (k := j) ho
        rw [ho] at hx
        rw [h1]
        simp only [Option.map_some] at hx ⊢
        rw [h2, h3]
        exact hx
    all_goals cases hx
theorem Rp.pfs (h : Rp M0 base g st a w) : ∀ {fs : List FE} {vs : List Value}, FRc g (Mset M0 g st) w fs vs → ∀ {xs : List SV} {ks : List Nat}, pfs st fs = some (xs, ks) → VRc (Mset M0 g (st.exposes ks)) w xs vs := by
  intro fs
  induction fs generalizing st with
  | nil => intro vs hv xs ks hx; simp only [VC.pfs] at hx; cases hx; simpa [FRc, VRc] using hv
  | cons f fs ih =>
    intro vs hv xs ks hx
    simp only [VC.pfs] at hx
    simp only [FRc] at hv
    obtain ⟨v, vs', rfl, h1, h2, h3⟩ := hv
    obtain ⟨⟨x, k1⟩, hp, hx⟩ := Option.bind_eq_some_iff.1 hx
    obtain ⟨⟨ys, k2⟩, hq, hx⟩ := Option.map_eq_some_iff.1 hx
    simp only [Prod.mk.injEq] at hx
    obtain ⟨rfl, rfl⟩ := hx
    rw [exposes_append]
    simp only [VRc]
    have hx1 := h.pf h1 hp
    refine ⟨v, vs', rfl, VR.mv (Mv.exposes M0 g k2 w _) _ _ hx1, h2, ?_⟩
    refine ih (h.exposes k1) (FRc.mv (Mv.exposes M0 g k1 w _) h3) ?_
    have : ∀ (js : List Nat) (fs : List FE) (st : St) (r : List SV × List Nat), VC.pfs st fs = some r → VC.pfs (st.exposes js) fs = some r := by
      intro js fs
      induction fs with
      | nil => intro st r hr; exact hr
      | cons f fs ihf =>
        intro st r hr
        simp only [VC.pfs] at hr ⊢
        obtain ⟨⟨x, k1⟩, hp, hr⟩ := Option.bind_eq_some_iff.1 hr
        obtain ⟨⟨ys, k2⟩, hq, hr⟩ := Option.map_eq_some_iff.1 hr
        rw [pf_exposes hp js]
        simp only [Option.bind_some]
        rw [ihf st _ hq]
        exact congrArg some hr
    exact this k1 fs st _ hq
end
end Go.Proofs.Ytnoohgiecnmajaa.VC

