/- A part of the ground of the proof. No condition. -/
import Derived.Deep.LoopGhost
import Derived.Test.YtnoohgiecnmajaaGE11

/- The engine, part 12: operations one behind the other; regions that draw their order. -/
namespace Go.Proofs.Ytnoohgiecnmajaa.VC
open Go Go.RowKit
set_option linter.unusedVariables false
set_option linter.unusedSimpArgs false

def vop (P : Program) (T : Tab) (st : St) (o : Oper) (K : St → Prop) : Prop :=
  (st.fits o.dst ∧ va T st (fun fe ks => K ((st.exposes ks).set o.dst fe)) o.op) ∨ vb P T st K o.dst o.op
/-- An operation that is left out leaves 'undef'. -/
def vskip (st : St) (o : Oper) (K : St → Prop) : Prop := st.fits o.dst ∧ K (st.set o.dst (.pv (.val undef)))
def vguard (P : Program) (T : Tab) (all : Array Oper) (st : St) (o : Oper) (K : St → Prop) : Prop :=
  match o.guard with
  | none => vop P T st o K
  | some (j, want) => ∃ d v, (all[j]?).bind (·.dst) = some d ∧ look d st.env = some (.pv (.val v)) ∧
    match v with
    | .bool b => (b = want → vop P T (st.put d (.pv (.val (.bool want)))) o K) ∧ (b = (!want) → vskip (st.put d (.pv (.val (.bool (!want))))) o K)
    | .tuple _ => vskip st o K
    | _ => False
def vops (P : Program) (T : Tab) (all : Array Oper) (Q : St → Prop) : List Oper → St → Prop
  | [], st => Q st
  | o :: rest, st => vguard P T all st o (vops P T all Q rest)

def isA (T : Tab) : Op → Bool
  | .move _ | .assign _ | .pick _ _ _ | .load _ _ | .fieldAddr _ _ _ | .indexAddr _ _ _ | .index _ _ _ | .slice _ _ _ _ _ | .build _ _ | .unOp _ _ _ | .extract _ _ | .nilCheck _ => true
  | .convert _ t _ => match T t with | some ti => (match ti.sh with | .slice _ => false | _ => true) | none => false
  | .binOp _ t _ _ _ => match T t with | some ti => !ti.sh.row | none => true
  | .call c => match c.callee with | .builtin .len => c.argTypes.toList.all (fun t => (T t).isSome) | .builtin .max => true | _ => false
  | _ => false
def bindsOn (ops : Array Oper) (j : Nat) : List Nat := match ops[j]? with | some o => (o.after.toList.filter (Region.binds .any ·)).map (·.on) | none => []
def anc (ops : Array Oper) : Nat → Nat → Nat → Bool
  | 0, _, _ => false
  | n + 1, j, i => (bindsOn ops j).any fun k => k == i || anc ops n k i

section
variable {M0 : Region} {base : Bs} {g : Gh} {st : St} {a : Act} {w w' : World} {P : Program} {T : Tab} {o : Oper} {K : St → Prop} {Kw : Act → World → Prop} {Q : Exit → Act → World → Prop}

theorem vop_sound (hT : TabOk P T) (h : Rp M0 base g st a w) (hv : vop P T st o K)
    (hK : ∀ g' st' a' w', K st' → Rp M0 base g' st' a' w' → (quietB T o.op = true → Hold w w') → Kw a' w') : o.wp P a w Kw Q := by
  rcases hv with ⟨hfit, hv⟩ | hv
  · obtain ⟨fe, ks, v, hk, hfr, hrun⟩ := va_sound hT h hv
    have hp := (h.exposes ks).set o.dst (by cases hd : o.dst with | none => trivial | some d => rw [hd] at hfit; show d < (St.exposes _ ks).n; rw [exposes_n]; exact hfit) hfr
    exact wp_of_run (hrun w (.inr (Hold.refl w))) (hK _ _ _ _ hk hp (fun _ => Hold.refl w))
  · exact vb_sound hT h hv hK
/-- What is known of a bool is told. -/
theorem Rp.know (h : Rp M0 base g st a w) {d : Nat} {v : Value} (hl : look d st.env = some (.pv (.val v))) (u : Value) (hu : v = u) : Rp M0 base g (st.put d (.pv (.val u))) a w := by
  subst hu
  refine ⟨h.below, h.m0, h.keep, h.hn, h.pin, h.size, h.defers, ?_, h.box, h.own, h.omine, h.map, h.dbb, h.dbo, h.doo, h.dmm⟩
  intro t fe hf
  simp only [St.put, look_ins] at hf
  by_cases e : t = d
  · rw [if_pos e] at hf; cases hf; subst e; exact h.env t _ hl
  · rw [if_neg e] at hf; exact h.env t fe hf
/-- Is the operation carried out? -/
theorem vguard_cases (h : Rp M0 base g st a w) {all : Array Oper} (hv : vguard P T all st o K) :
    ∃ st1, Rp M0 base g st1 a w ∧ ((Region.wanted o (yielded all a.tmps) = true ∧ vop P T st1 o K) ∨ (Region.wanted o (yielded all a.tmps) = false ∧ vskip st1 o K)) := by
  unfold vguard at hv
  split at hv
  · rename_i hg
    exact ⟨st, h, .inl ⟨by simp [Region.wanted, hg], hv⟩⟩
  · rename_i j want hg
    obtain ⟨d, v, hd, hl, hv⟩ := hv
    obtain ⟨u, hu, hr⟩ := h.env d _ hl
    have hr : u = v := by simpa [FR, VR] using hr
    subst hr
    have hy : yielded all a.tmps j = match u with | .bool b => some b | _ => none := by
      unfold yielded
      rw [hd]
      simp only [Option.bind_some, hu]
      cases u <;> rfl
    split at hv
    · rename_i b
      simp only at hy
      by_cases hb : b = want
      · exact ⟨_, h.know hl _ (by rw [hb]), .inl ⟨by simp [Region.wanted, hg, hy, hb], hv.1 hb⟩⟩
      · have hb2 : b = (!want) := by cases b <;> cases want <;> simp_all
        exact ⟨_, h.know hl _ (by rw [hb2]), .inr ⟨by simp [Region.wanted, hg, hy, hb], hv.2 hb2⟩⟩
    · simp only at hy
      exact ⟨st, h, .inr ⟨by simp [Region.wanted, hg, hy], hv⟩⟩
    · exact hv.elim
theorem vskip_sound (h : Rp M0 base g st a w) (hv : vskip st o K) : ∃ st', K st' ∧ Rp M0 base g st' (a.put o.dst undef) w :=
  ⟨_, hv.2, h.set o.dst hv.1 (by simp [FR, VR])⟩
theorem vops_sound (hT : TabOk P T) {all : Array Oper} {Qn : St → Prop} (hQ : ∀ g' st' a' w', Qn st' → Rp M0 base g' st' a' w' → Q .normal a' w') :
    ∀ (l : List Oper) (st : St) (g : Gh) (a : Act) (w : World), vops P T all Qn l st → Rp M0 base g st a w → wpList P all Q l a w := by
  intro l
  induction l with
  | nil => intro st g a w hv h; exact hQ _ _ _ _ hv h
  | cons o l ih =>
    intro st g a w hv h
    unfold wpList
    obtain ⟨st1, h, ⟨hw, hv⟩ | ⟨hw, hv⟩⟩ := vguard_cases h hv
    · rw [if_pos hw]
      exact .inl (vop_sound hT h hv fun g' st' a' w' hk hp _ => ih st' g' a' w' hk hp)
    · rw [if_neg (by rw [hw]; simp)]
      obtain ⟨st', hk, hp⟩ := vskip_sound h hv
      exact ih st' g _ w hk hp

/-! ### Regions that draw -/
variable {ops : Array Oper}
def wpAnyS (P : Program) (ops : Array Oper) (Q : Exit → Act → World → Prop) (N : Nat → Bool) : Nat → Array Bool → Act → World → Prop
  | 0, listed, a, w => Region.ready .any ops listed = [] ∧ Q .normal a w
  | fuel + 1, listed, a, w => (Region.ready .any ops listed = [] → Q .normal a w) ∧
    ∀ i ∈ Region.ready .any ops listed, wpOp P ops Q i (fun a' w' => (N i = false → Hold w w') ∧ wpAnyS P ops Q N fuel (listed.setIfInBounds i true) a' w') a w
theorem wpAny_of_S {N : Nat → Bool} : ∀ (fuel : Nat) (listed : Array Bool) (a : Act) (w : World), wpAnyS P ops Q N fuel listed a w → wpAny P .any ops Q fuel listed a w
  | 0, _, _, _, h => h
  | fuel + 1, _, _, _, h => ⟨h.1, fun i hi => wpOp_mono (fun a' w' h' => wpAny_of_S fuel _ a' w' h'.2) (h.2 i hi)⟩
theorem wpAnyS_done {N : Nat → Bool} {listed : Array Bool} (hr : Region.ready .any ops listed = []) (h : Q .normal a w) : ∀ fuel, wpAnyS P ops Q N fuel listed a w
  | 0 => ⟨hr, h⟩
  | _ + 1 => ⟨fun _ => h, by rw [hr]; simp⟩
def Down (ops : Array Oper) (listed : Array Bool) : Prop := ∀ k, listed.getD k false = true → ∀ e ∈ bindsOn ops k, listed.getD e false = true
theorem ready_binds {j : Nat} {listed : Array Bool} (hj : j ∈ Region.ready .any ops listed) : ∀ e ∈ bindsOn ops j, listed.getD e false = true := by
  obtain ⟨_, o, ho, hall⟩ := mem_ready.1 hj
  intro e he
  unfold bindsOn at he
  rw [ho] at he
  simp only [List.mem_map, List.mem_filter] at he
  obtain ⟨x, ⟨hx1, hx2⟩, rfl⟩ := he
  exact hall x (by simpa using hx1) hx2
theorem Down.set {listed : Array Bool} (hd : Down ops listed) {j : Nat} (hj : j ∈ Region.ready .any ops listed) : Down ops (listed.setIfInBounds j true) := by
  intro k hk e he
  by_cases hkj : j = k
  · subst hkj
    exact getD_set_true (ready_binds hj e he)
  · rw [getD_set_ne false hkj] at hk
    exact getD_set_true (hd k hk e he)
theorem anc_listed {listed : Array Bool} (hd : Down ops listed) : ∀ (n j i : Nat), (∀ e ∈ bindsOn ops j, listed.getD e false = true) → anc ops n j i = true → listed.getD i false = true
  | 0, j, i, _, h => by simp [anc] at h
  | n + 1, j, i, hb, h => by
    simp only [anc, List.any_eq_true, Bool.or_eq_true, beq_iff_eq] at h
    obtain ⟨k, hk, h | h⟩ := h
    · subst h; exact hb k hk
    · exact anc_listed hd n k i (hd k (hb k hk)) h
theorem not_ready_listed {i : Nat} {listed : Array Bool} (hi : i ∈ Region.ready .any ops listed) : listed.getD i false = false := by
  obtain ⟨h0, o, ho, _⟩ := mem_ready.1 hi
  rcases Nat.lt_or_ge i listed.size with h' | h'
  · simp [h'] at h0 ⊢; exact h0
  · simp [Array.getElem?_eq_none h'] at h0
theorem hold_trans {w1 w2 w3 : World} (h : Hold w1 w2) (k : Hold w2 w3) : Hold w1 w3 := fun i hi => by
  have e := h i hi
  have hlt : i < w2.heap.size := by
    rcases Nat.lt_or_ge i w2.heap.size with q | q
    · exact q
    · rw [Array.getElem?_eq_none q, Array.getElem?_eq_getElem hi] at e; cases e
  rw [k i hlt, e]
/-- One that makes nothing may be taken first. -/
theorem wpAnyS_first {N : Nat → Bool} {i : Nat} {oi : Oper} {v : Value} (hi : ops[i]? = some oi) (hsel : ∀ (j : Nat) (o : Oper) cs b, ops[j]? = some o → o.op ≠ .select cs b)
    (hQ : ∀ c a w, ¬ Q (.panic c) a w) :
    ∀ (fuel : Nat) (listed : Array Bool) (a : Act) (w : World), Down ops listed →
      (∀ j, N j = true → listed.getD j true = false → ∃ n, anc ops n j i = true) →
      (∀ j oj, ops[j]? = some oj → j ≠ i → listed.getD j true = false → (∀ e ∈ oj.after, Region.binds .any e = true → e.on ≠ i) → oi.apart ops oj = true) →
      i ∈ Region.ready .any ops listed → YieldsIf P ops (Hold w) oi v a →
      wpAnyS P ops Q N fuel (listed.setIfInBounds i true) (a.put oi.dst v) w → wpAnyS P ops Q N (fuel + 1) listed a w := by
  intro fuel
  induction fuel with
  | zero =>
    intro listed a w hd hN _ hr hy H
    refine ⟨fun h => (by rw [h] at hr; cases hr), fun j hj => ?_⟩
    by_cases hji : j = i
    · subst hji; exact hy.wpOp hi (Hold.refl w) ⟨fun _ => Hold.refl w, H⟩
    · have := ready_mono hj hji
      rw [H.1] at this
      cases this
  | succ fuel ih =>
    intro listed a w hd hN hfree hr hy H
    refine ⟨fun h => (by rw [h] at hr; cases hr), fun j hj => ?_⟩
    by_cases hji : j = i
    · subst hji; exact hy.wpOp hi (Hold.refl w) ⟨fun _ => Hold.refl w, H⟩
    · have h1 := H.2 j (ready_mono hj hji)
      obtain ⟨hjun, oj, hoj, hall⟩ := mem_ready.1 hj
      have hun := not_ready_listed hr
      have hNj : N j = false := by
        cases hh : N j with
        | false => rfl
        | true =>
          obtain ⟨n, hn⟩ := hN j hh hjun
          have := anc_listed hd n j i (ready_binds hj) hn
          rw [hun] at this
          cases this
      have hnot : ∀ e ∈ oj.after, Region.binds .any e = true → e.on ≠ i := fun e he hb heq => by
        have h2 := hall e he hb
        rw [heq, hun] at h2
        cases h2
      have h2 := wpOp_putIf hoj (hfree j oj hoj hji hjun hnot) (fun cs b => hsel i oi cs b hi) (fun cs b => hsel j oj cs b hoj) (fun c a w hh => absurd hh (hQ c _ _)) hy h1
      refine wpOp_mono (fun a' w' h3 => ?_) h2
      have hHold := h3.2.1 hNj
      refine ⟨fun _ => hHold, ih (listed.setIfInBounds j true) a' w' (hd.set hj) (fun k hk hkun => hN k hk ?_) (fun k ok hk hki hkun hno => hfree k ok hk hki ?_ hno) (ready_mono hr (Ne.symm hji)) ?_ ?_⟩
      · by_cases hjk : j = k
        · subst hjk; exact hjun
        · rw [getD_set_ne true hjk] at hkun; exact hkun
      · by_cases hjk : j = k
        · subst hjk; exact hjun
        · rw [getD_set_ne true hjk] at hkun; exact hkun
      · rcases h3.1 with ⟨q1, q2⟩ | ⟨q1, q2⟩
        · exact .inl ⟨q1, fun x hx => q2 x (hold_trans hHold hx)⟩
        · exact .inr ⟨q1, q2⟩
      · rw [Array.setIfInBounds_comm _ _ hji]
        exact h3.2.2

theorem isA_not_vb {op : Op} {dst : Option Nat} (h : isA T op = true) : ¬ vb P T st K dst op := by
  intro hv
  cases op <;> simp only [isA] at h <;> simp only [vb] at hv <;> try contradiction
  case convert s t x =>
    obtain ⟨ts, td, e, te, s', h1, h2, h3, h4, _⟩ := hv
    rw [h2] at h
    simp [h4] at h
  case call c =>
    split at h
    · rename_i hc
      rw [hc] at hv
      obtain ⟨x, t, j, m, h1, h2, h3, _⟩ := hv
      rw [h2] at h
      simp [h3] at h
    · rename_i hc; rw [hc] at hv; exact hv
    · cases h
  case binOp op t x y yt =>
    obtain ⟨ti, us, vs, b, h1, h2, _⟩ := hv
    rw [h1] at h
    simp [h2] at h
/-- An operation that looks at no memory may be taken first. -/
theorem wpAnyS_firstP {N : Nat → Bool} {i : Nat} {oi : Oper} {v : Value} (hi : ops[i]? = some oi) (hsel : ∀ (j : Nat) (o : Oper) cs b, ops[j]? = some o → o.op ≠ .select cs b)
    (hQ : ∀ c a w, ¬ Q (.panic c) a w) :
    ∀ (fuel : Nat) (listed : Array Bool) (a : Act) (w : World),
      (∀ j oj, ops[j]? = some oj → j ≠ i → listed.getD j true = false → (∀ e ∈ oj.after, Region.binds .any e = true → e.on ≠ i) → oi.apart ops oj = true) →
      i ∈ Region.ready .any ops listed → YieldsIf P ops (fun _ => True) oi v a →
      wpAnyS P ops Q N fuel (listed.setIfInBounds i true) (a.put oi.dst v) w → wpAnyS P ops Q N (fuel + 1) listed a w := by
  intro fuel
  induction fuel with
  | zero =>
    intro listed a w _ hr hy H
    refine ⟨fun h => (by rw [h] at hr; cases hr), fun j hj => ?_⟩
    by_cases hji : j = i
    · subst hji; exact hy.wpOp hi trivial ⟨fun _ => Hold.refl w, H⟩
    · have := ready_mono hj hji
      rw [H.1] at this
      cases this
  | succ fuel ih =>
    intro listed a w hfree hr hy H
    refine ⟨fun h => (by rw [h] at hr; cases hr), fun j hj => ?_⟩
    by_cases hji : j = i
    · subst hji; exact hy.wpOp hi trivial ⟨fun _ => Hold.refl w, H⟩
    · have h1 := H.2 j (ready_mono hj hji)
      obtain ⟨hjun, oj, hoj, hall⟩ := mem_ready.1 hj
      have hun := not_ready_listed hr
      have hnot : ∀ e ∈ oj.after, Region.binds .any e = true → e.on ≠ i := fun e he hb heq => by
        have h2 := hall e he hb
        rw [heq, hun] at h2
        cases h2
      have h2 := wpOp_putIf hoj (hfree j oj hoj hji hjun hnot) (fun cs b => hsel i oi cs b hi) (fun cs b => hsel j oj cs b hoj) (fun c a w hh => absurd hh (hQ c _ _)) hy h1
      refine wpOp_mono (fun a' w' h3 => ?_) h2
      refine ⟨h3.2.1, ih (listed.setIfInBounds j true) a' w' (fun k ok hk hki hkun hno => hfree k ok hk hki ?_ hno) (ready_mono hr (Ne.symm hji)) h3.1 ?_⟩
      · by_cases hjk : j = k
        · subst hjk; exact hjun
        · rw [getD_set_ne true hjk] at hkun; exact hkun
      · rw [Array.setIfInBounds_comm _ _ hji]
        exact h3.2.2
/-- How a region that draws is gone through: one, or each of those that may come. -/
inductive Plan where
  | done
  | one (i : Nat) (p : Plan)
  | two (i : Nat) (p : Plan) (j : Nat) (q : Plan)
  | three (i : Nat) (p : Plan) (j : Nat) (q : Plan) (k : Nat) (r : Plan)
def Plan.depth : Plan → Nat
  | .done => 0
  | .one _ p => p.depth + 1
  | .two _ p _ q => max p.depth q.depth + 1
  | .three _ p _ q _ r => max p.depth (max q.depth r.depth) + 1
def Plan.ofList : List Nat → Plan
  | [] => .done
  | i :: l => .one i (Plan.ofList l)
def okPl (T : Tab) (ops : Array Oper) : Array Bool → Plan → Bool
  | listed, .done => (Region.ready .any ops listed).isEmpty
  | listed, .one i p =>
    (match ops[i]? with
     | some o => if isA T o.op
        then (Region.ready .any ops listed).contains i && Region.free .any ops listed i && (pureB o.op || (List.range ops.size).all (fun j => match ops[j]? with | some p => quietB T p.op || listed.getD j true || anc ops ops.size j i | none => true))
        else Region.ready .any ops listed == [i]
     | none => false) && okPl T ops (listed.setIfInBounds i true) p
  | listed, .two i p j q => Region.ready .any ops listed == [i, j] && okPl T ops (listed.setIfInBounds i true) p && okPl T ops (listed.setIfInBounds j true) q
  | listed, .three i p j q k r => Region.ready .any ops listed == [i, j, k] && okPl T ops (listed.setIfInBounds i true) p && okPl T ops (listed.setIfInBounds j true) q && okPl T ops (listed.setIfInBounds k true) r
def okReg (T : Tab) (ops : Array Oper) (pl : Plan) : Bool := Region.noSelect ops && Nat.ble pl.depth ops.size && okPl T ops (Array.replicate ops.size false) pl
/-- Several ways, all of them. -/
structure Fork (A B : Prop) : Prop where
  a : A
  b : B
def vstep (P : Program) (T : Tab) (all : Array Oper) (st : St) (i : Nat) (K : St → Prop) : Prop := ∃ o, all[i]? = some o ∧ vguard P T all st o K
def vplan (P : Program) (T : Tab) (all : Array Oper) (Q : St → Prop) : Plan → St → Prop
  | .done, st => Q st
  | .one i p, st => vstep P T all st i (vplan P T all Q p)
  | .two i p j q, st => Fork (vstep P T all st i (vplan P T all Q p)) (vstep P T all st j (vplan P T all Q q))
  | .three i p j q k r, st => Fork (vstep P T all st i (vplan P T all Q p)) (Fork (vstep P T all st j (vplan P T all Q q)) (vstep P T all st k (vplan P T all Q r)))
theorem step_sound (hT : TabOk P T) {i : Nat} {listed : Array Bool} {fuel : Nat} (hr : i ∈ Region.ready .any ops listed) (hv : vstep P T ops st i K) (h : Rp M0 base g st a w)
    (hK : ∀ st' g' a' w', K st' → Rp M0 base g' st' a' w' → wpAnyS P ops Q (fun j => match ops[j]? with | some p => !quietB T p.op | none => false) fuel (listed.setIfInBounds i true) a' w') :
    wpOp P ops Q i (fun a' w' => ((match ops[i]? with | some p => !quietB T p.op | none => false) = false → Hold w w') ∧ wpAnyS P ops Q (fun j => match ops[j]? with | some p => !quietB T p.op | none => false) fuel (listed.setIfInBounds i true) a' w') a w := by
  obtain ⟨o, hi, hv⟩ := hv
  unfold wpOp
  simp only [hi]
  obtain ⟨st1, h, ⟨hw, hv⟩ | ⟨hw, hv⟩⟩ := vguard_cases h hv
  · rw [if_pos hw]
    exact .inl (vop_sound hT h hv fun g' st' a' w' hk hp hq => ⟨fun hn => hq (by simpa using hn), hK _ _ _ _ hk hp⟩)
  · rw [if_neg (by rw [hw]; simp)]
    obtain ⟨st', hk, hp⟩ := vskip_sound h hv
    exact ⟨fun _ => Hold.refl w, hK _ _ _ _ hk hp⟩
theorem plan_sound (hT : TabOk P T) {Qn : St → Prop} (hQ : ∀ g' st' a' w', Qn st' → Rp M0 base g' st' a' w' → Q .normal a' w') (hnp : ∀ c a w, ¬ Q (.panic c) a w) (hsel : Region.noSelect ops = true) :
    ∀ (pl : Plan) (fuel : Nat) (listed : Array Bool) (st : St) (g : Gh) (a : Act) (w : World), pl.depth ≤ fuel → okPl T ops listed pl = true → Down ops listed →
      vplan P T ops Qn pl st → Rp M0 base g st a w → wpAnyS P ops Q (fun j => match ops[j]? with | some p => !quietB T p.op | none => false) fuel listed a w := by
  intro pl
  induction pl with
  | done =>
    intro fuel listed st g a w _ ho hd hv h
    simp only [okPl, List.isEmpty_iff] at ho
    exact wpAnyS_done ho (hQ _ _ _ _ hv h) fuel
  | one i p ih =>
    intro fuel listed st g a w hf ho hd hv h
    obtain ⟨fuel, rfl⟩ : ∃ m, fuel = m + 1 := ⟨fuel - 1, by simp [Plan.depth] at hf; omega⟩
    simp only [Plan.depth] at hf
    simp only [okPl, Bool.and_eq_true] at ho
    obtain ⟨ho, hrest⟩ := ho
    have hv0 := hv
    obtain ⟨o, hi, hv⟩ := hv
    rw [hi] at ho
    simp only at ho
    split at ho
    · rename_i hA
      simp only [Bool.and_eq_true, Bool.or_eq_true] at ho
      obtain ⟨⟨hr, hfree⟩, hanc⟩ := ho
      have hr : i ∈ Region.ready .any ops listed := by simpa using hr
      have key : ∃ v, YieldsIf P ops (fun w' => pureB o.op = true ∨ Hold w w') o v a ∧ wpAnyS P ops Q (fun j => match ops[j]? with | some p => !quietB T p.op | none => false) fuel (listed.setIfInBounds i true) (a.put o.dst v) w := by
        obtain ⟨st1, h, ⟨hw, hv⟩ | ⟨hw, hv⟩⟩ := vguard_cases h hv
        · rcases hv with ⟨hfit, hv⟩ | hv
          · obtain ⟨fe, ks, v, hk, hfr, hrun⟩ := va_sound hT h hv
            have hp := (h.exposes ks).set o.dst (by cases hd : o.dst with | none => trivial | some d => rw [hd] at hfit; show d < (St.exposes _ ks).n; rw [exposes_n]; exact hfit) hfr
            exact ⟨v, .inl ⟨hw, hrun⟩, ih fuel _ _ _ _ _ (by omega) hrest (hd.set hr) hk hp⟩
          · exact absurd hv (isA_not_vb hA)
        · obtain ⟨st', hk, hp⟩ := vskip_sound h hv
          exact ⟨undef, .inr ⟨hw, rfl⟩, ih fuel _ _ _ _ _ (by omega) hrest (hd.set hr) hk hp⟩
      obtain ⟨v, hy, hn⟩ := key
      rcases hanc with hpure | hanc
      · have hy' : YieldsIf P ops (fun _ => True) o v a := by
          rcases hy with ⟨q1, q2⟩ | ⟨q1, q2⟩
          · exact .inl ⟨q1, fun x _ => q2 x (.inl hpure)⟩
          · exact .inr ⟨q1, q2⟩
        exact wpAnyS_firstP hi (Region.noSelect_spec hsel) hnp fuel listed a w (Region.free_spec hi hfree) hr hy' hn
      · have hy' : YieldsIf P ops (Hold w) o v a := by
          rcases hy with ⟨q1, q2⟩ | ⟨q1, q2⟩
          · exact .inl ⟨q1, fun x hx => q2 x (.inr hx)⟩
          · exact .inr ⟨q1, q2⟩
        refine wpAnyS_first hi (Region.noSelect_spec hsel) hnp fuel listed a w hd ?_ (Region.free_spec hi hfree) hr hy' hn
        intro j hN hun
        cases hj : ops[j]? with
        | none => rw [hj] at hN; cases hN
        | some p =>
          rw [hj] at hN
          have hjlt := (Array.getElem?_eq_some_iff.1 hj).1
          have := List.all_eq_true.1 hanc j (List.mem_range.2 hjlt)
          rw [hj] at this
          simp only [hun, Bool.or_false, Bool.or_eq_true] at this
          rcases this with q | q
          · simp [q] at hN
          · exact ⟨_, q⟩
    · have hr : Region.ready .any ops listed = [i] := by simpa using ho
      refine ⟨fun h0 => (by rw [h0] at hr; cases hr), fun j hj => ?_⟩
      rw [hr] at hj
      obtain rfl : j = i := by simpa using hj
      have hm : j ∈ Region.ready .any ops listed := by rw [hr]; simp
      exact step_sound hT hm hv0 h (fun st' g' a' w' hk hp => ih fuel _ _ _ _ _ (by omega) hrest (hd.set hm) hk hp)
  | two i p j q ihp ihq =>
    intro fuel listed st g a w hf ho hd hv h
    obtain ⟨fuel, rfl⟩ : ∃ m, fuel = m + 1 := ⟨fuel - 1, by simp [Plan.depth] at hf; omega⟩
    simp only [Plan.depth] at hf
    simp only [okPl, Bool.and_eq_true, beq_iff_eq] at ho
    obtain ⟨⟨hr, ho1⟩, ho2⟩ := ho
    refine ⟨fun h0 => (by rw [h0] at hr; cases hr), fun l hl => ?_⟩
    have hl2 := hl
    rw [hr] at hl2
    simp only [List.mem_cons, List.not_mem_nil, or_false] at hl2
    rcases hl2 with rfl | rfl
    · exact step_sound hT hl hv.a h (fun st' g' a' w' hk hp => ihp fuel _ _ _ _ _ (by omega) ho1 (hd.set hl) hk hp)
    · exact step_sound hT hl hv.b h (fun st' g' a' w' hk hp => ihq fuel _ _ _ _ _ (by omega) ho2 (hd.set hl) hk hp)
  | three i p j q k r ihp ihq ihr =>
    intro fuel listed st g a w hf ho hd hv h
    obtain ⟨fuel, rfl⟩ : ∃ m, fuel = m + 1 := ⟨fuel - 1, by simp [Plan.depth] at hf; omega⟩
    simp only [Plan.depth] at hf
    simp only [okPl, Bool.and_eq_true, beq_iff_eq] at ho
    obtain ⟨⟨⟨hr, ho1⟩, ho2⟩, ho3⟩ := ho
    refine ⟨fun h0 => (by rw [h0] at hr; cases hr), fun l hl => ?_⟩
    have hl2 := hl
    rw [hr] at hl2
    simp only [List.mem_cons, List.not_mem_nil, or_false] at hl2
    rcases hl2 with rfl | rfl | rfl
    · exact step_sound hT hl hv.a h (fun st' g' a' w' hk hp => ihp fuel _ _ _ _ _ (by omega) ho1 (hd.set hl) hk hp)
    · exact step_sound hT hl hv.b.a h (fun st' g' a' w' hk hp => ihq fuel _ _ _ _ _ (by omega) ho2 (hd.set hl) hk hp)
    · exact step_sound hT hl hv.b.b h (fun st' g' a' w' hk hp => ihr fuel _ _ _ _ _ (by omega) ho3 (hd.set hl) hk hp)
theorem region_drawn_sound (hT : TabOk P T) (hm : P.follows .mixedOrders = true) {Qn : St → Prop} (hQ : ∀ g' st' a' w', Qn st' → Rp M0 base g' st' a' w' → Q .normal a' w') (hnp : ∀ c a w, ¬ Q (.panic c) a w)
    {id : Nat} {pl : Plan} (hok : okReg T ops pl = true) (hv : vplan P T ops Qn pl st) (h : Rp M0 base g st a w) : (Code.region id ops true).wp P Q a w := by
  simp only [okReg, Bool.and_eq_true] at hok
  obtain ⟨⟨h1, h2⟩, h3⟩ := hok
  refine wp_region_any hm (wpAny_of_S _ _ _ _ (plan_sound hT hQ hnp h1 pl ops.size _ st g a _ (Nat.le_of_ble_eq_true h2) h3 ?_ hv h.drew))
  intro k hk
  exfalso
  simp only [Array.getD_eq_getD_getElem?, Array.getElem?_replicate] at hk
  split at hk <;> simp at hk
theorem region_sound (hT : TabOk P T) {Qn : St → Prop} (hQ : ∀ g' st' a' w', Qn st' → Rp M0 base g' st' a' w' → Q .normal a' w') {id : Nat} (hv : vops P T ops Qn ops.toList st) (h : Rp M0 base g st a w) : (Code.region id ops false).wp P Q a w :=
  wp_region_list (vops_sound hT hQ _ _ _ _ _ hv h)
end
end Go.Proofs.Ytnoohgiecnmajaa.VC

