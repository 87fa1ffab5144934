/- A part of the ground of the proof. No condition. -/
import Derived.Test.YtnoohgiecnmajaaGE31

/- The engine, part 32: code told while memory is put aside, in a chain. -/
namespace Go.Proofs.Ytnoohgiecnmajaa.VC
open Go Go.RowKit
set_option linter.unusedVariables false
set_option linter.unusedSimpArgs false

/-- What was put aside, the last first: the block that the name HI told then, and the memory. -/
inductive Ch (M0 : Region) (base : Bs) : List (Nat × St) → Region → Bs → Prop
  | nil : Ch M0 base [] M0 base
  | cons {hs : List (Nat × St)} {M1 : Region} {base1 : Bs} {g : Gh} {h : St} {b : Nat} {M2 : Region} {base2 : Bs} (c : Ch M0 base hs M1 base1) (hb : base1.β HI = b) (hh : h.hi = true) (H : Hid M1 base1 g h M2 base2) : Ch M0 base ((b, h) :: hs) M2 base2
def RepL (M0 : Region) (base : Bs) (bt : Nat) (hs : List (Nat × St)) (st : St) (a : Act) (w : World) : Prop := ∃ M1 base1, Ch M0 base hs M1 base1 ∧ base1.β HI = bt ∧ Rep M1 base1 st a w
theorem Ch.leave {M0 : Region} {base : Bs} {st : St} {a : Act} {w : World} (hlo : st.lo = true) : ∀ {hs : List (Nat × St)} {M1 : Region} {base1 : Bs}, Ch M0 base hs M1 base1 → Rep M1 base1 st a w → Rep M0 base st a w := by
  intro hs
  induction hs with
  | nil => intro M1 base1 c hr; cases c; exact hr
  | cons x hs ih =>
    intro M1 base1 c hr
    cases c with
    | cons c hb hh H =>
      obtain ⟨g', hp⟩ := hr
      have h1 := H.back hp hlo hh
      refine ih c ⟨_, h1.sub ⟨rfl, fun _ _ q => q, fun t x q => ?_, fun t x q => ?_, rfl⟩⟩
      · simp only [St.join]; rw [look_app, q]
      · simp only [St.join]; rw [look_app, q]
abbrev QL := Ex → Nat → List (Nat × St) → St → Prop
def LiftL (M0 : Region) (base : Bs) (Q : QL) : Exit → Act → World → Prop
  | .normal, a, w => ∃ bt hs st, Q .normal bt hs st ∧ RepL M0 base bt hs st a w
  | .exit id, a, w => ∃ bt hs st, Q (.exit id) bt hs st ∧ RepL M0 base bt hs st a w
  | .ret, a, w => ∃ bt hs st, Q .ret bt hs st ∧ RepL M0 base bt hs st a w
  | _, _, _ => False
structure RWL (P : Program) (T : Tab) (c : Code) (Q : QL) (bt : Nat) (hs : List (Nat × St)) (st : St) : Prop where
  run : ∀ M0 base a w, RepL M0 base bt hs st a w → c.wp P (LiftL M0 base Q) a w
/-- From one telling to another. -/
structure Cv (bt : Nat) (hs : List (Nat × St)) (st : St) (R : Nat → List (Nat × St) → St → Prop) : Prop where
  run : ∀ M0 base a w, RepL M0 base bt hs st a w → ∃ bt' hs' st', RepL M0 base bt' hs' st' a w ∧ R bt' hs' st'
def thenL (next : Nat → List (Nat × St) → St → Prop) (Q : QL) : QL
  | .normal, bt, hs, st => next bt hs st
  | e, bt, hs, st => Q e bt hs st
def inBlockL (id : Nat) (Q : QL) : QL
  | .exit i, bt, hs, st => if i = id then Q .normal bt hs st else Q (.exit i) bt hs st
  | e, bt, hs, st => Q e bt hs st
section
variable {P : Program} {T : Tab} {Q : QL} {bt : Nat} {hs : List (Nat × St)} {st : St}
theorem LiftL.of {M0 M1 : Region} {base base1 : Bs} {Q' : Ex → St → Prop} (hc : Ch M0 base hs M1 base1) (hb : base1.β HI = bt) (hq : ∀ e st', Q' e st' → Q e bt hs st') {e : Exit} {a : Act} {w : World} (h : Lift M1 base1 Q' e a w) : LiftL M0 base Q e a w := by
  cases e with
  | normal => obtain ⟨st', q, r⟩ := h; exact ⟨bt, hs, st', hq _ _ q, M1, base1, hc, hb, r⟩
  | exit i => obtain ⟨st', q, r⟩ := h; exact ⟨bt, hs, st', hq _ _ q, M1, base1, hc, hb, r⟩
  | ret => obtain ⟨st', q, r⟩ := h; exact ⟨bt, hs, st', hq _ _ q, M1, base1, hc, hb, r⟩
  | goto l => exact h.elim
  | panic c => exact h.elim
  | outgrown => exact h.elim
theorem RWL.of {c : Code} (h : RWP P T c (fun e st' => Q e bt hs st') st) : RWL P T c Q bt hs st := by
  refine ⟨fun M0 base a w hr => ?_⟩
  obtain ⟨M1, base1, hc, hb, hr⟩ := hr
  exact wp_mono (h.run M1 base1 a w hr) (fun e a' w' q => LiftL.of hc hb (fun _ _ q => q) q)
theorem RWL.cv {c : Code} (h : Cv bt hs st (fun bt' hs' st' => RWL P T c Q bt' hs' st')) : RWL P T c Q bt hs st := by
  refine ⟨fun M0 base a w hr => ?_⟩
  obtain ⟨bt', hs', st', hr', hk⟩ := h.run M0 base a w hr
  exact hk.run M0 base a w hr'
theorem RWL.seq {x y : Code} (h : RWL P T x (thenL (fun bt' hs' st' => RWL P T y Q bt' hs' st') Q) bt hs st) : RWL P T (.seq x y) Q bt hs st := by
  refine ⟨fun M0 base ac w hr => wp_seq (wp_mono (h.run M0 base ac w hr) ?_)⟩
  intro e a' w' hq
  cases e with
  | normal => obtain ⟨bt', hs', st', hq, hr'⟩ := hq; exact RWL.run hq M0 base a' w' hr'
  | exit id => exact hq
  | ret => exact hq
  | goto l => exact hq.elim
  | panic c => exact hq.elim
  | outgrown => exact hq.elim
theorem RWL.block {id : Nat} {b : Code} (h : RWL P T b (inBlockL id Q) bt hs st) : RWL P T (.block id b) Q bt hs st := by
  refine ⟨fun M0 base ac w hr => wp_block (wp_mono (h.run M0 base ac w hr) ?_)⟩
  intro e a' w' hq
  cases e with
  | normal => exact hq
  | exit i =>
    obtain ⟨bt', hs', st', hq, hr'⟩ := hq
    simp only [inBlockL] at hq
    simp only [Exit.inBlock]
    by_cases hi : i = id
    · rw [if_pos hi] at hq ⊢; exact ⟨bt', hs', st', hq, hr'⟩
    · rw [if_neg hi] at hq ⊢; exact ⟨bt', hs', st', hq, hr'⟩
  | ret => exact hq
  | goto l => exact hq.elim
  | panic c => exact hq.elim
  | outgrown => exact hq.elim
theorem RWL.loop {b : Code} (I : Nat → Nat → List (Nat × St) → St → Prop) (h : ∃ n, I n bt hs st)
    (round : ∀ n bt' hs' st', I n bt' hs' st' → RWL P T b (thenL (fun bt2 hs2 st2 => Cv bt2 hs2 st2 (fun bt3 hs3 st3 => ∃ m, m < n ∧ I m bt3 hs3 st3)) Q) bt' hs' st') : RWL P T (.loop b) Q bt hs st := by
  obtain ⟨n, hI⟩ := h
  refine ⟨fun M0 base a w hr => wp_loop_ghost (fun n a w => ∃ bt' hs' st', I n bt' hs' st' ∧ RepL M0 base bt' hs' st' a w) n ⟨bt, hs, st, hI, hr⟩ ?_⟩
  rintro n a' w' ⟨bt', hs', st', hI', hr'⟩
  refine wp_mono ((round n bt' hs' st' hI').run M0 base a' w' hr') ?_
  intro e a2 w2 hq
  cases e with
  | normal =>
    obtain ⟨bt2, hs2, st2, hq, hr2⟩ := hq
    obtain ⟨bt3, hs3, st3, hr3, m, hm, hI3⟩ := Cv.run hq _ _ _ _ hr2
    exact ⟨m, hm, bt3, hs3, st3, hI3, hr3⟩
  | exit i => exact hq
  | ret => exact hq
  | goto l => exact hq.elim
  | panic c => exact hq.elim
  | outgrown => exact hq.elim
theorem RWL.cond {c : Operand} {x y : Code} (h : match val1 st c with | some (.bool t) => Spl t (RWL P T x Q bt hs st) (RWL P T y Q bt hs st) | _ => False) : RWL P T (.cond c x y) Q bt hs st := by
  split at h
  · rename_i t ht
    refine ⟨fun M0 base ac w hr => ?_⟩
    have hcv : ac.eval c = .bool t := by obtain ⟨M1, base1, _, _, g, hr⟩ := hr; exact hr.val1 ht
    exact wp_cond_split hcv (fun e => (h.t e).run M0 base ac w hr) (fun e => (h.f e).run M0 base ac w hr)
  · exact h.elim
theorem RWL.skip (h : Q .normal bt hs st) : RWL P T .skip Q bt hs st := ⟨fun M0 base a w hr => wp_skip ⟨bt, hs, st, h, hr⟩⟩
theorem RWL.exit {id : Nat} (h : Q (.exit id) bt hs st) : RWL P T (.exit id) Q bt hs st := ⟨fun M0 base a w hr => wp_exit ⟨bt, hs, st, h, hr⟩⟩
theorem RWL.ret (h : Q .ret bt hs st) : RWL P T .ret Q bt hs st := ⟨fun M0 base a w hr => wp_ret ⟨bt, hs, st, h, hr⟩⟩
theorem RWL.mono {c : Code} {Q' : QL} (h : RWL P T c Q bt hs st) (hq : ∀ e bt hs st, Q e bt hs st → Q' e bt hs st) : RWL P T c Q' bt hs st :=
  ⟨fun M0 base a w hr => wp_mono (h.run M0 base a w hr) (fun e a' w' q => by
    cases e with
    | normal => obtain ⟨b, h, s, q, r⟩ := q; exact ⟨b, h, s, hq _ _ _ _ q, r⟩
    | exit i => obtain ⟨b, h, s, q, r⟩ := q; exact ⟨b, h, s, hq _ _ _ _ q, r⟩
    | ret => obtain ⟨b, h, s, q, r⟩ := q; exact ⟨b, h, s, hq _ _ _ _ q, r⟩
    | goto l => exact q.elim
    | panic c => exact q.elim
    | outgrown => exact q.elim)⟩
/-- All of a function: nothing is put aside at its begin. -/
theorem RWP.ofL {c : Code} {Q' : Ex → St → Prop} (h : ∀ bt, RWL P T c (fun e bt' hs' st' => ∃ st2, Wk st' st2 ∧ st2.lo = true ∧ Q' e st2) bt [] st) : RWP P T c Q' st := by
  refine ⟨fun M0 base a w hr => ?_⟩
  refine wp_mono ((h (base.β HI)).run M0 base a w ⟨M0, base, .nil, rfl, hr⟩) ?_
  have key : ∀ {bt hs st' a' w' e}, (∃ st2, Wk st' st2 ∧ st2.lo = true ∧ Q' e st2) → RepL M0 base bt hs st' a' w' → ∃ st2, Q' e st2 ∧ Rep M0 base st2 a' w' := by
    rintro bt hs st' a' w' e ⟨st2, hw, hlo, hq⟩ ⟨M1, base1, hc, hb, hr⟩
    exact ⟨st2, hq, hc.leave hlo (hw _ _ _ _ hr)⟩
  intro e a' w' hq
  cases e with
  | normal => obtain ⟨bt, hs, st', q, r⟩ := hq; exact key q r
  | exit i => obtain ⟨bt, hs, st', q, r⟩ := hq; exact key q r
  | ret => obtain ⟨bt, hs, st', q, r⟩ := hq; exact key q r
  | goto l => exact hq.elim
  | panic c => exact hq.elim
  | outgrown => exact hq.elim

/-! ### From one telling to another -/
variable {R : Nat → List (Nat × St) → St → Prop}
theorem Cv.here (h : R bt hs st) : Cv bt hs st R := ⟨fun M0 base a w hr => ⟨bt, hs, st, hr, h⟩⟩
theorem Cv.trans {R' : Nat → List (Nat × St) → St → Prop} (h : Cv bt hs st R') (k : ∀ bt' hs' st', R' bt' hs' st' → Cv bt' hs' st' R) : Cv bt hs st R := ⟨fun M0 base a w hr => by
  obtain ⟨bt', hs', st', hr', q⟩ := h.run M0 base a w hr
  exact (k _ _ _ q).run M0 base a w hr'⟩
theorem Cv.wk {st' : St} (hw : Wk st st') (h : Cv bt hs st' R) : Cv bt hs st R := ⟨fun M0 base a w hr => by
  obtain ⟨M1, base1, hc, hb, hr⟩ := hr
  exact h.run M0 base a w ⟨M1, base1, hc, hb, hw _ _ _ _ hr⟩⟩
/-- A pointer to the uppermost box. -/
theorem Cv.valPtr (t : Nat) (hl : look t st.env = some (.pv (.val (.pointer (some ⟨bt, 0, none⟩))))) (h : Cv bt hs (st.put t (.ptr HI 0)) R) : Cv bt hs st R := ⟨fun M0 base a w hr => by
  obtain ⟨M1, base1, hc, hb, g, hr⟩ := hr
  refine h.run M0 base a w ⟨M1, base1, hc, hb, g, hr.retell _ hl ?_⟩
  intro v hv
  have hv : v = .pointer (some ⟨bt, 0, none⟩) := by simpa [FR, VR] using hv
  simp only [FR]
  rw [hv, (hr.pin HI (Nat.le_refl _)).1, hb]⟩
theorem Cv.ptrVal (t : Nat) (hl : look t st.env = some (.ptr HI 0)) (h : Cv bt hs (st.put t (.pv (.val (.pointer (some ⟨bt, 0, none⟩))))) R) : Cv bt hs st R := ⟨fun M0 base a w hr => by
  obtain ⟨M1, base1, hc, hb, g, hr⟩ := hr
  refine h.run M0 base a w ⟨M1, base1, hc, hb, g, hr.retell _ hl ?_⟩
  intro v hv
  simp only [FR] at hv
  simp only [FR, VR]
  rw [hv, (hr.pin HI (Nat.le_refl _)).1, hb]⟩
/-- Memory is put aside, and a box is the uppermost from then on. -/
theorem Cv.push (st1 h : St) (d : Nat) (c : TypeId × List FE) (hs1 : Sub st1 st) (b2 : ∀ t x, look t h.box = some x → look t st.box = some x) (o2 : ∀ t x, look t h.own = some x → look t st.own = some x)
    (hlo : st1.lo = true) (hhi : h.hi = true) (h0 : h.n = 0 ∧ h.env = [] ∧ h.mp = []) (hd : look d st1.box = some c) (hk : ∀ b, Cv b ((bt, h) :: hs) (st1.rnb d c) R) : Cv bt hs st R := ⟨fun M0 base a w hr => by
  obtain ⟨M1, base1, hc, hb, g, hr⟩ := hr
  have hx := hr.hide hs1 b2 o2 (fun t x y q1 q2 => by have := (St.lo_box hlo q1).1; have := (St.hi_box hhi q2).1; omega) (fun t x y q1 q2 => by have := St.lo_own hlo q1; have := St.hi_own hhi q2; omega) h0
  have hy := hx.1.renBox hd hlo
  have hz := hx.2
  generalize (⟨w, fun k => base1.mine k ∧ ¬ HB g h k, Mset M1 g st, base1.β, base1.μ⟩ : Bs) = base2 at hy hz
  refine (hk (g.β d)).run M0 base a w ⟨Mset M1 g h, base2.at (g.β d), .cons (g := g) hc hb hhi ⟨hz.hp, hz.hm, hz.hx, hz.hy, hz.hμ⟩, ?_, _, hy⟩
  show (if HI = HI then g.β d else base2.β HI) = g.β d
  rw [if_pos rfl]⟩
/-- What was put aside is taken back. -/
theorem Cv.pop {b : Nat} {h : St} (hlo : st.lo = true) (hk : Cv b hs (st.join h) R) : Cv bt ((b, h) :: hs) st R := ⟨fun M0 base a w hr => by
  obtain ⟨M1, base1, hc, hb, g, hr⟩ := hr
  cases hc with
  | cons c hb' hh H => exact hk.run M0 base a w ⟨_, _, c, hb', _, H.back hr hlo hh⟩⟩

/-! ### In the midst of a region -/
theorem RWL.mid {id : Nat} {ops : Array Oper} (hT : TabOk P T) (i : Nat)
    (k : xops P T ops.toList (fun st' => Cv bt hs st' (fun bt' hs' st'' => xops P T ops.toList (fun st3 => Q .normal bt' hs' st3) (ops.toList.drop i) st'')) (ops.toList.take i) st) : RWL P T (.region id ops false) Q bt hs st := by
  refine ⟨fun M0 base a w hr => ?_⟩
  obtain ⟨M1, base1, hc, hb, g, hr⟩ := hr
  apply wp_region_list
  have hsplit : ops.toList = ops.toList.take i ++ ops.toList.drop i := (List.take_append_drop i _).symm
  generalize ops.toList.take i = l1 at *
  generalize ops.toList.drop i = l2 at *
  rw [hsplit]
  refine vops_pre hT (fun g' st' a' w' hq hp => ?_) l1 st g a w (xops_ok (fun _ q => q) _ _ k) hr
  obtain ⟨bt', hs', st'', ⟨M2, base2, hc2, hb2, g2, hp2⟩, hx⟩ := hq.run M0 base a' w' ⟨M1, base1, hc, hb, g', hp⟩
  exact vops_sound hT (fun g3 st3 a3 w3 hq3 hp3 => ⟨bt', hs', st3, hq3, M2, base2, hc2, hb2, g3, hp3⟩) _ _ _ _ _ (xops_ok (fun _ q => q) _ _ hx) hp2
/-- The same where the region draws: the first part makes nothing, and comes first. -/
def pickDone (T : Tab) (ops : Array Oper) : Array Bool → List Nat → Bool
  | _, [] => true
  | listed, i :: l =>
    (match ops[i]? with
     | some o => isA T o.op && ((Region.ready .any ops listed).contains i && Region.free .any ops listed i && (pureB o.op || (List.range ops.size).all (fun j => match ops[j]? with | some p => quietB T p.op || listed.getD j true || anc ops ops.size j i | none => true)))
     | none => false) && pickDone T ops (listed.setIfInBounds i true) l
def listedOf (listed : Array Bool) : List Nat → Array Bool
  | [] => listed
  | i :: l => listedOf (listed.setIfInBounds i true) l
def vpre (P : Program) (T : Tab) (all : Array Oper) (Q : St → Prop) : List Nat → St → Prop
  | [], st => Q st
  | i :: l, st => vstep P T all st i (vpre P T all Q l)
def xpre (P : Program) (T : Tab) (all : List Oper) (Q : St → Prop) : List Nat → St → Prop
  | [], st => Q st
  | i :: l, st => xstep P T all st i (xpre P T all Q l)
theorem xpre_ok {all : Array Oper} {Q Q' : St → Prop} (hq : ∀ st, Q st → Q' st) : ∀ (l : List Nat) (st : St), xpre P T all.toList Q l st → vpre P T all Q' l st
  | [], st, h => hq st h
  | i :: l, st, h => xstep_ok (fun st' q => xpre_ok hq l st' q) h
end
end Go.Proofs.Ytnoohgiecnmajaa.VC

