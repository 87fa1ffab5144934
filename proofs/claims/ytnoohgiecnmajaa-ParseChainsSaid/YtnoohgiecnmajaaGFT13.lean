/- A part of the ground of the proof. No condition. -/
import Derived.Test.YtnoohgiecnmajaaGF2

/- Two trees that are one but for the places are the same. -/
namespace Go.Proofs.Ytnoohgiecnmajaa.VC
open Go Go.RowKit
set_option linter.unusedVariables false
set_option linter.unusedSimpArgs false
set_option maxHeartbeats 4000000

mutual
/-- The same but for the places. -/
def Sim : Node → Node → Prop
  | .mk f ks, .mk g ms => g = { f with at_ := g.at_ } ∧ SimL ks ms
def SimL : List Node → List Node → Prop
  | [], [] => True
  | k :: l, m :: r => Sim k m ∧ SimL l r
  | _, _ => False
end
theorem SimL.len : ∀ {l r : List Node}, SimL l r → r.length = l.length
  | [], [], _ => rfl
  | k :: l, m :: r, h => by rw [SimL] at h; simp [SimL.len h.2]
  | [], m :: r, h => by simp [SimL] at h
  | k :: l, [], h => by simp [SimL] at h
theorem SimL.rd : ∀ {l r : List Node}, SimL l r → ∀ (j : Nat), j < l.length → Sim (rdn l j) (rdn r j)
  | [], [], _, j, hj => by simp at hj
  | k :: l, m :: r, h, 0, hj => by rw [SimL] at h; exact h.1
  | k :: l, m :: r, h, j + 1, hj => by
    rw [SimL] at h
    have := SimL.rd h.2 j (by simpa using hj)
    simpa [rdn] using this
  | [], m :: r, h, j, hj => by simp [SimL] at h
  | k :: l, [], h, j, hj => by simp [SimL] at h
theorem SimL.app : ∀ {l r l2 r2 : List Node}, SimL l r → SimL l2 r2 → SimL (l ++ l2) (r ++ r2)
  | [], [], _, _, _, h2 => h2
  | k :: l, m :: r, _, _, h, h2 => by rw [SimL] at h; rw [List.cons_append, List.cons_append, SimL]; exact ⟨h.1, SimL.app h.2 h2⟩
  | [], m :: r, _, _, h, _ => by simp [SimL] at h
  | k :: l, [], _, _, h, _ => by simp [SimL] at h
mutual
theorem Sim.refl : ∀ n : Node, Sim n n
  | .mk f ks => by rw [Sim]; exact ⟨rfl, SimL.refl ks⟩
theorem SimL.refl : ∀ l : List Node, SimL l l
  | [] => by rw [SimL]; trivial
  | k :: l => by rw [SimL]; exact ⟨Sim.refl k, SimL.refl l⟩
end
set_option maxHeartbeats 16000000
def SmD (n m : Node) : Prop := VCalls Try.prog 23 [n.enc, m.enc] (fun r => r = bv true)
theorem same2_step (f : NodeF) (a : Int) (ks ms : List Node) (hset : f.set.length ≤ 4000000000) (hk : ks.length ≤ 1000000) (hms : ms.length = ks.length) (ih : ∀ j : Int, 0 ≤ j → j < ks.length → SmD (rdn ks j) (rdn ms j)) : VCalls Try.prog 23 [(Node.mk f ks).enc, (Node.mk { f with at_ := a } ms).enc] (fun r => r = bv true) := by
  have hn := rowsN_len ks
  have hn2 := rowsN_len ms
  have hs := rows2_len f.set
  refine VCalls.ofr tabOk Try.func23 (by decide) rfl rfl ?_
  refine RWP.seqx tabOk orders ?_
  conv => whnf
  refine RWP.cut (fun st => st = ⟨125, [(2, .ptr 2 0), (3, .ptr 3 0)], [(2, (27, nfe f ks)), (3, (27, nfe { f with at_ := a } ms))], [], []⟩) tabOk orders ?_ ?_
  · repeat' ((conv => whnf); (first
    | (with_reducible first | refine Spl.yes ?_ | refine Spl.no ?_ | refine Spl.dec (fun h => ?_) (fun h => ?_) | refine Spl.eq (fun h => ?_) (fun h => ?_) | refine Spl.ne (fun h => ?_) (fun h => ?_) | refine Spl.seq (fun h => ?_) (fun h => ?_) | refine Spl.not ?_ | refine Spl.any (fun h => ?_) (fun h => ?_))
    | (exfalso; exact absurd rfl (by assumption))
    | ((with_reducible apply And.intro); first | omega | rfl | (dsimp only; omega))))
    all_goals (conv => whnf)
    all_goals first
      | (exfalso; exact absurd rfl (by assumption))
      | (exfalso; omega)
      | (have hb : (f.neg == f.neg) = false := by assumption
         simp at hb)
      | exact ⟨_, Wk.narrow _ [2, 3] [2, 3] [], rfl⟩
  rintro _ rfl
  refine RWP.cutr (fun st => st = ⟨125, [(2, .ptr 2 0), (3, .ptr 3 0)], [(2, (27, nfe f ks)), (3, (27, nfe { f with at_ := a } ms))], [], []⟩) ?_ ?_
  · refine RWP.seqx tabOk orders ?_
    conv => whnf
    refine RWP.block ?_
    refine RWP.loop (fun k st => ∃ (j : Int), st = ⟨125, [(2, .ptr 2 0), (3, .ptr 3 0), (5, .pv (iv j))], [(2, (27, nfe f ks)), (3, (27, nfe { f with at_ := a } ms))], [], []⟩ ∧ 0 ≤ j ∧ j ≤ f.set.length ∧ k = (f.set.length - j).toNat)
      ⟨_, _, Wk.narrow _ [2, 3, 5] [2, 3] [], 0, rfl, by omega, by omega, rfl⟩ ?_
    rintro k st ⟨j, rfl, hj0, hj1, hk⟩
    refine RWP.seqx tabOk orders ?_
    repeat' ((conv => whnf); (first
    | (with_reducible first | refine Spl.yes ?_ | refine Spl.no ?_ | refine Spl.dec (fun h => ?_) (fun h => ?_) | refine Spl.eq (fun h => ?_) (fun h => ?_) | refine Spl.ne (fun h => ?_) (fun h => ?_) | refine Spl.seq (fun h => ?_) (fun h => ?_) | refine Spl.not ?_ | refine Spl.any (fun h => ?_) (fun h => ?_))
    | ((with_reducible apply And.intro); first | omega | rfl | (dsimp only; omega))))
    all_goals (conv => whnf)
    rotate_left
    · exact ⟨_, Wk.narrow _ [2, 3] [2, 3] [], rfl⟩
    refine RWP.of tabOk orders ?_
    repeat' ((conv => whnf); (first
    | (with_reducible first | refine Spl.yes ?_ | refine Spl.no ?_ | refine Spl.dec (fun h => ?_) (fun h => ?_) | refine Spl.eq (fun h => ?_) (fun h => ?_) | refine Spl.ne (fun h => ?_) (fun h => ?_) | refine Spl.seq (fun h => ?_) (fun h => ?_) | refine Spl.not ?_ | refine Spl.any (fun h => ?_) (fun h => ?_))
    | refine drawn_text (by decide +kernel) ?_
    | (rw [rows2_get (l := f.set) (by omega)])
    | (rw [rows2_get (l := ({ f with at_ := a } : NodeF).set) (show j.toNat < f.set.length by omega)])
    | refine And.intro (Nat.le_of_ble_eq_true rfl) ?_
    | refine ⟨_, eqS74 _ _ _ _, ?_⟩
    | ((with_reducible apply And.intro); first | omega | rfl | (dsimp only; omega))))
    all_goals (conv => whnf)
    all_goals first
      | exact ⟨(f.set.length - (j + 1)).toNat, _, by omega, Wk.narrow _ [2, 3, 5] [2, 3] [], j + 1, rfl, by omega, by omega, rfl⟩
      | (have hb : ((rdp f.set j).1 == (rdp f.set j).1 && ((rdp f.set j).2 == (rdp f.set j).2 && true)) = false := by assumption
         simp at hb)
  rintro _ rfl
  refine RWP.seq ?_
  refine RWP.seqx tabOk orders ?_
  conv => whnf
  refine RWP.block ?_
  refine RWP.loop (fun k st => ∃ (j : Int), st = ⟨125, [(2, .ptr 2 0), (3, .ptr 3 0), (6, .pv (iv j))], [(2, (27, nfe f ks)), (3, (27, nfe { f with at_ := a } ms))], [], []⟩ ∧ 0 ≤ j ∧ j ≤ ks.length ∧ k = (ks.length - j).toNat)
    ⟨_, _, Wk.narrow _ [2, 3, 6] [2, 3] [], 0, rfl, by omega, by omega, rfl⟩ ?_
  rintro k st ⟨j, rfl, hj0, hj1, hk⟩
  refine RWP.seqx tabOk orders ?_
  repeat' ((conv => whnf); (first
    | (with_reducible first | refine Spl.yes ?_ | refine Spl.no ?_ | refine Spl.dec (fun h => ?_) (fun h => ?_) | refine Spl.eq (fun h => ?_) (fun h => ?_) | refine Spl.ne (fun h => ?_) (fun h => ?_) | refine Spl.seq (fun h => ?_) (fun h => ?_) | refine Spl.not ?_ | refine Spl.any (fun h => ?_) (fun h => ?_))
    | ((with_reducible apply And.intro); first | omega | rfl | (dsimp only; omega))))
  all_goals (conv => whnf)
  rotate_left
  · refine RWP.of tabOk orders ?_
    conv => whnf
    rfl
  have hc := ih j hj0 (by omega)
  unfold SmD at hc
  obtain ⟨f3, k3, h3⟩ := (rdn ks j).ex
  obtain ⟨f4, k4, h4⟩ := (rdn ms j).ex
  rw [h3, h4] at hc
  refine RWP.of tabOk orders ?_
  repeat' ((conv => whnf); (first
    | (with_reducible first | refine Spl.yes ?_ | refine Spl.no ?_ | refine Spl.dec (fun h => ?_) (fun h => ?_) | refine Spl.eq (fun h => ?_) (fun h => ?_) | refine Spl.ne (fun h => ?_) (fun h => ?_) | refine Spl.seq (fun h => ?_) (fun h => ?_) | refine Spl.not ?_ | refine Spl.any (fun h => ?_) (fun h => ?_))
    | refine drawn_text (by decide +kernel) ?_
    | (rw [rowsN_get (l := ks) (by omega)])
    | (rw [rowsN_get (l := ms) (by omega)])
    | (rw [h3])
    | (rw [h4])
    | (refine VCalls.mono (hc) ?_; rintro _ rfl)
    | refine And.intro (Nat.le_of_ble_eq_true rfl) ?_
    | ((with_reducible apply And.intro); first | omega | rfl | (dsimp only; omega))))
  all_goals (conv => whnf)
  all_goals exact ⟨(ks.length - (j + 1)).toNat, _, by omega, Wk.narrow _ [2, 3, 6] [2, 3] [], j + 1, rfl, by omega, by omega, rfl⟩
theorem same2_c : ∀ (k : Nat) (n m : Node), n.w ≤ k → n.w ≤ 1000000 → n.all SetOk → Sim n m → SmD n m := by
  intro k
  induction k with
  | zero => intro n m h; have := w_pos n; omega
  | succ k ih =>
    intro n m hk hw ha hs
    cases n with
    | mk f ks =>
      cases m with
      | mk g ms =>
        rw [Node.w] at hk hw
        rw [Node.all] at ha
        rw [Sim] at hs
        have hl := wN_len ks
        rw [hs.1]
        refine same2_step f g.at_ ks ms ha.1 (by omega) hs.2.len (fun j h0 h1 => ?_)
        have hm := rdn_mem (l := ks) (j := j) (by omega)
        have hsj := hs.2.rd j.toNat (by omega)
        rw [show ((j.toNat : Nat) : Int) = j by omega] at hsj
        exact ih _ _ (by have := wN_mem hm; omega) (by have := wN_mem hm; omega) (allN_mem ha.2 hm) hsj
end Go.Proofs.Ytnoohgiecnmajaa.VC

/- A text within another one: what begins at an offset (plain). -/
namespace Go.Proofs.Ytnoohgiecnmajaa.VC
open Go Go.RowKit
set_option linter.unusedVariables false
set_option linter.unusedSimpArgs false
set_option maxHeartbeats 4000000

def shT (d : Int) (t : Tok) : Tok := { t with at_ := t.at_ + d, to := t.to + d }
/-- What is got without an error is got so much further on. -/
def GE (d : Int) (g g' : Got) : Prop := g.e = 0 → g'.e = 0 ∧ g'.some = g.some ∧ g'.to = g.to + d ∧ (g.some = true → g'.t = shT d g.t)
section
variable {x x' : Text} {d : Int} {suf : List Int}
theorem ge_bad {e a : Int} {g' : Got} (he : e ≠ 0) : GE d (badG e a) g' := fun h => absurd h he
theorem ge_end {g' : Got} : GE d (endG x) g' := ge_bad (by decide)
theorem ge_tok {t : Tok} {a b a' b' : Int} (ha : a' = a + d) (hb : b' = b + d) : GE d (tokG t a b) (tokG t a' b') := fun _ => ⟨rfl, rfl, hb, fun _ => by subst ha; subst hb; rfl⟩
theorem ge_skip {b b' : Int} (hb : b' = b + d) : GE d (skipG b) (skipG b') := fun _ => ⟨rfl, rfl, hb, fun h => by cases h⟩
theorem ge_ite {c c' : Prop} [Decidable c] [Decidable c'] {a b a' b' : Got} (hc : c' ↔ c) (h1 : c → GE d a a') (h2 : ¬ c → GE d b b') : GE d (if c then a else b) (if c' then a' else b') := by
  by_cases h : c
  · rw [if_pos h, if_pos (hc.2 h)]; exact h1 h
  · rw [if_neg h, if_neg (fun q => h (hc.1 q))]; exact h2 h
/-- Where the first way is an error. -/
theorem ge_iteB {c c' : Prop} [Decidable c] [Decidable c'] {a b a' b' : Got} (h1 : c → a.e ≠ 0) (hc : ¬ c → ¬ c') (h2 : ¬ c → GE d b b') : GE d (if c then a else b) (if c' then a' else b') := by
  by_cases h : c
  · rw [if_pos h]; exact fun q => absurd q (h1 h)
  · rw [if_neg h, if_neg (hc h)]; exact h2 h
theorem endG_e (x : Text) : (endG x).e ≠ 0 := by unfold endG badG; simp
theorem Ext.shut (E : Ext x x' d suf) {t : Tok} {a a' i i' : Int} {s : ByteArray} {e : Int} (ha : a' = a + d) (hi : i' = i + d) (h0 : 0 ≤ i) (he : e ≠ 0) : GE d (shutP x t a i s e) (shutP x' t a' i' s e) := by
  unfold shutP
  by_cases c : isP x.s i s = true
  · rw [if_pos c, if_pos (E.isT hi h0 c)]
    exact ge_tok ha (by omega)
  · rw [if_neg c]
    split
    · exact ge_end
    · exact ge_bad he
theorem Ext.called (E : Ext x x' d suf) {t : Tok} {a a' i i' : Int} {s : ByteArray} (ha : a' = a + d) (hi : i' = i + d) (h0 : 0 ≤ i) (h1 : i ≤ x.s.size) : GE d (calledP x t a i s) (calledP x' t a' i' s) := by
  have hsz := E.size
  have hr := nameTo_rng x.s i
  unfold calledP
  rw [E.name hi h0 h1, E.nameAt hi h0 h1]
  refine ge_iteB (fun _ => endG_e x) (fun h => by omega) (fun _ => ?_)
  refine ge_ite Iff.rfl (fun _ => ge_bad (by decide)) (fun _ => ?_)
  refine ge_iteB (fun _ => by unfold badG; simp) (fun h => ?_) (fun h => ?_)
  · rw [E.isT (i := nameTo x.s i) rfl (by omega) (by simpa using h)]; simp
  · exact ge_tok ha (by omega)
theorem Ext.flagsL (E : Ext x x' d suf) {a a' : Int} (ha : a' = a + d) : ∀ (k k' : Nat) (i i' : Int) (off : Bool) (p q : Int), i' = i + d → 0 ≤ i → k ≤ k' → GE d (VC.flagsL x a k i off p q) (VC.flagsL x' a' k' i' off p q)
  | 0, k', i, i', off, p, q, hi, h0, hk => ge_end
  | k + 1, k', i, i', off, p, q, hi, h0, hk => by
    have hsz := E.size
    obtain ⟨k', rfl⟩ : ∃ m, k' = m + 1 := ⟨k' - 1, by omega⟩
    unfold VC.flagsL
    refine ge_iteB (fun _ => endG_e x) (fun h => by omega) (fun hl => ?_)
    rw [E.byte hi h0 (by omega)]
    have ih := fun i i' off p q hi h0 => Ext.flagsL E ha k k' i i' off p q hi h0 (by omega)
    refine ge_ite Iff.rfl (fun _ => ge_tok ha (by omega)) (fun _ => ?_)
    refine ge_ite Iff.rfl (fun _ => ge_tok ha (by omega)) (fun _ => ?_)
    refine ge_ite Iff.rfl (fun _ => ?_) (fun _ => ?_)
    · exact ge_ite Iff.rfl (fun _ => ge_bad (by decide)) (fun _ => ih _ _ _ _ _ (by omega) (by omega))
    refine ge_ite Iff.rfl (fun _ => ge_bad (by decide)) (fun _ => ?_)
    exact ge_ite Iff.rfl (fun _ => ih _ _ _ _ _ (by omega) (by omega)) (fun _ => ih _ _ _ _ _ (by omega) (by omega))
theorem Ext.flags (E : Ext x x' d suf) {a a' i i' : Int} (ha : a' = a + d) (hi : i' = i + d) (h0 : 0 ≤ i) : GE d (flagsP x a i) (flagsP x' a' i') := by
  have hsz := E.size
  unfold flagsP
  exact E.flagsL ha _ _ _ _ _ _ _ hi h0 (by omega)
theorem Ext.referK (E : Ext x x' d suf) {i i' : Int} (hi : i' = i + d) (h0 : 0 ≤ i) (h1 : i ≤ x.s.size) : VC.referK x'.s i' = VC.referK x.s i := by
  unfold VC.referK
  simp only
  rw [E.is hi h0 h1 (t := bs [123]) (by decide), E.is hi h0 h1 (t := bs [60]) (by decide), E.is hi h0 h1 (t := bs [39]) (by decide)]
theorem Ext.refer (E : Ext x x' d suf) {a a' i i' : Int} (ha : a' = a + d) (hi : i' = i + d) (h0 : 0 ≤ i) (h1 : i ≤ x.s.size) : GE d (referP x a i) (referP x' a' i') := by
  have hle := referK_le x.s i h1
  have hsz := E.size
  unfold referP
  simp only
  rw [E.referK hi h0 h1]
  generalize VC.referK x.s i = p at *
  obtain ⟨kind, cl⟩ := p
  simp only at *
  have hii : i' + (cl.size : Int) = i + cl.size + d := by omega
  have hq := signedP_range x.s (i + cl.size) (by omega)
  have hr := nameTo_rng x.s (i + cl.size)
  rw [E.signed hii (by omega) (by omega), E.name hii (by omega) (by omega), E.nameAt hii (by omega) (by omega)]
  simp only
  refine ge_ite Iff.rfl (fun _ => ge_bad (by decide)) (fun _ => ?_)
  refine ge_ite (by omega) (fun hg => ?_) (fun _ => ?_)
  · refine ge_iteB (fun _ => by unfold badG; simp) (fun h => ?_) (fun h => ?_)
    · rw [E.isT (i := (signedP x.s (i + cl.size)).2.2.1) rfl (by omega) (by simpa using h)]; simp
    refine ge_ite Iff.rfl (fun _ => ge_bad (by decide)) (fun _ => ge_tok ha (by omega))
  refine ge_ite Iff.rfl (fun _ => ge_bad (by decide)) (fun _ => ?_)
  refine ge_ite Iff.rfl (fun _ => ge_bad (by decide)) (fun _ => ?_)
  refine ge_iteB (fun _ => by unfold badG; simp) (fun h => ?_) (fun h => ?_)
  · rw [E.isT (i := nameTo x.s (i + cl.size)) rfl (by omega) (by simpa using h)]; simp
  · exact ge_tok ha (by omega)
theorem Ext.verb (E : Ext x x' d suf) {a a' : Int} (ha : a' = a + d) (h0 : 0 ≤ a) (h1 : a + 2 ≤ x.s.size) : GE d (verbP x a) (verbP x' a') := by
  have hsz := E.size
  have hr := stopAt_range x.s 41 (a + 2) h1
  unfold verbP
  simp only
  by_cases c : stopAt x.s 41 (a + 2) = x.s.size
  · rw [if_pos c]; exact ge_end
  have hs := E.stop (c := 41) (i := a + 2) (i' := a' + 2) (by omega) (by omega) h1 (by omega)
  rw [hs, E.ex (i := a + 2) (i' := a' + 2) (j := stopAt x.s 41 (a + 2)) (by omega) rfl (by omega) h1 (by omega)]
  refine ge_iteB (fun h => absurd h c) (fun _ => by omega) (fun _ => ?_)
  exact ge_ite Iff.rfl (fun _ => ge_bad (by decide)) (fun _ => ge_tok ha (by omega))
theorem Ext.condFin (E : Ext x x' d suf) {a a' to to' : Int} {t : Tok} {ok : Bool} (ha : a' = a + d) (ht : to' = to + d) (h0 : 0 ≤ to) : GE d (VC.condFin x a t to ok) (VC.condFin x' a' t to' ok) := by
  unfold VC.condFin
  refine ge_ite Iff.rfl (fun _ => ge_bad (by decide)) (fun _ => ?_)
  refine ge_iteB (fun _ => by unfold badG; simp) (fun h => ?_) (fun h => ?_)
  · rw [E.isT ht h0 (by simpa using h)]; simp
  exact ge_ite Iff.rfl (fun _ => ge_bad (by decide)) (fun _ => ge_tok ha (by omega))
theorem Ext.cond (E : Ext x x' d suf) {a a' i i' : Int} (ha : a' = a + d) (hi : i' = i + d) (h0 : 0 ≤ i) (h1 : i ≤ x.s.size) : GE d (conditionP x a i) (conditionP x' a' i') := by
  have hn := nameTo_rng x.s (i + 1)
  have hn2 := nameTo_rng x.s (i + 2)
  have hq := signedP_range x.s i h1
  have hp := numP_range x.s (i + 1)
  have l60 : isP x.s i (bs [60]) = true → i + 1 ≤ x.s.size := fun h => by have := isP_le h; have hb : (bs [60]).size = 1 := rfl; omega
  have l39 : isP x.s i (bs [39]) = true → i + 1 ≤ x.s.size := fun h => by have := isP_le h; have hb : (bs [39]).size = 1 := rfl; omega
  have l82 : isP x.s i (bs [82]) = true → i + 1 ≤ x.s.size := fun h => by have := isP_le h; have hb : (bs [82]).size = 1 := rfl; omega
  have l828 : isP x.s i (bs [82, 38]) = true → i + 2 ≤ x.s.size := fun h => by have := isP_le h; have hb : (bs [82, 38]).size = 2 := rfl; omega
  have hI : ∀ {t : ByteArray}, Plain t → (isP x'.s i' t = true ↔ isP x.s i t = true) := fun ht => by rw [E.is hi h0 h1 ht]
  unfold conditionP
  refine ge_ite (hI (by decide)) (fun _ => ge_tok ha (by omega)) (fun _ => ?_)
  refine ge_ite (hI (by decide)) (fun _ => ge_tok ha (by omega)) (fun _ => ?_)
  refine ge_ite (hI (by decide)) (fun _ => ge_tok ha (by omega)) (fun _ => ?_)
  refine ge_ite (hI (by decide)) (fun _ => ge_tok ha (by omega)) (fun _ => ?_)
  unfold condRest
  refine ge_ite (by rw [hI (t := bs [60]) (by decide), hI (t := bs [39]) (by decide)]) (fun hc => ?_) (fun _ => ?_)
  · have hlt : i + 1 ≤ x.s.size := by rcases hc with h | h; exact l60 h; exact l39 h
    have hi1 : i' + 1 = i + 1 + d := by omega
    have hcl : condClose x'.s i' = condClose x.s i := by unfold condClose; rw [E.byte hi h0 (by omega)]
    rw [E.name hi1 (by omega) hlt, E.nameAt hi1 (by omega) hlt, hcl]
    have hok : (if nameOk (VC.nameAt x.s (i + 1)) = false then false else isP x'.s (nameTo x.s (i + 1) + d) (condClose x.s i)) = (if nameOk (VC.nameAt x.s (i + 1)) = false then false else isP x.s (nameTo x.s (i + 1)) (condClose x.s i)) := by
      rw [E.is (i := nameTo x.s (i + 1)) rfl (by omega) (by omega) (by unfold condClose; split <;> decide)]
    rw [hok]
    exact E.condFin ha (by omega) (by omega)
  refine ge_ite (hI (by decide)) (fun hc => ?_) (fun _ => ?_)
  · exact E.condFin ha (by omega) (by omega)
  refine ge_ite (hI (by decide)) (fun hc => ?_) (fun _ => ?_)
  · have hlt := l828 hc
    have hi2 : i' + 2 = i + 2 + d := by omega
    rw [E.name hi2 (by omega) hlt, E.nameAt hi2 (by omega) hlt]
    exact E.condFin ha (by omega) (by omega)
  refine ge_ite (hI (by decide)) (fun hc => ?_) (fun _ => ?_)
  · have hlt := l82 hc
    have hi1 : i' + 1 = i + 1 + d := by omega
    rw [E.num hi1 (by omega) hlt]
    simp only
    refine ge_ite Iff.rfl (fun _ => ge_bad (by decide)) (fun _ => ?_)
    refine ge_ite (by omega) (fun _ => ?_) (fun _ => ?_)
    · exact E.condFin ha rfl (by omega)
    · exact E.condFin ha rfl (by omega)
  rw [E.signed hi h0 h1]
  simp only
  refine ge_ite Iff.rfl (fun _ => ge_bad (by decide)) (fun _ => ?_)
  have hd : (decide ((signedP x.s i).2.2.1 + d > i')) = decide ((signedP x.s i).2.2.1 > i) := by
    rw [decide_eq_decide]; omega
  rw [hd]
  exact E.condFin ha rfl (by omega)
theorem Ext.openL (E : Ext x x' d suf) {a a' i i' : Int} {g g' : Got} (ha : a' = a + d) (hi : i' = i + d) (h0 : 0 ≤ i) (h1 : i < x.s.size) (hg : GE d g g') : ∀ l : List (ByteArray × Int), (∀ p ∈ l, Plain p.1 ∨ ∃ b, p.1 = bs [b]) → GE d (VC.openL x a i g l) (VC.openL x' a' i' g' l)
  | [], _ => hg
  | p :: l, h => by
    have hp := h p (List.mem_cons_self ..)
    have he : isP x'.s i' p.1 = isP x.s i p.1 := by
      rcases hp with hp | ⟨b, hp⟩
      · exact E.is hi h0 (by omega) hp
      · rw [hp]; exact E.is1 hi h0 h1
    unfold VC.openL
    refine ge_ite (by rw [he]) (fun _ => ge_tok ha (by omega)) (fun _ => ?_)
    exact E.openL ha hi h0 h1 hg l (fun q hq => h q (List.mem_cons_of_mem _ hq))
theorem Ext.openT (E : Ext x x' d suf) {a a' i i' : Int} (ha : a' = a + d) (hi : i' = i + d) (h0 : 0 ≤ i) (h1 : i < x.s.size) : GE d (openTail x a i) (openTail x' a' i') := by
  have hq := signedP_range x.s i (by omega)
  have hsz := E.size
  unfold openTail
  rw [E.byte hi h0 h1, E.signed hi h0 (by omega)]
  simp only
  refine ge_ite ?_ (fun _ => ?_) (fun _ => E.flags ha hi h0)
  · have h3 : (i' + 1 < x'.s.size ∧ digitP (byteAt x'.s (i' + 1)) = true) ↔ (i + 1 < x.s.size ∧ digitP (byteAt x.s (i + 1)) = true) := by
      by_cases c : i + 1 < x.s.size
      · rw [E.byte (i := i + 1) (i' := i' + 1) (by omega) (by omega) c]
        constructor
        · rintro ⟨_, h⟩; exact ⟨c, h⟩
        · rintro ⟨_, h⟩; exact ⟨by omega, h⟩
      · constructor
        · rintro ⟨h2, h3⟩
          exfalso
          obtain ⟨c, r, _, hb, hc⟩ := E.last (i' := i' + 1) (by omega) h2
          rw [hb] at h3
          rcases hc with rfl | rfl | rfl <;> exact absurd h3 (by decide)
        · rintro ⟨h2, _⟩; exact absurd h2 c
    rw [h3]
  refine ge_ite Iff.rfl (fun _ => ge_bad (by decide)) (fun _ => ?_)
  refine ge_iteB (fun _ => by split; exact endG_e x; unfold badG; simp) (fun h => by omega) (fun _ => ?_)
  have hsh := E.shut (t := { tokZ with kind := 12, n := (signedP x.s i).1, m := (signedP x.s i).2.1 }) (a := a) (a' := a') (i := (signedP x.s i).2.2.1) (s := bs [41]) (e := 26) ha rfl (by omega) (by decide)
  generalize shutP x { tokZ with kind := 12, n := (signedP x.s i).1, m := (signedP x.s i).2.1 } a (signedP x.s i).2.2.1 (bs [41]) 26 = g at *
  generalize shutP x' { tokZ with kind := 12, n := (signedP x.s i).1, m := (signedP x.s i).2.1 } a' ((signedP x.s i).2.2.1 + d) (bs [41]) 26 = g' at *
  by_cases c : g.e = 0
  · have c' := (hsh c).1
    refine ge_ite (by rw [c, c']) (fun _ => ge_bad (by decide)) (fun _ => hsh)
  · rw [if_neg (fun h => c h.1)]
    exact fun h => absurd h c
theorem Ext.openR (E : Ext x x' d suf) {a a' i i' : Int} (ha : a' = a + d) (hi : i' = i + d) (h0 : 0 ≤ i) (h1 : i < x.s.size) : GE d (openRest x a i) (openRest x' a' i') := by
  have hsz := E.size
  have hs := stopAt_range x.s 41 i (by omega)
  have hp := numP_range x.s (i + 1)
  have hI : ∀ {t : ByteArray}, Plain t → (isP x'.s i' t = true ↔ isP x.s i t = true) := fun ht => by rw [E.is hi h0 (by omega) ht]
  have hle : ∀ {t : ByteArray} {n : Nat}, t.size = n → isP x.s i t = true → i + n ≤ x.s.size := fun hn h => by have := isP_le h; omega
  unfold openRest
  refine ge_ite (hI (by decide)) (fun _ => ?_) (fun _ => ?_)
  · by_cases c : stopAt x.s 41 i = x.s.size
    · rw [if_pos c]; exact ge_end
    · have hst := E.stop (c := 41) hi h0 (by omega) (by omega)
      rw [hst, if_neg c, if_neg (by omega)]
      exact ge_skip (by omega)
  refine ge_ite (hI (by decide)) (fun h => E.called ha (by omega) (by omega) (hle (n := 2) rfl h)) (fun _ => ?_)
  refine ge_ite (hI (by decide)) (fun h => E.called ha (by omega) (by omega) (hle (n := 1) rfl h)) (fun _ => ?_)
  refine ge_ite (hI (by decide)) (fun h => E.called ha (by omega) (by omega) (hle (n := 1) rfl h)) (fun _ => ?_)
  refine ge_ite (hI (by decide)) (fun h => E.called ha (by omega) (by omega) (hle (n := 2) rfl h)) (fun _ => ?_)
  refine ge_ite (hI (by decide)) (fun h => E.called ha (by omega) (by omega) (hle (n := 2) rfl h)) (fun _ => ?_)
  refine ge_ite (hI (by decide)) (fun h => E.called ha (by omega) (by omega) (hle (n := 1) rfl h)) (fun _ => ?_)
  refine ge_ite (hI (by decide)) (fun h => E.shut ha (by omega) (by omega) (by decide)) (fun _ => ?_)
  refine ge_ite (hI (by decide)) (fun h => ?_) (fun _ => ?_)
  · rw [E.num (i := i + 1) (i' := i' + 1) (by omega) (by omega) (hle (n := 1) rfl h)]
    exact ge_ite Iff.rfl (fun _ => ge_bad (by decide)) (fun _ => E.shut ha rfl (by omega) (by decide))
  refine ge_ite (hI (by decide)) (fun h => E.cond ha (by omega) (by omega) (hle (n := 1) rfl h)) (fun _ => ?_)
  exact E.openT ha hi h0 h1
theorem Ext.opens (E : Ext x x' d suf) {a a' : Int} (ha : a' = a + d) (h0 : 0 ≤ a) (h1 : a < x.s.size) : GE d (openP x a) (openP x' a') := by
  have hsz := E.size
  have hI : ∀ {t : ByteArray}, Plain t → isP x'.s (a' + 1) t = isP x.s (a + 1) t := fun ht => E.is (by omega) (by omega) (by omega) ht
  have hle : ∀ {t : ByteArray} {n : Nat}, t.size = n → isP x.s (a + 1) t = true → a + 1 + n ≤ x.s.size := fun hn h => by have := isP_le h; omega
  unfold openP
  refine ge_ite (by rw [hI (by decide)]) (fun h => E.verb ha h0 (by have := hle (n := 1) rfl h; omega)) (fun _ => ?_)
  refine ge_ite (by rw [hI (by decide)]) (fun _ => ge_tok ha (by omega)) (fun h => ?_)
  have h63 := hle (n := 1) rfl (show isP x.s (a + 1) (bs [63]) = true by simpa using h)
  refine ge_iteB (fun _ => endG_e x) (fun h => by omega) (fun h => ?_)
  refine E.openL ha (by omega) (by omega) (by omega) (E.openR ha (by omega) (by omega) (by omega)) _ ?_
  intro p hp
  simp only [openList, List.mem_cons, List.not_mem_nil, or_false] at hp
  rcases hp with rfl | rfl | rfl | rfl | rfl | rfl | rfl
  · exact .inr ⟨_, rfl⟩
  · exact .inr ⟨_, rfl⟩
  · exact .inr ⟨_, rfl⟩
  · exact .inr ⟨_, rfl⟩
  · exact .inr ⟨_, rfl⟩
  · exact .inl (by decide)
  · exact .inl (by decide)
theorem Ext.quant (E : Ext x x' d suf) {i i' to to' n m : Int} (hi : i' = i + d) (ht : to' = to + d) (h0 : 0 ≤ to) (h1 : to ≤ x.s.size) : GE d (quantP x i to n m) (quantP x' i' to' n m) := by
  unfold quantP
  refine ge_ite (by rw [E.is ht h0 h1 (by decide)]) (fun _ => ge_tok hi (by omega)) (fun _ => ?_)
  refine ge_ite (by rw [E.is ht h0 h1 (by decide)]) (fun _ => ge_tok hi (by omega)) (fun _ => ge_tok hi ht)
theorem Ext.escL (E : Ext x x' d suf) {i i' to to' : Int} (hi : i' = i + d) (ht : to' = to + d) (h0 : 0 ≤ to) (h1 : to ≤ x.s.size) : ∀ l : List (ByteArray × ByteArray), (∀ p ∈ l, Plain p.1 ∧ Plain p.2) → GE d (VC.escL x i to l) (VC.escL x' i' to' l)
  | [], _ => ge_bad (by decide)
  | p :: l, h => by
    have hp := h p (List.mem_cons_self ..)
    have ih := E.escL hi ht h0 h1 l (fun q hq => h q (List.mem_cons_of_mem _ hq))
    have hr := nameTo_rng x.s (to + 1)
    unfold VC.escL
    refine ge_ite (by rw [E.is ht h0 h1 hp.1]) (fun hc => ?_) (fun _ => ih)
    have hle := isP_le hc
    have := hp.1.1
    have ht1 : to' + 1 = to + 1 + d := by omega
    rw [E.nameAt ht1 (by omega) (by omega), E.name ht1 (by omega) (by omega)]
    refine ge_ite Iff.rfl (fun _ => ?_) (fun _ => ih)
    refine ge_ite (by rw [E.is (i := nameTo x.s (to + 1)) rfl (by omega) (by omega) hp.2]) (fun _ => ge_tok hi (by omega)) (fun _ => ih)
/-- Sets that are told, but for an error. -/
def ME (d : Int) (m m' : Many) : Prop := m.e = 0 → m' = { m with to := m.to + d }
theorem Ext.braced (E : Ext x x' d suf) {i i' : Int} (hi : i' = i + d) (h0 : 0 ≤ i) (h : 0 ≤ (bracedP x i).2) : bracedP x' i' = ((bracedP x i).1, (bracedP x i).2 + d) := by
  have hsz := E.size
  unfold bracedP at h ⊢
  by_cases c1 : i ≥ x.s.size
  · rw [if_pos c1] at h; exact absurd h (by decide)
  rw [if_neg c1] at h ⊢
  have hg := charP_gt x i h0 (by omega)
  have hrg := charP_rng x i (by omega)
  have hst := stopAt_range x.s 125 (i + 1) (by omega)
  rw [if_neg (by omega), E.byte hi h0 (by omega)]
  by_cases c2 : byteAt x.s i ≠ 123
  · rw [if_pos c2, if_pos c2, E.char hi h0 (by omega)]
    simp only
    rw [E.ex hi rfl h0 (by omega) hrg.2]
  rw [if_neg c2] at h ⊢
  rw [if_neg c2]
  by_cases c3 : stopAt x.s 125 (i + 1) < x.s.size
  · have hs := E.stop (c := 125) (i := i + 1) (i' := i' + 1) (by omega) (by omega) (by omega) c3
    rw [if_pos c3, hs, if_pos (by omega), E.ex (i := i + 1) (i' := i' + 1) (j := stopAt x.s 125 (i + 1)) (by omega) rfl (by omega) (by omega) (by omega)]
    simp only
    congr 1
    omega
  · rw [if_neg c3] at h; exact absurd h (by decide)
theorem manyQ_ext (hm : x'.most = x.most) {i i' to to' : Int} {neg : Bool} {s : ByteArray} (ht : to' = to + d) : ME d (manyQ x i to neg s) (manyQ x' i' to' neg s) := by
  intro h
  unfold manyQ at h ⊢
  by_cases c : (propP s).2 = false
  · rw [if_pos c] at h; exact absurd h (show ¬ (24 : Int) = 0 by decide)
  · rw [if_neg c, if_neg c, hm, ht]
theorem Ext.manyB (E : Ext x x' d suf) {neg : Bool} {i i' : Int} (hi : i' = i + d) (h0 : 0 ≤ i) : ME d (VC.manyB x neg i (bracedP x i).2 (bracedP x i).1) (VC.manyB x' neg i' (bracedP x' i').2 (bracedP x' i').1) := by
  have hd := E.d0
  intro h
  by_cases c : (bracedP x i).2 < 0
  · unfold VC.manyB at h
    rw [if_pos c] at h
    exact absurd h (show ¬ (24 : Int) = 0 by decide)
  · rw [E.braced hi h0 (by omega)]
    simp only
    unfold VC.manyB at h ⊢
    rw [if_neg c] at h ⊢
    rw [if_neg (by omega)]
    split
    · split
      · rename_i h1 h2
        rw [if_pos h1, if_pos h2] at h
        exact manyQ_ext E.mo rfl h
      · rename_i h1 h2
        rw [if_pos h1, if_neg h2] at h
        exact manyQ_ext E.mo rfl h
    · rename_i h1
      rw [if_neg h1] at h
      exact manyQ_ext E.mo rfl h
theorem Ext.many (E : Ext x x' d suf) {c i i' : Int} (hi : i' = i + d) (h0 : 0 ≤ i) : ME d (manyP x c i) (manyP x' c i') := by
  unfold manyP
  rw [E.mo]
  by_cases c1 : c = 112
  · rw [if_pos c1, if_pos c1]; exact E.manyB hi h0
  rw [if_neg c1, if_neg c1]
  by_cases c2 : c = 80
  · rw [if_pos c2, if_pos c2]; exact E.manyB hi h0
  rw [if_neg c2, if_neg c2, hi]
  by_cases c3 : 65 ≤ c
  · rw [if_pos c3, if_pos c3]
    by_cases c4 : c ≤ 90
    · rw [if_pos c4, if_pos c4]; exact fun _ => rfl
    · rw [if_neg c4, if_neg c4]; exact fun _ => rfl
  · rw [if_neg c3, if_neg c3]; exact fun _ => rfl
theorem Ext.escape (E : Ext x x' d suf) {i i' : Int} (hi : i' = i + d) (h0 : 0 ≤ i) (h1 : i < x.s.size) : GE d (escapeP x i) (escapeP x' i') := by
  have hsz := E.size
  unfold escapeP
  refine ge_iteB (fun _ => endG_e x) (fun h => by omega) (fun hne => ?_)
  have hg := charP_gt x (i + 1) (by omega) (by omega)
  have hr := charP_rng x (i + 1) (by omega)
  rw [E.char (i := i + 1) (i' := i' + 1) (by omega) (by omega) (by omega)]
  simp only
  generalize (charP x (i + 1)).1 = c at *
  generalize (charP x (i + 1)).2 = to at *
  have hn := numP_range x.s (i + 1)
  have hm := E.many (c := c) (i := to) (i' := to + d) rfl (by omega)
  have hT : GE d (escT x i to c (manyP x c to)) (escT x' i' (to + d) c (manyP x' c (to + d))) := by
    generalize manyP x c to = m at *
    generalize manyP x' c (to + d) = m' at *
    by_cases he : m.e = 0
    · have hm := hm he
      subst hm
      unfold escT
      simp only
      refine ge_ite Iff.rfl (fun h => ge_bad h) (fun _ => ?_)
      refine ge_ite Iff.rfl (fun _ => ge_tok hi rfl) (fun _ => ?_)
      refine ge_ite Iff.rfl (fun _ => ge_bad (by decide)) (fun _ => ?_)
      refine ge_ite Iff.rfl (fun _ => ?_) (fun _ => ge_tok hi rfl)
      exact ge_ite Iff.rfl (fun _ => ge_bad (by decide)) (fun _ => ge_tok hi rfl)
    · unfold escT
      rw [if_pos he]
      exact ge_bad he
  have hR : GE d (escR x i to c) (escR x' i' (to + d) c) := by
    unfold escR
    refine ge_ite Iff.rfl (fun _ => E.refer hi rfl (by omega) (by omega)) (fun _ => ?_)
    refine ge_ite Iff.rfl (fun _ => E.escL hi rfl (by omega) (by omega) _ ?_) (fun _ => hT)
    intro p hp
    simp only [List.mem_cons, List.not_mem_nil, or_false] at hp
    rcases hp with rfl | rfl | rfl <;> exact ⟨by decide, by decide⟩
  unfold escQ
  rw [E.hexa (i := to) (i' := to + d) rfl (by omega) (by omega)]
  simp only
  refine ge_ite Iff.rfl (fun _ => ge_tok hi rfl) (fun _ => ?_)
  refine ge_ite Iff.rfl (fun _ => ?_) (fun _ => ?_)
  · exact ge_ite Iff.rfl (fun _ => ge_bad (by decide)) (fun _ => ge_tok hi rfl)
  refine ge_ite Iff.rfl (fun _ => ge_tok hi rfl) (fun _ => ?_)
  refine ge_ite Iff.rfl (fun _ => ge_tok hi rfl) (fun _ => ?_)
  refine ge_ite Iff.rfl (fun _ => ge_tok hi rfl) (fun _ => ?_)
  refine ge_ite Iff.rfl (fun _ => ge_tok hi rfl) (fun _ => ?_)
  refine ge_ite Iff.rfl (fun _ => ge_skip rfl) (fun _ => ?_)
  unfold escD
  rw [E.num (i := i + 1) (i' := i' + 1) (by omega) (by omega) (by omega)]
  simp only
  refine ge_ite Iff.rfl (fun _ => ?_) (fun _ => hR)
  refine ge_ite Iff.rfl (fun _ => ?_) (fun _ => hR)
  exact ge_ite Iff.rfl (fun _ => ge_bad (by decide)) (fun _ => ge_tok hi rfl)
/-- An item of a class, but for an error. -/
def IE (d : Int) (m m' : Item) : Prop := m.e = 0 → m' = { m with to := m.to + d }
theorem ie_bad {l : List (Int × Int)} {s : Bool} {i e a : Int} {m' : Item} (he : e ≠ 0) : IE d ⟨l, s, i, e, a⟩ m' := fun h => absurd h he
theorem ie_ok {l : List (Int × Int)} {s : Bool} {i i' e a : Int} (hi : i' = i + d) : IE d ⟨l, s, i, e, a⟩ ⟨l, s, i', e, a⟩ := fun _ => by rw [hi]
theorem ie_ite {c c' : Prop} [Decidable c] [Decidable c'] {a b a' b' : Item} (hc : c' ↔ c) (h1 : c → IE d a a') (h2 : ¬ c → IE d b b') : IE d (if c then a else b) (if c' then a' else b') := by
  by_cases h : c
  · rw [if_pos h, if_pos (hc.2 h)]; exact h1 h
  · rw [if_neg h, if_neg (fun q => h (hc.1 q))]; exact h2 h
theorem Ext.itemM (E : Ext x x' d suf) {i i' c to to' : Int} {m m' : Many} (hm : ME d m m') (ht : to' = to + d) : IE d (VC.itemM x i c to m) (VC.itemM x' i' c to' m') := by
  by_cases he : m.e = 0
  · have hm := hm he
    subst hm
    unfold VC.itemM
    simp only
    rw [E.mo]
    refine ie_ite Iff.rfl (fun h => ie_bad h) (fun _ => ?_)
    refine ie_ite Iff.rfl (fun _ => ?_) (fun _ => ?_)
    · exact ie_ite Iff.rfl (fun _ => ie_ok rfl) (fun _ => ie_ok rfl)
    refine ie_ite Iff.rfl (fun _ => ?_) (fun _ => ie_ok ht)
    refine ie_ite Iff.rfl (fun _ => ie_bad (by decide)) (fun _ => ?_)
    exact ie_ite Iff.rfl (fun _ => ie_bad (by decide)) (fun _ => ie_ok ht)
  · unfold VC.itemM
    rw [if_pos he]
    exact ie_bad he
theorem Ext.itemQ (E : Ext x x' d suf) {i i' : Int} (hi : i' = i + d) (h0 : 0 ≤ i) (h1 : i < x.s.size) : IE d (VC.itemQ x i) (VC.itemQ x' i') := by
  have hsz := E.size
  have hg := charP_gt x i h0 h1
  have hr := charP_rng x i (by omega)
  unfold VC.itemQ
  rw [E.char hi h0 h1]
  simp only
  refine ie_ite Iff.rfl (fun _ => ie_ok rfl) (fun _ => ?_)
  by_cases c : (charP x i).2 = x.s.size
  · rw [if_pos c]; exact ie_bad (by decide)
  rw [if_neg c, if_neg (by omega), E.char (i := (charP x i).2) rfl (by omega) (by omega)]
  have hg2 := charP_gt x (charP x i).2 (by omega) (by omega)
  have hr2 := charP_rng x (charP x i).2 (by omega)
  simp only
  generalize (charP x (charP x i).2).1 = c at *
  generalize (charP x (charP x i).2).2 = to at *
  unfold itemS
  rw [E.hexa (i := to) (i' := to + d) rfl (by omega) (by omega)]
  simp only
  refine ie_ite Iff.rfl (fun _ => ?_) (fun _ => ?_)
  · exact ie_ite Iff.rfl (fun _ => ie_bad (by decide)) (fun _ => ie_ok rfl)
  refine ie_ite Iff.rfl (fun _ => ie_ok rfl) (fun _ => ?_)
  refine ie_ite Iff.rfl (fun _ => ie_ok rfl) (fun _ => ?_)
  exact E.itemM (E.many rfl (by omega)) rfl
theorem Ext.itemK (E : Ext x x' d suf) {i i' k k' : Int} {neg : Bool} (hi : i' = i + d) (h0 : 0 ≤ i) (h1 : i < x.s.size) (hk : k' = k + d) (k0 : 0 ≤ k) (k1 : k ≤ x.s.size) : IE d (VC.itemK x i k neg) (VC.itemK x' i' k' neg) := by
  have hr := letTo_range x.s k k1
  unfold VC.itemK
  rw [E.letters hk k0 k1, E.mo]
  refine ie_ite (by rw [E.is (i := letTo x.s k) rfl (by omega) (by omega) (by decide)]) (fun _ => ?_) (fun _ => E.itemQ hi h0 h1)
  rw [E.ex (j := letTo x.s k) hk rfl k0 k1 (by omega)]
  refine ie_ite Iff.rfl (fun _ => ie_bad (by decide)) (fun _ => ?_)
  exact ie_ite Iff.rfl (fun _ => ie_ok (by omega)) (fun _ => ie_ok (by omega))
theorem Ext.item (E : Ext x x' d suf) {i i' : Int} (hi : i' = i + d) (h0 : 0 ≤ i) (h1 : i < x.s.size) : IE d (itemP x i) (itemP x' i') := by
  unfold itemP
  refine ie_ite (by rw [E.is hi h0 (by omega) (by decide)]) (fun hc => ?_) (fun _ => E.itemQ hi h0 h1)
  have hle := isP_le hc
  have hb : (bs [91, 58]).size = 2 := rfl
  refine ie_ite (by rw [E.is (i := i + 2) (i' := i' + 2) (by omega) (by omega) (by omega) (by decide)]) (fun hc2 => ?_) (fun _ => ?_)
  · have hle2 := isP_le hc2
    have hb2 : (bs [94]).size = 1 := rfl
    exact E.itemK hi h0 h1 (by omega) (by omega) (by omega)
  · exact E.itemK hi h0 h1 (by omega) (by omega) (by omega)
end
end Go.Proofs.Ytnoohgiecnmajaa.VC

/- A text within another one: classes, tokens, all tokens (plain). -/
namespace Go.Proofs.Ytnoohgiecnmajaa.VC
open Go Go.RowKit
set_option linter.unusedVariables false
set_option linter.unusedSimpArgs false
set_option maxHeartbeats 4000000

section
variable {x x' : Text} {d : Int} {suf : List Int}
theorem class_dash {x : Text} {a first : Int} {neg : Bool} {i : Int} (h0 : 0 ≤ i) (h1 : i + 1 = x.s.size) (hb : isP x.s i (bs [45]) = true) : ∀ (k : Nat) (A : List (Int × Int)), (classL x a first neg k i A).e ≠ 0
  | 0, A => endG_e x
  | k + 1, A => by
    obtain ⟨r, hr⟩ := is_byte h0 hb
    have hr : (numsOf x.s).drop i.toNat = 45 :: r := hr
    obtain ⟨b1, b2, b3⟩ := byte_drop h0 hr
    have hit : itemP x i = ⟨[(45, 45)], true, i + 1, 0, 0⟩ := by
      have h9 : isP x.s i (bs [91, 58]) = false := by rw [isP_pre _ _ _ h0 (by decide), hr]; rfl
      unfold itemP
      rw [h9, if_neg (by decide)]
      unfold itemQ
      rw [charP_ascii h0 hr (by decide), if_pos (show (45 : Int) ≠ 92 by decide)]
    have h45 : isP x.s (i + 1) (bs [45]) = false := by
      by_cases c : isP x.s (i + 1) (bs [45]) = true
      · have := isP_le c
        have hz : (bs [45]).size = 1 := rfl
        omega
      · simpa using c
    unfold classL
    rw [if_neg (by omega), b1, if_neg (by decide), hit]
    unfold classI
    rw [if_neg (by simp), if_pos rfl, if_neg (by simp only; rw [h45]; simp)]
    cases k with
    | zero => exact endG_e x
    | succ k =>
      unfold classL
      rw [if_pos (by simp only; omega)]
      exact endG_e x
theorem Ext.classL (E : Ext x x' d suf) (hx : x.s.size ≤ 1000) {a a' first first' : Int} {neg : Bool} (ha : a' = a + d) (hf : first' = first + d) : ∀ (k k' : Nat) (i i' : Int) (A : List (Int × Int)), i' = i + d → 0 ≤ i → k ≤ k' → GE d (VC.classL x a first neg k i A) (VC.classL x' a' first' neg k' i' A)
  | 0, k', i, i', A, hi, h0, hk => ge_end
  | k + 1, k', i, i', A, hi, h0, hk => by
    have hsz := E.size
    obtain ⟨k', rfl⟩ : ∃ m, k' = m + 1 := ⟨k' - 1, by omega⟩
    unfold VC.classL
    refine ge_iteB (fun _ => endG_e x) (fun h => by omega) (fun hl => ?_)
    have h1 : i < x.s.size := by omega
    have hin : GE d (classI x i (VC.classL x a first neg k) A (itemP x i)) (classI x' i' (VC.classL x' a' first' neg k') A (itemP x' i')) := by
      have hI := itemP_ok x i h0 h1
      have hE := E.item hi h0 h1
      generalize itemP x i = m at *
      generalize itemP x' i' = m' at *
      by_cases he : m.e = 0
      · have hE := hE he
        subst hE
        have hg := hI.go he
        unfold classI
        simp only
        have hnext : GE d (VC.classL x a first neg k m.to (A ++ m.l)) (VC.classL x' a' first' neg k' (m.to + d) (A ++ m.l)) := E.classL hx ha hf k k' _ _ _ rfl (by omega) (by omega)
        refine ge_ite Iff.rfl (fun h => ge_bad h) (fun _ => ?_)
        refine ge_ite Iff.rfl (fun _ => ?_) (fun _ => hnext)
        refine ge_ite (by rw [E.is (i := m.to) rfl (by omega) hg.2.1 (by decide)]) (fun h45 => ?_) (fun _ => hnext)
        by_cases hlt : m.to + 1 < x.s.size
        · rw [if_pos hlt, if_pos (show m.to + d + 1 < x'.s.size by omega), E.byte (i := m.to + 1) (by omega) (by omega) hlt]
          refine ge_ite Iff.rfl (fun _ => ?_) (fun _ => hnext)
          have hE2 := E.item (i := m.to + 1) (i' := m.to + d + 1) (by omega) (by omega) hlt
          have hI2 := itemP_ok x (m.to + 1) (by omega) hlt
          generalize itemP x (m.to + 1) = n at *
          generalize itemP x' (m.to + d + 1) = n' at *
          by_cases hne : n.e = 0
          · have hE2 := hE2 hne
            subst hE2
            have hg2 := hI2.go hne
            unfold classR
            simp only
            refine ge_ite Iff.rfl (fun h => ge_bad h) (fun _ => ?_)
            refine ge_ite Iff.rfl (fun _ => ge_bad (by decide)) (fun _ => ?_)
            refine ge_ite Iff.rfl (fun _ => ge_bad (by decide)) (fun _ => ?_)
            exact E.classL hx ha hf k k' _ _ _ rfl (by omega) (by omega)
          · unfold classR
            rw [if_pos hne]
            exact ge_bad hne
        · rw [if_neg hlt]
          have hle := isP_le h45
          have hz : (bs [45]).size = 1 := rfl
          exact fun h => absurd h (class_dash (by omega) (by omega) h45 k _)
      · unfold classI
        rw [if_pos he]
        exact ge_bad he
    rw [E.byte hi h0 h1, E.mo]
    refine ge_ite Iff.rfl (fun _ => ?_) (fun _ => hin)
    exact ge_ite (by omega) (fun _ => ge_tok ha (by omega)) (fun _ => hin)
theorem Ext.classes (E : Ext x x' d suf) (hx : x.s.size ≤ 1000) {a a' : Int} (ha : a' = a + d) (h0 : 0 ≤ a) (h1 : a < x.s.size) : GE d (classP x a) (classP x' a') := by
  have hsz := E.size
  have hd := E.d0
  have he : isP x'.s (a' + 1) (bs [94]) = isP x.s (a + 1) (bs [94]) := E.is (by omega) (by omega) (by omega) (by decide)
  unfold classP classF
  rw [he]
  by_cases c : isP x.s (a + 1) (bs [94]) = true
  · rw [if_pos c, if_pos c]
    exact E.classL hx ha (by omega) _ _ _ _ _ (by omega) (by omega) (by omega)
  · rw [if_neg c, if_neg c]
    exact E.classL hx ha (by omega) _ _ _ _ _ (by omega) (by omega) (by omega)
theorem Ext.brK (E : Ext x x' d suf) {i i' c to to' n a a' m b b' : Int} {great : Bool} (hi : i' = i + d) (ht : to' = to + d) (ha : a' = a + d) (hb : b' = b + d) (h0 : 0 ≤ b) (h1 : b ≤ x.s.size) : GE d (VC.brK x i c to n a m b great) (VC.brK x' i' c to' n a' m b' great) := by
  have hl : GE d (litG i c to) (litG i' c to') := ge_tok hi ht
  unfold VC.brK
  refine ge_ite (by omega) (fun _ => hl) (fun _ => ?_)
  refine ge_ite (by rw [E.is hb h0 h1 (by decide)]) (fun h => ?_) (fun _ => hl)
  have hle := isP_le h
  have hz : (bs [125]).size = 1 := rfl
  refine ge_ite Iff.rfl (fun _ => ge_bad (by decide)) (fun _ => ?_)
  refine ge_ite Iff.rfl (fun _ => ?_) (fun _ => E.quant hi (by omega) (by omega) (by omega))
  exact ge_ite Iff.rfl (fun _ => ge_bad (by decide)) (fun _ => E.quant hi (by omega) (by omega) (by omega))
theorem Ext.brace (E : Ext x x' d suf) {i i' c to to' : Int} (hi : i' = i + d) (ht : to' = to + d) (h0 : 0 ≤ i) (h1 : i < x.s.size) : GE d (brP x i c to (numP x.s (i + 1))) (brP x' i' c to' (numP x'.s (i' + 1))) := by
  have hn := numP_range x.s (i + 1)
  rw [E.num (i := i + 1) (i' := i' + 1) (by omega) (by omega) (by omega)]
  generalize numP x.s (i + 1) = p at *
  obtain ⟨n, b, g⟩ := p
  simp only at *
  unfold brP
  simp only
  refine ge_ite (by omega) (fun hgt => ?_) (fun _ => E.brK hi ht rfl rfl (by omega) (by omega))
  refine ge_ite (by rw [E.is (i := b) rfl (by omega) (by omega) (by decide)]) (fun h => ?_) (fun _ => E.brK hi ht rfl rfl (by omega) (by omega))
  have hle := isP_le h
  have hz : (bs [44]).size = 1 := rfl
  have hk := numP_range x.s (b + 1)
  rw [E.num (i := b + 1) (i' := b + d + 1) (by omega) (by omega) (by omega)]
  unfold brM
  simp only
  refine ge_ite Iff.rfl (fun _ => ?_) (fun _ => ?_)
  · exact ge_ite (by omega) (fun _ => E.brK hi ht rfl rfl (by omega) (by omega)) (fun _ => E.brK hi ht rfl rfl (by omega) (by omega))
  · exact ge_ite (by omega) (fun _ => E.brK hi ht rfl rfl (by omega) (by omega)) (fun _ => E.brK hi ht rfl rfl (by omega) (by omega))
theorem Ext.tokC (E : Ext x x' d suf) (hx : x.s.size ≤ 1000) {i i' c to to' : Int} (hi : i' = i + d) (ht : to' = to + d) (h0 : 0 ≤ i) (h1 : i < x.s.size) (h2 : 0 ≤ to) (h3 : to ≤ x.s.size) : GE d (VC.tokC x i c to) (VC.tokC x' i' c to') := by
  unfold VC.tokC
  refine ge_ite Iff.rfl (fun _ => E.escape hi h0 h1) (fun _ => ?_)
  refine ge_ite Iff.rfl (fun _ => E.classes hx hi h0 h1) (fun _ => ?_)
  refine ge_ite Iff.rfl (fun _ => E.opens hi h0 h1) (fun _ => ?_)
  refine ge_ite Iff.rfl (fun _ => ge_tok hi ht) (fun _ => ?_)
  refine ge_ite Iff.rfl (fun _ => ge_tok hi ht) (fun _ => ?_)
  refine ge_ite Iff.rfl (fun _ => ge_tok hi ht) (fun _ => ?_)
  refine ge_ite Iff.rfl (fun _ => ge_tok hi ht) (fun _ => ?_)
  refine ge_ite Iff.rfl (fun _ => ge_tok hi ht) (fun _ => ?_)
  refine ge_ite Iff.rfl (fun _ => E.quant hi ht h2 h3) (fun _ => ?_)
  refine ge_ite Iff.rfl (fun _ => E.quant hi ht h2 h3) (fun _ => ?_)
  refine ge_ite Iff.rfl (fun _ => E.quant hi ht h2 h3) (fun _ => ?_)
  exact ge_ite Iff.rfl (fun _ => E.brace hi ht h0 h1) (fun _ => ge_tok hi ht)
/-- A comment to the line's end. -/
theorem Ext.line (E : Ext x x' d suf) (hc : ∀ c r, suf = c :: r → c = 10) {i i' : Int} (hi : i' = i + d) (h0 : 1 ≤ i) (h1 : i ≤ x.s.size) : lineTo x'.s i' = lineTo x.s i + d ∨ (lineTo x.s i = x.s.size ∧ lineTo x'.s i' = x.s.size + d + 1 ∧ ∃ r, suf = 10 :: r) := by
  have hsz := E.size
  have hend : ∀ (k k' : Nat) (i i' : Int), i' = i + d → 1 ≤ i → i = x.s.size → (x'.s.size - i').toNat ≤ k' → lineL x'.s k' i' = lineL x.s k i + d ∨ (lineL x.s k i = x.s.size ∧ lineL x'.s k' i' = x.s.size + d + 1 ∧ ∃ r, suf = 10 :: r) := by
    intro k k' i i' hi h0 hl hk'
    have h1 : lineL x.s k i = i := by
      cases k with
      | zero => rfl
      | succ k => rw [lineL, if_neg (by omega)]
    rw [h1]
    cases k' with
    | zero => left; rw [lineL, hi]
    | succ k' =>
      rw [lineL]
      by_cases c : i' < x'.s.size ∧ byteAt x'.s (i' - 1) ≠ 10
      · rw [if_pos c]
        right
        obtain ⟨c0, r, hs, hb, _⟩ := E.last (i' := i') (by omega) c.1
        have hc10 := hc c0 r hs
        subst hc10
        refine ⟨hl, ?_, r, hs⟩
        have : lineL x'.s k' (i' + 1) = i' + 1 := by
          cases k' with
          | zero => rfl
          | succ k' => rw [lineL, if_neg (by rw [show i' + 1 - 1 = i' by omega, hb]; simp)]
        rw [this]
        omega
      · rw [if_neg c]; left; exact hi
  have key : ∀ (k k' : Nat) (i i' : Int), i' = i + d → 1 ≤ i → i ≤ x.s.size → (x.s.size - i).toNat ≤ k → (x'.s.size - i').toNat ≤ k' → lineL x'.s k' i' = lineL x.s k i + d ∨ (lineL x.s k i = x.s.size ∧ lineL x'.s k' i' = x.s.size + d + 1 ∧ ∃ r, suf = 10 :: r) := by
    intro k
    induction k with
    | zero => intro k' i i' hi h0 h1 hk hk'; exact hend _ _ _ _ hi h0 (by omega) hk'
    | succ k ih =>
      intro k' i i' hi h0 h1 hk hk'
      by_cases hl : i < x.s.size
      · obtain ⟨k', rfl⟩ : ∃ m, k' = m + 1 := ⟨k' - 1, by omega⟩
        rw [lineL, lineL, E.byte (i := i - 1) (i' := i' - 1) (by omega) (by omega) (by omega)]
        by_cases hgd : byteAt x.s (i - 1) ≠ 10
        · rw [if_pos ⟨by omega, hgd⟩, if_pos ⟨hl, hgd⟩]
          exact ih k' (i + 1) (i' + 1) (by omega) (by omega) (by omega) (by omega) (by omega)
        · rw [if_neg (fun h => hgd h.2), if_neg (fun h => hgd h.2)]
          exact .inl hi
      · exact hend _ _ _ _ hi h0 (by omega) hk'
  exact key _ _ _ _ hi h0 h1 (Nat.le_refl _) (Nat.le_refl _)
theorem Ext.token (E : Ext x x' d suf) (hx : x.s.size ≤ 1000) (hc : x.x = true → ∀ c r, suf = c :: r → c = 10) {i i' : Int} (hi : i' = i + d) (h0 : 0 ≤ i) (h1 : i < x.s.size) :
    GE d (tokenP x i) (tokenP x' i') ∨ (x.x = true ∧ tokenP x i = skipG x.s.size ∧ tokenP x' i' = skipG (x.s.size + d + 1) ∧ ∃ r, suf = 10 :: r) := by
  have hg := charP_gt x i h0 h1
  have hr := charP_rng x i (by omega)
  have hC := E.tokC hx (c := (charP x i).1) (to := (charP x i).2) hi rfl h0 h1 (by omega) hr.2
  unfold tokenP
  rw [E.char hi h0 h1, E.xx]
  simp only
  generalize (charP x i).1 = c at *
  generalize (charP x i).2 = to at *
  by_cases hxx : x.x = true
  · rw [if_pos hxx, if_pos hxx]
    have hX : GE d (tokX x i c to) (tokX x' i' c (to + d)) ∨ (tokX x i c to = skipG x.s.size ∧ tokX x' i' c (to + d) = skipG (x.s.size + d + 1) ∧ ∃ r, suf = 10 :: r) := by
      unfold tokX
      by_cases c1 : c = 32
      · rw [if_pos c1, if_pos c1]; exact .inl (ge_skip rfl)
      rw [if_neg c1, if_neg c1]
      by_cases c2 : c = 35
      · rw [if_pos c2, if_pos c2]
        rcases E.line (hc hxx) (i := to) rfl (by omega) hr.2 with h | ⟨h2, h3, h4⟩
        · rw [h]; exact .inl (ge_skip rfl)
        · rw [h2, h3]; exact .inr ⟨rfl, rfl, h4⟩
      · rw [if_neg c2, if_neg c2]; exact .inl hC
    by_cases c1 : c ≥ 9
    · rw [if_pos c1, if_pos c1]
      by_cases c2 : c ≤ 13
      · rw [if_pos c2, if_pos c2]; exact .inl (ge_skip rfl)
      · rw [if_neg c2, if_neg c2]
        rcases hX with h | h
        · exact .inl h
        · exact .inr ⟨hxx, h⟩
    · rw [if_neg c1, if_neg c1]
      rcases hX with h | h
      · exact .inl h
      · exact .inr ⟨hxx, h⟩
  · rw [if_neg hxx, if_neg hxx]; exact .inl hC
/-- All tokens of a text are found within another one, so much further on. -/
theorem Ext.lexGo (E : Ext x x' d suf) (hm : x.most ≤ 1114111) (hx : x.s.size ≤ 1000) (hc : x.x = true → ∀ c r, suf = c :: r → c = 10) : ∀ (k : Nat) (i i' : Int) (q : Bool) (A B : List Tok) (K : Nat), i' = i + d → 0 ≤ i → i ≤ x.s.size → (x.s.size - i).toNat < k → (x'.s.size - i').toNat < K → (VC.lexGo x k i q A).e = 0 →
    ∃ (q' : Bool) (K' : Nat) (j' : Int) (rest : List Tok), (VC.lexGo x k i q A).toks = A ++ rest ∧ VC.lexGo x' K i' q B = VC.lexGo x' K' j' q' (B ++ rest.map (shT d)) ∧ (x'.s.size - j').toNat < K' ∧
      (j' = x.s.size + d ∨ (x.x = true ∧ q' = false ∧ j' = x.s.size + d + 1 ∧ ∃ r, suf = 10 :: r)) ∧ ((∀ j : Int, 0 ≤ j → isP x.s j (bs [92, 81]) = false) → q = false → q' = false)
  | 0, i, i', q, A, B, K, hi, h0, h1, hk, hK, he => by omega
  | k + 1, i, i', q, A, B, K, hi, h0, h1, hk, hK, he => by
    have hsz := E.size
    by_cases hl : i < x.s.size
    · obtain ⟨K, rfl⟩ : ∃ m, K = m + 1 := ⟨K - 1, by omega⟩
      have hg := charP_gt x i h0 hl
      have hr := charP_rng x i (by omega)
      rw [VC.lexGo, if_pos hl] at he
      rw [VC.lexGo, if_pos hl, VC.lexGo, if_pos (show i' < x'.s.size by omega)]
      by_cases hq : q = true
      · rw [if_pos hq] at he
        rw [if_pos hq, if_pos hq, E.is hi h0 h1 (by decide)]
        by_cases hE : isP x.s i (bs [92, 69]) = true
        · rw [if_pos hE] at he
          rw [if_pos hE, if_pos hE]
          have hle := isP_le hE
          have hz : (bs [92, 69]).size = 2 := rfl
          obtain ⟨q', K', j', rest, r1, r2, r3, r4, r5⟩ := E.lexGo hm hx hc k (i + 2) (i' + 2) false A B K (by omega) (by omega) (by omega) (by omega) (by omega) he
          exact ⟨q', K', j', rest, r1, r2, r3, r4, fun h _ => r5 h rfl⟩
        · rw [if_neg hE] at he
          rw [if_neg hE, if_neg hE, E.char hi h0 hl]
          simp only
          obtain ⟨q', K', j', rest, r1, r2, r3, r4, r5⟩ := E.lexGo hm hx hc k (charP x i).2 ((charP x i).2 + d) q _ (B ++ [litT i' ((charP x i).2 + d) (charP x i).1]) K rfl (by omega) hr.2 (by omega) (by omega) he
          refine ⟨q', K', j', litT i (charP x i).2 (charP x i).1 :: rest, ?_, ?_, r3, r4, r5⟩
          · rw [r1]; simp
          · rw [r2]
            have : litT i' ((charP x i).2 + d) (charP x i).1 = shT d (litT i (charP x i).2 (charP x i).1) := by rw [hi]; rfl
            rw [this]
            simp
      rw [if_neg hq] at he
      rw [if_neg hq, if_neg hq, E.is hi h0 h1 (by decide)]
      by_cases hQ : isP x.s i (bs [92, 81]) = true
      · rw [if_pos hQ] at he
        rw [if_pos hQ, if_pos hQ]
        have hle := isP_le hQ
        have hz : (bs [92, 81]).size = 2 := rfl
        obtain ⟨q', K', j', rest, r1, r2, r3, r4, r5⟩ := E.lexGo hm hx hc k (i + 2) (i' + 2) true A B K (by omega) (by omega) (by omega) (by omega) (by omega) he
        exact ⟨q', K', j', rest, r1, r2, r3, r4, fun h _ => by rw [h i h0] at hQ; cases hQ⟩
      rw [if_neg hQ] at he
      rw [if_neg hQ, if_neg hQ]
      by_cases hte : (tokenP x i).e ≠ 0
      · rw [if_pos hte] at he
        exact absurd he hte
      rw [if_neg hte] at he
      rw [if_neg hte]
      have hte : (tokenP x i).e = 0 := by simpa using hte
      have hok := gotOk_token hm hx h0 hl hte
      rcases E.token hx hc hi h0 hl with hge | ⟨x1, x2, x3, x4⟩
      · obtain ⟨g1, g2, g3, g4⟩ := hge hte
        rw [if_neg (show ¬ (tokenP x' i').e ≠ 0 by rw [g1]; simp), g2]
        by_cases hs : (tokenP x i).some = true
        · rw [if_pos hs] at he
          rw [if_pos hs, if_pos hs, g3, g4 hs]
          obtain ⟨q', K', j', rest, r1, r2, r3, r4, r5⟩ := E.lexGo hm hx hc k (tokenP x i).to ((tokenP x i).to + d) q _ (B ++ [shT d (tokenP x i).t]) K rfl (by omega) hok.2.1 (by omega) (by omega) he
          refine ⟨q', K', j', (tokenP x i).t :: rest, ?_, ?_, r3, r4, r5⟩
          · rw [r1]; simp
          · rw [r2]; simp
        · rw [if_neg hs] at he
          rw [if_neg hs, if_neg hs, g3]
          exact E.lexGo hm hx hc k (tokenP x i).to ((tokenP x i).to + d) q _ B K rfl (by omega) hok.2.1 (by omega) (by omega) he
      · rw [x3, x2, if_neg (by unfold skipG; simp), if_neg (by unfold skipG; simp), if_neg (by unfold skipG; simp)]
        obtain ⟨r, hs⟩ := x4
        have hne : (1 : Int) ≤ suf.length := by rw [hs]; simp; omega
        refine ⟨q, K, x.s.size + d + 1, [], ?_, ?_, ?_, .inr ⟨x1, by simpa using hq, rfl, r, hs⟩, fun _ _ => by simpa using hq⟩
        · cases k with
          | zero => simp [VC.lexGo, skipG]
          | succ k => rw [VC.lexGo, if_neg (by show ¬ (x.s.size : Int) < x.s.size; omega)]; simp
        · simp [skipG]
        · rw [x3] at *
          have := hok.1
          have h3 := hok.2.1
          rw [x2] at this
          simp only [skipG] at this
          omega
    · refine ⟨q, K, i', [], ?_, by simp, hK, .inl (by omega), fun _ h => h⟩
      rw [VC.lexGo, if_neg hl]
      simp
end
end Go.Proofs.Ytnoohgiecnmajaa.VC

/- parse: tokens within others (plain). -/
namespace Go.Proofs.Ytnoohgiecnmajaa.VC
open Go Go.RowKit
set_option linter.unusedVariables false
set_option linter.unusedSimpArgs false
set_option maxHeartbeats 4000000

mutual
theorem Sim.symm : ∀ {n m : Node}, Sim n m → Sim m n
  | .mk f ks, .mk g ms, h => by
    rw [Sim] at h ⊢
    refine ⟨?_, SimL.symm h.2⟩
    rw [h.1]
theorem SimL.symm : ∀ {l r : List Node}, SimL l r → SimL r l
  | [], [], _ => by rw [SimL]; trivial
  | k :: l, m :: r, h => by rw [SimL] at h ⊢; exact ⟨Sim.symm h.1, SimL.symm h.2⟩
  | [], m :: r, h => by simp [SimL] at h
  | k :: l, [], h => by simp [SimL] at h
end
theorem Sim.f {n m : Node} (h : Sim n m) : m.f = { n.f with at_ := m.f.at_ } := by
  cases n; cases m; rw [Sim] at h; exact h.1
theorem Sim.kids {n m : Node} (h : Sim n m) : SimL n.kids m.kids := by
  cases n; cases m; rw [Sim] at h; exact h.2
theorem Sim.kind {n m : Node} (h : Sim n m) : m.f.kind = n.f.kind := by rw [h.f]
theorem one_sim {k : Int} {l r : List Node} (h : SimL l r) : Sim (oneN k l) (oneN k r) := by
  have hl := h.len
  unfold oneN
  by_cases c : l.length = 1
  · rw [if_pos c, if_pos (by omega)]
    exact h.rd 0 (by omega)
  · rw [if_neg c, if_neg (by omega), Sim]
    exact ⟨rfl, h⟩
/-- The last of several. -/
theorem SimL.snoc : ∀ {l r : List Node}, SimL l r → (l = [] ∧ r = []) ∨ ∃ A x B y, l = A ++ [x] ∧ r = B ++ [y] ∧ SimL A B ∧ Sim x y
  | [], [], _ => .inl ⟨rfl, rfl⟩
  | k :: l, m :: r, h => by
    rw [SimL] at h
    right
    rcases SimL.snoc h.2 with ⟨rfl, rfl⟩ | ⟨A, x, B, y, rfl, rfl, h1, h2⟩
    · exact ⟨[], k, [], m, rfl, rfl, by rw [SimL]; trivial, h.1⟩
    · exact ⟨k :: A, x, m :: B, y, rfl, rfl, by rw [SimL]; exact ⟨h.1, h1⟩, h2⟩
  | [], m :: r, h => by simp [SimL] at h
  | k :: l, [], h => by simp [SimL] at h
theorem SimL.one {n m : Node} (h : Sim n m) : SimL [n] [m] := by rw [SimL, SimL]; exact ⟨h, trivial⟩
/-- Levels that are alike; above the second one's alternatives are others. -/
structure LevR (A : List Node) (v w : Lev) : Prop where
  it : SimL v.items w.items
  al : ∃ m, w.alts = A ++ m ∧ SimL v.alts m
  fx : w.fixed = v.fixed
  k1 : ∀ n ∈ v.items, n.f.kind ≠ 13
  k2 : ∀ n ∈ v.alts, n.f.kind ≠ 13
def LookR : Option Node → Option Node → Prop
  | none, none => True
  | some n, some m => Sim n m
  | _, _ => False
structure OpR (v w : Lev) : Prop where
  op : w.op = { v.op with at_ := w.op.at_, to := w.op.to }
  lk : LookR v.look w.look
def BaseR (o : Tok) (v w : Lev) : Prop := v.op.n ≠ 13 ∧ w.op = o ∧ o.n ≠ 13
def StkR (A : List Node) (o : Tok) : List Lev → List Lev → Prop
  | [v], [w] => LevR A v w ∧ BaseR o v w
  | v :: u :: st, w :: x :: st' => LevR [] v w ∧ OpR v w ∧ StkR A o (u :: st) (x :: st')
  | _, _ => False
theorem StkR.len {A : List Node} {o : Tok} : ∀ {l r : List Lev}, StkR A o l r → r.length = l.length
  | [v], [w], _ => rfl
  | v :: u :: st, w :: x :: st', h => by
    have := StkR.len h.2.2
    simp only [List.length_cons] at this ⊢
    omega
  | [], _, h => by simp [StkR] at h
  | [v], [], h => by simp [StkR] at h
  | [v], w :: x :: st', h => by simp [StkR] at h
  | v :: u :: st, [], h => by simp [StkR] at h
  | v :: u :: st, [w], h => by simp [StkR] at h
/-- The alternatives above of a level: those of a base, or none. -/
def topA (A : List Node) (st : List Lev) : List Node := match st with | [] => A | _ => []
theorem StkR.top {A : List Node} {o : Tok} {v w : Lev} {st st' : List Lev} (h : StkR A o (v :: st) (w :: st')) : LevR (topA A st) v w := by
  cases st with
  | nil => cases st' with
    | nil => exact h.1
    | cons x st' => simp [StkR] at h
  | cons u st => cases st' with
    | nil => simp [StkR] at h
    | cons x st' => exact h.1
theorem StkR.put {A : List Node} {o : Tok} {v w v' w' : Lev} {st st' : List Lev} (h : StkR A o (v :: st) (w :: st')) (h1 : LevR (topA A st) v' w') (e1 : v'.op = v.op) (e2 : w'.op = w.op) (hl : st ≠ [] → LookR v'.look w'.look) : StkR A o (v' :: st) (w' :: st') := by
  cases st with
  | nil => cases st' with
    | nil => exact ⟨h1, by rw [e1]; exact h.2.1, by rw [e2]; exact h.2.2.1, h.2.2.2⟩
    | cons x st' => simp [StkR] at h
  | cons u st => cases st' with
    | nil => simp [StkR] at h
    | cons x st' => exact ⟨h1, ⟨by rw [e1, e2]; exact h.2.1.op, hl (by simp)⟩, h.2.2⟩
theorem StkR.look {A : List Node} {o : Tok} {v w : Lev} {st st' : List Lev} (h : StkR A o (v :: st) (w :: st')) (hs : st ≠ []) : LookR v.look w.look := by
  cases st with
  | nil => exact absurd rfl hs
  | cons u st => cases st' with
    | nil => simp [StkR] at h
    | cons x st' => exact h.2.1.lk
/-- Both wait for what they look at, or neither. -/
theorem StkR.wait {A : List Node} {o : Tok} {v w : Lev} {st st' : List Lev} (h : StkR A o (v :: st) (w :: st')) : (w.op.n = 13 ∧ w.look.isNone = true) ↔ (v.op.n = 13 ∧ v.look.isNone = true) := by
  cases st with
  | nil => cases st' with
    | nil =>
      obtain ⟨_, h1, h2, h3⟩ := h
      rw [h2]
      exact ⟨fun q => absurd q.1 h3, fun q => absurd q.1 h1⟩
    | cons x st' => simp [StkR] at h
  | cons u st => cases st' with
    | nil => simp [StkR] at h
    | cons x st' =>
      have h1 := h.2.1.op
      have h2 := h.2.1.lk
      rw [h1]
      cases hv : v.look <;> cases hw : w.look <;> rw [hv, hw] at h2 <;> simp [LookR] at h2 ⊢
theorem LevR.endL {A : List Node} {v w : Lev} (h : LevR A v w) : LevR A (VC.endL v) (VC.endL w) := by
  obtain ⟨m, hm1, hm2⟩ := h.al
  refine ⟨by show SimL [] []; rw [SimL]; trivial, ⟨m ++ [oneN 12 w.items], ?_, ?_⟩, rfl, by show ∀ n ∈ ([] : List Node), _; simp, ?_⟩
  · show w.alts ++ [oneN 12 w.items] = A ++ (m ++ [oneN 12 w.items])
    rw [hm1, List.append_assoc]
  · show SimL (v.alts ++ [oneN 12 v.items]) _
    exact hm2.app (SimL.one (one_sim h.it))
  · show ∀ n ∈ v.alts ++ [oneN 12 v.items], _
    intro n hn
    rcases List.mem_append.1 hn with hn | hn
    · exact h.k2 n hn
    · simp at hn
      subst hn
      unfold oneN
      split
      · rename_i h1
        exact h.k1 _ (rdn_mem (l := v.items) (j := 0) (by simp [h1]))
      · show (12 : Int) ≠ 13; decide
theorem LevR.add {A : List Node} {v w : Lev} {n m : Node} (h : LevR A v w) (hw : (w.op.n = 13 ∧ w.look.isNone = true) ↔ (v.op.n = 13 ∧ v.look.isNone = true)) (hn : Sim n m) (hk : n.f.kind ≠ 13) : LevR A (addV v n) (addV w m) ∧ (LookR v.look w.look → LookR (addV v n).look (addV w m).look) ∧ (addV v n).op = v.op ∧ (addV w m).op = w.op := by
  unfold addV
  by_cases c : v.op.n = 13 ∧ v.look.isNone = true
  · rw [if_pos c, if_pos (hw.2 c)]
    exact ⟨⟨h.it, h.al, rfl, h.k1, h.k2⟩, fun _ => hn, rfl, rfl⟩
  · rw [if_neg c, if_neg (fun q => c (hw.1 q))]
    refine ⟨⟨h.it.app (SimL.one hn), h.al, ?_, ?_, h.k2⟩, fun q => q, rfl, rfl⟩
    · show fixK m.f.kind = fixK n.f.kind
      rw [hn.kind]
    · show ∀ k ∈ v.items ++ [n], _
      intro k hk2
      rcases List.mem_append.1 hk2 with hk2 | hk2
      · exact h.k1 k hk2
      · simp at hk2; subst hk2; exact hk
theorem rep_sim {t : Tok} {d : Int} {n m : Node} (h : Sim n m) : Sim (repN t n) (repN (shT d t) m) := by
  unfold repN shT
  rw [Sim]
  exact ⟨rfl, SimL.one h⟩
theorem LevR.quant {A : List Node} {v w : Lev} {t : Tok} {d : Int} (h : LevR A v w) : (quantV w (shT d t)).1 = (quantV v t).1 ∧ LevR A (quantV v t).2 (quantV w (shT d t)).2 ∧ (quantV v t).2.op = v.op ∧ (quantV w (shT d t)).2.op = w.op ∧ (quantV v t).2.look = v.look ∧ (quantV w (shT d t)).2.look = w.look := by
  unfold quantV
  rw [h.fx]
  by_cases c : v.fixed = true
  · rw [if_pos c, if_pos c]
    exact ⟨rfl, h, rfl, rfl, rfl, rfl⟩
  rw [if_neg c, if_neg c]
  rcases h.it.snoc with ⟨e1, e2⟩ | ⟨P, x, Q, y, e1, e2, e3, e4⟩
  · rw [e1, e2]
    exact ⟨rfl, h, rfl, rfl, rfl, rfl⟩
  · have l1 : v.items.getLast? = some x := by rw [e1]; simp
    have l2 : w.items.getLast? = some y := by rw [e2]; simp
    rw [l1, l2]
    refine ⟨rfl, ⟨?_, h.al, rfl, ?_, h.k2⟩, rfl, rfl, rfl, rfl⟩
    · show SimL (v.items.dropLast ++ [repN t x]) (w.items.dropLast ++ [repN (shT d t) y])
      rw [e1, e2]
      simp only [List.dropLast_concat]
      exact e3.app (SimL.one (rep_sim e4))
    · show ∀ k ∈ v.items.dropLast ++ [repN t x], _
      intro k hk
      rcases List.mem_append.1 hk with hk | hk
      · exact h.k1 k (List.dropLast_subset _ hk)
      · simp at hk; subst hk; show (20 : Int) ≠ 13; decide
theorem lookL_sim {v w : Lev} (h : LookR v.look w.look) : SimL (lookL v) (lookL w) := by
  unfold lookL
  cases hv : v.look <;> cases hw : w.look <;> rw [hv, hw] at h <;> simp [LookR] at h ⊢
  · rw [SimL]; trivial
  · exact SimL.one h
theorem group_kind (t : Tok) (look l : List Node) : (groupN t look l).f.kind ≠ 13 := by
  unfold groupN
  split
  · show (14 : Int) ≠ 13; decide
  split
  · show (15 : Int) ≠ 13; decide
  split
  · show (17 : Int) ≠ 13; decide
  split
  · show (18 : Int) ≠ 13; decide
  split
  · show (16 : Int) ≠ 13; decide
  · show (19 : Int) ≠ 13; decide
theorem leaf_kind (t : Tok) : (leafN t).f.kind ≠ 13 := by
  show leafK t.kind ≠ 13
  unfold leafK
  repeat' split
  all_goals decide
theorem LevR.made {v w : Lev} (h : LevR [] v w) (ho : OpR v w) : (madeV (VC.endL w)).2 = (madeV (VC.endL v)).2 ∧ Sim (madeV (VC.endL v)).1 (madeV (VC.endL w)).1 := by
  obtain ⟨m, hm1, hm2⟩ := h.endL.al
  rw [List.nil_append] at hm1
  have hlook := lookL_sim ho.lk
  have hop := ho.op
  have e1 : (VC.endL v).op = v.op := rfl
  have e2 : (VC.endL w).op = w.op := rfl
  have e3 : lookL (VC.endL v) = lookL v := rfl
  have e4 : lookL (VC.endL w) = lookL w := rfl
  unfold madeV
  rw [e1, e2, e3, e4, hm1]
  generalize (VC.endL v).alts = l at *
  generalize w.op = t at *
  have hl := hm2.len
  have h1 := one_sim (k := 13) hm2
  refine ⟨?_, ?_⟩
  · simp only
    rw [hop]
    unfold condBad
    rw [hl]
  · simp only
    rw [hop]
    unfold groupN
    simp only
    split
    · rw [Sim]; exact ⟨rfl, SimL.one h1⟩
    split
    · rw [Sim]; exact ⟨rfl, SimL.one h1⟩
    split
    · rw [Sim]; exact ⟨rfl, SimL.one h1⟩
    split
    · rw [Sim]; exact ⟨rfl, SimL.one h1⟩
    split
    · rw [Sim]; exact ⟨rfl, hm2⟩
    · rw [Sim]; exact ⟨rfl, hlook.app hm2⟩
/-- The machine on tokens that stand within others. -/
theorem runS_sim {A : List Node} {o : Tok} {d en en' : Int} {S : List Lev} {R : List Tok} : ∀ (L : List Tok) (v w : Lev) (st st' : List Lev), StkR A o (v :: st) (w :: st') → (runS en L v st).e = 0 →
    ∃ v0 w0, LevR A v0 w0 ∧ BaseR o v0 w0 ∧ runS en L v st = ⟨oneN 13 (VC.endL v0).alts, 0, 0⟩ ∧
      (runS en' (L.map (shT d) ++ R) w (st' ++ S) = runS en' R w0 S ∨ (S ≠ [] ∧ (runS en' (L.map (shT d) ++ R) w (st' ++ S)).e = 11))
  | [], v, w, st, st', hS, he => by
    rw [runS] at he
    by_cases c : st ≠ []
    · rw [if_pos c] at he; exact absurd he (show ¬ (20 : Int) = 0 by decide)
    have c : st = [] := by simpa using c
    subst c
    have hl := hS.len
    have c' : st' = [] := by
      simp at hl
      exact hl
    subst c'
    exact ⟨v, w, hS.1, hS.2, by rw [runS, if_neg (by simp)], .inl rfl⟩
  | t :: r, v, w, st, st', hS, he => by
    have hT := hS.top
    have hlen := hS.len
    simp only [List.length_cons] at hlen
    rw [List.map_cons, List.cons_append]
    rw [runS_cons] at he ⊢
    rw [runS_cons (t := shT d t)]
    have hk : (shT d t).kind = t.kind := rfl
    rw [hk]
    by_cases k7 : t.kind = 7
    · rw [if_pos k7] at he ⊢
      rw [if_pos k7]
      exact runS_sim r (VC.endL v) (VC.endL w) st st' (hS.put hT.endL rfl rfl (fun q => hS.look q)) he
    rw [if_neg k7] at he ⊢
    rw [if_neg k7]
    by_cases k9 : t.kind = 9
    · rw [if_pos k9] at he ⊢
      rw [if_pos k9]
      obtain ⟨q1, q2, q3, q4, q5, q6⟩ := hT.quant (t := t) (d := d)
      rw [q1]
      by_cases c : (quantV v t).1 = true
      · rw [if_pos c] at he ⊢
        rw [if_pos c]
        exact runS_sim r _ _ st st' (hS.put q2 q3 q4 (fun q => by rw [q5, q6]; exact hS.look q)) he
      · rw [if_neg c] at he
        exact absurd he (show ¬ (30 : Int) = 0 by decide)
    rw [if_neg k9] at he ⊢
    rw [if_neg k9]
    by_cases k10 : t.kind = 10
    · rw [if_pos k10] at he ⊢
      rw [if_pos k10]
      by_cases c : (st.length : Int) ≥ 40
      · rw [if_pos c] at he
        exact absurd he (show ¬ (11 : Int) = 0 by decide)
      rw [if_neg c] at he ⊢
      by_cases c' : ((st' ++ S).length : Int) ≥ 40
      · have hne : S ≠ [] := by
          intro e
          subst e
          simp at c'
          omega
        obtain ⟨v0, w0, h1, h2, h3, _⟩ := runS_sim (S := S) (R := R) (en' := en') (d := d) r (levO t) (levO (shT d t)) (v :: st) (w :: st') ⟨⟨by show SimL [] []; rw [SimL]; trivial, ⟨[], rfl, by show SimL [] []; rw [SimL]; trivial⟩, rfl, by show ∀ n ∈ ([] : List Node), _; simp, by show ∀ n ∈ ([] : List Node), _; simp⟩, ⟨rfl, trivial⟩, hS⟩ he
        rw [if_pos c']
        exact ⟨v0, w0, h1, h2, h3, .inr ⟨hne, rfl⟩⟩
      · rw [if_neg c']
        exact runS_sim r (levO t) (levO (shT d t)) (v :: st) (w :: st') ⟨⟨by show SimL [] []; rw [SimL]; trivial, ⟨[], rfl, by show SimL [] []; rw [SimL]; trivial⟩, rfl, by show ∀ n ∈ ([] : List Node), _; simp, by show ∀ n ∈ ([] : List Node), _; simp⟩, ⟨rfl, trivial⟩, hS⟩ he
    rw [if_neg k10] at he ⊢
    rw [if_neg k10]
    by_cases k8 : t.kind = 8
    · rw [if_pos k8] at he ⊢
      rw [if_pos k8]
      cases st with
      | nil => exact absurd he (show ¬ (31 : Int) = 0 by decide)
      | cons u st =>
        cases st' with
        | nil => simp [StkR] at hS
        | cons x st' =>
          obtain ⟨s1, s2, s3⟩ := hS
          obtain ⟨m1, m2⟩ := s1.made s2
          simp only at he ⊢
          rw [List.cons_append]
          simp only
          rw [m1]
          by_cases c : (madeV (VC.endL v)).2 = true
          · rw [if_pos c] at he ⊢
            rw [if_pos c]
            have hk : (madeV (VC.endL v)).1.f.kind ≠ 13 := group_kind _ _ _
            obtain ⟨a1, a2, a3, a4⟩ := s3.top.add s3.wait m2 hk
            exact runS_sim r _ _ st st' (s3.put a1 a3 a4 (fun q => a2 (s3.look q))) he
          · rw [if_neg c] at he
            exact absurd he (show ¬ (32 : Int) = 0 by decide)
    · rw [if_neg k8] at he ⊢
      rw [if_neg k8]
      have hsim : Sim (leafN t) (leafN (shT d t)) := by
        unfold leafN shT
        rw [Sim]
        exact ⟨rfl, by rw [SimL]; trivial⟩
      obtain ⟨a1, a2, a3, a4⟩ := hT.add hS.wait hsim (leaf_kind t)
      exact runS_sim r _ _ st st' (hS.put a1 a3 a4 (fun q => a2 (hS.look q))) he
end Go.Proofs.Ytnoohgiecnmajaa.VC

/- Texts side by side; from one offset to another one (plain). -/
namespace Go.Proofs.Ytnoohgiecnmajaa.VC
open Go Go.RowKit
set_option linter.unusedVariables false
set_option linter.unusedSimpArgs false
set_option maxHeartbeats 4000000

theorem nums_app (a b : ByteArray) : numsOf (a ++ b) = numsOf a ++ numsOf b := by
  unfold numsOf
  rw [ByteArray.data_append, Array.toList_append, List.map_append]
theorem lex_endq {x : Text} {k : Nat} {i : Int} {q : Bool} {out : List Tok} (h : ¬ i < x.s.size) : lexGo x k i q out = ⟨out, 0, 0⟩ := by
  cases k with
  | zero => rw [lexGo]
  | succ k => rw [lexGo, if_neg h]
/-- So often. -/
def rep : Nat → List Int → List Int
  | 0, _ => []
  | k + 1, w => w ++ rep k w
theorem rep_snoc (w : List Int) : ∀ k : Nat, rep (k + 1) w = rep k w ++ w
  | 0 => by simp [rep]
  | k + 1 => by
    have h := rep_snoc w k
    show w ++ rep (k + 1) w = (w ++ rep k w) ++ w
    rw [h, List.append_assoc]
theorem rep_len (w : List Int) : ∀ k : Nat, (rep k w).length = k * w.length
  | 0 => by simp [rep]
  | k + 1 => by rw [rep, List.length_append, rep_len w k, Nat.succ_mul]; omega
theorem drop_add {s : ByteArray} {i : Int} {A r : List Int} (h0 : 0 ≤ i) (h : (numsOf s).drop i.toNat = A ++ r) : (numsOf s).drop (i + A.length).toNat = r := by
  rw [show (i + A.length).toNat = i.toNat + A.length by omega, ← List.drop_drop, h]
  simp
def tq (k n c : Int) (s : List (Int × Int)) (i j : Int) : Tok := ⟨k, i, j, c, s, false, n, 0, 0, bs [], 0, 0⟩
/-- From one offset to another one so many tokens. -/
def LexTo (x : Text) (i j : Int) (T : List Tok) : Prop := ∀ (K : Nat) (out : List Tok), (x.s.size - i).toNat < K → ∃ K' : Nat, (x.s.size - j).toNat < K' ∧ lexGo x K i false out = lexGo x K' j false (out ++ T)
theorem LexTo.trans {x : Text} {i j l : Int} {T U : List Tok} (h : LexTo x i j T) (k : LexTo x j l U) : LexTo x i l (T ++ U) := by
  intro K out hK
  obtain ⟨K1, h1, h2⟩ := h K out hK
  obtain ⟨K2, k1, k2⟩ := k K1 (out ++ T) h1
  exact ⟨K2, k1, by rw [h2, k2, List.append_assoc]⟩
theorem LexTo.nil {x : Text} {i : Int} : LexTo x i i [] := fun K out h => ⟨K, h, by simp⟩
end Go.Proofs.Ytnoohgiecnmajaa.VC

/- parse: a pattern within a group, two patterns with a bar between (plain). -/
namespace Go.Proofs.Ytnoohgiecnmajaa.VC
open Go Go.RowKit
set_option linter.unusedVariables false
set_option linter.unusedSimpArgs false
set_option maxHeartbeats 4000000

theorem lex0 (s : ByteArray) (h : s.size ≤ 1000) : lexP (numsOf s) 0 = lexGo (textOf (numsOf s) 0) (s.size + 1) 0 false [] := by
  have hsz : (textOf (numsOf s) 0).s.size = s.size := by
    have : (textOf (numsOf s) 0).s.size = (numsOf s).length := strOf_size _
    rw [this, numsOf_len]
  have h32 : bAnd 0 32 = 0 := by decide +kernel
  unfold lexP
  rw [if_neg (by omega), if_neg (by omega), if_neg (by rw [numsOf_len]; omega), if_neg (by rw [h32]; simp), hsz]
theorem text0_nums (s : ByteArray) : numsOf (textOf (numsOf s) 0).s = numsOf s := nums_strOf (numsOf_bytes s)
theorem text0_utf (s : ByteArray) : (textOf (numsOf s) 0).utf = false := by show (bAnd 0 32 != 0) = false; decide +kernel
theorem text0_x (s : ByteArray) : (textOf (numsOf s) 0).x = false := by show (bAnd 0 8 != 0) = false; decide +kernel
theorem text0_size (s : ByteArray) : (textOf (numsOf s) 0).s.size = s.size := by
  have : (textOf (numsOf s) 0).s.size = (numsOf s).length := strOf_size _
  rw [this, numsOf_len]
theorem text0_ext {s s' : ByteArray} {pre suf : List Int} (h : numsOf s' = pre ++ numsOf s ++ suf) (hs : ∀ c r, suf = c :: r → c = 10 ∨ c = 41 ∨ c = 124) : Ext (textOf (numsOf s) 0) (textOf (numsOf s') 0) pre.length suf := by
  have hl := congrArg List.length h
  rw [List.length_append, List.length_append, numsOf_len] at hl
  refine ⟨by omega, by rw [text0_size]; omega, ?_, hs, ?_, rfl, ?_⟩
  · rw [text0_nums, text0_nums, h, List.append_assoc]
    simp
  · rw [text0_utf, text0_utf]
  · rw [text0_x, text0_x]
/-- Nowhere a quoted text begins. -/
def NoQQ (l : List Int) : Prop := ∀ i : Nat, i + 1 < l.length → ¬ (l.getD i 0 = 92 ∧ l.getD (i + 1) 0 = 81)
theorem noQQ_is {s : ByteArray} (h : NoQQ (numsOf s)) (j : Int) (h0 : 0 ≤ j) : isP (textOf (numsOf s) 0).s j (bs [92, 81]) = false := by
  by_cases c : isP (textOf (numsOf s) 0).s j (bs [92, 81]) = true
  · exfalso
    obtain ⟨r, hr⟩ := pre_of h0 (by decide) c
    rw [text0_nums] at hr
    have hr : (numsOf s).drop j.toNat = 92 :: 81 :: r := hr
    have hl := congrArg List.length hr
    rw [List.length_drop] at hl
    simp only [List.length_cons] at hl
    refine h j.toNat (by omega) ⟨?_, ?_⟩
    · rw [List.getD_eq_getElem?_getD]
      have : (numsOf s)[j.toNat]? = some 92 := by
        have := congrArg (fun l => l[0]?) hr
        simpa using this
      rw [this]; rfl
    · rw [List.getD_eq_getElem?_getD]
      have : (numsOf s)[j.toNat + 1]? = some 81 := by
        have := congrArg (fun l => l[1]?) hr
        simpa using this
      rw [this]; rfl
  · simpa using c
theorem parsed_run (s : ByteArray) (he : (lexP (numsOf s) 0).e = 0) : parsedP s = runS s.size (lexP (numsOf s) 0).toks (levO tokZ) [] := by
  unfold parsedP
  rw [if_neg (by rw [he]; simp), runS_parse (lexP_tokS _ _)]
theorem parsed_lex {s : ByteArray} (he : (parsedP s).e = 0) : (lexP (numsOf s) 0).e = 0 := by
  unfold parsedP at he
  by_cases c : (lexP (numsOf s) 0).e ≠ 0
  · rw [if_pos c] at he; exact absurd he c
  · simpa using c
theorem base0 : StkR [] tokZ [levO tokZ] [levO tokZ] :=
  ⟨⟨by show SimL [] []; rw [SimL]; trivial, ⟨[], rfl, by show SimL [] []; rw [SimL]; trivial⟩, rfl, by show ∀ n ∈ ([] : List Node), _; simp, by show ∀ n ∈ ([] : List Node), _; simp⟩, by decide, rfl, by decide⟩
theorem lex_within {s s' : ByteArray} (h : numsOf s' = [40, 63, 58] ++ numsOf s ++ [41]) (hl : s.size ≤ 900) (hq : NoQQ (numsOf s)) (he : (lexP (numsOf s) 0).e = 0) :
    ∃ t0 t1 : Tok, (lexP (numsOf s') 0).e = 0 ∧ (lexP (numsOf s') 0).toks = t0 :: ((lexP (numsOf s) 0).toks.map (shT 3) ++ [t1]) ∧ t0.kind = 10 ∧ t0.n = 2 ∧ t1.kind = 8 := by
  have hlen := congrArg List.length h
  rw [List.length_append, List.length_append, numsOf_len, numsOf_len] at hlen
  simp only [List.length_cons, List.length_nil] at hlen
  have E : Ext (textOf (numsOf s) 0) (textOf (numsOf s') 0) 3 [41] := text0_ext h (by intro c r e; injection e with e _; exact .inr (.inl e.symm))
  have hu := text0_utf s'
  have hx := text0_x s'
  have hx0 := text0_x s
  have hsz := text0_size s'
  have hsz0 := text0_size s
  have hqq := noQQ_is hq
  have hm : (textOf (numsOf s) 0).most ≤ 1114111 := by unfold textOf; simp only; split <;> omega
  rw [lex0 s (by omega)] at he
  rw [lex0 s' (by omega), lex0 s (by omega)]
  have hn := text0_nums s'
  generalize textOf (numsOf s') 0 = x' at *
  generalize textOf (numsOf s) 0 = x at *
  have hd : (numsOf x'.s).drop (0 : Int).toNat = 40 :: (63 :: 58 :: (numsOf s ++ [41])) := by rw [hn, h]; simp
  have hd1 : (numsOf x'.s).drop (1 : Int).toNat = 63 :: 58 :: (numsOf s ++ [41]) := by rw [hn, h]; simp
  have hd2 : (numsOf x'.s).drop (2 : Int).toNat = 58 :: (numsOf s ++ [41]) := by rw [hn, h]; simp
  have hop : openP x' 0 = tokG { tokZ with kind := 10, n := 2 } 0 3 := by
    have e1 : isP x'.s (0 + 1) (bs [42]) = false := by rw [isP_pre _ _ _ (by omega) (by decide), show (0 : Int) + 1 = 1 by omega, hd1]; rfl
    have e2 : isP x'.s (0 + 1) (bs [63]) = true := by rw [isP_pre _ _ _ (by omega) (by decide), show (0 : Int) + 1 = 1 by omega, hd1]; rfl
    have e3 : isP x'.s (0 + 2) (bs [58]) = true := by rw [isP_pre _ _ _ (by omega) (by decide), show (0 : Int) + 2 = 2 by omega, hd2]; rfl
    unfold openP
    rw [if_neg (by rw [e1]; simp), if_neg (by rw [e2]; simp), if_neg (by omega)]
    unfold openList openL
    rw [if_pos e3]
    rfl
  have hs1 := lex_step (k := s'.size) (out := []) hu hx (by omega) hd (by decide) (t := { tokZ with kind := 10, n := 2 }) (b := 3) (by unfold tokC; rw [if_neg (by decide), if_neg (by decide), if_pos rfl]; exact hop)
  rw [hs1]
  obtain ⟨q', K', j', rest, r1, r2, r3, r4, r5⟩ := E.lexGo (i' := 3) (B := [] ++ [{ ({ tokZ with kind := 10, n := 2 } : Tok) with at_ := 0, to := 3 }]) (K := s'.size) hm (by omega) (by intro hxx; rw [hx0] at hxx; cases hxx) (s.size + 1) 0 false [] (by omega) (by omega) (by omega) (by omega) (by omega) he
  have hq' := r5 hqq rfl
  subst hq'
  have hj : j' = x.s.size + 3 := by
    rcases r4 with q | ⟨q, _⟩
    · exact q
    · rw [hx0] at q; cases q
  obtain ⟨K', rfl⟩ : ∃ m, K' = m + 1 := ⟨K' - 1, by omega⟩
  have hde := E.drop (i := x.s.size) (i' := j') hj (by omega) (by omega)
  have hz : (numsOf x.s).drop (x.s.size : Int).toNat = [] := List.drop_eq_nil_of_le (by rw [numsOf_len]; omega)
  rw [hz, List.nil_append] at hde
  have hs2 := lex_step (k := K') (out := [] ++ [{ ({ tokZ with kind := 10, n := 2 } : Tok) with at_ := 0, to := 3 }] ++ rest.map (shT 3)) hu hx (by omega) hde (by decide) (t := { tokZ with kind := 8 }) (b := j' + 1) (by unfold tokC; rw [if_neg (by decide), if_neg (by decide), if_neg (by decide), if_neg (by decide), if_neg (by decide), if_neg (by decide), if_neg (by decide), if_pos rfl])
  rw [r2, r1, hs2, lex_endq (by omega)]
  exact ⟨_, _, rfl, by simp; exact ⟨rfl, rfl⟩, rfl, rfl, rfl⟩
/-- Within a group without a number a pattern has the tree that it has alone. -/
theorem within_plain {s s' : ByteArray} (h : numsOf s' = [40, 63, 58] ++ numsOf s ++ [41]) (hl : s.size ≤ 900) (hq : NoQQ (numsOf s)) (he : (parsedP s).e = 0) :
    (parsedP s').e = 11 ∨ ((parsedP s').e = 0 ∧ (parsedP s').at_ = 0 ∧ ∃ f m, (parsedP s').n = .mk f [m] ∧ f.kind = 15 ∧ Sim m (parsedP s).n) := by
  have hle := parsed_lex he
  obtain ⟨t0, t1, l1, l2, l3, l4, l5⟩ := lex_within h hl hq hle
  rw [parsed_run s hle] at he ⊢
  rw [parsed_run s' l1, l2]
  obtain ⟨v0, w0, h1, h2, h3, h4⟩ := runS_sim (A := []) (o := t0) (d := 3) (en' := s'.size) (S := [levO tokZ]) (R := [t1]) (lexP (numsOf s) 0).toks (levO tokZ) (levO t0) [] []
    ⟨⟨by show SimL [] []; rw [SimL]; trivial, ⟨[], rfl, by show SimL [] []; rw [SimL]; trivial⟩, rfl, by show ∀ n ∈ ([] : List Node), _; simp, by show ∀ n ∈ ([] : List Node), _; simp⟩, by decide, rfl, by omega⟩ he
  have hr : runS s'.size (t0 :: ((lexP (numsOf s) 0).toks.map (shT 3) ++ [t1])) (levO tokZ) [] = runS s'.size ((lexP (numsOf s) 0).toks.map (shT 3) ++ [t1]) (levO t0) ([] ++ [levO tokZ]) := by
    rw [runS_cons, if_neg (by omega), if_neg (by omega), if_pos l3, if_neg (by simp)]
    rfl
  rw [hr]
  rcases h4 with h4 | ⟨_, h4⟩
  · right
    rw [h4, h3]
    have hop : (VC.endL w0).op = t0 := h2.2.1
    obtain ⟨m, hm1, hm2⟩ := h1.endL.al
    rw [List.nil_append] at hm1
    have hmade : madeV (VC.endL w0) = (.mk { fZ with kind := 15, at_ := t0.at_, on := t0.on, off := t0.off } [oneN 13 m], true) := by
      unfold madeV
      rw [hop, hm1]
      unfold groupN
      rw [if_neg (by omega), if_pos l4]
      simp [l4]
    have hrun : runS s'.size [t1] w0 [levO tokZ] = ⟨oneN 13 (VC.endL (addV (levO tokZ) (madeV (VC.endL w0)).1)).alts, 0, 0⟩ := by
      rw [runS_cons, if_neg (by omega), if_neg (by omega), if_neg (by omega), if_pos l5]
      simp only
      rw [hmade, if_pos rfl, runS, if_neg (by simp)]
    rw [hrun, hmade]
    refine ⟨rfl, rfl, _, oneN 13 m, rfl, rfl, ?_⟩
    exact (one_sim hm2).symm
  · exact .inl h4
theorem lex_joins {a b s : ByteArray} (h : numsOf s = numsOf a ++ [124] ++ numsOf b) (ha : a.size ≤ 450) (hb : b.size ≤ 450) (hq : NoQQ (numsOf a)) (hea : (lexP (numsOf a) 0).e = 0) (heb : (lexP (numsOf b) 0).e = 0) :
    ∃ t : Tok, (lexP (numsOf s) 0).e = 0 ∧ (lexP (numsOf s) 0).toks = (lexP (numsOf a) 0).toks.map (shT 0) ++ t :: ((lexP (numsOf b) 0).toks.map (shT (a.size + 1)) ++ []) ∧ t.kind = 7 := by
  have hlen := congrArg List.length h
  rw [List.length_append, List.length_append, numsOf_len, numsOf_len, numsOf_len] at hlen
  simp only [List.length_cons, List.length_nil] at hlen
  have Ea : Ext (textOf (numsOf a) 0) (textOf (numsOf s) 0) 0 (124 :: numsOf b) := text0_ext (pre := []) (by rw [h]; simp) (by intro c r e; injection e with e _; exact .inr (.inr e.symm))
  have Eb : Ext (textOf (numsOf b) 0) (textOf (numsOf s) 0) (a.size + 1) [] := by
    have := text0_ext (s := b) (s' := s) (pre := numsOf a ++ [124]) (suf := []) (by rw [h]; simp) (by intro c r e; cases e)
    rw [List.length_append, numsOf_len] at this
    exact this
  have hu := text0_utf s
  have hx := text0_x s
  have hxa := text0_x a
  have hxb := text0_x b
  have hsz := text0_size s
  have hsa := text0_size a
  have hsb := text0_size b
  have hqq := noQQ_is hq
  have hma : (textOf (numsOf a) 0).most ≤ 1114111 := by unfold textOf; simp only; split <;> omega
  have hmb : (textOf (numsOf b) 0).most ≤ 1114111 := by unfold textOf; simp only; split <;> omega
  rw [lex0 a (by omega)] at hea
  rw [lex0 b (by omega)] at heb
  rw [lex0 s (by omega), lex0 a (by omega), lex0 b (by omega)]
  have hn := text0_nums s
  generalize textOf (numsOf s) 0 = x' at *
  generalize textOf (numsOf a) 0 = x at *
  generalize textOf (numsOf b) 0 = y at *
  obtain ⟨q', K', j', rest, r1, r2, r3, r4, r5⟩ := Ea.lexGo (i' := 0) (B := []) (K := s.size + 1) hma (by omega) (by intro hxx; rw [hxa] at hxx; cases hxx) (a.size + 1) 0 false [] (by omega) (by omega) (by omega) (by omega) (by omega) hea
  have hq' := r5 hqq rfl
  subst hq'
  have hj : j' = x.s.size + 0 := by
    rcases r4 with q | ⟨q, _⟩
    · exact q
    · rw [hxa] at q; cases q
  obtain ⟨K', rfl⟩ : ∃ m, K' = m + 1 := ⟨K' - 1, by omega⟩
  have hde := Ea.drop (i := x.s.size) (i' := j') hj (by omega) (by omega)
  have hz : (numsOf x.s).drop (x.s.size : Int).toNat = [] := List.drop_eq_nil_of_le (by rw [numsOf_len]; omega)
  rw [hz, List.nil_append] at hde
  have hs2 := lex_step (k := K') (out := [] ++ rest.map (shT 0)) hu hx (by omega) hde (by decide) (t := { tokZ with kind := 7 }) (b := j' + 1) (by unfold tokC; rw [if_neg (by decide), if_neg (by decide), if_neg (by decide), if_neg (by decide), if_neg (by decide), if_neg (by decide), if_pos rfl])
  obtain ⟨q2, K2, j2, rest2, p1, p2, p3, p4, p5⟩ := Eb.lexGo (i' := j' + 1) (B := [] ++ rest.map (shT 0) ++ [{ ({ tokZ with kind := 7 } : Tok) with at_ := j', to := j' + 1 }]) (K := K') hmb (by omega) (by intro hxx; rw [hxb] at hxx; cases hxx) (b.size + 1) 0 false [] (by omega) (by omega) (by omega) (by omega) (by omega) heb
  have hj2 : j2 = y.s.size + (a.size + 1) := by
    rcases p4 with q | ⟨q, _⟩
    · exact q
    · rw [hxb] at q; cases q
  rw [r2, r1, hs2, p2, p1, lex_endq (by omega)]
  exact ⟨_, rfl, by simp; rfl, rfl⟩
def partsP (n : Node) : List Node := if n.f.kind = 13 then n.kids else [n]
theorem parts_one {l : List Node} (h : ∀ n ∈ l, n.f.kind ≠ 13) : partsP (oneN 13 l) = l := by
  unfold partsP oneN
  by_cases c : l.length = 1
  · rw [if_pos c]
    obtain ⟨n, rfl⟩ : ∃ n, l = [n] := List.length_eq_one_iff.1 c
    rw [if_neg (h _ (by show (rdn [n] 0) ∈ [n]; simp [rdn]))]
    rfl
  · rw [if_neg c]
    rfl
/-- Of two patterns with a bar between the alternatives are those of both. -/
theorem joins_plain {a b s : ByteArray} (h : numsOf s = numsOf a ++ [124] ++ numsOf b) (ha : a.size ≤ 450) (hb : b.size ≤ 450) (hq : NoQQ (numsOf a)) (hea : (parsedP a).e = 0) (heb : (parsedP b).e = 0) :
    (parsedP s).e = 0 ∧ ∃ K, (parsedP s).n = .mk { fZ with kind := 13 } K ∧ SimL K (partsP (parsedP a).n ++ partsP (parsedP b).n) := by
  have hla := parsed_lex hea
  have hlb := parsed_lex heb
  obtain ⟨t, l1, l2, l3⟩ := lex_joins h ha hb hq hla hlb
  rw [parsed_run a hla] at hea ⊢
  rw [parsed_run b hlb] at heb ⊢
  rw [parsed_run s l1, l2]
  obtain ⟨v0, w0, h1, h2, h3, h4⟩ := runS_sim (A := []) (o := tokZ) (d := 0) (en' := s.size) (S := []) (R := t :: ((lexP (numsOf b) 0).toks.map (shT (a.size + 1)) ++ [])) (lexP (numsOf a) 0).toks (levO tokZ) (levO tokZ) [] [] base0 hea
  rcases h4 with h4 | ⟨q, _⟩
  rotate_left
  · exact absurd rfl q
  simp only [List.append_nil] at h4
  have hbase : StkR (VC.endL w0).alts tokZ [levO tokZ] [VC.endL w0] :=
    ⟨⟨by show SimL [] []; rw [SimL]; trivial, ⟨[], by simp, by show SimL [] []; rw [SimL]; trivial⟩, rfl, by show ∀ n ∈ ([] : List Node), _; simp, by show ∀ n ∈ ([] : List Node), _; simp⟩, by decide, h2.2.1, by decide⟩
  obtain ⟨v1, w1, g1, g2, g3, g4⟩ := runS_sim (d := a.size + 1) (en' := s.size) (S := []) (R := []) (lexP (numsOf b) 0).toks (levO tokZ) (VC.endL w0) [] [] hbase heb
  rcases g4 with g4 | ⟨q, _⟩
  rotate_left
  · exact absurd rfl q
  simp only [List.append_nil] at g4
  simp only [List.append_nil]
  rw [h4, runS_cons, if_pos l3, g4, runS, if_neg (by simp), h3, g3]
  obtain ⟨m, hm1, hm2⟩ := h1.endL.al
  rw [List.nil_append] at hm1
  obtain ⟨m', hm1', hm2'⟩ := g1.endL.al
  simp only
  rw [parts_one h1.endL.k2, parts_one g1.endL.k2]
  refine ⟨trivial, (VC.endL w1).alts, ?_, ?_⟩
  · unfold oneN
    rw [if_neg]
    rw [hm1']
    have e1 : (VC.endL w0).alts = w0.alts ++ [oneN 12 w0.items] := rfl
    have e2 := hm2'.len
    have e3 : (VC.endL v1).alts = v1.alts ++ [oneN 12 v1.items] := rfl
    rw [e1, List.length_append, List.length_append, e2, e3, List.length_append]
    simp only [List.length_cons, List.length_nil]
    omega
  · rw [hm1', hm1]
    exact (hm2.app hm2').symm
end Go.Proofs.Ytnoohgiecnmajaa.VC

