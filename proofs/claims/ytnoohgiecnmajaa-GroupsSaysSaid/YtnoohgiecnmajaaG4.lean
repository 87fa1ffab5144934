/- A part of the ground of the proof. No condition. -/
import Derived.Test.YtnoohgiecnmajaaGE26

/- Groups by definition: the names; the whole; rows of names. -/
namespace Go.Proofs.Ytnoohgiecnmajaa.VC
open Go Go.RowKit
set_option linter.unusedVariables false
set_option linter.unusedSimpArgs false
set_option maxHeartbeats 4000000

@[reducible] def rowsM (l : List (ByteArray × Int)) : List (List SV) := l.map fun p => [sv p.1, iv p.2]
@[reducible] def ms (l : List (ByteArray × Int)) : SV := .sl 2 (rowsM l)
def rdm (l : List (ByteArray × Int)) (j : Int) : ByteArray × Int := l.getD j.toNat (bs [], 0)
theorem rowsM_len (l : List (ByteArray × Int)) : (rowsM l).length = l.length := by simp [rowsM]
theorem rowsM_get {l : List (ByteArray × Int)} {j : Int} (h : j.toNat < l.length) : (rowsM l).getD j.toNat [] = [sv (rdm l j).1, iv (rdm l j).2] := by
  simp [rowsM, rdm, List.getD_eq_getElem?_getD, List.getElem?_eq_getElem h]
theorem rowsM_snoc (o : List (ByteArray × Int)) (p : ByteArray × Int) : rowsM o ++ [[sv p.1, iv p.2]] = rowsM (o ++ [p]) := by simp [rowsM]
theorem drop_stepM {l : List (ByteArray × Int)} {j : Int} (h0 : 0 ≤ j) (h : j < l.length) : l.drop j.toNat = rdm l j :: l.drop (j + 1).toNat := by
  have e : (j + 1).toNat = j.toNat + 1 := by omega
  rw [e, List.drop_eq_getElem_cons (by omega)]
  simp [rdm, List.getD_eq_getElem?_getD, List.getElem?_eq_getElem (show j.toNat < l.length by omega)]
theorem drop_stepN {l : List Node} {j : Int} (h0 : 0 ≤ j) (h : j < l.length) : l.drop j.toNat = rdn l j :: l.drop (j + 1).toNat := by
  have e : (j + 1).toNat = j.toNat + 1 := by omega
  rw [e, List.drop_eq_getElem_cons (by omega)]
  simp [rdn, List.getD_eq_getElem?_getD, List.getElem?_eq_getElem (show j.toNat < l.length by omega)]
/-- Is a name there with another number; is it there? -/
def clashP (s : ByteArray) (n : Int) (A : List (ByteArray × Int)) : Bool := A.any fun p => decide (p.1 = s ∧ p.2 ≠ n)
def thereP (s : ByteArray) (A : List (ByteArray × Int)) : Bool := A.any fun p => decide (p.1 = s)
theorem beqS (a b : ByteArray) : (a.toList == b.toList) = decide (a = b) := by
  by_cases h : a = b
  · subst h; simp
  · rw [decide_eq_false h]
    simp only [beq_eq_false_iff_ne, ne_eq]
    exact fun e => h (toList_inj e)
structure NamR where
  l : List (ByteArray × Int)
  e : Int
  at_ : Int
def namL : List Node → List (ByteArray × Int) → NamR
  | [], A => ⟨A, 0, 0⟩
  | c :: l, A =>
    if c.f.n > 60 then ⟨[], 12, c.f.at_⟩
    else if c.f.name = bs [] then namL l A
    else if clashP c.f.name c.f.n A = true then ⟨[], 33, c.f.at_⟩
    else if thereP c.f.name A = true then namL l A
    else namL l (A ++ [(c.f.name, c.f.n)])
theorem namL_cons (f : NodeF) (ks l : List Node) (A : List (ByteArray × Int)) : namL (.mk f ks :: l) A =
    if f.n > 60 then ⟨[], 12, f.at_⟩
    else if f.name = bs [] then namL l A
    else if clashP f.name f.n A = true then ⟨[], 33, f.at_⟩
    else if thereP f.name A = true then namL l A
    else namL l (A ++ [(f.name, f.n)]) := by rw [namL]; rfl
structure NumR where
  n : Node
  most : Int
  names : List (ByteArray × Int)
  e : Int
  at_ : Int
def numR9 (n : Node) : NumR :=
  if (namL (capsN (nbN n 0).1) []).e ≠ 0 then ⟨nodeZ, 0, [], (namL (capsN (nbN n 0).1) []).e, (namL (capsN (nbN n 0).1) []).at_⟩
  else ⟨(nbN n 0).1, (nbN n 0).2, (namL (capsN (nbN n 0).1) []).l, 0, 0⟩
@[reducible] def numE (r : NumR) : SV := .tuple [r.n.enc, iv r.most, ms r.names, iv r.e, iv r.at_]
attribute [local irreducible] nbN capsN clashP thereP
set_option maxHeartbeats 16000000
theorem number9_c (n : Node) (hw : n.w ≤ 1000000) : VCalls Try.prog 22 [n.enc] (fun r => r = numE (numR9 n)) := by
  have hnum := num_c n.w n (Nat.le_refl _) hw 0 (by omega) (by omega)
  have hle := nbN_le n 0
  have hcap := cap_c (nbN n 0).1.w (nbN n 0).1 (Nat.le_refl _) (by omega)
  have hcl := capsN_len (nbN n 0).1
  obtain ⟨G, hG⟩ : ∃ G, numR9 n = G := ⟨_, rfl⟩
  rw [hG]
  unfold numR9 at hG
  unfold Ty2 at hnum
  unfold CapC at hcap
  obtain ⟨f0, k0, h0⟩ := n.ex
  generalize nbN n 0 = r at *
  obtain ⟨⟨f, ks⟩, most⟩ := r
  simp only at hnum hle hcap hcl hG
  generalize capsN (.mk f ks) = C at *
  rw [h0] at hnum ⊢
  have hnC := rowsN_len C
  refine VCalls.ofr tabOk Try.func22 (by decide) rfl rfl ?_
  refine RWP.seqx tabOk orders ?_
  conv => whnf
  refine RWP.seqx tabOk orders ?_
  repeat' ((conv => whnf); (first
    | (with_reducible first | refine Spl.yes ?_ | refine Spl.no ?_ | refine Spl.dec (fun h => ?_) (fun h => ?_) | refine Spl.eq (fun h => ?_) (fun h => ?_) | refine Spl.ne (fun h => ?_) (fun h => ?_) | refine Spl.seq (fun h => ?_) (fun h => ?_) | refine Spl.not ?_ | refine Spl.any (fun h => ?_) (fun h => ?_))
    | (refine VCalls.mono (hnum) ?_; rintro _ rfl)
    | refine And.intro (Nat.le_of_ble_eq_true rfl) ?_
    | ((with_reducible apply And.intro); first | omega | rfl | (dsimp only; omega))))
  all_goals (conv => whnf)
  refine RWP.seqx tabOk orders ?_
  repeat' ((conv => whnf); (first
    | (with_reducible first | refine Spl.yes ?_ | refine Spl.no ?_ | refine Spl.dec (fun h => ?_) (fun h => ?_) | refine Spl.eq (fun h => ?_) (fun h => ?_) | refine Spl.ne (fun h => ?_) (fun h => ?_) | refine Spl.seq (fun h => ?_) (fun h => ?_) | refine Spl.not ?_ | refine Spl.any (fun h => ?_) (fun h => ?_))
    | (refine VCalls.mono (hcap) ?_; rintro _ rfl)
    | refine And.intro (Nat.le_of_ble_eq_true rfl) ?_
    | ((with_reducible apply And.intro); first | omega | rfl | (dsimp only; omega))))
  all_goals (conv => whnf)
  refine RWP.seqx tabOk orders ?_
  conv => whnf
  refine RWP.seq ?_
  refine RWP.seqx tabOk orders ?_
  conv => whnf
  refine RWP.block ?_
  refine RWP.loop (fun k st => ∃ (j : Int) (A : List (ByteArray × Int)) (v : Bool), st = ⟨114, [(2, .ptr 2 0), (7, .ptr 7 0), (8, .pv (iv most)), (9, .pv (nodesE C)), (10, .own 110), (11, .pv (iv j))], [(2, (27, nzero)), (7, (27, nfe f ks))], [(110, ⟨2, 45, v, rowsM A⟩)], []⟩ ∧ 0 ≤ j ∧ j ≤ C.length ∧ k = (C.length - j).toNat ∧ A.length ≤ j ∧ namL C [] = namL (C.drop j.toNat) A)
    ⟨_, _, Wk.trans (Wk.ownNil (t := 10) (k := 110) (sz := 2) (e := 45) rfl) (Wk.narrow _ [2, 7, 8, 9, 10, 11] [2, 7] [110]), 0, [], true, rfl, by omega, by omega, rfl, by simp, rfl⟩ ?_
  rintro k st ⟨j, A, v, rfl, hj0, hj1, hk, hA, hP⟩
  have hlA := rowsM_len A
  rw [hP] at hG
  refine RWP.seqx tabOk orders ?_
  repeat' ((conv => whnf); (first
    | (with_reducible first | refine Spl.yes ?_ | refine Spl.no ?_ | refine Spl.dec (fun h => ?_) (fun h => ?_) | refine Spl.eq (fun h => ?_) (fun h => ?_) | refine Spl.ne (fun h => ?_) (fun h => ?_) | refine Spl.seq (fun h => ?_) (fun h => ?_) | refine Spl.not ?_ | refine Spl.any (fun h => ?_) (fun h => ?_))
    | ((with_reducible apply And.intro); first | omega | rfl | (dsimp only; omega))))
  all_goals (conv => whnf)
  rotate_left
  · have e : C.drop j.toNat = [] := List.drop_eq_nil_of_le (by omega)
    rw [e, namL] at hG
    simp only [ne_eq, not_true_eq_false, if_false] at hG
    subst hG
    refine RWP.of tabOk orders ?_
    repeat' ((conv => whnf); (first
    | (with_reducible first | refine Spl.yes ?_ | refine Spl.no ?_ | refine Spl.dec (fun h => ?_) (fun h => ?_) | refine Spl.eq (fun h => ?_) (fun h => ?_) | refine Spl.ne (fun h => ?_) (fun h => ?_) | refine Spl.seq (fun h => ?_) (fun h => ?_) | refine Spl.not ?_ | refine Spl.any (fun h => ?_) (fun h => ?_))
    | refine And.intro (Nat.le_of_ble_eq_true rfl) ?_
    | ((with_reducible apply And.intro); first | omega | rfl | (dsimp only; omega))))
    all_goals (conv => whnf)
    rfl
  have hdr := drop_stepN (l := C) hj0 (by omega)
  obtain ⟨fc, kc, hc⟩ := (rdn C j).ex
  rw [hdr, hc, namL_cons] at hG hP
  refine RWP.cutr (fun st => ∃ (A' : List (ByteArray × Int)) (v : Bool), st = ⟨114, [(2, .ptr 2 0), (7, .ptr 7 0), (8, .pv (iv most)), (9, .pv (nodesE C)), (10, .own 110), (11, .pv (iv j))], [(2, (27, nzero)), (7, (27, nfe f ks))], [(110, ⟨2, 45, v, rowsM A'⟩)], []⟩ ∧ A'.length ≤ j + 1 ∧ namL C [] = namL (C.drop (j + 1).toNat) A') (RWP.block ?_) ?_
  rotate_left
  · rintro _ ⟨A', v', rfl, hA', hP'⟩
    refine RWP.of tabOk orders ?_
    repeat' ((conv => whnf); (first
    | (with_reducible first | refine Spl.yes ?_ | refine Spl.no ?_ | refine Spl.dec (fun h => ?_) (fun h => ?_) | refine Spl.eq (fun h => ?_) (fun h => ?_) | refine Spl.ne (fun h => ?_) (fun h => ?_) | refine Spl.seq (fun h => ?_) (fun h => ?_) | refine Spl.not ?_ | refine Spl.any (fun h => ?_) (fun h => ?_))
    | ((with_reducible apply And.intro); first | omega | rfl | (dsimp only; omega))))
    all_goals (conv => whnf)
    exact ⟨(C.length - (j + 1)).toNat, _, by omega, Wk.narrow _ [2, 7, 8, 9, 10, 11] [2, 7] [110], j + 1, A', v', rfl, by omega, by omega, rfl, hA', hP'⟩
  refine RWP.seqx tabOk orders ?_
  repeat' ((conv => whnf); (first
    | (with_reducible first | refine Spl.yes ?_ | refine Spl.no ?_ | refine Spl.dec (fun h => ?_) (fun h => ?_) | refine Spl.eq (fun h => ?_) (fun h => ?_) | refine Spl.ne (fun h => ?_) (fun h => ?_) | refine Spl.seq (fun h => ?_) (fun h => ?_) | refine Spl.not ?_ | refine Spl.any (fun h => ?_) (fun h => ?_))
    | (rw [rowsN_get (by omega)])
    | (rw [hc])
    | refine drawn_plan (.one 0 (.one 1 (.one 2 (.one 3 (.one 4 (.two 5 (.ofList [6, 7, 8, 9, 10]) 6 (.ofList [5, 7, 8, 9, 10]))))))) (by decide +kernel) ?_
    | refine Fork.mk ?_ ?_
    | refine And.intro (Nat.le_of_ble_eq_true rfl) ?_
    | ((with_reducible apply And.intro); first | omega | rfl | (dsimp only; omega))))
  all_goals (conv => whnf)
  all_goals (try (
    rw [if_pos (show fc.n > 60 by assumption)] at hG
    rw [if_pos (show (NamR.mk [] 12 fc.at_).e ≠ 0 by show (12 : Int) ≠ 0; decide)] at hG
    subst hG
    rfl))
  rw [if_neg (show ¬ fc.n > 60 by assumption)] at hG hP
  refine RWP.seqx tabOk orders ?_
  repeat' ((conv => whnf); (first
    | (with_reducible first | refine Spl.yes ?_ | refine Spl.no ?_ | refine Spl.dec (fun h => ?_) (fun h => ?_) | refine Spl.eq (fun h => ?_) (fun h => ?_) | refine Spl.ne (fun h => ?_) (fun h => ?_) | refine Spl.seq (fun h => ?_) (fun h => ?_) | refine Spl.not ?_ | refine Spl.any (fun h => ?_) (fun h => ?_))
    | (rw [rowsN_get (by omega)])
    | (rw [hc])
    | ((with_reducible apply And.intro); first | omega | rfl | (dsimp only; omega))))
  all_goals (conv => whnf)
  · rw [if_pos (by assumption)] at hP
    exact ⟨_, Wk.narrow _ [2, 7, 8, 9, 10, 11] [2, 7] [110], A, v, rfl, by omega, hP⟩
  have hname : ¬ fc.name = bs [] := by assumption
  rw [if_neg hname] at hG hP
  refine RWP.seqx tabOk orders ?_
  conv => whnf
  refine RWP.cutr (fun st => clashP fc.name fc.n A = false ∧ st = ⟨114, [(2, .ptr 2 0), (7, .ptr 7 0), (8, .pv (iv most)), (9, .pv (nodesE C)), (10, .own 110), (11, .pv (iv j)), (12, .pv (bv (thereP fc.name A)))], [(2, (27, nzero)), (7, (27, nfe f ks))], [(110, ⟨2, 45, v, rowsM A⟩)], []⟩) ?_ ?_
  · refine RWP.seqx tabOk orders ?_
    conv => whnf
    refine RWP.block ?_
    refine RWP.loop (fun k st => ∃ (i : Int) (b : Bool), st = ⟨114, [(2, .ptr 2 0), (7, .ptr 7 0), (8, .pv (iv most)), (9, .pv (nodesE C)), (10, .own 110), (11, .pv (iv j)), (12, .pv (bv b)), (13, .pv (iv i))], [(2, (27, nzero)), (7, (27, nfe f ks))], [(110, ⟨2, 45, v, rowsM A⟩)], []⟩ ∧ 0 ≤ i ∧ i ≤ A.length ∧ k = (A.length - i).toNat ∧ clashP fc.name fc.n A = clashP fc.name fc.n (A.drop i.toNat) ∧ thereP fc.name A = (b || thereP fc.name (A.drop i.toNat)))
      ⟨_, _, Wk.narrow _ [2, 7, 8, 9, 10, 11, 12, 13] [2, 7] [110], 0, false, rfl, by omega, by omega, rfl, rfl, by simp⟩ ?_
    rintro k st ⟨i, b, rfl, hi0, hi1, hk, hcl2, hth⟩
    refine RWP.seqx tabOk orders ?_
    repeat' ((conv => whnf); (first
    | (with_reducible first | refine Spl.yes ?_ | refine Spl.no ?_ | refine Spl.dec (fun h => ?_) (fun h => ?_) | refine Spl.eq (fun h => ?_) (fun h => ?_) | refine Spl.ne (fun h => ?_) (fun h => ?_) | refine Spl.seq (fun h => ?_) (fun h => ?_) | refine Spl.not ?_ | refine Spl.any (fun h => ?_) (fun h => ?_))
    | ((with_reducible apply And.intro); first | omega | rfl | (dsimp only; omega))))
    all_goals (conv => whnf)
    rotate_left
    · have hi2 : ¬ i < ((rowsM A).length : Int) := by assumption
      have e : A.drop i.toNat = [] := List.drop_eq_nil_of_le (by omega)
      rw [e] at hcl2 hth
      refine ⟨_, Wk.narrow _ [2, 7, 8, 9, 10, 11, 12] [2, 7] [110], by rw [hcl2, clashP]; rfl, Eq.trans rfl (congrArg (fun (X : Bool) => (⟨114, [(2, .ptr 2 0), (7, .ptr 7 0), (8, .pv (iv most)), (9, .pv (nodesE C)), (10, .own 110), (11, .pv (iv j)), (12, .pv (bv X))], [(2, (27, nzero)), (7, (27, nfe f ks))], [(110, ⟨2, 45, v, rowsM A⟩)], []⟩ : St)) (show b = thereP fc.name A by rw [hth, thereP]; simp))⟩
    have hi2 : i < ((rowsM A).length : Int) := by assumption
    have hdm := drop_stepM (l := A) hi0 (by omega)
    rw [hdm] at hcl2 hth
    have k1 : clashP fc.name fc.n (rdm A i :: A.drop (i + 1).toNat) = (decide ((rdm A i).1 = fc.name ∧ (rdm A i).2 ≠ fc.n) || clashP fc.name fc.n (A.drop (i + 1).toNat)) := by rw [clashP, clashP, List.any_cons]
    have k2 : thereP fc.name (rdm A i :: A.drop (i + 1).toNat) = (decide ((rdm A i).1 = fc.name) || thereP fc.name (A.drop (i + 1).toNat)) := by rw [thereP, thereP, List.any_cons]
    rw [k1] at hcl2
    rw [k2] at hth
    refine RWP.of tabOk orders ?_
    repeat' ((conv => whnf); (first
    | (with_reducible first | refine Spl.yes ?_ | refine Spl.no ?_ | refine Spl.dec (fun h => ?_) (fun h => ?_) | refine Spl.eq (fun h => ?_) (fun h => ?_) | refine Spl.ne (fun h => ?_) (fun h => ?_) | refine Spl.seq (fun h => ?_) (fun h => ?_) | refine Spl.not ?_ | refine Spl.any (fun h => ?_) (fun h => ?_))
    | refine drawn_text (by decide +kernel) ?_
    | refine drawn_plan (.one 0 (.one 1 (.one 2 (.one 3 (.one 4 (.two 5 (.ofList [6, 7, 8, 9, 10]) 6 (.ofList [5, 7, 8, 9, 10]))))))) (by decide +kernel) ?_
    | refine Fork.mk ?_ ?_
    | (rw [rowsN_get (by omega)])
    | (rw [rowsM_get (by omega)])
    | (rw [hc])
    | refine And.intro (Nat.le_of_ble_eq_true rfl) ?_
    | ((with_reducible apply And.intro); first | omega | rfl | (dsimp only; omega))))
    all_goals (conv => whnf)
    all_goals first
      | (
        have hcl3 : clashP fc.name fc.n A = true := by rw [hcl2, decide_eq_true ⟨by assumption, by assumption⟩]; rfl
        rw [if_pos hcl3] at hG
        rw [if_pos (show (NamR.mk [] 33 fc.at_).e ≠ 0 by show (33 : Int) ≠ 0; decide)] at hG
        subst hG
        rfl)
      | (have hb : b = true := by assumption
         have hne : (rdm A i).1 ≠ fc.name := by assumption
         subst hb
         exact ⟨(A.length - (i + 1)).toNat, _, by omega, Wk.narrow _ [2, 7, 8, 9, 10, 11, 12, 13] [2, 7] [110], i + 1, _, rfl, by omega, by omega, rfl, by rw [hcl2, decide_eq_false (fun q => hne q.1)]; rfl, by rw [hth]; simp⟩)
      | (have hb : b = true := by assumption
         have heq : (rdm A i).2 = fc.n := by assumption
         subst hb
         exact ⟨(A.length - (i + 1)).toNat, _, by omega, Wk.narrow _ [2, 7, 8, 9, 10, 11, 12, 13] [2, 7] [110], i + 1, _, rfl, by omega, by omega, rfl, by rw [hcl2, decide_eq_false (fun q => q.2 heq)]; rfl, by rw [hth]; simp⟩)
      | (have hb : b = false := by assumption
         have hne : (rdm A i).1 ≠ fc.name := by assumption
         subst hb
         exact ⟨(A.length - (i + 1)).toNat, _, by omega, Wk.narrow _ [2, 7, 8, 9, 10, 11, 12, 13] [2, 7] [110], i + 1, _, rfl, by omega, by omega, rfl, by rw [hcl2, decide_eq_false (fun q => hne q.1)]; rfl, by rw [hth, beqS]; simp⟩)
      | (have hb : b = false := by assumption
         have heq : (rdm A i).2 = fc.n := by assumption
         subst hb
         exact ⟨(A.length - (i + 1)).toNat, _, by omega, Wk.narrow _ [2, 7, 8, 9, 10, 11, 12, 13] [2, 7] [110], i + 1, _, rfl, by omega, by omega, rfl, by rw [hcl2, decide_eq_false (fun q => q.2 heq)]; rfl, by rw [hth, beqS]; simp⟩)
  rintro _ ⟨hncl, rfl⟩
  rw [if_neg (by rw [hncl]; decide)] at hP
  refine RWP.of tabOk orders ?_
  repeat' ((conv => whnf); (first
    | (with_reducible first | refine Spl.yes ?_ | refine Spl.no ?_ | refine Spl.dec (fun h => ?_) (fun h => ?_) | refine Spl.eq (fun h => ?_) (fun h => ?_) | refine Spl.ne (fun h => ?_) (fun h => ?_) | refine Spl.seq (fun h => ?_) (fun h => ?_) | refine Spl.not ?_ | refine Spl.any (fun h => ?_) (fun h => ?_))
    | refine drawn_text (by decide +kernel) ?_
    | (rw [rowsN_get (by omega)])
    | (rw [hc])
    | refine And.intro (Nat.le_of_ble_eq_true rfl) ?_
    | refine And.intro (by show ((rowsM A).length + 1) * 24 ≤ 140737488355328; omega) ?_
    | ((with_reducible apply And.intro); first | omega | rfl | (dsimp only; omega))))
  all_goals (conv => whnf)
  · rw [if_pos (by assumption)] at hP
    exact ⟨_, Wk.narrow _ [2, 7, 8, 9, 10, 11] [2, 7] [110], A, v, rfl, by omega, hP⟩
  · rw [if_neg (by simp [*])] at hP
    exact ⟨_, Wk.narrow _ [2, 7, 8, 9, 10, 11] [2, 7] [110], A ++ [(fc.name, fc.n)], v, Eq.trans rfl (congrArg (fun X => (⟨114, [(2, .ptr 2 0), (7, .ptr 7 0), (8, .pv (iv most)), (9, .pv (nodesE C)), (10, .own 110), (11, .pv (iv j))], [(2, (27, nzero)), (7, (27, nfe f ks))], [(110, ⟨2, 45, v, X⟩)], []⟩ : St)) (rowsM_snoc A (fc.name, fc.n))), by simp; omega, hP⟩
theorem eqM {a b : List (ByteArray × Int)} (h : a.length = b.length) (k : ∀ i, i < a.length → a.getD i (bs [], 0) = b.getD i (bs [], 0)) : a = b := by
  apply List.ext_getElem h
  intro i h1 h2
  have := k i h1
  simpa [List.getD_eq_getElem?_getD, List.getElem?_eq_getElem h1, List.getElem?_eq_getElem h2] using this
theorem same9_c (a b : List (ByteArray × Int)) (ha : a.length ≤ 1000000000) : VCalls Try.prog 25 [ms a, ms b] (fun r => r = bv (decide (a = b))) := by
  have hla := rowsM_len a
  have hlb := rowsM_len b
  refine VCalls.ofr tabOk Try.func25 (by decide) rfl rfl ?_
  refine RWP.seqx tabOk orders ?_
  conv => whnf
  refine RWP.seqx tabOk orders ?_
  repeat' ((conv => whnf); (first
    | (with_reducible first | refine Spl.yes ?_ | refine Spl.no ?_ | refine Spl.dec (fun h => ?_) (fun h => ?_) | refine Spl.eq (fun h => ?_) (fun h => ?_) | refine Spl.ne (fun h => ?_) (fun h => ?_) | refine Spl.seq (fun h => ?_) (fun h => ?_) | refine Spl.not ?_ | refine Spl.any (fun h => ?_) (fun h => ?_))
    | ((with_reducible apply And.intro); first | omega | rfl | (dsimp only; omega))))
  all_goals (conv => whnf)
  · have e : decide (a = b) = false := decide_eq_false (fun e => by subst e; omega)
    rw [e]; rfl
  refine RWP.seq ?_
  refine RWP.seqx tabOk orders ?_
  conv => whnf
  refine RWP.block ?_
  refine RWP.loop (fun k st => ∃ (j : Int), st = ⟨26, [(0, .pv (ms a)), (1, .pv (ms b)), (5, .pv (iv j))], [], [], []⟩ ∧ 0 ≤ j ∧ j ≤ a.length ∧ k = (a.length - j).toNat ∧ ∀ i : Nat, i < j → a.getD i (bs [], 0) = b.getD i (bs [], 0))
    ⟨_, _, Wk.narrow _ [0, 1, 5] [] [], 0, rfl, by omega, by omega, rfl, by intro i h; omega⟩ ?_
  rintro k st ⟨j, rfl, hj0, hj1, hk, hP⟩
  refine RWP.seqx tabOk orders ?_
  repeat' ((conv => whnf); (first
    | (with_reducible first | refine Spl.yes ?_ | refine Spl.no ?_ | refine Spl.dec (fun h => ?_) (fun h => ?_) | refine Spl.eq (fun h => ?_) (fun h => ?_) | refine Spl.ne (fun h => ?_) (fun h => ?_) | refine Spl.seq (fun h => ?_) (fun h => ?_) | refine Spl.not ?_ | refine Spl.any (fun h => ?_) (fun h => ?_))
    | ((with_reducible apply And.intro); first | omega | rfl | (dsimp only; omega))))
  all_goals (conv => whnf)
  rotate_left
  · have e : decide (a = b) = true := decide_eq_true (eqM (by omega) (fun i hi => hP i (by omega)))
    rw [e]
    refine RWP.of tabOk orders ?_
    conv => whnf
    rfl
  refine RWP.of tabOk orders ?_
  repeat' ((conv => whnf); (first
    | (with_reducible first | refine Spl.yes ?_ | refine Spl.no ?_ | refine Spl.dec (fun h => ?_) (fun h => ?_) | refine Spl.eq (fun h => ?_) (fun h => ?_) | refine Spl.ne (fun h => ?_) (fun h => ?_) | refine Spl.seq (fun h => ?_) (fun h => ?_) | refine Spl.not ?_ | refine Spl.any (fun h => ?_) (fun h => ?_))
    | refine drawn_text (by decide +kernel) ?_
    | (rw [rowsM_get (l := a) (by omega)])
    | (rw [rowsM_get (l := b) (by omega)])
    | refine And.intro (Nat.le_of_ble_eq_true rfl) ?_
    | refine ⟨_, eqS45 _ _ _ _, ?_⟩
    | ((with_reducible apply And.intro); first | omega | rfl | (dsimp only; omega))))
  all_goals (conv => whnf)
  · have h : ((rdm a j).fst.toList == (rdm b j).fst.toList && ((rdm a j).snd == (rdm b j).snd && true)) = true := by assumption
    have he : rdm a j = rdm b j := by
      simp only [beqS, Bool.and_eq_true, decide_eq_true_eq, beq_iff_eq, and_true] at h
      exact Prod.ext h.1 h.2
    refine ⟨(a.length - (j + 1)).toNat, _, by omega, Wk.narrow _ [0, 1, 5] [] [], j + 1, rfl, by omega, by omega, rfl, fun i hi => ?_⟩
    by_cases q : (i : Int) < j
    · exact hP i q
    · have : i = j.toNat := by omega
      subst this
      exact he
  · have h : ((rdm a j).fst.toList == (rdm b j).fst.toList && ((rdm a j).snd == (rdm b j).snd && true)) = false := by assumption
    have e : decide (a = b) = false := decide_eq_false (fun e => by subst e; simp at h)
    rw [e]; rfl
end Go.Proofs.Ytnoohgiecnmajaa.VC

