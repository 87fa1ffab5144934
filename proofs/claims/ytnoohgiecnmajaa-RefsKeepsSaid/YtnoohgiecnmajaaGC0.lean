/- A part of the ground of the proof. No condition. -/
import Derived.Test.YtnoohgiecnmajaaGB0

/- refs: the group that is meant; a node's number is set. -/
namespace Go.Proofs.Ytnoohgiecnmajaa.VC
open Go Go.RowKit
set_option linter.unusedVariables false
set_option linter.unusedSimpArgs false
set_option maxHeartbeats 4000000

/-- How far the groups are, and the error. -/
structure Rs where
  last : Int
  e : Int
  at_ : Int
def rsFs (cnt : Int) (A : List (ByteArray × Int)) (s : Rs) : List FE := [.pv (iv s.last), .pv (iv cnt), .pv (ms A), .pv (iv s.e), .pv (iv s.at_)]
def HR (cnt : Int) (A : List (ByteArray × Int)) (s : Rs) : St := ⟨0, [], [(1000000, (77, rsFs cnt A s))], [], []⟩
def meantP (cnt : Int) (A : List (ByteArray × Int)) (last m k : Int) (nm : ByteArray) : Int :=
  if m = 3 then (findS nm A).getD (-1)
  else if (if m = 1 then last - k + 1 else if m = 2 then last + k else k) > cnt then -1
  else (if m = 1 then last - k + 1 else if m = 2 then last + k else k)
theorem findS_nil' (s : ByteArray) : findS s [] = none := by rw [findS]
theorem findS_cons' (s : ByteArray) (p : ByteArray × Int) (l : List (ByteArray × Int)) : findS s (p :: l) = if p.1 = s then some p.2 else findS s l := by rw [findS]
theorem findS_app (s : ByteArray) (B : List (ByteArray × Int)) : ∀ A : List (ByteArray × Int), findS s A = none → findS s (A ++ B) = findS s B
  | [], _ => rfl
  | p :: l, h => by
    rw [findS_cons'] at h
    rw [List.cons_append, findS_cons']
    by_cases q : p.1 = s
    · rw [if_pos q] at h; cases h
    · rw [if_neg q] at h ⊢; exact findS_app s B l h
set_option maxHeartbeats 16000000
theorem meant_h (cnt : Int) (A : List (ByteArray × Int)) (s : Rs) (m k : Int) (nm : ByteArray) (hA : A.length ≤ 1000000) (hl : 0 ≤ s.last ∧ s.last ≤ 2000000000) (hk : -1000 ≤ k ∧ k ≤ 30000) :
    HCalls Try.prog 94 (HR cnt A s) [.ptr 1000000 0, .pv (iv m), .pv (iv k), .pv (sv nm)] (fun fe H' => fe = .pv (iv (meantP cnt A s.last m k nm)) ∧ H' = HR cnt A s) := by
  have hrl := rowsM_len A
  obtain ⟨last, e, at_⟩ := s
  simp only at hl
  obtain ⟨G, hG⟩ : ∃ G, meantP cnt A last m k nm = G := ⟨_, rfl⟩
  simp only
  rw [hG]
  unfold meantP at hG
  refine HCalls.ofr tabOk Try.func94 (by decide) rfl rfl ?_
  refine RWP.seqx tabOk orders ?_
  conv => whnf
  refine RWP.cutr (fun st => m ≠ 3 ∧ st = ⟨54, [(0, .ptr 1000000 0), (2, .pv (iv (if m = 1 then last - k + 1 else if m = 2 then last + k else k)))], [(1000000, (77, rsFs cnt A ⟨last, e, at_⟩))], [], []⟩) ?_ ?_
  rotate_left
  · rintro _ ⟨h3, rfl⟩
    rw [if_neg h3] at hG
    generalize (if m = 1 then last - k + 1 else if m = 2 then last + k else k) = k' at *
    refine RWP.of tabOk orders ?_
    repeat' ((conv => whnf); (first
    | (with_reducible first | refine Spl.yes ?_ | refine Spl.no ?_ | refine Spl.dec (fun h => ?_) (fun h => ?_) | refine Spl.eq (fun h => ?_) (fun h => ?_) | refine Spl.ne (fun h => ?_) (fun h => ?_) | refine Spl.seq (fun h => ?_) (fun h => ?_) | refine Spl.not ?_ | refine Spl.any (fun h => ?_) (fun h => ?_))
    | ((with_reducible apply And.intro); first | omega | rfl | (dsimp only; omega))))
    all_goals (conv => whnf)
    all_goals (refine ⟨_, Wk.narrow _ [8] [1000000] [], .inl ?_⟩)
    all_goals (conv => whnf)
    · rw [if_pos (by assumption)] at hG; subst hG; exact ⟨rfl, rfl⟩
    · rw [if_neg (by assumption)] at hG; subst hG; exact ⟨rfl, rfl⟩
  refine RWP.seqx tabOk orders ?_
  conv => whnf
  refine RWP.block ?_
  refine RWP.seqx tabOk orders ?_
  conv => whnf
  refine RWP.cond ?_
  conv => whnf
  (with_reducible first | refine Spl.yes ?_ | refine Spl.no ?_ | refine Spl.dec (fun h => ?_) (fun h => ?_) | refine Spl.eq (fun h => ?_) (fun h => ?_) | refine Spl.ne (fun h => ?_) (fun h => ?_) | refine Spl.seq (fun h => ?_) (fun h => ?_) | refine Spl.not ?_ | refine Spl.any (fun h => ?_) (fun h => ?_))
  · have h1 : m = 1 := by assumption
    refine RWP.of tabOk orders ?_
    repeat' ((conv => whnf); (first
    | (with_reducible first | refine Spl.yes ?_ | refine Spl.no ?_ | refine Spl.dec (fun h => ?_) (fun h => ?_) | refine Spl.eq (fun h => ?_) (fun h => ?_) | refine Spl.ne (fun h => ?_) (fun h => ?_) | refine Spl.seq (fun h => ?_) (fun h => ?_) | refine Spl.not ?_ | refine Spl.any (fun h => ?_) (fun h => ?_))
    | ((with_reducible apply And.intro); first | omega | rfl | (dsimp only; omega))))
    all_goals (conv => whnf)
    exact ⟨_, Wk.narrow _ [0, 2] [1000000] [], by omega, by rw [if_pos h1]; rfl⟩
  refine RWP.seqx tabOk orders ?_
  conv => whnf
  refine RWP.cond ?_
  conv => whnf
  (with_reducible first | refine Spl.yes ?_ | refine Spl.no ?_ | refine Spl.dec (fun h => ?_) (fun h => ?_) | refine Spl.eq (fun h => ?_) (fun h => ?_) | refine Spl.ne (fun h => ?_) (fun h => ?_) | refine Spl.seq (fun h => ?_) (fun h => ?_) | refine Spl.not ?_ | refine Spl.any (fun h => ?_) (fun h => ?_))
  · have h1 : m = 2 := by assumption
    refine RWP.of tabOk orders ?_
    repeat' ((conv => whnf); (first
    | (with_reducible first | refine Spl.yes ?_ | refine Spl.no ?_ | refine Spl.dec (fun h => ?_) (fun h => ?_) | refine Spl.eq (fun h => ?_) (fun h => ?_) | refine Spl.ne (fun h => ?_) (fun h => ?_) | refine Spl.seq (fun h => ?_) (fun h => ?_) | refine Spl.not ?_ | refine Spl.any (fun h => ?_) (fun h => ?_))
    | ((with_reducible apply And.intro); first | omega | rfl | (dsimp only; omega))))
    all_goals (conv => whnf)
    exact ⟨_, Wk.narrow _ [0, 2] [1000000] [], by omega, by rw [if_neg (by omega), if_pos h1]; rfl⟩
  refine RWP.seqx tabOk orders ?_
  conv => whnf
  refine RWP.cond ?_
  conv => whnf
  (with_reducible first | refine Spl.yes ?_ | refine Spl.no ?_ | refine Spl.dec (fun h => ?_) (fun h => ?_) | refine Spl.eq (fun h => ?_) (fun h => ?_) | refine Spl.ne (fun h => ?_) (fun h => ?_) | refine Spl.seq (fun h => ?_) (fun h => ?_) | refine Spl.not ?_ | refine Spl.any (fun h => ?_) (fun h => ?_))
  rotate_left
  · refine RWP.of tabOk orders ?_
    repeat' ((conv => whnf); (first
    | (with_reducible first | refine Spl.yes ?_ | refine Spl.no ?_ | refine Spl.dec (fun h => ?_) (fun h => ?_) | refine Spl.eq (fun h => ?_) (fun h => ?_) | refine Spl.ne (fun h => ?_) (fun h => ?_) | refine Spl.seq (fun h => ?_) (fun h => ?_) | refine Spl.not ?_ | refine Spl.any (fun h => ?_) (fun h => ?_))
    | ((with_reducible apply And.intro); first | omega | rfl | (dsimp only; omega))))
    all_goals (conv => whnf)
    exact ⟨_, Wk.narrow _ [0, 2] [1000000] [], by assumption, by rw [if_neg (by assumption), if_neg (by assumption)]; rfl⟩
  have h3 : m = 3 := by assumption
  rw [if_pos h3] at hG
  refine RWP.weak (Wk.narrow _ [0, 3] [1000000] []) ?_
  refine RWP.seq ?_
  refine RWP.seqx tabOk orders ?_
  conv => whnf
  refine RWP.block ?_
  have hbig : ∀ x : Int, 0 ≤ x → 0 ≤ x := fun _ h => h
  refine RWP.loop (fun k st => ∃ (j : Int), st = ⟨54, [(0, .ptr 1000000 0), (3, .pv (sv nm)), (34, .pv (ms A)), (35, .pv (iv (rowsM A).length)), (36, .pv (iv j))], [(1000000, (77, rsFs cnt A ⟨last, e, at_⟩))], [], []⟩ ∧ 0 ≤ j ∧ j ≤ A.length ∧ k = (A.length - j).toNat ∧ findS nm (A.take j.toNat) = none)
    ⟨_, _, Wk.narrow _ [0, 3, 34, 35, 36] [1000000] [], 0, rfl, by omega, by omega, rfl, by show findS nm [] = none; rw [findS]⟩ ?_
  rintro k st ⟨j, rfl, hj0, hj1, hk, hno⟩
  refine RWP.seqx tabOk orders ?_
  conv => whnf
  refine RWP.seqx tabOk orders ?_
  repeat' ((conv => whnf); (first
    | (with_reducible first | refine Spl.yes ?_ | refine Spl.no ?_ | refine Spl.dec (fun h => ?_) (fun h => ?_) | refine Spl.eq (fun h => ?_) (fun h => ?_) | refine Spl.ne (fun h => ?_) (fun h => ?_) | refine Spl.seq (fun h => ?_) (fun h => ?_) | refine Spl.not ?_ | refine Spl.any (fun h => ?_) (fun h => ?_))
    | ((with_reducible apply And.intro); first | omega | rfl | (dsimp only; omega))))
  all_goals (conv => whnf)
  rotate_left
  · have e : j = A.length := by omega
    subst e
    rw [Int.toNat_natCast, List.take_length] at hno
    rw [hno] at hG
    subst hG
    refine RWP.of tabOk orders ?_
    repeat' ((conv => whnf); (first
    | (with_reducible first | refine Spl.yes ?_ | refine Spl.no ?_ | refine Spl.dec (fun h => ?_) (fun h => ?_) | refine Spl.eq (fun h => ?_) (fun h => ?_) | refine Spl.ne (fun h => ?_) (fun h => ?_) | refine Spl.seq (fun h => ?_) (fun h => ?_) | refine Spl.not ?_ | refine Spl.any (fun h => ?_) (fun h => ?_))
    | ((with_reducible apply And.intro); first | omega | rfl | (dsimp only; omega))))
    all_goals (conv => whnf)
    refine ⟨_, Wk.narrow _ [8] [1000000] [], .inl ?_⟩
    conv => whnf
    exact ⟨rfl, rfl⟩
  have hsp := drop_stepM (l := A) hj0 (by omega)
  have htd := List.take_append_drop j.toNat A
  have hts : A.take (j + 1).toNat = A.take j.toNat ++ [rdm A j] := by
    rw [show (j + 1).toNat = j.toNat + 1 by omega, List.take_add_one]
    simp [rdm, List.getD_eq_getElem?_getD, List.getElem?_eq_getElem (show j.toNat < A.length by omega)]
  have hf1 : findS nm A = if (rdm A j).1 = nm then some (rdm A j).2 else findS nm (A.drop (j + 1).toNat) := by
    have := findS_app nm (A.drop j.toNat) (A.take j.toNat) hno
    rw [htd] at this
    rw [this, hsp, findS_cons']
  have hf2 : findS nm (A.take (j + 1).toNat) = if (rdm A j).1 = nm then some (rdm A j).2 else none := by
    rw [hts, findS_app nm _ _ hno, findS_cons', findS_nil']
  generalize hx : rdm A j = x at *
  obtain ⟨xs, xn⟩ := x
  refine RWP.of tabOk orders ?_
  repeat' ((conv => whnf); (first
    | (with_reducible first | refine Spl.yes ?_ | refine Spl.no ?_ | refine Spl.dec (fun h => ?_) (fun h => ?_) | refine Spl.eq (fun h => ?_) (fun h => ?_) | refine Spl.ne (fun h => ?_) (fun h => ?_) | refine Spl.seq (fun h => ?_) (fun h => ?_) | refine Spl.not ?_ | refine Spl.any (fun h => ?_) (fun h => ?_))
    | (rw [rowsM_get (by omega)])
    | (rw [hx])
    | refine And.intro (Nat.le_of_ble_eq_true rfl) ?_
    | ((with_reducible apply And.intro); first | omega | rfl | (dsimp only; omega))))
  all_goals (conv => whnf)
  all_goals first
    | (exact ⟨(A.length - (j + 1)).toNat, _, by omega, Wk.narrow _ [0, 3, 34, 35, 36] [1000000] [], j + 1, rfl, by omega, by omega, rfl, by rw [hf2, if_neg (by assumption)]⟩)
    | (rw [hf1, if_pos (by assumption)] at hG
       subst hG
       refine ⟨_, Wk.narrow _ [8] [1000000] [], .inl ?_⟩
       conv => whnf
       exact ⟨rfl, rfl⟩)
end Go.Proofs.Ytnoohgiecnmajaa.VC

/- refs: a node's number is set; a condition. -/
namespace Go.Proofs.Ytnoohgiecnmajaa.VC
open Go Go.RowKit
set_option linter.unusedVariables false
set_option linter.unusedSimpArgs false
set_option maxHeartbeats 4000000

def HRN (cnt : Int) (A : List (ByteArray × Int)) (s : Rs) (f : NodeF) (ks : List Node) : St := ⟨0, [], [(1000000, (77, rsFs cnt A s)), (1000001, (27, nfe f ks))], [], []⟩
def setS (s : Rs) (v least a : Int) : Rs := if v < least then (if s.e = 0 then { s with e := 34, at_ := a } else s) else s
def setFN (v : Int) (f : NodeF) : NodeF := { f with n := v, m := 0, name := bs [] }
def setFM (v : Int) (f : NodeF) : NodeF := { f with mode := v, m := 0, name := bs [] }
def vN (cnt : Int) (A : List (ByteArray × Int)) (s : Rs) (f : NodeF) : Int := meantP cnt A s.last f.m f.n f.name
def vM (cnt : Int) (A : List (ByteArray × Int)) (s : Rs) (f : NodeF) : Int := meantP cnt A s.last f.m f.mode f.name
attribute [local irreducible] meantP
set_option maxHeartbeats 16000000
theorem setN_h (cnt : Int) (A : List (ByteArray × Int)) (s : Rs) (f : NodeF) (ks : List Node) (least : Int) (hA : A.length ≤ 1000000) (hl : 0 ≤ s.last ∧ s.last ≤ 2000000000) (hk : -1000 ≤ f.n ∧ f.n ≤ 30000) :
    HCalls Try.prog 69 (HRN cnt A s f ks) [.ptr 1000000 0, .ptr 1000001 0, .ptr 1000001 5, .pv (iv least)] (fun fe H' => fe = .pv (.tuple []) ∧ H' = HRN cnt A (setS s (vN cnt A s f) least f.at_) (setFN (vN cnt A s f) f) ks) := by
  have hm := meant_h cnt A s f.m f.n f.name hA hl hk
  unfold vN
  obtain ⟨last, e, at_⟩ := s
  simp only at hm ⊢
  generalize meantP cnt A last f.m f.n f.name = v at *
  obtain ⟨G, hG⟩ : ∃ G, setS ⟨last, e, at_⟩ v least f.at_ = G := ⟨_, rfl⟩
  rw [hG]
  unfold setS at hG
  refine HCalls.ofr tabOk Try.func69 (by decide) rfl rfl ?_
  refine RWP.of tabOk orders ?_
  repeat' ((conv => whnf); (first
    | (with_reducible first | refine Spl.yes ?_ | refine Spl.no ?_ | refine Spl.dec (fun h => ?_) (fun h => ?_) | refine Spl.eq (fun h => ?_) (fun h => ?_) | refine Spl.ne (fun h => ?_) (fun h => ?_) | refine Spl.seq (fun h => ?_) (fun h => ?_) | refine Spl.not ?_ | refine Spl.any (fun h => ?_) (fun h => ?_))
    | refine drawn_text (by decide +kernel) ?_
    | (refine HQ.use (hm) ⟨id, id, id⟩ ⟨rfl, rfl⟩ rfl rfl (by first | exact ⟨⟨rfl, rfl⟩, trivial⟩ | exact ⟨⟨rfl, rfl⟩, ⟨rfl, rfl⟩, trivial⟩) (by first | exact trivial | exact ⟨⟨rfl, rfl⟩, trivial⟩ | exact ⟨⟨rfl, rfl⟩, ⟨rfl, rfl⟩, trivial⟩) (by first | exact trivial | exact ⟨⟨rfl, rfl⟩, trivial⟩) ?_; rintro _ _ ⟨rfl, rfl⟩; refine ⟨⟨rfl, rfl, rfl⟩, ?_⟩)
    | refine And.intro (Nat.le_of_ble_eq_true rfl) ?_
    | ((with_reducible apply And.intro); first | omega | rfl | (dsimp only; omega))))
  all_goals (conv => whnf)
  all_goals (refine ⟨_, Wk.narrow _ [0] [1000000, 1000001] [], .inl ?_⟩)
  all_goals (conv => whnf)
  · rw [if_pos (by assumption), if_pos (by assumption)] at hG
    subst hG
    exact ⟨rfl, rfl⟩
  · rw [if_pos (by assumption), if_neg (by assumption)] at hG
    subst hG
    exact ⟨rfl, rfl⟩
  · rw [if_neg (by assumption)] at hG
    subst hG
    exact ⟨rfl, rfl⟩
theorem setM_h (cnt : Int) (A : List (ByteArray × Int)) (s : Rs) (f : NodeF) (ks : List Node) (least : Int) (hA : A.length ≤ 1000000) (hl : 0 ≤ s.last ∧ s.last ≤ 2000000000) (hk : -1000 ≤ f.mode ∧ f.mode ≤ 30000) :
    HCalls Try.prog 69 (HRN cnt A s f ks) [.ptr 1000000 0, .ptr 1000001 0, .ptr 1000001 7, .pv (iv least)] (fun fe H' => fe = .pv (.tuple []) ∧ H' = HRN cnt A (setS s (vM cnt A s f) least f.at_) (setFM (vM cnt A s f) f) ks) := by
  have hm := meant_h cnt A s f.m f.mode f.name hA hl hk
  unfold vM
  obtain ⟨last, e, at_⟩ := s
  simp only at hm ⊢
  generalize meantP cnt A last f.m f.mode f.name = v at *
  obtain ⟨G, hG⟩ : ∃ G, setS ⟨last, e, at_⟩ v least f.at_ = G := ⟨_, rfl⟩
  rw [hG]
  unfold setS at hG
  refine HCalls.ofr tabOk Try.func69 (by decide) rfl rfl ?_
  refine RWP.of tabOk orders ?_
  repeat' ((conv => whnf); (first
    | (with_reducible first | refine Spl.yes ?_ | refine Spl.no ?_ | refine Spl.dec (fun h => ?_) (fun h => ?_) | refine Spl.eq (fun h => ?_) (fun h => ?_) | refine Spl.ne (fun h => ?_) (fun h => ?_) | refine Spl.seq (fun h => ?_) (fun h => ?_) | refine Spl.not ?_ | refine Spl.any (fun h => ?_) (fun h => ?_))
    | refine drawn_text (by decide +kernel) ?_
    | (refine HQ.use (hm) ⟨id, id, id⟩ ⟨rfl, rfl⟩ rfl rfl (by first | exact ⟨⟨rfl, rfl⟩, trivial⟩ | exact ⟨⟨rfl, rfl⟩, ⟨rfl, rfl⟩, trivial⟩) (by first | exact trivial | exact ⟨⟨rfl, rfl⟩, trivial⟩ | exact ⟨⟨rfl, rfl⟩, ⟨rfl, rfl⟩, trivial⟩) (by first | exact trivial | exact ⟨⟨rfl, rfl⟩, trivial⟩) ?_; rintro _ _ ⟨rfl, rfl⟩; refine ⟨⟨rfl, rfl, rfl⟩, ?_⟩)
    | refine And.intro (Nat.le_of_ble_eq_true rfl) ?_
    | ((with_reducible apply And.intro); first | omega | rfl | (dsimp only; omega))))
  all_goals (conv => whnf)
  all_goals (refine ⟨_, Wk.narrow _ [0] [1000000, 1000001] [], .inl ?_⟩)
  all_goals (conv => whnf)
  · rw [if_pos (by assumption), if_pos (by assumption)] at hG
    subst hG
    exact ⟨rfl, rfl⟩
  · rw [if_pos (by assumption), if_neg (by assumption)] at hG
    subst hG
    exact ⟨rfl, rfl⟩
  · rw [if_neg (by assumption)] at hG
    subst hG
    exact ⟨rfl, rfl⟩
/-- A condition's reference. -/
def condF (cnt : Int) (A : List (ByteArray × Int)) (s : Rs) (f : NodeF) : NodeF × Rs :=
  if f.n = 11 then
    if f.mode = -1 then (f, s)
    else (setFM (vM cnt A s f) f, setS s (vM cnt A s f) (if f.m = 3 then 1 else 0) f.at_)
  else if f.n = 10 then (setFM (vM cnt A s { f with n := 9, m := 3 }) { f with n := 9, m := 3 }, setS s (vM cnt A s { f with n := 9, m := 3 }) 1 f.at_)
  else if f.n = 9 then (setFM (vM cnt A s f) f, setS s (vM cnt A s f) 1 f.at_)
  else (f, s)
attribute [local irreducible] setS vM vN
theorem cond_h (cnt : Int) (A : List (ByteArray × Int)) (s : Rs) (f : NodeF) (ks : List Node) (hA : A.length ≤ 1000000) (hl : 0 ≤ s.last ∧ s.last ≤ 2000000000) (hk : -1000 ≤ f.mode ∧ f.mode ≤ 30000) :
    HCalls Try.prog 70 (HRN cnt A s f ks) [.ptr 1000000 0, .ptr 1000001 0] (fun fe H' => fe = .pv (.tuple []) ∧ H' = HRN cnt A (condF cnt A s f).2 (condF cnt A s f).1 ks) := by
  have hm1 := setM_h cnt A s f ks (if f.m = 3 then 1 else 0) hA hl hk
  have hm2 := setM_h cnt A s f ks 1 hA hl hk
  have hm3 := setM_h cnt A s { f with n := 9, m := 3 } ks 1 hA hl hk
  obtain ⟨G, hG⟩ : ∃ G, condF cnt A s f = G := ⟨_, rfl⟩
  rw [hG]
  unfold condF at hG
  refine HCalls.ofr tabOk Try.func70 (by decide) rfl rfl ?_
  refine RWP.of tabOk orders ?_
  repeat' ((conv => whnf); (first
    | (with_reducible first | refine Spl.yes ?_ | refine Spl.no ?_ | refine Spl.dec (fun h => ?_) (fun h => ?_) | refine Spl.eq (fun h => ?_) (fun h => ?_) | refine Spl.ne (fun h => ?_) (fun h => ?_) | refine Spl.seq (fun h => ?_) (fun h => ?_) | refine Spl.not ?_ | refine Spl.any (fun h => ?_) (fun h => ?_))
    | refine And.intro (Nat.le_of_ble_eq_true rfl) ?_
    | ((with_reducible apply And.intro); first | omega | rfl | (dsimp only; omega))))
  all_goals (conv => whnf)
  · rw [if_pos (by assumption), if_pos (by assumption)] at hG
    subst hG
    refine ⟨_, Wk.narrow _ [0] [1000000, 1000001] [], .inl ?_⟩
    conv => whnf
    exact ⟨rfl, rfl⟩
  · rw [if_pos (by assumption), if_neg (by assumption), if_neg (by assumption)] at hG
    subst hG
    rw [if_neg (by assumption)] at hm1
    (refine HQ.use (hm1) ⟨id, id, id⟩ ⟨rfl, rfl⟩ rfl rfl (by first | exact ⟨⟨rfl, rfl⟩, trivial⟩ | exact ⟨⟨rfl, rfl⟩, ⟨rfl, rfl⟩, trivial⟩) (by first | exact trivial | exact ⟨⟨rfl, rfl⟩, trivial⟩ | exact ⟨⟨rfl, rfl⟩, ⟨rfl, rfl⟩, trivial⟩) (by first | exact trivial | exact ⟨⟨rfl, rfl⟩, trivial⟩) ?_; rintro _ _ ⟨rfl, rfl⟩; refine ⟨⟨rfl, rfl, rfl⟩, ?_⟩)
    repeat' ((conv => whnf); (first
    | (with_reducible first | refine Spl.yes ?_ | refine Spl.no ?_ | refine Spl.dec (fun h => ?_) (fun h => ?_) | refine Spl.eq (fun h => ?_) (fun h => ?_) | refine Spl.ne (fun h => ?_) (fun h => ?_) | refine Spl.seq (fun h => ?_) (fun h => ?_) | refine Spl.not ?_ | refine Spl.any (fun h => ?_) (fun h => ?_))
    | ((with_reducible apply And.intro); first | omega | rfl | (dsimp only; omega))))
    all_goals (conv => whnf)
    refine ⟨_, Wk.narrow _ [0] [1000000, 1000001] [], .inl ?_⟩
    conv => whnf
    exact ⟨rfl, rfl⟩
  · rw [if_pos (by assumption), if_neg (by assumption), if_pos (by assumption)] at hG
    subst hG
    rw [if_pos (by assumption)] at hm1
    (refine HQ.use (hm1) ⟨id, id, id⟩ ⟨rfl, rfl⟩ rfl rfl (by first | exact ⟨⟨rfl, rfl⟩, trivial⟩ | exact ⟨⟨rfl, rfl⟩, ⟨rfl, rfl⟩, trivial⟩) (by first | exact trivial | exact ⟨⟨rfl, rfl⟩, trivial⟩ | exact ⟨⟨rfl, rfl⟩, ⟨rfl, rfl⟩, trivial⟩) (by first | exact trivial | exact ⟨⟨rfl, rfl⟩, trivial⟩) ?_; rintro _ _ ⟨rfl, rfl⟩; refine ⟨⟨rfl, rfl, rfl⟩, ?_⟩)
    repeat' ((conv => whnf); (first
    | (with_reducible first | refine Spl.yes ?_ | refine Spl.no ?_ | refine Spl.dec (fun h => ?_) (fun h => ?_) | refine Spl.eq (fun h => ?_) (fun h => ?_) | refine Spl.ne (fun h => ?_) (fun h => ?_) | refine Spl.seq (fun h => ?_) (fun h => ?_) | refine Spl.not ?_ | refine Spl.any (fun h => ?_) (fun h => ?_))
    | ((with_reducible apply And.intro); first | omega | rfl | (dsimp only; omega))))
    all_goals (conv => whnf)
    refine ⟨_, Wk.narrow _ [0] [1000000, 1000001] [], .inl ?_⟩
    conv => whnf
    exact ⟨rfl, rfl⟩
  · rw [if_neg (by assumption), if_pos (by assumption)] at hG
    subst hG
    (refine HQ.use (hm3) ⟨id, id, id⟩ ⟨rfl, rfl⟩ rfl rfl (by first | exact ⟨⟨rfl, rfl⟩, trivial⟩ | exact ⟨⟨rfl, rfl⟩, ⟨rfl, rfl⟩, trivial⟩) (by first | exact trivial | exact ⟨⟨rfl, rfl⟩, trivial⟩ | exact ⟨⟨rfl, rfl⟩, ⟨rfl, rfl⟩, trivial⟩) (by first | exact trivial | exact ⟨⟨rfl, rfl⟩, trivial⟩) ?_; rintro _ _ ⟨rfl, rfl⟩; refine ⟨⟨rfl, rfl, rfl⟩, ?_⟩)
    repeat' ((conv => whnf); (first
    | (with_reducible first | refine Spl.yes ?_ | refine Spl.no ?_ | refine Spl.dec (fun h => ?_) (fun h => ?_) | refine Spl.eq (fun h => ?_) (fun h => ?_) | refine Spl.ne (fun h => ?_) (fun h => ?_) | refine Spl.seq (fun h => ?_) (fun h => ?_) | refine Spl.not ?_ | refine Spl.any (fun h => ?_) (fun h => ?_))
    | ((with_reducible apply And.intro); first | omega | rfl | (dsimp only; omega))))
    all_goals (conv => whnf)
    refine ⟨_, Wk.narrow _ [0] [1000000, 1000001] [], .inl ?_⟩
    conv => whnf
    exact ⟨rfl, rfl⟩
  · rw [if_neg (by assumption), if_neg (by assumption), if_pos (by assumption)] at hG
    subst hG
    (refine HQ.use (hm2) ⟨id, id, id⟩ ⟨rfl, rfl⟩ rfl rfl (by first | exact ⟨⟨rfl, rfl⟩, trivial⟩ | exact ⟨⟨rfl, rfl⟩, ⟨rfl, rfl⟩, trivial⟩) (by first | exact trivial | exact ⟨⟨rfl, rfl⟩, trivial⟩ | exact ⟨⟨rfl, rfl⟩, ⟨rfl, rfl⟩, trivial⟩) (by first | exact trivial | exact ⟨⟨rfl, rfl⟩, trivial⟩) ?_; rintro _ _ ⟨rfl, rfl⟩; refine ⟨⟨rfl, rfl, rfl⟩, ?_⟩)
    repeat' ((conv => whnf); (first
    | (with_reducible first | refine Spl.yes ?_ | refine Spl.no ?_ | refine Spl.dec (fun h => ?_) (fun h => ?_) | refine Spl.eq (fun h => ?_) (fun h => ?_) | refine Spl.ne (fun h => ?_) (fun h => ?_) | refine Spl.seq (fun h => ?_) (fun h => ?_) | refine Spl.not ?_ | refine Spl.any (fun h => ?_) (fun h => ?_))
    | ((with_reducible apply And.intro); first | omega | rfl | (dsimp only; omega))))
    all_goals (conv => whnf)
    refine ⟨_, Wk.narrow _ [0] [1000000, 1000001] [], .inl ?_⟩
    conv => whnf
    exact ⟨rfl, rfl⟩
  · rw [if_neg (by assumption), if_neg (by assumption), if_neg (by assumption)] at hG
    subst hG
    refine ⟨_, Wk.narrow _ [0] [1000000, 1000001] [], .inl ?_⟩
    conv => whnf
    exact ⟨rfl, rfl⟩
end Go.Proofs.Ytnoohgiecnmajaa.VC

/- refs: a node with its references resolved. -/
namespace Go.Proofs.Ytnoohgiecnmajaa.VC
open Go Go.RowKit
set_option linter.unusedVariables false
set_option linter.unusedSimpArgs false
set_option maxHeartbeats 4000000

def headP (cnt : Int) (A : List (ByteArray × Int)) (f : NodeF) (s : Rs) : NodeF × Rs :=
  if f.kind = 14 then (f, { s with last := f.n })
  else if f.kind = 7 then (setFN (vN cnt A s f) f, setS s (vN cnt A s f) 1 f.at_)
  else if f.kind = 8 then (setFN (vN cnt A s f) f, setS s (vN cnt A s f) 0 f.at_)
  else if f.kind = 19 then condF cnt A s f
  else (f, s)
mutual
def nodeP (cnt : Int) (A : List (ByteArray × Int)) : Node → Rs → Node × Rs
  | .mk f ks, s =>
    if s.e ≠ 0 then (.mk f ks, s)
    else (.mk (headP cnt A f s).1 (kidsP cnt A ks (decide (f.kind = 16)) (headP cnt A f s).2.last (headP cnt A f s).2.last (headP cnt A f s).2).1,
      if f.kind = 16 then { (kidsP cnt A ks (decide (f.kind = 16)) (headP cnt A f s).2.last (headP cnt A f s).2.last (headP cnt A f s).2).2.2 with last := (kidsP cnt A ks (decide (f.kind = 16)) (headP cnt A f s).2.last (headP cnt A f s).2.last (headP cnt A f s).2).2.1 }
      else (kidsP cnt A ks (decide (f.kind = 16)) (headP cnt A f s).2.last (headP cnt A f s).2.last (headP cnt A f s).2).2.2)
def kidsP (cnt : Int) (A : List (ByteArray × Int)) : List Node → Bool → Int → Int → Rs → List Node × Int × Rs
  | [], _, _, most, s => ([], most, s)
  | k :: l, rs, first, most, s =>
    ((nodeP cnt A k (if rs = true then { s with last := first } else s)).1 ::
      (kidsP cnt A l rs first (mxP (nodeP cnt A k (if rs = true then { s with last := first } else s)).2.last most) (nodeP cnt A k (if rs = true then { s with last := first } else s)).2).1,
     (kidsP cnt A l rs first (mxP (nodeP cnt A k (if rs = true then { s with last := first } else s)).2.last most) (nodeP cnt A k (if rs = true then { s with last := first } else s)).2).2)
end
section
variable {cnt : Int} {A : List (ByteArray × Int)}
theorem kidsP_nil (rs : Bool) (a b : Int) (c : Rs) : kidsP cnt A [] rs a b c = ([], b, c) := by rw [kidsP]
theorem kidsP_snoc (k : Node) : ∀ (l : List Node) (rs : Bool) (a b : Int) (c : Rs), kidsP cnt A (l ++ [k]) rs a b c =
    ((kidsP cnt A l rs a b c).1 ++ [(nodeP cnt A k (if rs = true then { (kidsP cnt A l rs a b c).2.2 with last := a } else (kidsP cnt A l rs a b c).2.2)).1],
     mxP (nodeP cnt A k (if rs = true then { (kidsP cnt A l rs a b c).2.2 with last := a } else (kidsP cnt A l rs a b c).2.2)).2.last (kidsP cnt A l rs a b c).2.1,
     (nodeP cnt A k (if rs = true then { (kidsP cnt A l rs a b c).2.2 with last := a } else (kidsP cnt A l rs a b c).2.2)).2)
  | [], rs, a, b, c => by rw [List.nil_append, kidsP, kidsP, kidsP]; rfl
  | x :: l, rs, a, b, c => by
    rw [List.cons_append, kidsP, kidsP, kidsP_snoc k l]
    rfl
theorem kidsP_len : ∀ (l : List Node) (rs : Bool) (a b : Int) (c : Rs), (kidsP cnt A l rs a b c).1.length = l.length
  | [], rs, a, b, c => by rw [kidsP]
  | k :: l, rs, a, b, c => by rw [kidsP]; simp [kidsP_len l]
theorem setS_last (s : Rs) (v least a : Int) : (setS s v least a).last = s.last := by
  unfold setS
  split
  · split <;> rfl
  · rfl
theorem condF_last (s : Rs) (f : NodeF) : (condF cnt A s f).2.last = s.last := by
  unfold condF
  repeat' split
  all_goals first | rfl | exact setS_last _ _ _ _
theorem headP_last (f : NodeF) (s : Rs) : (headP cnt A f s).2.last = if f.kind = 14 then f.n else s.last := by
  unfold headP
  by_cases q : f.kind = 14
  · rw [if_pos q, if_pos q]
  rw [if_neg q, if_neg q]
  repeat' split
  all_goals first | rfl | exact setS_last _ _ _ _ | exact condF_last _ _
theorem condF_same (s : Rs) (f : NodeF) : (condF cnt A s f).1.kind = f.kind ∧ (condF cnt A s f).1.set = f.set := by
  unfold condF setFM
  repeat' split
  all_goals exact ⟨rfl, rfl⟩
theorem headP_same (f : NodeF) (s : Rs) : (headP cnt A f s).1.kind = f.kind ∧ (headP cnt A f s).1.set = f.set := by
  unfold headP setFN
  repeat' split
  all_goals first | exact ⟨rfl, rfl⟩ | exact condF_same _ _
end
/-- What resolving references asks of a node. -/
def RefOk (n : Node) : Prop := n.f.set.length ≤ 4000000000 ∧ (-1000 ≤ n.f.n ∧ n.f.n ≤ 30000) ∧ (-1000 ≤ n.f.mode ∧ n.f.mode ≤ 30000) ∧ (n.f.kind = 14 → 0 ≤ n.f.n)
mutual
theorem nodeP_le (cnt : Int) (A : List (ByteArray × Int)) : ∀ (n : Node) (c : Rs), n.all RefOk → 0 ≤ c.last → c.last ≤ 30000 → 0 ≤ (nodeP cnt A n c).2.last ∧ (nodeP cnt A n c).2.last ≤ 30000
  | .mk f ks, c, ha, h0, h1 => by
    rw [Node.all] at ha
    have hn : (-1000 ≤ f.n ∧ f.n ≤ 30000) := ha.1.2.1
    have h14 : f.kind = 14 → 0 ≤ f.n := ha.1.2.2.2
    rw [nodeP]
    split
    · exact ⟨h0, h1⟩
    · have hl := headP_last (cnt := cnt) (A := A) f c
      have hb : 0 ≤ (headP cnt A f c).2.last ∧ (headP cnt A f c).2.last ≤ 30000 := by rw [hl]; split <;> omega
      have h2 := kidsP_le cnt A ks (decide (f.kind = 16)) (headP cnt A f c).2.last (headP cnt A f c).2.last (headP cnt A f c).2 ha.2 hb.1 hb.2 hb.1 hb.2 hb.1 hb.2
      split
      · exact ⟨h2.1, h2.2.1⟩
      · exact ⟨h2.2.2.1, h2.2.2.2⟩
theorem kidsP_le (cnt : Int) (A : List (ByteArray × Int)) : ∀ (l : List Node) (rs : Bool) (a b : Int) (c : Rs), allN RefOk l → 0 ≤ a → a ≤ 30000 → 0 ≤ b → b ≤ 30000 → 0 ≤ c.last → c.last ≤ 30000 →
    0 ≤ (kidsP cnt A l rs a b c).2.1 ∧ (kidsP cnt A l rs a b c).2.1 ≤ 30000 ∧ 0 ≤ (kidsP cnt A l rs a b c).2.2.last ∧ (kidsP cnt A l rs a b c).2.2.last ≤ 30000
  | [], rs, a, b, c, ha, h1, h2, h3, h4, h5, h6 => by rw [kidsP]; simp only; omega
  | k :: l, rs, a, b, c, ha, h1, h2, h3, h4, h5, h6 => by
    rw [allN] at ha
    rw [kidsP]
    have hc : ∃ c1, (if rs = true then { c with last := a } else c) = c1 ∧ 0 ≤ c1.last ∧ c1.last ≤ 30000 := by
      split
      · exact ⟨_, rfl, h1, h2⟩
      · exact ⟨_, rfl, h5, h6⟩
    obtain ⟨c1, e, q1, q2⟩ := hc
    rw [e]
    have h7 := nodeP_le cnt A k c1 ha.1 q1 q2
    generalize nodeP cnt A k c1 = r at *
    have hm : 0 ≤ mxP r.2.last b ∧ mxP r.2.last b ≤ 30000 := by unfold mxP; split <;> omega
    exact kidsP_le cnt A l rs a (mxP r.2.last b) r.2 ha.2 h1 h2 hm.1 hm.2 h7.1 h7.2
end
theorem all_take {P : Node → Prop} : ∀ {l : List Node} (n : Nat), allN P l → allN P (l.take n)
  | [], n, h => by rw [List.take_nil]; exact h
  | k :: l, 0, h => by rw [List.take_zero, allN]; trivial
  | k :: l, n + 1, h => by rw [allN] at h; rw [List.take_succ_cons, allN]; exact ⟨h.1, all_take n h.2⟩
attribute [local irreducible] nodeP kidsP condF setS vN
def NpC (cnt : Int) (A : List (ByteArray × Int)) (n : Node) : Prop := ∀ s : Rs, 0 ≤ s.last → s.last ≤ 30000 →
  HCalls Try.prog 48 (HR cnt A s) [.ptr 1000000 0, .pv n.enc] (fun fe H' => fe = .pv (nodeP cnt A n s).1.enc ∧ H' = HR cnt A (nodeP cnt A n s).2)
def headSt (cnt : Int) (A : List (ByteArray × Int)) (f : NodeF) (ks : List Node) (s : Rs) : St :=
  ⟨88, [(0, .ptr 1000000 0), (3, .ptr 3 0), (4, .ptr 4 0)], [(1000000, (77, rsFs cnt A s)), (3, (27, nfe f ks)), (4, (27, nzero))], [], []⟩
def kidRt (cnt : Int) (A : List (ByteArray × Int)) (s1 : Rs) (f : NodeF) (ks : List Node) (v : Bool) (j most : Int) (s : Rs) (o : List (List SV)) : St :=
  ⟨88, [(0, .ptr 1000000 0), (3, .ptr 3 0), (4, .ptr 4 0), (5, .pv (iv s1.last)), (6, .pv (iv most)), (7, .own 66), (48, .pv (nodesE ks)), (49, .pv (iv (rowsN ks).length)), (50, .pv (iv j))], [(1000000, (77, rsFs cnt A s)), (3, (27, nfe f ks)), (4, (27, nzero))], [(66, ⟨12, 27, v, o⟩)], []⟩
set_option maxHeartbeats 16000000
theorem np_step (cnt : Int) (A : List (ByteArray × Int)) (hA : A.length ≤ 1000000) (f : NodeF) (ks : List Node) (ha : (Node.mk f ks).all RefOk) (hw : wN ks ≤ 1000000) (ih : ∀ n ∈ ks, NpC cnt A n) : NpC cnt A (.mk f ks) := by
  intro c h0 h1
  rw [Node.all] at ha
  have hset : f.set.length ≤ 4000000000 := ha.1.1
  have hnr : (-1000 ≤ f.n ∧ f.n ≤ 30000) := ha.1.2.1
  have hmr : (-1000 ≤ f.mode ∧ f.mode ≤ 30000) := ha.1.2.2.1
  have h14 : f.kind = 14 → 0 ≤ f.n := ha.1.2.2.2
  have hks := ha.2
  have hn := rowsN_len ks
  have hl := wN_len ks
  have hs2 := rows2_len f.set
  obtain ⟨G, hG⟩ : ∃ G, nodeP cnt A (.mk f ks) c = G := ⟨_, rfl⟩
  rw [hG]
  rw [nodeP] at hG
  refine HCalls.ofr tabOk Try.func48 (by decide) rfl rfl ?_
  obtain ⟨last, e, at_⟩ := c
  simp only at h0 h1 hG
  refine RWP.seqx tabOk orders ?_
  conv => whnf
  refine RWP.seqx tabOk orders ?_
  repeat' ((conv => whnf); (first
    | (with_reducible first | refine Spl.yes ?_ | refine Spl.no ?_ | refine Spl.dec (fun h => ?_) (fun h => ?_) | refine Spl.eq (fun h => ?_) (fun h => ?_) | refine Spl.ne (fun h => ?_) (fun h => ?_) | refine Spl.seq (fun h => ?_) (fun h => ?_) | refine Spl.not ?_ | refine Spl.any (fun h => ?_) (fun h => ?_))
    | refine And.intro (Nat.le_of_ble_eq_true rfl) ?_
    | ((with_reducible apply And.intro); first | omega | rfl | (dsimp only; omega))))
  all_goals (conv => whnf)
  · rw [if_pos (by assumption)] at hG
    subst hG
    refine ⟨_, Wk.narrow _ [4] [1000000, 4] [], .inl ?_⟩
    conv => whnf
    exact ⟨rfl, rfl⟩
  have he : e = 0 := by assumption
  rw [if_neg (by simp [he])] at hG
  have hl1 : (headP cnt A f ⟨last, e, at_⟩).2.last = if f.kind = 14 then f.n else last := headP_last (cnt := cnt) (A := A) f ⟨last, e, at_⟩
  have hsm := headP_same (cnt := cnt) (A := A) f ⟨last, e, at_⟩
  have hset1 := setN_h cnt A ⟨last, e, at_⟩ f ks 1 hA ⟨h0, by simp only; omega⟩ hnr
  have hset0 := setN_h cnt A ⟨last, e, at_⟩ f ks 0 hA ⟨h0, by simp only; omega⟩ hnr
  have hcond := cond_h cnt A ⟨last, e, at_⟩ f ks hA ⟨h0, by simp only; omega⟩ hmr
  refine RWP.cutr (fun st => st = headSt cnt A (headP cnt A f ⟨last, e, at_⟩).1 ks (headP cnt A f ⟨last, e, at_⟩).2) ?_ ?_
  · unfold headP
    refine RWP.seqx tabOk orders ?_
    conv => whnf
    refine RWP.block ?_
    refine RWP.seqx tabOk orders ?_
    conv => whnf
    refine RWP.cond ?_
    conv => whnf
    (with_reducible first | refine Spl.yes ?_ | refine Spl.no ?_ | refine Spl.dec (fun h => ?_) (fun h => ?_) | refine Spl.eq (fun h => ?_) (fun h => ?_) | refine Spl.ne (fun h => ?_) (fun h => ?_) | refine Spl.seq (fun h => ?_) (fun h => ?_) | refine Spl.not ?_ | refine Spl.any (fun h => ?_) (fun h => ?_))
    · rw [if_pos (by assumption)]
      refine RWP.of tabOk orders ?_
      repeat' ((conv => whnf); (first
    | (with_reducible first | refine Spl.yes ?_ | refine Spl.no ?_ | refine Spl.dec (fun h => ?_) (fun h => ?_) | refine Spl.eq (fun h => ?_) (fun h => ?_) | refine Spl.ne (fun h => ?_) (fun h => ?_) | refine Spl.seq (fun h => ?_) (fun h => ?_) | refine Spl.not ?_ | refine Spl.any (fun h => ?_) (fun h => ?_))
    | ((with_reducible apply And.intro); first | omega | rfl | (dsimp only; omega))))
      all_goals (conv => whnf)
      exact ⟨_, Wk.narrow _ [0, 3, 4] [1000000, 3, 4] [], rfl⟩
    rw [if_neg (by assumption)]
    refine RWP.seqx tabOk orders ?_
    conv => whnf
    refine RWP.cond ?_
    conv => whnf
    (with_reducible first | refine Spl.yes ?_ | refine Spl.no ?_ | refine Spl.dec (fun h => ?_) (fun h => ?_) | refine Spl.eq (fun h => ?_) (fun h => ?_) | refine Spl.ne (fun h => ?_) (fun h => ?_) | refine Spl.seq (fun h => ?_) (fun h => ?_) | refine Spl.not ?_ | refine Spl.any (fun h => ?_) (fun h => ?_))
    · rw [if_pos (by assumption)]
      refine RWP.of tabOk orders ?_
      repeat' ((conv => whnf); (first
    | (with_reducible first | refine Spl.yes ?_ | refine Spl.no ?_ | refine Spl.dec (fun h => ?_) (fun h => ?_) | refine Spl.eq (fun h => ?_) (fun h => ?_) | refine Spl.ne (fun h => ?_) (fun h => ?_) | refine Spl.seq (fun h => ?_) (fun h => ?_) | refine Spl.not ?_ | refine Spl.any (fun h => ?_) (fun h => ?_))
    | (refine HQ.use (hset1) ⟨fun k => if k = 1000001 then 3 else k, id, id⟩ ⟨rfl, rfl⟩ rfl rfl (by first | exact ⟨⟨rfl, rfl⟩, trivial⟩ | exact ⟨⟨rfl, rfl⟩, ⟨rfl, rfl⟩, trivial⟩) (by first | exact trivial | exact ⟨⟨rfl, rfl⟩, trivial⟩ | exact ⟨⟨rfl, rfl⟩, ⟨rfl, rfl⟩, trivial⟩) (by first | exact trivial | exact ⟨⟨rfl, rfl⟩, trivial⟩) ?_; rintro _ _ ⟨rfl, rfl⟩; refine ⟨⟨rfl, rfl, rfl⟩, ?_⟩)
    | ((with_reducible apply And.intro); first | omega | rfl | (dsimp only; omega))))
      all_goals (conv => whnf)
      exact ⟨_, Wk.narrow _ [0, 3, 4] [1000000, 3, 4] [], rfl⟩
    rw [if_neg (by assumption)]
    refine RWP.seqx tabOk orders ?_
    conv => whnf
    refine RWP.cond ?_
    conv => whnf
    (with_reducible first | refine Spl.yes ?_ | refine Spl.no ?_ | refine Spl.dec (fun h => ?_) (fun h => ?_) | refine Spl.eq (fun h => ?_) (fun h => ?_) | refine Spl.ne (fun h => ?_) (fun h => ?_) | refine Spl.seq (fun h => ?_) (fun h => ?_) | refine Spl.not ?_ | refine Spl.any (fun h => ?_) (fun h => ?_))
    · rw [if_pos (by assumption)]
      refine RWP.of tabOk orders ?_
      repeat' ((conv => whnf); (first
    | (with_reducible first | refine Spl.yes ?_ | refine Spl.no ?_ | refine Spl.dec (fun h => ?_) (fun h => ?_) | refine Spl.eq (fun h => ?_) (fun h => ?_) | refine Spl.ne (fun h => ?_) (fun h => ?_) | refine Spl.seq (fun h => ?_) (fun h => ?_) | refine Spl.not ?_ | refine Spl.any (fun h => ?_) (fun h => ?_))
    | (refine HQ.use (hset0) ⟨fun k => if k = 1000001 then 3 else k, id, id⟩ ⟨rfl, rfl⟩ rfl rfl (by first | exact ⟨⟨rfl, rfl⟩, trivial⟩ | exact ⟨⟨rfl, rfl⟩, ⟨rfl, rfl⟩, trivial⟩) (by first | exact trivial | exact ⟨⟨rfl, rfl⟩, trivial⟩ | exact ⟨⟨rfl, rfl⟩, ⟨rfl, rfl⟩, trivial⟩) (by first | exact trivial | exact ⟨⟨rfl, rfl⟩, trivial⟩) ?_; rintro _ _ ⟨rfl, rfl⟩; refine ⟨⟨rfl, rfl, rfl⟩, ?_⟩)
    | ((with_reducible apply And.intro); first | omega | rfl | (dsimp only; omega))))
      all_goals (conv => whnf)
      exact ⟨_, Wk.narrow _ [0, 3, 4] [1000000, 3, 4] [], rfl⟩
    rw [if_neg (by assumption)]
    refine RWP.seqx tabOk orders ?_
    conv => whnf
    refine RWP.cond ?_
    conv => whnf
    (with_reducible first | refine Spl.yes ?_ | refine Spl.no ?_ | refine Spl.dec (fun h => ?_) (fun h => ?_) | refine Spl.eq (fun h => ?_) (fun h => ?_) | refine Spl.ne (fun h => ?_) (fun h => ?_) | refine Spl.seq (fun h => ?_) (fun h => ?_) | refine Spl.not ?_ | refine Spl.any (fun h => ?_) (fun h => ?_))
    · rw [if_pos (by assumption)]
      refine RWP.of tabOk orders ?_
      repeat' ((conv => whnf); (first
    | (with_reducible first | refine Spl.yes ?_ | refine Spl.no ?_ | refine Spl.dec (fun h => ?_) (fun h => ?_) | refine Spl.eq (fun h => ?_) (fun h => ?_) | refine Spl.ne (fun h => ?_) (fun h => ?_) | refine Spl.seq (fun h => ?_) (fun h => ?_) | refine Spl.not ?_ | refine Spl.any (fun h => ?_) (fun h => ?_))
    | (refine HQ.use (hcond) ⟨fun k => if k = 1000001 then 3 else k, id, id⟩ ⟨rfl, rfl⟩ rfl rfl (by first | exact ⟨⟨rfl, rfl⟩, trivial⟩ | exact ⟨⟨rfl, rfl⟩, ⟨rfl, rfl⟩, trivial⟩) (by first | exact trivial | exact ⟨⟨rfl, rfl⟩, trivial⟩ | exact ⟨⟨rfl, rfl⟩, ⟨rfl, rfl⟩, trivial⟩) (by first | exact trivial | exact ⟨⟨rfl, rfl⟩, trivial⟩) ?_; rintro _ _ ⟨rfl, rfl⟩; refine ⟨⟨rfl, rfl, rfl⟩, ?_⟩)
    | ((with_reducible apply And.intro); first | omega | rfl | (dsimp only; omega))))
      all_goals (conv => whnf)
      exact ⟨_, Wk.narrow _ [0, 3, 4] [1000000, 3, 4] [], rfl⟩
    rw [if_neg (by assumption)]
    refine RWP.of tabOk orders ?_
    conv => whnf
    exact ⟨_, Wk.narrow _ [0, 3, 4] [1000000, 3, 4] [], rfl⟩
  rintro _ rfl
  obtain ⟨hfk, hfs⟩ := hsm
  have hb1 : 0 ≤ (headP cnt A f ⟨last, e, at_⟩).2.last ∧ (headP cnt A f ⟨last, e, at_⟩).2.last ≤ 30000 := by rw [hl1]; split <;> omega
  generalize headP cnt A f ⟨last, e, at_⟩ = hd at *
  obtain ⟨f1, s1⟩ := hd
  simp only at hfk hfs hb1 hG ⊢
  rw [← hfs] at hset hs2
  refine RWP.seqx tabOk orders ?_
  repeat' ((conv => whnf); (first
    | (with_reducible first | refine Spl.yes ?_ | refine Spl.no ?_ | refine Spl.dec (fun h => ?_) (fun h => ?_) | refine Spl.eq (fun h => ?_) (fun h => ?_) | refine Spl.ne (fun h => ?_) (fun h => ?_) | refine Spl.seq (fun h => ?_) (fun h => ?_) | refine Spl.not ?_ | refine Spl.any (fun h => ?_) (fun h => ?_))
    | refine drawn_text (by decide +kernel) ?_
    | ((with_reducible apply And.intro); first | omega | rfl | (dsimp only; omega))))
  all_goals (conv => whnf)
  refine RWP.seqx tabOk orders ?_
  conv => whnf
  refine RWP.seq ?_
  refine RWP.seqx tabOk orders ?_
  conv => whnf
  refine RWP.block ?_
  refine RWP.loop (fun k st => ∃ (j : Int) (v : Bool), st = kidRt cnt A s1 f1 ks v j (kidsP cnt A (ks.take j.toNat) (decide (f.kind = 16)) s1.last s1.last s1).2.1 (kidsP cnt A (ks.take j.toNat) (decide (f.kind = 16)) s1.last s1.last s1).2.2 (rowsN (kidsP cnt A (ks.take j.toNat) (decide (f.kind = 16)) s1.last s1.last s1).1) ∧ 0 ≤ j ∧ j ≤ ks.length ∧ k = (ks.length - j).toNat)
    ⟨_, _, Wk.trans (Wk.ownNil (t := 7) (k := 66) (sz := 12) (e := 27) rfl) (Wk.narrow _ [0, 3, 4, 5, 6, 7, 48, 49, 50] [1000000, 3, 4] [66]), 0, true, Eq.trans (b := kidRt cnt A s1 f1 ks true 0 s1.last s1 []) rfl (congrArg (fun (X : List Node × Int × Rs) => kidRt cnt A s1 f1 ks true 0 X.2.1 X.2.2 (rowsN X.1)) (kidsP_nil (decide (f.kind = 16)) s1.last s1.last s1).symm), by omega, by omega, rfl⟩ ?_
  rintro k st ⟨j, v, rfl, hj0, hj1, hk⟩
  have hlj := kidsP_len (cnt := cnt) (A := A) (ks.take j.toNat) (decide (f.kind = 16)) s1.last s1.last s1
  have hle := kidsP_le cnt A (ks.take j.toNat) (decide (f.kind = 16)) s1.last s1.last s1 (all_take _ hks) hb1.1 hb1.2 hb1.1 hb1.2 hb1.1 hb1.2
  have hll := rowsN_len (kidsP cnt A (ks.take j.toNat) (decide (f.kind = 16)) s1.last s1.last s1).1
  rw [List.length_take] at hlj
  refine RWP.seqx tabOk orders ?_
  conv => whnf
  refine RWP.seqx tabOk orders ?_
  repeat' ((conv => whnf); (first
    | (with_reducible first | refine Spl.yes ?_ | refine Spl.no ?_ | refine Spl.dec (fun h => ?_) (fun h => ?_) | refine Spl.eq (fun h => ?_) (fun h => ?_) | refine Spl.ne (fun h => ?_) (fun h => ?_) | refine Spl.seq (fun h => ?_) (fun h => ?_) | refine Spl.not ?_ | refine Spl.any (fun h => ?_) (fun h => ?_))
    | ((with_reducible apply And.intro); first | omega | rfl | (dsimp only; omega))))
  all_goals (conv => whnf)
  rotate_left
  · have e : j = ks.length := by omega
    subst e
    rw [Int.toNat_natCast, List.take_length] at hle hll hlj ⊢
    generalize kidsP cnt A ks (decide (f.kind = 16)) s1.last s1.last s1 = r at *
    obtain ⟨o, most, ⟨last2, e2, at2⟩⟩ := r
    subst hG
    refine RWP.of tabOk orders ?_
    repeat' ((conv => whnf); (first
    | (with_reducible first | refine Spl.yes ?_ | refine Spl.no ?_ | refine Spl.dec (fun h => ?_) (fun h => ?_) | refine Spl.eq (fun h => ?_) (fun h => ?_) | refine Spl.ne (fun h => ?_) (fun h => ?_) | refine Spl.seq (fun h => ?_) (fun h => ?_) | refine Spl.not ?_ | refine Spl.any (fun h => ?_) (fun h => ?_))
    | refine drawn_text (by decide +kernel) ?_
    | refine And.intro (Nat.le_of_ble_eq_true rfl) ?_
    | refine And.intro (by show (rows2 f1.set).length * 16 ≤ 140737488355328; omega) ?_
    | ((with_reducible apply And.intro); first | omega | rfl | (dsimp only; omega))))
    all_goals (conv => whnf)
    · have q : f1.kind = 16 := by assumption
      rw [hfk] at q
      rw [if_pos q]
      refine ⟨_, Wk.narrow _ [4] [1000000, 4] [], .inl ?_⟩
      conv => whnf
      exact ⟨rfl, rfl⟩
    · have q : ¬ f1.kind = 16 := by assumption
      rw [hfk] at q
      rw [if_neg q]
      refine ⟨_, Wk.narrow _ [4] [1000000, 4] [], .inl ?_⟩
      conv => whnf
      exact ⟨rfl, rfl⟩
  have hsn := kidsP_snoc (cnt := cnt) (A := A) (rdn ks j) (ks.take j.toNat) (decide (f.kind = 16)) s1.last s1.last s1
  rw [← take_stepN hj0 (by omega)] at hsn
  have hm := rdn_mem (l := ks) (j := j) (by omega)
  have hc := ih (rdn ks j) hm
  generalize kidsP cnt A (ks.take j.toNat) (decide (f.kind = 16)) s1.last s1.last s1 = r at *
  obtain ⟨o, most, ⟨last2, e2, at2⟩⟩ := r
  obtain ⟨f3, k3, h3⟩ := (rdn ks j).ex
  rw [h3] at hc hsn
  simp only at hsn hll hlj hle
  by_cases q : f.kind = 16
  · rw [if_pos (by simp [q])] at hsn
    have hc := hc ⟨s1.last, e2, at2⟩ (by simp only; omega) (by simp only; omega)
    generalize nodeP cnt A (.mk f3 k3) ⟨s1.last, e2, at2⟩ = r2 at *
    obtain ⟨⟨f4, k4⟩, ⟨last4, e4, at4⟩⟩ := r2
    simp only at hsn hc
    have fin : kidRt cnt A s1 f1 ks v (j + 1) (if last4 > most then last4 else most) ⟨last4, e4, at4⟩ (rowsN o ++ [(Node.mk f4 k4).cells]) = kidRt cnt A s1 f1 ks v (j + 1) (kidsP cnt A (ks.take (j + 1).toNat) (decide (f.kind = 16)) s1.last s1.last s1).2.1 (kidsP cnt A (ks.take (j + 1).toNat) (decide (f.kind = 16)) s1.last s1.last s1).2.2 (rowsN (kidsP cnt A (ks.take (j + 1).toNat) (decide (f.kind = 16)) s1.last s1.last s1).1) := by
      rw [hsn, rowsN_snoc]; rfl
    refine RWP.of tabOk orders ?_
    repeat' ((conv => whnf); (first
    | (with_reducible first | refine Spl.yes ?_ | refine Spl.no ?_ | refine Spl.dec (fun h => ?_) (fun h => ?_) | refine Spl.eq (fun h => ?_) (fun h => ?_) | refine Spl.ne (fun h => ?_) (fun h => ?_) | refine Spl.seq (fun h => ?_) (fun h => ?_) | refine Spl.not ?_ | refine Spl.any (fun h => ?_) (fun h => ?_))
    | (rw [rowsN_get (by omega)])
    | (rw [h3])
    | (refine HQ.use (hc) ⟨id, id, id⟩ ⟨rfl, rfl⟩ rfl rfl (by first | exact ⟨⟨rfl, rfl⟩, trivial⟩ | exact ⟨⟨rfl, rfl⟩, ⟨rfl, rfl⟩, trivial⟩) (by first | exact trivial | exact ⟨⟨rfl, rfl⟩, trivial⟩ | exact ⟨⟨rfl, rfl⟩, ⟨rfl, rfl⟩, trivial⟩) (by first | exact trivial | exact ⟨⟨rfl, rfl⟩, trivial⟩) ?_; rintro _ _ ⟨rfl, rfl⟩; refine ⟨⟨rfl, rfl, rfl⟩, ?_⟩)
    | refine And.intro (Nat.le_of_ble_eq_true rfl) ?_
    | refine And.intro (by show ((rowsN o).length + 1) * 136 ≤ 140737488355328; omega) ?_
    | ((with_reducible apply And.intro); first | omega | rfl | (dsimp only; omega))))
    all_goals (conv => whnf)
    all_goals first
      | (exfalso; omega)
      | (exact ⟨(ks.length - (j + 1)).toNat, _, by omega, Wk.narrow _ [0, 3, 4, 5, 6, 7, 48, 49, 50] [1000000, 3, 4] [66], j + 1, v, Eq.trans rfl fin, by omega, by omega, rfl⟩)
  · rw [if_neg (by simp [q])] at hsn
    have hc := hc ⟨last2, e2, at2⟩ (by simp only; omega) (by simp only; omega)
    generalize nodeP cnt A (.mk f3 k3) ⟨last2, e2, at2⟩ = r2 at *
    obtain ⟨⟨f4, k4⟩, ⟨last4, e4, at4⟩⟩ := r2
    simp only at hsn hc
    have fin : kidRt cnt A s1 f1 ks v (j + 1) (if last4 > most then last4 else most) ⟨last4, e4, at4⟩ (rowsN o ++ [(Node.mk f4 k4).cells]) = kidRt cnt A s1 f1 ks v (j + 1) (kidsP cnt A (ks.take (j + 1).toNat) (decide (f.kind = 16)) s1.last s1.last s1).2.1 (kidsP cnt A (ks.take (j + 1).toNat) (decide (f.kind = 16)) s1.last s1.last s1).2.2 (rowsN (kidsP cnt A (ks.take (j + 1).toNat) (decide (f.kind = 16)) s1.last s1.last s1).1) := by
      rw [hsn, rowsN_snoc]; rfl
    refine RWP.of tabOk orders ?_
    repeat' ((conv => whnf); (first
    | (with_reducible first | refine Spl.yes ?_ | refine Spl.no ?_ | refine Spl.dec (fun h => ?_) (fun h => ?_) | refine Spl.eq (fun h => ?_) (fun h => ?_) | refine Spl.ne (fun h => ?_) (fun h => ?_) | refine Spl.seq (fun h => ?_) (fun h => ?_) | refine Spl.not ?_ | refine Spl.any (fun h => ?_) (fun h => ?_))
    | (rw [rowsN_get (by omega)])
    | (rw [h3])
    | (refine HQ.use (hc) ⟨id, id, id⟩ ⟨rfl, rfl⟩ rfl rfl (by first | exact ⟨⟨rfl, rfl⟩, trivial⟩ | exact ⟨⟨rfl, rfl⟩, ⟨rfl, rfl⟩, trivial⟩) (by first | exact trivial | exact ⟨⟨rfl, rfl⟩, trivial⟩ | exact ⟨⟨rfl, rfl⟩, ⟨rfl, rfl⟩, trivial⟩) (by first | exact trivial | exact ⟨⟨rfl, rfl⟩, trivial⟩) ?_; rintro _ _ ⟨rfl, rfl⟩; refine ⟨⟨rfl, rfl, rfl⟩, ?_⟩)
    | refine And.intro (Nat.le_of_ble_eq_true rfl) ?_
    | refine And.intro (by show ((rowsN o).length + 1) * 136 ≤ 140737488355328; omega) ?_
    | ((with_reducible apply And.intro); first | omega | rfl | (dsimp only; omega))))
    all_goals (conv => whnf)
    all_goals first
      | (exfalso; omega)
      | (exact ⟨(ks.length - (j + 1)).toNat, _, by omega, Wk.narrow _ [0, 3, 4, 5, 6, 7, 48, 49, 50] [1000000, 3, 4] [66], j + 1, v, Eq.trans rfl fin, by omega, by omega, rfl⟩)
theorem np_c (cnt : Int) (A : List (ByteArray × Int)) (hA : A.length ≤ 1000000) : ∀ (k : Nat) (n : Node), n.w ≤ k → n.w ≤ 1000000 → n.all RefOk → NpC cnt A n := by
  intro k
  induction k with
  | zero => intro n h; have := w_pos n; omega
  | succ k ih =>
    intro n hk hw ha
    cases n with
    | mk f ks =>
      have ha' := ha
      rw [Node.w] at hk hw
      rw [Node.all] at ha'
      exact np_step cnt A hA f ks ha (by omega) (fun n hn => ih n (by have := wN_mem hn; omega) (by have := wN_mem hn; omega) (allN_mem ha'.2 hn))
end Go.Proofs.Ytnoohgiecnmajaa.VC

/- References by definition: what is meant; what is asked. -/
namespace Go.Proofs.Ytnoohgiecnmajaa.VC
open Go Go.RowKit
set_option linter.unusedVariables false
set_option linter.unusedSimpArgs false
set_option maxHeartbeats 4000000

/-- The error. -/
structure Ds where
  e : Int
  at_ : Int
def dsFs (cnt : Int) (A : List (ByteArray × Int)) (s : Ds) : List FE := [.pv (iv cnt), .pv (ms A), .pv (iv s.e), .pv (iv s.at_)]
def HD (cnt : Int) (A : List (ByteArray × Int)) (s : Ds) : St := ⟨0, [], [(1000000, (80, dsFs cnt A s))], [], []⟩
def meantK (last m k : Int) : Int := if m = 2 then last + (if m = 1 then last - k + 1 else k) else (if m = 1 then last - k + 1 else k)
def meantD (cnt : Int) (A : List (ByteArray × Int)) (last m k : Int) (nm : ByteArray) : Int :=
  if m = 3 then (findS nm A).getD (-1)
  else if meantK last m k < 0 then -1 else if meantK last m k > cnt then -1 else meantK last m k
def needD (s : Ds) (k least a : Int) : Ds := if k < least then (if s.e = 0 then ⟨34, a⟩ else s) else s
set_option maxHeartbeats 16000000
theorem meantD_h (cnt : Int) (A : List (ByteArray × Int)) (s : Ds) (m k : Int) (nm : ByteArray) (last : Int) (hA : A.length ≤ 1000000) (hl : 0 ≤ last ∧ last ≤ 2000000000) (hk : -1000 ≤ k ∧ k ≤ 30000) :
    HCalls Try.prog 71 (HD cnt A s) [.ptr 1000000 0, .pv (iv m), .pv (iv k), .pv (sv nm), .pv (iv last)] (fun fe H' => fe = .pv (iv (meantD cnt A last m k nm)) ∧ H' = HD cnt A s) := by
  have hrl := rowsM_len A
  obtain ⟨e, at_⟩ := s
  obtain ⟨G, hG⟩ : ∃ G, meantD cnt A last m k nm = G := ⟨_, rfl⟩
  rw [hG]
  unfold meantD at hG
  refine HCalls.ofr tabOk Try.func71 (by decide) rfl rfl ?_
  refine RWP.seqx tabOk orders ?_
  conv => whnf
  refine RWP.cutr (fun st => m ≠ 3 ∧ st = ⟨63, [(0, .ptr 1000000 0), (1, .pv (iv m)), (2, .pv (iv k)), (4, .pv (iv last))], [(1000000, (80, dsFs cnt A ⟨e, at_⟩))], [], []⟩) ?_ ?_
  rotate_left
  · rintro _ ⟨h3, rfl⟩
    rw [if_neg h3] at hG
    refine RWP.cutr (fun st => st = ⟨63, [(0, .ptr 1000000 0), (1, .pv (iv m)), (2, .pv (iv (if m = 1 then last - k + 1 else k))), (4, .pv (iv last))], [(1000000, (80, dsFs cnt A ⟨e, at_⟩))], [], []⟩) ?_ ?_
    · refine RWP.of tabOk orders ?_
      repeat' ((conv => whnf); (first
    | (with_reducible first | refine Spl.yes ?_ | refine Spl.no ?_ | refine Spl.dec (fun h => ?_) (fun h => ?_) | refine Spl.eq (fun h => ?_) (fun h => ?_) | refine Spl.ne (fun h => ?_) (fun h => ?_) | refine Spl.seq (fun h => ?_) (fun h => ?_) | refine Spl.not ?_ | refine Spl.any (fun h => ?_) (fun h => ?_))
    | ((with_reducible apply And.intro); first | omega | rfl | (dsimp only; omega))))
      all_goals (conv => whnf)
      · rw [if_pos (by assumption)]
        exact ⟨_, Wk.narrow _ [0, 1, 2, 4] [1000000] [], rfl⟩
      · rw [if_neg (by assumption)]
        exact ⟨_, Wk.narrow _ [0, 1, 2, 4] [1000000] [], rfl⟩
    rintro _ rfl
    obtain ⟨K, hK⟩ : ∃ K, (if m = 1 then last - k + 1 else k) = K := ⟨_, rfl⟩
    have hKr : -2000000 ≤ K ∧ K ≤ 3000000000 := by rw [← hK]; split <;> omega
    have hKK : meantK last m k = if m = 2 then last + K else K := by unfold meantK; rw [hK]
    rw [hK]
    rw [hKK] at hG
    refine RWP.cutr (fun st => st = ⟨63, [(0, .ptr 1000000 0), (2, .pv (iv (if m = 2 then last + K else K)))], [(1000000, (80, dsFs cnt A ⟨e, at_⟩))], [], []⟩) ?_ ?_
    · refine RWP.of tabOk orders ?_
      repeat' ((conv => whnf); (first
    | (with_reducible first | refine Spl.yes ?_ | refine Spl.no ?_ | refine Spl.dec (fun h => ?_) (fun h => ?_) | refine Spl.eq (fun h => ?_) (fun h => ?_) | refine Spl.ne (fun h => ?_) (fun h => ?_) | refine Spl.seq (fun h => ?_) (fun h => ?_) | refine Spl.not ?_ | refine Spl.any (fun h => ?_) (fun h => ?_))
    | ((with_reducible apply And.intro); first | omega | rfl | (dsimp only; omega))))
      all_goals (conv => whnf)
      · rw [if_pos (by assumption)]
        exact ⟨_, Wk.narrow _ [0, 2] [1000000] [], rfl⟩
      · rw [if_neg (by assumption)]
        exact ⟨_, Wk.narrow _ [0, 2] [1000000] [], rfl⟩
    rintro _ rfl
    generalize (if m = 2 then last + K else K) = k' at *
    refine RWP.of tabOk orders ?_
    repeat' ((conv => whnf); (first
    | (with_reducible first | refine Spl.yes ?_ | refine Spl.no ?_ | refine Spl.dec (fun h => ?_) (fun h => ?_) | refine Spl.eq (fun h => ?_) (fun h => ?_) | refine Spl.ne (fun h => ?_) (fun h => ?_) | refine Spl.seq (fun h => ?_) (fun h => ?_) | refine Spl.not ?_ | refine Spl.any (fun h => ?_) (fun h => ?_))
    | ((with_reducible apply And.intro); first | omega | rfl | (dsimp only; omega))))
    all_goals (conv => whnf)
    all_goals (refine ⟨_, Wk.narrow _ [10] [1000000] [], .inl ?_⟩)
    all_goals (conv => whnf)
    · rw [if_pos (by assumption)] at hG; subst hG; exact ⟨rfl, rfl⟩
    · rw [if_neg (by assumption), if_pos (by assumption)] at hG; subst hG; exact ⟨rfl, rfl⟩
    · rw [if_neg (by assumption), if_neg (by assumption)] at hG; subst hG; exact ⟨rfl, rfl⟩
  refine RWP.seqx tabOk orders ?_
  conv => whnf
  refine RWP.cond ?_
  conv => whnf
  (with_reducible first | refine Spl.yes ?_ | refine Spl.no ?_ | refine Spl.dec (fun h => ?_) (fun h => ?_) | refine Spl.eq (fun h => ?_) (fun h => ?_) | refine Spl.ne (fun h => ?_) (fun h => ?_) | refine Spl.seq (fun h => ?_) (fun h => ?_) | refine Spl.not ?_ | refine Spl.any (fun h => ?_) (fun h => ?_))
  rotate_left
  · refine RWP.of tabOk orders ?_
    conv => whnf
    exact ⟨_, Wk.narrow _ [0, 1, 2, 4] [1000000] [], by assumption, rfl⟩
  have h3 : m = 3 := by assumption
  rw [if_pos h3] at hG
  refine RWP.weak (Wk.narrow _ [0, 3] [1000000] []) ?_
  refine RWP.seq ?_
  refine RWP.seqx tabOk orders ?_
  conv => whnf
  refine RWP.block ?_
  refine RWP.loop (fun k st => ∃ (j : Int), st = ⟨63, [(0, .ptr 1000000 0), (3, .pv (sv nm)), (11, .pv (iv j))], [(1000000, (80, dsFs cnt A ⟨e, at_⟩))], [], []⟩ ∧ 0 ≤ j ∧ j ≤ A.length ∧ k = (A.length - j).toNat ∧ findS nm (A.take j.toNat) = none)
    ⟨_, _, Wk.narrow _ [0, 3, 11] [1000000] [], 0, rfl, by omega, by omega, rfl, by show findS nm [] = none; rw [findS]⟩ ?_
  rintro k st ⟨j, rfl, hj0, hj1, hk, hno⟩
  refine RWP.seqx tabOk orders ?_
  repeat' ((conv => whnf); (first
    | (with_reducible first | refine Spl.yes ?_ | refine Spl.no ?_ | refine Spl.dec (fun h => ?_) (fun h => ?_) | refine Spl.eq (fun h => ?_) (fun h => ?_) | refine Spl.ne (fun h => ?_) (fun h => ?_) | refine Spl.seq (fun h => ?_) (fun h => ?_) | refine Spl.not ?_ | refine Spl.any (fun h => ?_) (fun h => ?_))
    | ((with_reducible apply And.intro); first | omega | rfl | (dsimp only; omega))))
  all_goals (conv => whnf)
  rotate_left
  · have e : j = A.length := by omega
    subst e
    rw [Int.toNat_natCast, List.take_length] at hno
    rw [hno] at hG
    subst hG
    refine RWP.of tabOk orders ?_
    repeat' ((conv => whnf); (first
    | (with_reducible first | refine Spl.yes ?_ | refine Spl.no ?_ | refine Spl.dec (fun h => ?_) (fun h => ?_) | refine Spl.eq (fun h => ?_) (fun h => ?_) | refine Spl.ne (fun h => ?_) (fun h => ?_) | refine Spl.seq (fun h => ?_) (fun h => ?_) | refine Spl.not ?_ | refine Spl.any (fun h => ?_) (fun h => ?_))
    | ((with_reducible apply And.intro); first | omega | rfl | (dsimp only; omega))))
    all_goals (conv => whnf)
    refine ⟨_, Wk.narrow _ [10] [1000000] [], .inl ?_⟩
    conv => whnf
    exact ⟨rfl, rfl⟩
  have hsp := drop_stepM (l := A) hj0 (by omega)
  have htd := List.take_append_drop j.toNat A
  have hts : A.take (j + 1).toNat = A.take j.toNat ++ [rdm A j] := by
    rw [show (j + 1).toNat = j.toNat + 1 by omega, List.take_add_one]
    simp [rdm, List.getD_eq_getElem?_getD, List.getElem?_eq_getElem (show j.toNat < A.length by omega)]
  have hf1 : findS nm A = if (rdm A j).1 = nm then some (rdm A j).2 else findS nm (A.drop (j + 1).toNat) := by
    have := findS_app nm (A.drop j.toNat) (A.take j.toNat) hno
    rw [htd] at this
    rw [this, hsp, findS_cons']
  have hf2 : findS nm (A.take (j + 1).toNat) = if (rdm A j).1 = nm then some (rdm A j).2 else none := by
    rw [hts, findS_app nm _ _ hno, findS_cons', findS_nil']
  generalize hx : rdm A j = x at *
  obtain ⟨xs, xn⟩ := x
  refine RWP.of tabOk orders ?_
  repeat' ((conv => whnf); (first
    | (with_reducible first | refine Spl.yes ?_ | refine Spl.no ?_ | refine Spl.dec (fun h => ?_) (fun h => ?_) | refine Spl.eq (fun h => ?_) (fun h => ?_) | refine Spl.ne (fun h => ?_) (fun h => ?_) | refine Spl.seq (fun h => ?_) (fun h => ?_) | refine Spl.not ?_ | refine Spl.any (fun h => ?_) (fun h => ?_))
    | (rw [rowsM_get (by omega)])
    | (rw [hx])
    | refine And.intro (Nat.le_of_ble_eq_true rfl) ?_
    | ((with_reducible apply And.intro); first | omega | rfl | (dsimp only; omega))))
  all_goals (conv => whnf)
  all_goals first
    | (exact ⟨(A.length - (j + 1)).toNat, _, by omega, Wk.narrow _ [0, 3, 11] [1000000] [], j + 1, rfl, by omega, by omega, rfl, by rw [hf2, if_neg (by assumption)]⟩)
    | (rw [hf1, if_pos (by assumption)] at hG
       subst hG
       refine ⟨_, Wk.narrow _ [10] [1000000] [], .inl ?_⟩
       conv => whnf
       exact ⟨rfl, rfl⟩)
theorem needD_h (cnt : Int) (A : List (ByteArray × Int)) (s : Ds) (k least a : Int) :
    HCalls Try.prog 72 (HD cnt A s) [.ptr 1000000 0, .pv (iv k), .pv (iv least), .pv (iv a)] (fun fe H' => fe = .pv (.tuple []) ∧ H' = HD cnt A (needD s k least a)) := by
  obtain ⟨e, at_⟩ := s
  obtain ⟨G, hG⟩ : ∃ G, needD ⟨e, at_⟩ k least a = G := ⟨_, rfl⟩
  rw [hG]
  unfold needD at hG
  refine HCalls.ofr tabOk Try.func72 (by decide) rfl rfl ?_
  refine RWP.of tabOk orders ?_
  repeat' ((conv => whnf); (first
    | (with_reducible first | refine Spl.yes ?_ | refine Spl.no ?_ | refine Spl.dec (fun h => ?_) (fun h => ?_) | refine Spl.eq (fun h => ?_) (fun h => ?_) | refine Spl.ne (fun h => ?_) (fun h => ?_) | refine Spl.seq (fun h => ?_) (fun h => ?_) | refine Spl.not ?_ | refine Spl.any (fun h => ?_) (fun h => ?_))
    | ((with_reducible apply And.intro); first | omega | rfl | (dsimp only; omega))))
  all_goals (conv => whnf)
  all_goals (refine ⟨_, Wk.narrow _ [0] [1000000] [], .inl ?_⟩)
  all_goals (conv => whnf)
  · rw [if_pos (by assumption), if_pos (by assumption)] at hG
    subst hG
    exact ⟨rfl, rfl⟩
  · rw [if_pos (by assumption), if_neg (by assumption)] at hG
    subst hG
    exact ⟨rfl, rfl⟩
  · rw [if_neg (by assumption)] at hG
    subst hG
    exact ⟨rfl, rfl⟩
/-- What refs.Resolve answers. -/
def resP (cnt : Int) (A : List (ByteArray × Int)) (n : Node) : ParR :=
  if (nodeP cnt A n ⟨0, 0, 0⟩).2.e ≠ 0 then ⟨nodeZ, (nodeP cnt A n ⟨0, 0, 0⟩).2.e, (nodeP cnt A n ⟨0, 0, 0⟩).2.at_⟩ else ⟨(nodeP cnt A n ⟨0, 0, 0⟩).1, 0, 0⟩
attribute [local irreducible] nodeP
theorem resP_c (cnt : Int) (A : List (ByteArray × Int)) (n : Node) (hA : A.length ≤ 1000000) (hw : n.w ≤ 1000000) (ha : n.all RefOk) : VCalls Try.prog 31 [n.enc, iv cnt, ms A] (fun r => r = parE (resP cnt A n)) := by
  have hc := np_c cnt A hA n.w n (Nat.le_refl _) hw ha ⟨0, 0, 0⟩ (by decide) (by decide)
  obtain ⟨G, hG⟩ : ∃ G, resP cnt A n = G := ⟨_, rfl⟩
  rw [hG]
  unfold resP at hG
  obtain ⟨f0, k0, h0⟩ := n.ex
  rw [h0] at hc hG ⊢
  generalize nodeP cnt A (.mk f0 k0) ⟨0, 0, 0⟩ = r at *
  obtain ⟨⟨f, ks⟩, ⟨last, e, at_⟩⟩ := r
  simp only at hG hc
  refine VCalls.ofr tabOk Try.func31 (by decide) rfl rfl ?_
  refine RWP.seqx tabOk orders ?_
  conv => whnf
  refine RWP.seqx tabOk orders ?_
  repeat' ((conv => whnf); (first
    | (with_reducible first | refine Spl.yes ?_ | refine Spl.no ?_ | refine Spl.dec (fun h => ?_) (fun h => ?_) | refine Spl.eq (fun h => ?_) (fun h => ?_) | refine Spl.ne (fun h => ?_) (fun h => ?_) | refine Spl.seq (fun h => ?_) (fun h => ?_) | refine Spl.not ?_ | refine Spl.any (fun h => ?_) (fun h => ?_))
    | ((with_reducible apply And.intro); first | omega | rfl | (dsimp only; omega))))
  all_goals (conv => whnf)
  refine RWP.seqx tabOk orders ?_
  repeat' ((conv => whnf); (first
    | (with_reducible first | refine Spl.yes ?_ | refine Spl.no ?_ | refine Spl.dec (fun h => ?_) (fun h => ?_) | refine Spl.eq (fun h => ?_) (fun h => ?_) | refine Spl.ne (fun h => ?_) (fun h => ?_) | refine Spl.seq (fun h => ?_) (fun h => ?_) | refine Spl.not ?_ | refine Spl.any (fun h => ?_) (fun h => ?_))
    | (refine HQ.use (hc) ⟨fun _ => 14, id, id⟩ ⟨rfl, rfl⟩ rfl rfl (by first | exact ⟨⟨rfl, rfl⟩, trivial⟩ | exact ⟨⟨rfl, rfl⟩, ⟨rfl, rfl⟩, trivial⟩) (by first | exact trivial | exact ⟨⟨rfl, rfl⟩, trivial⟩ | exact ⟨⟨rfl, rfl⟩, ⟨rfl, rfl⟩, trivial⟩) (by first | exact trivial | exact ⟨⟨rfl, rfl⟩, trivial⟩) ?_; rintro _ _ ⟨rfl, rfl⟩; refine ⟨⟨rfl, rfl, rfl⟩, ?_⟩)
    | refine And.intro (Nat.le_of_ble_eq_true rfl) ?_
    | ((with_reducible apply And.intro); first | omega | rfl | (dsimp only; omega))))
  all_goals (conv => whnf)
  refine RWP.of tabOk orders ?_
  repeat' ((conv => whnf); (first
    | (with_reducible first | refine Spl.yes ?_ | refine Spl.no ?_ | refine Spl.dec (fun h => ?_) (fun h => ?_) | refine Spl.eq (fun h => ?_) (fun h => ?_) | refine Spl.ne (fun h => ?_) (fun h => ?_) | refine Spl.seq (fun h => ?_) (fun h => ?_) | refine Spl.not ?_ | refine Spl.any (fun h => ?_) (fun h => ?_))
    | refine drawn_plan (.one 0 (.one 1 (.one 2 (.one 3 (.one 5 (.one 6 (.one 7 (.three 4 (.two 8 (.ofList [9, 10, 11]) 9 (.ofList [8, 10, 11])) 8 (.two 4 (.ofList [9, 10, 11]) 9 (.ofList [4, 10, 11])) 9 (.ofList [4, 8, 10, 11]))))))))) (by decide +kernel) ?_
    | refine Fork.mk ?_ ?_
    | refine And.intro (Nat.le_of_ble_eq_true rfl) ?_
    | ((with_reducible apply And.intro); first | omega | rfl | (dsimp only; omega))))
  all_goals (conv => whnf)
  all_goals first
    | (rw [if_pos (by assumption)] at hG; subst hG; rfl)
    | (rw [if_neg (fun h => h (by assumption))] at hG; subst hG; rfl)
end Go.Proofs.Ytnoohgiecnmajaa.VC

/- References by definition: a node. -/
namespace Go.Proofs.Ytnoohgiecnmajaa.VC
open Go Go.RowKit
set_option linter.unusedVariables false
set_option linter.unusedSimpArgs false
set_option maxHeartbeats 4000000

def condD (cnt : Int) (A : List (ByteArray × Int)) (f : NodeF) (last : Int) (s : Ds) : NodeF × Ds :=
  if f.kind = 19 then
    if f.n = 9 then (setFM (meantD cnt A last f.m f.mode f.name) { f with n := 9 }, needD s (meantD cnt A last f.m f.mode f.name) 1 f.at_)
    else if f.n = 10 then (setFM (meantD cnt A last 3 f.mode f.name) { f with n := 9 }, needD s (meantD cnt A last 3 f.mode f.name) 1 f.at_)
    else if f.n = 11 then
      (if f.mode = -1 then (f, s)
       else (setFM (meantD cnt A last f.m f.mode f.name) f, needD s (meantD cnt A last f.m f.mode f.name) (if f.m = 3 then 1 else 0) f.at_))
    else (f, s)
  else (f, s)
mutual
def nodeD (cnt : Int) (A : List (ByteArray × Int)) : Node → Int → Ds → Node × Int × Ds
  | .mk f ks, last, s =>
    if f.kind = 7 then (.mk (setFN (meantD cnt A last f.m f.n f.name) f) ks, last, needD s (meantD cnt A last f.m f.n f.name) 1 f.at_)
    else if f.kind = 8 then (.mk (setFN (meantD cnt A last f.m f.n f.name) f) ks, last, needD s (meantD cnt A last f.m f.n f.name) 0 f.at_)
    else (.mk (condD cnt A f last s).1 (kidsD cnt A ks (decide (f.kind = 16)) (if f.kind = 14 then f.n else last) (if f.kind = 14 then f.n else last) (condD cnt A f last s).2).1,
      (kidsD cnt A ks (decide (f.kind = 16)) (if f.kind = 14 then f.n else last) (if f.kind = 14 then f.n else last) (condD cnt A f last s).2).2)
def kidsD (cnt : Int) (A : List (ByteArray × Int)) : List Node → Bool → Int → Int → Ds → List Node × Int × Ds
  | [], _, _, most, s => ([], most, s)
  | k :: l, rs, last, most, s =>
    ((nodeD cnt A k (if rs = true then last else most) s).1 :: (kidsD cnt A l rs last (mxP (nodeD cnt A k (if rs = true then last else most) s).2.1 most) (nodeD cnt A k (if rs = true then last else most) s).2.2).1,
     (kidsD cnt A l rs last (mxP (nodeD cnt A k (if rs = true then last else most) s).2.1 most) (nodeD cnt A k (if rs = true then last else most) s).2.2).2)
end
section
variable {cnt : Int} {A : List (ByteArray × Int)}
theorem kidsD_nil (rs : Bool) (a b : Int) (c : Ds) : kidsD cnt A [] rs a b c = ([], b, c) := by rw [kidsD]
theorem kidsD_snoc (k : Node) : ∀ (l : List Node) (rs : Bool) (a b : Int) (c : Ds), kidsD cnt A (l ++ [k]) rs a b c =
    ((kidsD cnt A l rs a b c).1 ++ [(nodeD cnt A k (if rs = true then a else (kidsD cnt A l rs a b c).2.1) (kidsD cnt A l rs a b c).2.2).1],
     mxP (nodeD cnt A k (if rs = true then a else (kidsD cnt A l rs a b c).2.1) (kidsD cnt A l rs a b c).2.2).2.1 (kidsD cnt A l rs a b c).2.1,
     (nodeD cnt A k (if rs = true then a else (kidsD cnt A l rs a b c).2.1) (kidsD cnt A l rs a b c).2.2).2.2)
  | [], rs, a, b, c => by rw [List.nil_append, kidsD, kidsD, kidsD]; rfl
  | x :: l, rs, a, b, c => by
    rw [List.cons_append, kidsD, kidsD, kidsD_snoc k l]
    rfl
theorem kidsD_len : ∀ (l : List Node) (rs : Bool) (a b : Int) (c : Ds), (kidsD cnt A l rs a b c).1.length = l.length
  | [], rs, a, b, c => by rw [kidsD]
  | k :: l, rs, a, b, c => by rw [kidsD]; simp [kidsD_len l]
theorem condD_same (f : NodeF) (last : Int) (s : Ds) : (condD cnt A f last s).1.kind = f.kind ∧ (f.kind = 14 → (condD cnt A f last s).1 = f) := by
  unfold condD setFM
  by_cases q : f.kind = 19
  · rw [if_pos q]
    refine ⟨?_, fun h => by omega⟩
    repeat' split
    all_goals rfl
  · rw [if_neg q]
    exact ⟨rfl, fun _ => rfl⟩
end
mutual
theorem nodeD_le (cnt : Int) (A : List (ByteArray × Int)) : ∀ (n : Node) (last : Int) (s : Ds), n.all RefOk → 0 ≤ last → last ≤ 30000 → 0 ≤ (nodeD cnt A n last s).2.1 ∧ (nodeD cnt A n last s).2.1 ≤ 30000
  | .mk f ks, last, s, ha, h0, h1 => by
    rw [Node.all] at ha
    have hn : (-1000 ≤ f.n ∧ f.n ≤ 30000) := ha.1.2.1
    have h14 : f.kind = 14 → 0 ≤ f.n := ha.1.2.2.2
    rw [nodeD]
    split
    · exact ⟨h0, h1⟩
    split
    · exact ⟨h0, h1⟩
    · have hb : 0 ≤ (if f.kind = 14 then f.n else last) ∧ (if f.kind = 14 then f.n else last) ≤ 30000 := by split <;> omega
      exact kidsD_le cnt A ks _ _ _ _ ha.2 hb.1 hb.2 hb.1 hb.2
theorem kidsD_le (cnt : Int) (A : List (ByteArray × Int)) : ∀ (l : List Node) (rs : Bool) (a b : Int) (c : Ds), allN RefOk l → 0 ≤ a → a ≤ 30000 → 0 ≤ b → b ≤ 30000 →
    0 ≤ (kidsD cnt A l rs a b c).2.1 ∧ (kidsD cnt A l rs a b c).2.1 ≤ 30000
  | [], rs, a, b, c, ha, h1, h2, h3, h4 => by rw [kidsD]; exact ⟨h3, h4⟩
  | k :: l, rs, a, b, c, ha, h1, h2, h3, h4 => by
    rw [allN] at ha
    rw [kidsD]
    have hb : 0 ≤ (if rs = true then a else b) ∧ (if rs = true then a else b) ≤ 30000 := by split <;> omega
    have h7 := nodeD_le cnt A k (if rs = true then a else b) c ha.1 hb.1 hb.2
    generalize nodeD cnt A k (if rs = true then a else b) c = r at *
    have hm : 0 ≤ mxP r.2.1 b ∧ mxP r.2.1 b ≤ 30000 := by unfold mxP; split <;> omega
    exact kidsD_le cnt A l rs a (mxP r.2.1 b) r.2.2 ha.2 h1 h2 hm.1 hm.2
end
attribute [local irreducible] nodeD kidsD meantD needD
@[reducible] def Ty3 (r : Node × Int × Ds) : SV := .tuple [r.1.enc, iv r.2.1]
def NdC (cnt : Int) (A : List (ByteArray × Int)) (n : Node) : Prop := ∀ (last : Int) (s : Ds), 0 ≤ last → last ≤ 30000 →
  HCalls Try.prog 49 (HD cnt A s) [.ptr 1000000 0, .pv n.enc, .pv (iv last)] (fun fe H' => fe = .pv (Ty3 (nodeD cnt A n last s)) ∧ H' = HD cnt A (nodeD cnt A n last s).2.2)
def ndSt (cnt : Int) (A : List (ByteArray × Int)) (f : NodeF) (ks : List Node) (last : Int) (s : Ds) : St :=
  ⟨154, [(0, .ptr 1000000 0), (2, .pv (iv last)), (4, .ptr 4 0), (6, .ptr 6 0)], [(1000000, (80, dsFs cnt A s)), (4, (27, nfe f ks)), (6, (27, nzero))], [], []⟩
def kidDt (cnt : Int) (A : List (ByteArray × Int)) (f : NodeF) (ks : List Node) (last : Int) (v : Bool) (j most : Int) (s : Ds) (o : List (List SV)) : St :=
  ⟨154, [(0, .ptr 1000000 0), (2, .pv (iv last)), (4, .ptr 4 0), (6, .ptr 6 0), (11, .pv (iv most)), (12, .own 145), (13, .pv (iv j))], [(1000000, (80, dsFs cnt A s)), (4, (27, nfe f ks)), (6, (27, nzero))], [(145, ⟨12, 27, v, o⟩)], []⟩
set_option maxHeartbeats 16000000
theorem nd_step (cnt : Int) (A : List (ByteArray × Int)) (hA : A.length ≤ 1000000) (f : NodeF) (ks : List Node) (ha : (Node.mk f ks).all RefOk) (hw : wN ks ≤ 1000000) (ih : ∀ n ∈ ks, NdC cnt A n) : NdC cnt A (.mk f ks) := by
  intro last s h0 h1
  rw [Node.all] at ha
  have hnr : (-1000 ≤ f.n ∧ f.n ≤ 30000) := ha.1.2.1
  have hmr : (-1000 ≤ f.mode ∧ f.mode ≤ 30000) := ha.1.2.2.1
  have h14 : f.kind = 14 → 0 ≤ f.n := ha.1.2.2.2
  have hks := ha.2
  have hn := rowsN_len ks
  have hl := wN_len ks
  have hmn := meantD_h cnt A s f.m f.n f.name last hA ⟨h0, by omega⟩ hnr
  have hmm := meantD_h cnt A s f.m f.mode f.name last hA ⟨h0, by omega⟩ hmr
  have hm3 := meantD_h cnt A s 3 f.mode f.name last hA ⟨h0, by omega⟩ hmr
  obtain ⟨G, hG⟩ : ∃ G, nodeD cnt A (.mk f ks) last s = G := ⟨_, rfl⟩
  rw [hG]
  rw [nodeD] at hG
  obtain ⟨C, hC⟩ : ∃ C, condD cnt A f last s = C := ⟨_, rfl⟩
  have hsm := condD_same (cnt := cnt) (A := A) f last s
  rw [hC] at hG hsm
  unfold condD at hC
  generalize hvn : meantD cnt A last f.m f.n f.name = vn at *
  generalize hvm : meantD cnt A last f.m f.mode f.name = vm at *
  generalize hv3 : meantD cnt A last 3 f.mode f.name = v3 at *
  have hq1 := needD_h cnt A s vn 1 f.at_
  have hq0 := needD_h cnt A s vn 0 f.at_
  have hqm1 := needD_h cnt A s vm 1 f.at_
  have hqm0 := needD_h cnt A s vm 0 f.at_
  have hq31 := needD_h cnt A s v3 1 f.at_
  obtain ⟨e, at_⟩ := s
  refine HCalls.ofr tabOk Try.func49 (by decide) rfl rfl ?_
  refine RWP.seqx tabOk orders ?_
  conv => whnf
  refine RWP.cutr (fun st => f.kind ≠ 7 ∧ f.kind ≠ 8 ∧ st = ndSt cnt A f ks last ⟨e, at_⟩) ?_ ?_
  · refine RWP.of tabOk orders ?_
    repeat' ((conv => whnf); (first
    | (with_reducible first | refine Spl.yes ?_ | refine Spl.no ?_ | refine Spl.dec (fun h => ?_) (fun h => ?_) | refine Spl.eq (fun h => ?_) (fun h => ?_) | refine Spl.ne (fun h => ?_) (fun h => ?_) | refine Spl.seq (fun h => ?_) (fun h => ?_) | refine Spl.not ?_ | refine Spl.any (fun h => ?_) (fun h => ?_))
    | refine drawn_text (by decide +kernel) ?_
    | (refine HQ.use (hmn) ⟨id, id, id⟩ ⟨rfl, rfl⟩ rfl rfl (by first | exact ⟨⟨rfl, rfl⟩, trivial⟩ | exact ⟨⟨rfl, rfl⟩, ⟨rfl, rfl⟩, trivial⟩) (by first | exact trivial | exact ⟨⟨rfl, rfl⟩, trivial⟩ | exact ⟨⟨rfl, rfl⟩, ⟨rfl, rfl⟩, trivial⟩) (by first | exact trivial | exact ⟨⟨rfl, rfl⟩, trivial⟩) ?_; rintro _ _ ⟨rfl, rfl⟩; refine ⟨⟨rfl, rfl, rfl⟩, ?_⟩)
    | (refine HQ.use (hq1) ⟨id, id, id⟩ ⟨rfl, rfl⟩ rfl rfl (by first | exact ⟨⟨rfl, rfl⟩, trivial⟩ | exact ⟨⟨rfl, rfl⟩, ⟨rfl, rfl⟩, trivial⟩) (by first | exact trivial | exact ⟨⟨rfl, rfl⟩, trivial⟩ | exact ⟨⟨rfl, rfl⟩, ⟨rfl, rfl⟩, trivial⟩) (by first | exact trivial | exact ⟨⟨rfl, rfl⟩, trivial⟩) ?_; rintro _ _ ⟨rfl, rfl⟩; refine ⟨⟨rfl, rfl, rfl⟩, ?_⟩)
    | (refine HQ.use (hq0) ⟨id, id, id⟩ ⟨rfl, rfl⟩ rfl rfl (by first | exact ⟨⟨rfl, rfl⟩, trivial⟩ | exact ⟨⟨rfl, rfl⟩, ⟨rfl, rfl⟩, trivial⟩) (by first | exact trivial | exact ⟨⟨rfl, rfl⟩, trivial⟩ | exact ⟨⟨rfl, rfl⟩, ⟨rfl, rfl⟩, trivial⟩) (by first | exact trivial | exact ⟨⟨rfl, rfl⟩, trivial⟩) ?_; rintro _ _ ⟨rfl, rfl⟩; refine ⟨⟨rfl, rfl, rfl⟩, ?_⟩)
    | refine And.intro (Nat.le_of_ble_eq_true rfl) ?_
    | ((with_reducible apply And.intro); first | omega | rfl | (dsimp only; omega))))
    all_goals (conv => whnf)
    all_goals first
      | (exfalso; omega)
      | (exact ⟨_, Wk.narrow _ [0, 2, 4, 6] [1000000, 4, 6] [], by assumption, by assumption, rfl⟩)
      | (rw [if_pos (by assumption)] at hG
         subst hG
         refine ⟨_, Wk.narrow _ [6, 7] [1000000, 6] [], .inl ?_⟩
         conv => whnf
         exact ⟨rfl, rfl⟩)
      | (rw [if_neg (by assumption), if_pos (by assumption)] at hG
         subst hG
         refine ⟨_, Wk.narrow _ [6, 7] [1000000, 6] [], .inl ?_⟩
         conv => whnf
         exact ⟨rfl, rfl⟩)
  rintro _ ⟨h7, h8, rfl⟩
  rw [if_neg h7, if_neg h8] at hG
  refine RWP.cutr (fun st => st = ndSt cnt A C.1 ks last C.2) ?_ ?_
  · refine RWP.of tabOk orders ?_
    repeat' ((conv => whnf); (first
    | (with_reducible first | refine Spl.yes ?_ | refine Spl.no ?_ | refine Spl.dec (fun h => ?_) (fun h => ?_) | refine Spl.eq (fun h => ?_) (fun h => ?_) | refine Spl.ne (fun h => ?_) (fun h => ?_) | refine Spl.seq (fun h => ?_) (fun h => ?_) | refine Spl.not ?_ | refine Spl.any (fun h => ?_) (fun h => ?_))
    | refine drawn_text (by decide +kernel) ?_
    | (refine HQ.use (hmm) ⟨id, id, id⟩ ⟨rfl, rfl⟩ rfl rfl (by first | exact ⟨⟨rfl, rfl⟩, trivial⟩ | exact ⟨⟨rfl, rfl⟩, ⟨rfl, rfl⟩, trivial⟩) (by first | exact trivial | exact ⟨⟨rfl, rfl⟩, trivial⟩ | exact ⟨⟨rfl, rfl⟩, ⟨rfl, rfl⟩, trivial⟩) (by first | exact trivial | exact ⟨⟨rfl, rfl⟩, trivial⟩) ?_; rintro _ _ ⟨rfl, rfl⟩; refine ⟨⟨rfl, rfl, rfl⟩, ?_⟩)
    | (refine HQ.use (hm3) ⟨id, id, id⟩ ⟨rfl, rfl⟩ rfl rfl (by first | exact ⟨⟨rfl, rfl⟩, trivial⟩ | exact ⟨⟨rfl, rfl⟩, ⟨rfl, rfl⟩, trivial⟩) (by first | exact trivial | exact ⟨⟨rfl, rfl⟩, trivial⟩ | exact ⟨⟨rfl, rfl⟩, ⟨rfl, rfl⟩, trivial⟩) (by first | exact trivial | exact ⟨⟨rfl, rfl⟩, trivial⟩) ?_; rintro _ _ ⟨rfl, rfl⟩; refine ⟨⟨rfl, rfl, rfl⟩, ?_⟩)
    | (refine HQ.use (hqm1) ⟨id, id, id⟩ ⟨rfl, rfl⟩ rfl rfl (by first | exact ⟨⟨rfl, rfl⟩, trivial⟩ | exact ⟨⟨rfl, rfl⟩, ⟨rfl, rfl⟩, trivial⟩) (by first | exact trivial | exact ⟨⟨rfl, rfl⟩, trivial⟩ | exact ⟨⟨rfl, rfl⟩, ⟨rfl, rfl⟩, trivial⟩) (by first | exact trivial | exact ⟨⟨rfl, rfl⟩, trivial⟩) ?_; rintro _ _ ⟨rfl, rfl⟩; refine ⟨⟨rfl, rfl, rfl⟩, ?_⟩)
    | (refine HQ.use (hqm0) ⟨id, id, id⟩ ⟨rfl, rfl⟩ rfl rfl (by first | exact ⟨⟨rfl, rfl⟩, trivial⟩ | exact ⟨⟨rfl, rfl⟩, ⟨rfl, rfl⟩, trivial⟩) (by first | exact trivial | exact ⟨⟨rfl, rfl⟩, trivial⟩ | exact ⟨⟨rfl, rfl⟩, ⟨rfl, rfl⟩, trivial⟩) (by first | exact trivial | exact ⟨⟨rfl, rfl⟩, trivial⟩) ?_; rintro _ _ ⟨rfl, rfl⟩; refine ⟨⟨rfl, rfl, rfl⟩, ?_⟩)
    | (refine HQ.use (hq31) ⟨id, id, id⟩ ⟨rfl, rfl⟩ rfl rfl (by first | exact ⟨⟨rfl, rfl⟩, trivial⟩ | exact ⟨⟨rfl, rfl⟩, ⟨rfl, rfl⟩, trivial⟩) (by first | exact trivial | exact ⟨⟨rfl, rfl⟩, trivial⟩ | exact ⟨⟨rfl, rfl⟩, ⟨rfl, rfl⟩, trivial⟩) (by first | exact trivial | exact ⟨⟨rfl, rfl⟩, trivial⟩) ?_; rintro _ _ ⟨rfl, rfl⟩; refine ⟨⟨rfl, rfl, rfl⟩, ?_⟩)
    | refine And.intro (Nat.le_of_ble_eq_true rfl) ?_
    | ((with_reducible apply And.intro); first | omega | rfl | (dsimp only; omega))))
    all_goals (conv => whnf)
    all_goals first
      | (exfalso; omega)
      | (rw [if_neg (by assumption)] at hC; subst hC; exact ⟨_, Wk.narrow _ [0, 2, 4, 6] [1000000, 4, 6] [], rfl⟩)
      | (rw [if_pos (by assumption), if_pos (by assumption)] at hC; subst hC; exact ⟨_, Wk.narrow _ [0, 2, 4, 6] [1000000, 4, 6] [], rfl⟩)
      | (rw [if_pos (by assumption), if_neg (by assumption), if_pos (by assumption)] at hC; subst hC; exact ⟨_, Wk.narrow _ [0, 2, 4, 6] [1000000, 4, 6] [], rfl⟩)
      | (rw [if_pos (by assumption), if_neg (by assumption), if_neg (by assumption), if_pos (by assumption), if_pos (by assumption)] at hC; subst hC; exact ⟨_, Wk.narrow _ [0, 2, 4, 6] [1000000, 4, 6] [], rfl⟩)
      | (rw [if_pos (by assumption), if_neg (by assumption), if_neg (by assumption), if_pos (by assumption), if_neg (by assumption), if_pos (by assumption)] at hC; subst hC; exact ⟨_, Wk.narrow _ [0, 2, 4, 6] [1000000, 4, 6] [], rfl⟩)
      | (rw [if_pos (by assumption), if_neg (by assumption), if_neg (by assumption), if_pos (by assumption), if_neg (by assumption), if_neg (by assumption)] at hC; subst hC; exact ⟨_, Wk.narrow _ [0, 2, 4, 6] [1000000, 4, 6] [], rfl⟩)
      | (rw [if_pos (by assumption), if_neg (by assumption), if_neg (by assumption), if_neg (by assumption)] at hC; subst hC; exact ⟨_, Wk.narrow _ [0, 2, 4, 6] [1000000, 4, 6] [], rfl⟩)
  rintro _ rfl
  obtain ⟨f1, ⟨e1, at1⟩⟩ := C
  simp only at hsm hG ⊢
  obtain ⟨l1, hl1⟩ : ∃ l1, (if f.kind = 14 then f.n else last) = l1 := ⟨_, rfl⟩
  have hl1r : 0 ≤ l1 ∧ l1 ≤ 30000 := by rw [← hl1]; split <;> omega
  rw [hl1] at hG
  refine RWP.cutr (fun st => st = ndSt cnt A f1 ks l1 ⟨e1, at1⟩) ?_ ?_
  · refine RWP.of tabOk orders ?_
    repeat' ((conv => whnf); (first
    | (with_reducible first | refine Spl.yes ?_ | refine Spl.no ?_ | refine Spl.dec (fun h => ?_) (fun h => ?_) | refine Spl.eq (fun h => ?_) (fun h => ?_) | refine Spl.ne (fun h => ?_) (fun h => ?_) | refine Spl.seq (fun h => ?_) (fun h => ?_) | refine Spl.not ?_ | refine Spl.any (fun h => ?_) (fun h => ?_))
    | ((with_reducible apply And.intro); first | omega | rfl | (dsimp only; omega))))
    all_goals (conv => whnf)
    · have q : f1.kind = 14 := by assumption
      rw [hsm.1] at q
      have q2 := hsm.2 q
      rw [if_pos q] at hl1
      subst hl1
      subst q2
      exact ⟨_, Wk.narrow _ [0, 2, 4, 6] [1000000, 4, 6] [], rfl⟩
    · have q : ¬ f1.kind = 14 := by assumption
      rw [hsm.1] at q
      rw [if_neg q] at hl1
      subst hl1
      exact ⟨_, Wk.narrow _ [0, 2, 4, 6] [1000000, 4, 6] [], rfl⟩
  rintro _ rfl
  refine RWP.seqx tabOk orders ?_
  conv => whnf
  refine RWP.seqx tabOk orders ?_
  conv => whnf
  refine RWP.seq ?_
  refine RWP.seqx tabOk orders ?_
  conv => whnf
  refine RWP.block ?_
  refine RWP.loop (fun k st => ∃ (j : Int) (v : Bool), st = kidDt cnt A f1 ks l1 v j (kidsD cnt A (ks.take j.toNat) (decide (f.kind = 16)) l1 l1 ⟨e1, at1⟩).2.1 (kidsD cnt A (ks.take j.toNat) (decide (f.kind = 16)) l1 l1 ⟨e1, at1⟩).2.2 (rowsN (kidsD cnt A (ks.take j.toNat) (decide (f.kind = 16)) l1 l1 ⟨e1, at1⟩).1) ∧ 0 ≤ j ∧ j ≤ ks.length ∧ k = (ks.length - j).toNat)
    ⟨_, _, Wk.trans (Wk.ownNil (t := 12) (k := 145) (sz := 12) (e := 27) rfl) (Wk.narrow _ [0, 2, 4, 6, 11, 12, 13] [1000000, 4, 6] [145]), 0, true, Eq.trans (b := kidDt cnt A f1 ks l1 true 0 l1 ⟨e1, at1⟩ []) rfl (congrArg (fun (X : List Node × Int × Ds) => kidDt cnt A f1 ks l1 true 0 X.2.1 X.2.2 (rowsN X.1)) (kidsD_nil (decide (f.kind = 16)) l1 l1 ⟨e1, at1⟩).symm), by omega, by omega, rfl⟩ ?_
  rintro k st ⟨j, v, rfl, hj0, hj1, hk⟩
  have hlj := kidsD_len (cnt := cnt) (A := A) (ks.take j.toNat) (decide (f.kind = 16)) l1 l1 ⟨e1, at1⟩
  have hle := kidsD_le cnt A (ks.take j.toNat) (decide (f.kind = 16)) l1 l1 ⟨e1, at1⟩ (all_take _ hks) hl1r.1 hl1r.2 hl1r.1 hl1r.2
  have hll := rowsN_len (kidsD cnt A (ks.take j.toNat) (decide (f.kind = 16)) l1 l1 ⟨e1, at1⟩).1
  rw [List.length_take] at hlj
  refine RWP.seqx tabOk orders ?_
  repeat' ((conv => whnf); (first
    | (with_reducible first | refine Spl.yes ?_ | refine Spl.no ?_ | refine Spl.dec (fun h => ?_) (fun h => ?_) | refine Spl.eq (fun h => ?_) (fun h => ?_) | refine Spl.ne (fun h => ?_) (fun h => ?_) | refine Spl.seq (fun h => ?_) (fun h => ?_) | refine Spl.not ?_ | refine Spl.any (fun h => ?_) (fun h => ?_))
    | ((with_reducible apply And.intro); first | omega | rfl | (dsimp only; omega))))
  all_goals (conv => whnf)
  rotate_left
  · have e : j = ks.length := by omega
    subst e
    rw [Int.toNat_natCast, List.take_length] at hle hll hlj ⊢
    generalize kidsD cnt A ks (decide (f.kind = 16)) l1 l1 ⟨e1, at1⟩ = r at *
    obtain ⟨o, most, ⟨e2, at2⟩⟩ := r
    subst hG
    refine RWP.of tabOk orders ?_
    repeat' ((conv => whnf); (first
    | (with_reducible first | refine Spl.yes ?_ | refine Spl.no ?_ | refine Spl.dec (fun h => ?_) (fun h => ?_) | refine Spl.eq (fun h => ?_) (fun h => ?_) | refine Spl.ne (fun h => ?_) (fun h => ?_) | refine Spl.seq (fun h => ?_) (fun h => ?_) | refine Spl.not ?_ | refine Spl.any (fun h => ?_) (fun h => ?_))
    | refine And.intro (Nat.le_of_ble_eq_true rfl) ?_
    | ((with_reducible apply And.intro); first | omega | rfl | (dsimp only; omega))))
    all_goals (conv => whnf)
    refine ⟨_, Wk.narrow _ [6, 7] [1000000, 6] [], .inl ?_⟩
    conv => whnf
    exact ⟨rfl, rfl⟩
  have hsn := kidsD_snoc (cnt := cnt) (A := A) (rdn ks j) (ks.take j.toNat) (decide (f.kind = 16)) l1 l1 ⟨e1, at1⟩
  rw [← take_stepN hj0 (by omega)] at hsn
  have hm := rdn_mem (l := ks) (j := j) (by omega)
  have hc := ih (rdn ks j) hm
  generalize kidsD cnt A (ks.take j.toNat) (decide (f.kind = 16)) l1 l1 ⟨e1, at1⟩ = r at *
  obtain ⟨o, most, ⟨e2, at2⟩⟩ := r
  obtain ⟨f3, k3, h3⟩ := (rdn ks j).ex
  rw [h3] at hc hsn
  simp only at hsn hll hlj hle
  have hfk := hsm.1
  by_cases q : f.kind = 16
  · rw [if_pos (by simp [q])] at hsn
    have hc := hc l1 ⟨e2, at2⟩ (by omega) (by omega)
    generalize nodeD cnt A (.mk f3 k3) l1 ⟨e2, at2⟩ = r2 at *
    obtain ⟨⟨f4, k4⟩, last4, ⟨e4, at4⟩⟩ := r2
    simp only at hsn hc
    have fin : kidDt cnt A f1 ks l1 v (j + 1) (if last4 > most then last4 else most) ⟨e4, at4⟩ (rowsN o ++ [(Node.mk f4 k4).cells]) = kidDt cnt A f1 ks l1 v (j + 1) (kidsD cnt A (ks.take (j + 1).toNat) (decide (f.kind = 16)) l1 l1 ⟨e1, at1⟩).2.1 (kidsD cnt A (ks.take (j + 1).toNat) (decide (f.kind = 16)) l1 l1 ⟨e1, at1⟩).2.2 (rowsN (kidsD cnt A (ks.take (j + 1).toNat) (decide (f.kind = 16)) l1 l1 ⟨e1, at1⟩).1) := by
      rw [hsn, rowsN_snoc]; rfl
    refine RWP.of tabOk orders ?_
    repeat' ((conv => whnf); (first
    | (with_reducible first | refine Spl.yes ?_ | refine Spl.no ?_ | refine Spl.dec (fun h => ?_) (fun h => ?_) | refine Spl.eq (fun h => ?_) (fun h => ?_) | refine Spl.ne (fun h => ?_) (fun h => ?_) | refine Spl.seq (fun h => ?_) (fun h => ?_) | refine Spl.not ?_ | refine Spl.any (fun h => ?_) (fun h => ?_))
    | (rw [rowsN_get (by omega)])
    | (rw [h3])
    | (refine HQ.use (hc) ⟨id, id, id⟩ ⟨rfl, rfl⟩ rfl rfl (by first | exact ⟨⟨rfl, rfl⟩, trivial⟩ | exact ⟨⟨rfl, rfl⟩, ⟨rfl, rfl⟩, trivial⟩) (by first | exact trivial | exact ⟨⟨rfl, rfl⟩, trivial⟩ | exact ⟨⟨rfl, rfl⟩, ⟨rfl, rfl⟩, trivial⟩) (by first | exact trivial | exact ⟨⟨rfl, rfl⟩, trivial⟩) ?_; rintro _ _ ⟨rfl, rfl⟩; refine ⟨⟨rfl, rfl, rfl⟩, ?_⟩)
    | refine And.intro (Nat.le_of_ble_eq_true rfl) ?_
    | refine And.intro (by show ((rowsN o).length + 1) * 136 ≤ 140737488355328; omega) ?_
    | ((with_reducible apply And.intro); first | omega | rfl | (dsimp only; omega))))
    all_goals (conv => whnf)
    all_goals first
      | (exfalso; omega)
      | (rw [if_pos (by assumption)] at fin; exact ⟨(ks.length - (j + 1)).toNat, _, by omega, Wk.narrow _ [0, 2, 4, 6, 11, 12, 13] [1000000, 4, 6] [145], j + 1, v, Eq.trans rfl fin, by omega, by omega, rfl⟩)
      | (rw [if_neg (by assumption)] at fin; exact ⟨(ks.length - (j + 1)).toNat, _, by omega, Wk.narrow _ [0, 2, 4, 6, 11, 12, 13] [1000000, 4, 6] [145], j + 1, v, Eq.trans rfl fin, by omega, by omega, rfl⟩)
  · rw [if_neg (by simp [q])] at hsn
    have hc := hc most ⟨e2, at2⟩ (by omega) (by omega)
    generalize nodeD cnt A (.mk f3 k3) most ⟨e2, at2⟩ = r2 at *
    obtain ⟨⟨f4, k4⟩, last4, ⟨e4, at4⟩⟩ := r2
    simp only at hsn hc
    have fin : kidDt cnt A f1 ks l1 v (j + 1) (if last4 > most then last4 else most) ⟨e4, at4⟩ (rowsN o ++ [(Node.mk f4 k4).cells]) = kidDt cnt A f1 ks l1 v (j + 1) (kidsD cnt A (ks.take (j + 1).toNat) (decide (f.kind = 16)) l1 l1 ⟨e1, at1⟩).2.1 (kidsD cnt A (ks.take (j + 1).toNat) (decide (f.kind = 16)) l1 l1 ⟨e1, at1⟩).2.2 (rowsN (kidsD cnt A (ks.take (j + 1).toNat) (decide (f.kind = 16)) l1 l1 ⟨e1, at1⟩).1) := by
      rw [hsn, rowsN_snoc]; rfl
    refine RWP.of tabOk orders ?_
    repeat' ((conv => whnf); (first
    | (with_reducible first | refine Spl.yes ?_ | refine Spl.no ?_ | refine Spl.dec (fun h => ?_) (fun h => ?_) | refine Spl.eq (fun h => ?_) (fun h => ?_) | refine Spl.ne (fun h => ?_) (fun h => ?_) | refine Spl.seq (fun h => ?_) (fun h => ?_) | refine Spl.not ?_ | refine Spl.any (fun h => ?_) (fun h => ?_))
    | (rw [rowsN_get (by omega)])
    | (rw [h3])
    | (refine HQ.use (hc) ⟨id, id, id⟩ ⟨rfl, rfl⟩ rfl rfl (by first | exact ⟨⟨rfl, rfl⟩, trivial⟩ | exact ⟨⟨rfl, rfl⟩, ⟨rfl, rfl⟩, trivial⟩) (by first | exact trivial | exact ⟨⟨rfl, rfl⟩, trivial⟩ | exact ⟨⟨rfl, rfl⟩, ⟨rfl, rfl⟩, trivial⟩) (by first | exact trivial | exact ⟨⟨rfl, rfl⟩, trivial⟩) ?_; rintro _ _ ⟨rfl, rfl⟩; refine ⟨⟨rfl, rfl, rfl⟩, ?_⟩)
    | refine And.intro (Nat.le_of_ble_eq_true rfl) ?_
    | refine And.intro (by show ((rowsN o).length + 1) * 136 ≤ 140737488355328; omega) ?_
    | ((with_reducible apply And.intro); first | omega | rfl | (dsimp only; omega))))
    all_goals (conv => whnf)
    all_goals first
      | (exfalso; omega)
      | (rw [if_pos (by assumption)] at fin; exact ⟨(ks.length - (j + 1)).toNat, _, by omega, Wk.narrow _ [0, 2, 4, 6, 11, 12, 13] [1000000, 4, 6] [145], j + 1, v, Eq.trans rfl fin, by omega, by omega, rfl⟩)
      | (rw [if_neg (by assumption)] at fin; exact ⟨(ks.length - (j + 1)).toNat, _, by omega, Wk.narrow _ [0, 2, 4, 6, 11, 12, 13] [1000000, 4, 6] [145], j + 1, v, Eq.trans rfl fin, by omega, by omega, rfl⟩)
theorem nd_c (cnt : Int) (A : List (ByteArray × Int)) (hA : A.length ≤ 1000000) : ∀ (k : Nat) (n : Node), n.w ≤ k → n.w ≤ 1000000 → n.all RefOk → NdC cnt A n := by
  intro k
  induction k with
  | zero => intro n h; have := w_pos n; omega
  | succ k ih =>
    intro n hk hw ha
    cases n with
    | mk f ks =>
      have ha' := ha
      rw [Node.w] at hk hw
      rw [Node.all] at ha'
      exact nd_step cnt A hA f ks ha (by omega) (fun n hn => ih n (by have := wN_mem hn; omega) (by have := wN_mem hn; omega) (allN_mem ha'.2 hn))
end Go.Proofs.Ytnoohgiecnmajaa.VC

/- What is known of trees whose references are resolved (plain). -/
namespace Go.Proofs.Ytnoohgiecnmajaa.VC
open Go Go.RowKit
set_option linter.unusedVariables false
set_option linter.unusedSimpArgs false
set_option maxHeartbeats 4000000

/-- What is known of a node with a reference in it. -/
def RefT (len : Int) (n : Node) : Prop :=
  (-1000 ≤ n.f.n ∧ n.f.n ≤ 30000) ∧ (-1000 ≤ n.f.mode ∧ n.f.mode ≤ 30000) ∧ (n.f.kind = 14 → 0 ≤ n.f.n) ∧
  (n.f.kind = 7 ∨ n.f.kind = 8 → n.kids = [] ∧ 0 ≤ n.f.at_ ∧ n.f.at_ < len) ∧
  (n.f.kind = 19 → (0 ≤ n.f.at_ ∧ n.f.at_ < len) ∧ (n.f.n = 9 ∨ n.f.n = 10 ∨ (n.f.n = 11 ∧ (n.f.mode = -1 → n.f.m = 0 ∧ n.f.name = bs [])) ∨ (n.f.n ≥ 12 ∧ n.f.m = 0 ∧ n.f.name = bs [] ∧ n.f.mode = 0)))
/-- A node without a reference. -/
theorem refT_of {len : Int} {f : NodeF} {ks : List Node} (h1 : f.kind ≠ 7) (h2 : f.kind ≠ 8) (h3 : f.kind ≠ 19) (h4 : f.kind = 14 → 0 ≤ f.n) (h5 : -1000 ≤ f.n ∧ f.n ≤ 30000) (h6 : -1000 ≤ f.mode ∧ f.mode ≤ 30000) : RefT len (.mk f ks) :=
  ⟨h5, h6, h4, fun h => absurd h (by show ¬ (f.kind = 7 ∨ f.kind = 8); omega), fun h => absurd h h3⟩
theorem all_and {P Q R : Node → Prop} (hi : ∀ n, P n → Q n → R n) : (∀ n : Node, n.all P → n.all Q → n.all R) :=
  fun n => go n
  where
  go : ∀ n : Node, n.all P → n.all Q → n.all R
    | .mk f ks, hp, hq => by
      rw [Node.all] at hp hq ⊢
      exact ⟨hi _ hp.1 hq.1, goL ks hp.2 hq.2⟩
  goL : ∀ l : List Node, allN P l → allN Q l → allN R l
    | [], _, _ => by rw [allN]; trivial
    | k :: l, hp, hq => by
      rw [allN] at hp hq ⊢
      exact ⟨go k hp.1 hq.1, goL l hp.2 hq.2⟩
theorem zRefT (len : Int) : nodeZ.all (RefT len) := by
  unfold nodeZ
  rw [Node.all, allN]
  exact ⟨refT_of (by decide) (by decide) (by decide) (by decide) (by decide) (by decide), trivial⟩
theorem kindRefT (len : Int) (k : Int) (l : List Node) (h : k = 12 ∨ k = 13) : RefT len (.mk { fZ with kind := k } l) :=
  refT_of (by show k ≠ 7; omega) (by show k ≠ 8; omega) (by show k ≠ 19; omega) (fun h => by have h : k = 14 := h; omega) (by show -1000 ≤ (0 : Int) ∧ (0 : Int) ≤ 30000; decide) (by show -1000 ≤ (0 : Int) ∧ (0 : Int) ≤ 30000; decide)
theorem ref_ph {m n : Int} {L : List Tok} (hL : ∀ t ∈ L, TokIn m n t) : PH L (RefT n) := by
  refine ⟨fun t ht hk => ?_, fun t ht hk look l h1 h2 h3 h4 h5 => ?_, fun t ht hk k hn hr => ?_, fun l h1 h2 => kindRefT n 12 l (.inl rfl), fun l h1 h2 h3 => kindRefT n 13 l (.inr rfl)⟩
  · have hm := (hL t ht).may
    have hn := hm.n
    have h0 := (hL t ht).at0
    have h1 := (hL t ht).at1
    refine ⟨by show -1000 ≤ t.n ∧ t.n ≤ 30000; omega, by show -1000 ≤ (0 : Int) ∧ (0 : Int) ≤ 30000; decide, fun h => ?_, fun h => ⟨rfl, h0, h1⟩, fun h => ?_⟩
    · show 0 ≤ t.n; omega
    · exfalso
      have := leafK_le t.kind
      have h : leafK t.kind = 19 := h
      omega
  · have hm := (hL t ht).may
    have hn := hm.n
    have hmo := hm.mode
    have h0 := (hL t ht).at0
    have h1 := (hL t ht).at1
    have hc := hm.cond hk
    have z : -1000 ≤ (0 : Int) ∧ (0 : Int) ≤ 30000 := by decide
    unfold groupN
    by_cases q1 : t.n = 1
    · rw [if_pos q1]; exact refT_of (by show (14 : Int) ≠ 7; decide) (by show (14 : Int) ≠ 8; decide) (by show (14 : Int) ≠ 19; decide) (fun _ => Int.le_refl 0) z z
    by_cases q2 : t.n = 2
    · rw [if_neg q1, if_pos q2]; exact refT_of (by show (15 : Int) ≠ 7; decide) (by show (15 : Int) ≠ 8; decide) (by show (15 : Int) ≠ 19; decide) (fun _ => Int.le_refl 0) z z
    by_cases q3 : t.n = 4
    · rw [if_neg q1, if_neg q2, if_pos q3]; exact refT_of (by show (17 : Int) ≠ 7; decide) (by show (17 : Int) ≠ 8; decide) (by show (17 : Int) ≠ 19; decide) (fun _ => Int.le_refl 0) z z
    by_cases q4 : t.n = 5 ∨ t.n = 6 ∨ t.n = 7 ∨ t.n = 8
    · rw [if_neg q1, if_neg q2, if_neg q3, if_pos q4]; exact refT_of (by show (18 : Int) ≠ 7; decide) (by show (18 : Int) ≠ 8; decide) (by show (18 : Int) ≠ 19; decide) (fun _ => by show 0 ≤ t.n; omega) (by show -1000 ≤ t.n ∧ t.n ≤ 30000; omega) z
    by_cases q5 : t.n = 3
    · rw [if_neg q1, if_neg q2, if_neg q3, if_neg q4, if_pos q5]; exact refT_of (by show (16 : Int) ≠ 7; decide) (by show (16 : Int) ≠ 8; decide) (by show (16 : Int) ≠ 19; decide) (fun _ => Int.le_refl 0) z z
    · rw [if_neg q1, if_neg q2, if_neg q3, if_neg q4, if_neg q5]
      refine ⟨by show -1000 ≤ t.n ∧ t.n ≤ 30000; omega, by show -1000 ≤ t.mode ∧ t.mode ≤ 30000; omega, fun h => absurd h (by show ¬ (19 : Int) = 14; decide), fun h => absurd h (by show ¬ ((19 : Int) = 7 ∨ (19 : Int) = 8); decide), fun _ => ⟨⟨h0, h1⟩, ?_⟩⟩
      show t.n = 9 ∨ t.n = 10 ∨ (t.n = 11 ∧ (t.mode = -1 → t.m = 0 ∧ t.name = bs [])) ∨ (t.n ≥ 12 ∧ t.m = 0 ∧ t.name = bs [] ∧ t.mode = 0)
      have hk10 := hm.k10 hk
      by_cases q9 : t.n = 9
      · exact .inl q9
      by_cases q10 : t.n = 10
      · exact .inr (.inl q10)
      by_cases q11 : t.n = 11
      · refine .inr (.inr (.inl ⟨q11, fun hmm => ?_⟩))
        rcases hc.2.2.1 q11 with h | h
        · omega
        · exact h
      · have h12 := hc.2.2.2 (show t.n ≥ 12 by omega)
        exact .inr (.inr (.inr ⟨by omega, h12.1, h12.2.2, h12.2.1⟩))
  · have hm := (hL t ht).may
    have hn := hm.n
    have hmo := hm.mode
    exact refT_of (by show (20 : Int) ≠ 7; decide) (by show (20 : Int) ≠ 8; decide) (by show (20 : Int) ≠ 19; decide) (fun h => absurd h (by show ¬ (20 : Int) = 14; decide)) (by show -1000 ≤ t.n ∧ t.n ≤ 30000; omega) (by show -1000 ≤ t.mode ∧ t.mode ≤ 30000; omega)
theorem setRef {len a : Int} {l : List (Int × Int)} : (setN a l).all (RefT len) := by
  unfold setN; rw [Node.all, allN]
  exact ⟨refT_of (by show (2 : Int) ≠ 7; decide) (by show (2 : Int) ≠ 8; decide) (by show (2 : Int) ≠ 19; decide) (fun h => absurd h (by show ¬ (2 : Int) = 14; decide)) (by show -1000 ≤ (0 : Int) ∧ (0 : Int) ≤ 30000; decide) (by show -1000 ≤ (0 : Int) ∧ (0 : Int) ≤ 30000; decide), trivial⟩
theorem seqRef {len : Int} {l : List Node} (h : allN (RefT len) l) : (seqN l).all (RefT len) := by
  unfold seqN
  split
  · rename_i h1
    exact allN_mem h (rdn_mem (by simp [h1]))
  · rw [Node.all]; exact ⟨kindRefT len 12 l (.inl rfl), h⟩
theorem listRef {len : Int} {l : List Node} (h : allN (RefT len) l) : allN (RefT len) (l.flatMap listN) := by
  refine all_of_mem (fun n hn => ?_)
  obtain ⟨k, hk, hn⟩ := List.mem_flatMap.1 hn
  have hka := allN_mem h hk
  unfold listN at hn
  split at hn
  · exact allN_mem (Node.all_kids hka) hn
  · have : n = k := by simpa using hn
    subst this; exact hka
theorem lineRef (len : Int) (c : Ctx) (a : Int) : (lineN c a).all (RefT len) := by
  unfold lineN
  rw [Node.all, allN, allN, Node.all, allN, allN, allN]
  have z : -1000 ≤ (0 : Int) ∧ (0 : Int) ≤ 30000 := by decide
  refine ⟨refT_of (by show (17 : Int) ≠ 7; decide) (by show (17 : Int) ≠ 8; decide) (by show (17 : Int) ≠ 19; decide) (fun h => absurd h (by show ¬ (17 : Int) = 14; decide)) z z, ⟨refT_of (by show (13 : Int) ≠ 7; decide) (by show (13 : Int) ≠ 8; decide) (by show (13 : Int) ≠ 19; decide) (fun h => absurd h (by show ¬ (13 : Int) = 14; decide)) z z, seqRef ?_, setRef, trivial⟩, trivial⟩
  rw [allN, allN, allN]
  exact ⟨setRef, setRef, trivial⟩
mutual
theorem nodeR_ref (len : Int) (c : Ctx) : ∀ (n : Node) (g : Int), n.all (RefT len) → (nodeR c n g).1.all (RefT len)
  | .mk f ks, g, ha => by
    rw [Node.all] at ha
    have h := rowR_ref len c ks
    have hk := ha.1
    rw [nodeR]
    unfold nodeS
    by_cases q : f.kind = 1
    · rw [if_pos q]; exact setRef
    rw [if_neg q]; clear q
    by_cases q : f.kind = 2
    · rw [if_pos q]; exact setRef
    rw [if_neg q]; clear q
    by_cases q : f.kind = 3
    · rw [if_pos q]; split <;> exact setRef
    rw [if_neg q]; clear q
    by_cases q : f.kind = 4
    · rw [if_pos q, Node.all]
      refine ⟨?_, ha.2⟩
      have hm : -1000 ≤ f.mode ∧ f.mode ≤ 30000 := hk.2.1
      have hn : -1000 ≤ f.n ∧ f.n ≤ 30000 := hk.1
      unfold assertN
      split
      · exact refT_of (by show f.kind ≠ 7; omega) (by show f.kind ≠ 8; omega) (by show f.kind ≠ 19; omega) (fun h => by have h : f.kind = 14 := h; omega) (by show -1000 ≤ (9 : Int) ∧ (9 : Int) ≤ 30000; decide) hm
      split
      · exact refT_of (by show f.kind ≠ 7; omega) (by show f.kind ≠ 8; omega) (by show f.kind ≠ 19; omega) (fun h => by have h : f.kind = 14 := h; omega) (by show -1000 ≤ (10 : Int) ∧ (10 : Int) ≤ 30000; decide) hm
      · exact hk
    rw [if_neg q]; clear q
    by_cases q : f.kind = 6
    · rw [if_pos q]; exact lineRef len c _
    rw [if_neg q]; clear q
    by_cases q : f.kind = 7
    · rw [if_pos q, Node.all]; exact ⟨hk, ha.2⟩
    rw [if_neg q]; clear q
    by_cases q : f.kind = 11
    · rw [if_pos q, Node.all, allN]; exact ⟨kindRefT len 12 [] (.inl rfl), trivial⟩
    rw [if_neg q]; clear q
    by_cases q : f.kind = 12
    · rw [if_pos q]; exact seqRef (listRef (h g ha.2))
    rw [if_neg q]; clear q
    by_cases q : f.kind = 13
    · rw [if_pos q, Node.all]
      exact ⟨refT_of (by omega) (by omega) (by omega) (fun h => by omega) hk.1 hk.2.1, h g ha.2⟩
    rw [if_neg q]; clear q
    by_cases q : f.kind = 15
    · rw [if_pos q]
      simp only
      by_cases q : (0 : Int).toNat < (rowR c ks (turnP g f.on f.off)).1.length
      · exact allN_mem (h _ ha.2) (rdn_mem q)
      · have : rdn (rowR c ks (turnP g f.on f.off)).1 0 = nodeZ := by
          unfold rdn; rw [List.getD_eq_getElem?_getD, List.getElem?_eq_none (by omega)]; rfl
        rw [this]; exact zRefT len
    rw [if_neg q]; clear q
    rw [Node.all]
    refine ⟨?_, h g ha.2⟩
    by_cases q : f.kind = 20
    · have hn : -1000 ≤ f.n ∧ f.n ≤ 30000 := hk.1
      have hm : -1000 ≤ f.mode ∧ f.mode ≤ 30000 := hk.2.1
      have hg : (greedN f g).kind = f.kind ∧ (greedN f g).n = f.n ∧ (-1000 ≤ (greedN f g).mode ∧ (greedN f g).mode ≤ 30000) := by
        unfold greedN
        rw [if_pos q]
        split
        · exact ⟨rfl, rfl, by show -1000 ≤ (1 : Int) ∧ (1 : Int) ≤ 30000; decide⟩
        split
        · exact ⟨rfl, rfl, by show -1000 ≤ (0 : Int) ∧ (0 : Int) ≤ 30000; decide⟩
        · exact ⟨rfl, rfl, hm⟩
      exact refT_of (by rw [hg.1]; omega) (by rw [hg.1]; omega) (by rw [hg.1]; omega) (fun h => by rw [hg.1] at h; omega) (by rw [hg.2.1]; exact hn) hg.2.2
    · have hg : greedN f g = f := by unfold greedN; rw [if_neg q]
      rw [hg]
      refine ⟨hk.1, hk.2.1, hk.2.2.1, fun h => ?_, hk.2.2.2.2⟩
      obtain ⟨h1, h2⟩ := hk.2.2.2.1 h
      have h1 : ks = [] := h1
      subst h1
      exact ⟨by show (rowR c [] g).1 = []; rw [rowR], h2⟩
theorem rowR_ref (len : Int) (c : Ctx) : ∀ (l : List Node) (g : Int), allN (RefT len) l → allN (RefT len) (rowR c l g).1
  | [], g, ha => by rw [rowR, allN]; trivial
  | k :: l, g, ha => by
    rw [allN] at ha
    rw [rowR]
    simp only
    rw [allN]
    exact ⟨nodeR_ref len c k g ha.1, rowR_ref len c l _ ha.2⟩
end
mutual
theorem nbN_ref (len : Int) : ∀ (n : Node) (a : Int), 0 ≤ a → a + n.w ≤ 30000 → n.all (RefT len) → (nbN n a).1.all (RefT len)
  | .mk f ks, a, h0, h1, ha => by
    rw [Node.all] at ha
    rw [Node.w] at h1
    have hT : a ≤ nbT f a ∧ nbT f a ≤ a + 1 := by unfold nbT; split <;> omega
    rw [nbN]
    simp only
    rw [Node.all]
    refine ⟨?_, nbL_ref len ks _ _ _ (by omega) (Int.le_refl _) (by omega) ha.2⟩
    have hk := ha.1
    by_cases q : f.kind = 14
    · unfold nbF
      rw [if_pos q]
      exact refT_of (by show f.kind ≠ 7; omega) (by show f.kind ≠ 8; omega) (by show f.kind ≠ 19; omega) (fun _ => by show 0 ≤ a + 1; omega) (by show -1000 ≤ a + 1 ∧ a + 1 ≤ 30000; omega) hk.2.1
    · unfold nbF
      rw [if_neg q]
      refine ⟨hk.1, hk.2.1, hk.2.2.1, fun h => ?_, hk.2.2.2.2⟩
      obtain ⟨h1, h2⟩ := hk.2.2.2.1 h
      have h1 : ks = [] := h1
      subst h1
      exact ⟨by show (nbL [] _ _ _).1 = []; rw [nbL], h2⟩
theorem nbL_ref (len : Int) : ∀ (l : List Node) (rs : Bool) (a b : Int), 0 ≤ a → a ≤ b → b + wN l ≤ 30000 → allN (RefT len) l → allN (RefT len) (nbL l rs a b).1
  | [], rs, a, b, h0, h1, h2, ha => by rw [nbL, allN]; trivial
  | k :: l, rs, a, b, h0, h1, h2, ha => by
    rw [allN] at ha
    rw [wN] at h2
    rw [nbL]
    simp only
    rw [allN]
    have hs : 0 ≤ (if rs = true then a else b) ∧ (if rs = true then a else b) ≤ b := by split <;> omega
    have hle := nbN_le k (if rs = true then a else b)
    have h5 := nbN_ref len k (if rs = true then a else b) hs.1 (by omega) ha.1
    generalize nbN k (if rs = true then a else b) = r at *
    have hm : b ≤ mxP r.2 b ∧ mxP r.2 b ≤ b + k.w := by unfold mxP; split <;> omega
    exact ⟨h5, nbL_ref len l _ _ _ h0 (by omega) (by omega) ha.2⟩
end
end Go.Proofs.Ytnoohgiecnmajaa.VC

/- The references of the program are those of the definition (plain). -/
namespace Go.Proofs.Ytnoohgiecnmajaa.VC
open Go Go.RowKit
set_option linter.unusedVariables false
set_option linter.unusedSimpArgs false
set_option maxHeartbeats 4000000

section
variable {cnt : Int} {A : List (ByteArray × Int)}
theorem meant_same (last m k : Int) (nm : ByteArray) {least : Int} (h0 : 0 ≤ least) : (meantP cnt A last m k nm < least ↔ meantD cnt A last m k nm < least) ∧ (¬ meantP cnt A last m k nm < least → meantP cnt A last m k nm = meantD cnt A last m k nm) := by
  unfold meantP meantD
  by_cases h3 : m = 3
  · rw [if_pos h3, if_pos h3]; exact ⟨Iff.rfl, fun _ => rfl⟩
  rw [if_neg h3, if_neg h3]
  have hK : meantK last m k = (if m = 1 then last - k + 1 else if m = 2 then last + k else k) := by
    unfold meantK
    by_cases h1 : m = 1
    · rw [if_pos h1, if_pos h1, if_neg (by omega)]
    · rw [if_neg h1, if_neg h1]
  rw [← hK]
  generalize meantK last m k = K
  by_cases h1 : K > cnt
  · rw [if_pos h1]
    by_cases h2 : K < 0
    · rw [if_pos h2]; exact ⟨Iff.rfl, fun _ => rfl⟩
    · rw [if_neg h2]; exact ⟨Iff.rfl, fun _ => rfl⟩
  · rw [if_neg h1]
    by_cases h2 : K < 0
    · rw [if_pos h2]; exact ⟨⟨fun _ => by omega, fun _ => by omega⟩, fun h => by omega⟩
    · rw [if_neg h2]; exact ⟨Iff.rfl, fun _ => rfl⟩
theorem set_same (a z at_ m k : Int) (nm : ByteArray) {least : Int} (h0 : 0 ≤ least) :
    (setS ⟨a, 0, z⟩ (meantP cnt A a m k nm) least at_ = ⟨a, 0, z⟩ ∧ needD ⟨0, z⟩ (meantD cnt A a m k nm) least at_ = ⟨0, z⟩ ∧ meantP cnt A a m k nm = meantD cnt A a m k nm) ∨
    (setS ⟨a, 0, z⟩ (meantP cnt A a m k nm) least at_ = ⟨a, 34, at_⟩ ∧ needD ⟨0, z⟩ (meantD cnt A a m k nm) least at_ = ⟨34, at_⟩) := by
  obtain ⟨h1, h2⟩ := meant_same (cnt := cnt) (A := A) a m k nm h0
  unfold setS needD
  by_cases q : meantP cnt A a m k nm < least
  · right
    rw [if_pos q, if_pos (h1.1 q), if_pos rfl, if_pos rfl]
    exact ⟨rfl, rfl⟩
  · left
    rw [if_neg q, if_neg (fun h => q (h1.2 h))]
    exact ⟨rfl, rfl, h2 q⟩
theorem nodeP_err {n : Node} {s : Rs} (h : s.e ≠ 0) : nodeP cnt A n s = (n, s) := by
  cases n with
  | mk f ks => rw [nodeP, if_pos h]
theorem kidsP_err : ∀ {l : List Node} {rs : Bool} {a b : Int} {s : Rs}, s.e ≠ 0 → (kidsP cnt A l rs a b s).2.2.e = s.e ∧ (kidsP cnt A l rs a b s).2.2.at_ = s.at_
  | [], rs, a, b, s, h => by rw [kidsP]; exact ⟨rfl, rfl⟩
  | k :: l, rs, a, b, s, h => by
    have h1 : (if rs = true then { s with last := a } else s).e = s.e ∧ (if rs = true then { s with last := a } else s).at_ = s.at_ := by split <;> exact ⟨rfl, rfl⟩
    rw [kidsP, nodeP_err (by rw [h1.1]; exact h)]
    have h2 := kidsP_err (l := l) (rs := rs) (a := a) (b := mxP (if rs = true then { s with last := a } else s).last b) (s := (if rs = true then { s with last := a } else s)) (by rw [h1.1]; exact h)
    simp only
    rw [h2.1, h2.2, h1.1, h1.2]
    exact ⟨rfl, rfl⟩
theorem needD_err {s : Ds} {k l a : Int} (h : s.e ≠ 0) : needD s k l a = s := by
  unfold needD
  rw [if_neg h]
  split <;> rfl
theorem condD_err {f : NodeF} {last : Int} {s : Ds} (h : s.e ≠ 0) : (condD cnt A f last s).2 = s := by
  unfold condD
  repeat' split
  all_goals first | rfl | exact needD_err h
mutual
theorem nodeD_err : ∀ (n : Node) (last : Int) (s : Ds), s.e ≠ 0 → (nodeD cnt A n last s).2.2 = s
  | .mk f ks, last, s, h => by
    rw [nodeD]
    by_cases q : f.kind = 7
    · rw [if_pos q]; exact needD_err h
    rw [if_neg q]
    by_cases q : f.kind = 8
    · rw [if_pos q]; exact needD_err h
    rw [if_neg q]
    have hc := condD_err (cnt := cnt) (A := A) (f := f) (last := last) h
    simp only
    rw [hc]
    exact kidsD_err ks _ _ _ s h
theorem kidsD_err : ∀ (l : List Node) (rs : Bool) (a b : Int) (s : Ds), s.e ≠ 0 → (kidsD cnt A l rs a b s).2.2 = s
  | [], rs, a, b, s, h => by rw [kidsD]
  | k :: l, rs, a, b, s, h => by
    rw [kidsD, nodeD_err k _ s h]
    exact kidsD_err l _ _ _ s h
end
theorem cond_same (f : NodeF) (a z : Int) (hk : f.kind = 19) :
    ((condF cnt A ⟨a, 0, z⟩ f).2 = ⟨a, 0, z⟩ ∧ (condD cnt A f a ⟨0, z⟩).2 = ⟨0, z⟩ ∧ (condF cnt A ⟨a, 0, z⟩ f).1 = (condD cnt A f a ⟨0, z⟩).1) ∨
    ((condF cnt A ⟨a, 0, z⟩ f).2.e ≠ 0 ∧ (condD cnt A f a ⟨0, z⟩).2.e = (condF cnt A ⟨a, 0, z⟩ f).2.e ∧ (condD cnt A f a ⟨0, z⟩).2.at_ = (condF cnt A ⟨a, 0, z⟩ f).2.at_) := by
  unfold condF condD vM
  rw [if_pos hk]
  by_cases q11 : f.n = 11
  · rw [if_pos q11, if_neg (show ¬ f.n = 9 by omega), if_neg (show ¬ f.n = 10 by omega), if_pos q11]
    by_cases qm : f.mode = -1
    · rw [if_pos qm, if_pos qm]; exact .inl ⟨rfl, rfl, rfl⟩
    · rw [if_neg qm, if_neg qm]
      simp only
      rcases set_same (cnt := cnt) (A := A) a z f.at_ f.m f.mode f.name (least := if f.m = 3 then 1 else 0) (by split <;> omega) with ⟨h1, h2, h3⟩ | ⟨h1, h2⟩
      · rw [h1, h2, h3]; exact .inl ⟨rfl, rfl, rfl⟩
      · rw [h1, h2]; exact .inr ⟨by show (34 : Int) ≠ 0; decide, rfl, rfl⟩
  rw [if_neg q11]
  by_cases q10 : f.n = 10
  · rw [if_pos q10, if_neg (show ¬ f.n = 9 by omega), if_pos q10]
    simp only
    rcases set_same (cnt := cnt) (A := A) a z f.at_ 3 f.mode f.name (least := 1) (by omega) with ⟨h1, h2, h3⟩ | ⟨h1, h2⟩
    · rw [h1, h2, h3]; exact .inl ⟨rfl, rfl, rfl⟩
    · rw [h1, h2]; exact .inr ⟨by show (34 : Int) ≠ 0; decide, rfl, rfl⟩
  rw [if_neg q10]
  by_cases q9 : f.n = 9
  · rw [if_pos q9, if_pos q9]
    simp only
    have hf : ({ f with n := 9 } : NodeF) = f := by rw [← q9]
    rw [hf]
    rcases set_same (cnt := cnt) (A := A) a z f.at_ f.m f.mode f.name (least := 1) (by omega) with ⟨h1, h2, h3⟩ | ⟨h1, h2⟩
    · rw [h1, h2, h3]; exact .inl ⟨rfl, rfl, rfl⟩
    · rw [h1, h2]; exact .inr ⟨by show (34 : Int) ≠ 0; decide, rfl, rfl⟩
  · rw [if_neg q9, if_neg q9, if_neg q10, if_neg q11]; exact .inl ⟨rfl, rfl, rfl⟩
theorem head_same (f : NodeF) (a z : Int) (h7 : ¬ (f.kind = 7 ∨ f.kind = 8)) :
    ((headP cnt A (nbF f a) ⟨a, 0, z⟩).2 = ⟨nbT f a, 0, z⟩ ∧ (condD cnt A (nbF f a) a ⟨0, z⟩).2 = ⟨0, z⟩ ∧ (headP cnt A (nbF f a) ⟨a, 0, z⟩).1 = (condD cnt A (nbF f a) a ⟨0, z⟩).1) ∨
    ((headP cnt A (nbF f a) ⟨a, 0, z⟩).2.e ≠ 0 ∧ (condD cnt A (nbF f a) a ⟨0, z⟩).2.e = (headP cnt A (nbF f a) ⟨a, 0, z⟩).2.e ∧ (condD cnt A (nbF f a) a ⟨0, z⟩).2.at_ = (headP cnt A (nbF f a) ⟨a, 0, z⟩).2.at_) := by
  unfold headP
  by_cases q14 : f.kind = 14
  · have h1 : nbF f a = { f with n := a + 1 } := by unfold nbF; rw [if_pos q14]
    have h2 : nbT f a = a + 1 := by unfold nbT; rw [if_pos q14]
    have hk : (nbF f a).kind = 14 := by rw [h1]; exact q14
    rw [if_pos hk, h2]
    unfold condD
    rw [if_neg (by omega), h1]
    exact .inl ⟨rfl, rfl, rfl⟩
  have h1 : nbF f a = f := by unfold nbF; rw [if_neg q14]
  have h2 : nbT f a = a := by unfold nbT; rw [if_neg q14]
  rw [h1, h2, if_neg q14, if_neg (by omega), if_neg (by omega)]
  by_cases q19 : f.kind = 19
  · rw [if_pos q19]
    exact cond_same f a z q19
  · rw [if_neg q19]
    unfold condD
    rw [if_neg q19]
    exact .inl ⟨rfl, rfl, rfl⟩
mutual
theorem eq_N (len : Int) : ∀ (n : Node) (a z : Int), n.all (RefT len) →
    ((nodeP cnt A (nbN n a).1 ⟨a, 0, z⟩).2 = ⟨(nbN n a).2, 0, z⟩ ∧ (nodeD cnt A (nbN n a).1 a ⟨0, z⟩).2 = ((nbN n a).2, ⟨0, z⟩) ∧ (nodeP cnt A (nbN n a).1 ⟨a, 0, z⟩).1 = (nodeD cnt A (nbN n a).1 a ⟨0, z⟩).1) ∨
    ((nodeP cnt A (nbN n a).1 ⟨a, 0, z⟩).2.e ≠ 0 ∧ (nodeD cnt A (nbN n a).1 a ⟨0, z⟩).2.2.e = (nodeP cnt A (nbN n a).1 ⟨a, 0, z⟩).2.e ∧ (nodeD cnt A (nbN n a).1 a ⟨0, z⟩).2.2.at_ = (nodeP cnt A (nbN n a).1 ⟨a, 0, z⟩).2.at_)
  | .mk f ks, a, z, ha => by
    rw [Node.all] at ha
    have hfk : (nbF f a).kind = f.kind := by unfold nbF; split <;> rfl
    rw [nbN]
    simp only
    rw [nodeP, nodeD, if_neg (by simp)]
    by_cases q7 : f.kind = 7 ∨ f.kind = 8
    · have hks : ks = [] := (ha.1.2.2.2.1 q7).1
      subst hks
      have h1 : nbF f a = f := by unfold nbF; rw [if_neg (by omega)]
      have h2 : nbT f a = a := by unfold nbT; rw [if_neg (by omega)]
      rw [h1, h2, nbL]
      simp only
      rw [kidsP]
      simp only
      rw [if_neg (show ¬ f.kind = 16 by omega)]
      unfold headP vN
      rw [if_neg (show ¬ f.kind = 14 by omega)]
      rcases q7 with q | q
      · rw [if_pos q, if_pos q]
        simp only
        rcases set_same (cnt := cnt) (A := A) a z f.at_ f.m f.n f.name (least := 1) (by omega) with ⟨h1, h2, h3⟩ | ⟨h1, h2⟩
        · rw [h1, h2, h3]; exact .inl ⟨rfl, rfl, rfl⟩
        · rw [h1, h2]; exact .inr ⟨by show (34 : Int) ≠ 0; decide, rfl, rfl⟩
      · rw [if_neg (show ¬ f.kind = 7 by omega), if_neg (show ¬ f.kind = 7 by omega), if_pos q, if_pos q]
        simp only
        rcases set_same (cnt := cnt) (A := A) a z f.at_ f.m f.n f.name (least := 0) (by omega) with ⟨h1, h2, h3⟩ | ⟨h1, h2⟩
        · rw [h1, h2, h3]; exact .inl ⟨rfl, rfl, rfl⟩
        · rw [h1, h2]; exact .inr ⟨by show (34 : Int) ≠ 0; decide, rfl, rfl⟩
    · rw [if_neg (show ¬ (nbF f a).kind = 7 by omega), if_neg (show ¬ (nbF f a).kind = 8 by omega)]
      have hT : (if (nbF f a).kind = 14 then (nbF f a).n else a) = nbT f a := by
        by_cases q : f.kind = 14
        · have h1 : nbF f a = { f with n := a + 1 } := by unfold nbF; rw [if_pos q]
          have h2 : nbT f a = a + 1 := by unfold nbT; rw [if_pos q]
          rw [hfk, if_pos q, h1, h2]
        · have h2 : nbT f a = a := by unfold nbT; rw [if_neg q]
          rw [hfk, if_neg q, h2]
      rw [hT, hfk]
      simp only
      rcases head_same (cnt := cnt) (A := A) f a z q7 with ⟨h1, h2, h3⟩ | ⟨h1, h2, h3⟩
      · rw [h1, h2, h3]
        simp only
        have hK := eq_L len ks (decide (f.kind = 16)) (nbT f a) (nbT f a) (nbT f a) z (Int.le_refl _) (fun _ => rfl) ha.2
        rcases hK with ⟨k1, k2, k3, k4⟩ | ⟨k1, k2, k3⟩
        · left
          by_cases q : f.kind = 16
          · obtain ⟨sl', g1, g2⟩ := k4
            rw [if_pos q, k1, k2, k3, g1]
            exact ⟨rfl, rfl, rfl⟩
          · obtain ⟨sl', g1, g2⟩ := k4
            have g3 := g2 (decide_eq_false q)
            rw [if_neg q, k1, k2, g1, g3]
            exact ⟨rfl, rfl, rfl⟩
        · right
          by_cases q : f.kind = 16
          · rw [if_pos q]; exact ⟨k1, k2, k3⟩
          · rw [if_neg q]; exact ⟨k1, k2, k3⟩
      · right
        have e1 := kidsP_err (cnt := cnt) (A := A) (l := (nbL ks (decide (f.kind = 16)) (nbT f a) (nbT f a)).1) (rs := decide (f.kind = 16)) (a := (headP cnt A (nbF f a) ⟨a, 0, z⟩).2.last) (b := (headP cnt A (nbF f a) ⟨a, 0, z⟩).2.last) h1
        have e2 := kidsD_err (cnt := cnt) (A := A) (nbL ks (decide (f.kind = 16)) (nbT f a) (nbT f a)).1 (decide (f.kind = 16)) (nbT f a) (nbT f a) (condD cnt A (nbF f a) a ⟨0, z⟩).2 (by rw [h2]; exact h1)
        rw [e2]
        by_cases q : f.kind = 16
        · rw [if_pos q]
          simp only
          rw [e1.1, e1.2]; exact ⟨h1, h2, h3⟩
        · rw [if_neg q, e1.1, e1.2]; exact ⟨h1, h2, h3⟩
theorem eq_L (len : Int) : ∀ (l : List Node) (rs : Bool) (a m sl z : Int), a ≤ m → (rs = false → sl = m) → allN (RefT len) l →
    ((kidsP cnt A (nbL l rs a m).1 rs a m ⟨sl, 0, z⟩).1 = (kidsD cnt A (nbL l rs a m).1 rs a m ⟨0, z⟩).1 ∧ (kidsD cnt A (nbL l rs a m).1 rs a m ⟨0, z⟩).2 = ((nbL l rs a m).2, ⟨0, z⟩) ∧ (kidsP cnt A (nbL l rs a m).1 rs a m ⟨sl, 0, z⟩).2.1 = (nbL l rs a m).2 ∧
      ∃ sl', (kidsP cnt A (nbL l rs a m).1 rs a m ⟨sl, 0, z⟩).2.2 = ⟨sl', 0, z⟩ ∧ (rs = false → sl' = (nbL l rs a m).2)) ∨
    ((kidsP cnt A (nbL l rs a m).1 rs a m ⟨sl, 0, z⟩).2.2.e ≠ 0 ∧ (kidsD cnt A (nbL l rs a m).1 rs a m ⟨0, z⟩).2.2.e = (kidsP cnt A (nbL l rs a m).1 rs a m ⟨sl, 0, z⟩).2.2.e ∧ (kidsD cnt A (nbL l rs a m).1 rs a m ⟨0, z⟩).2.2.at_ = (kidsP cnt A (nbL l rs a m).1 rs a m ⟨sl, 0, z⟩).2.2.at_)
  | [], rs, a, m, sl, z, h1, h2, ha => by
    rw [nbL]
    simp only
    rw [kidsP, kidsD]
    exact .inl ⟨rfl, rfl, rfl, _, rfl, h2⟩
  | k :: l, rs, a, m, sl, z, h1, h2, ha => by
    rw [allN] at ha
    rw [nbL]
    simp only
    rw [kidsP, kidsD]
    obtain ⟨st, hst⟩ : ∃ st, (if rs = true then a else m) = st := ⟨_, rfl⟩
    have hs : (if rs = true then ({ (⟨sl, 0, z⟩ : Rs) with last := a } : Rs) else ⟨sl, 0, z⟩) = ⟨st, 0, z⟩ := by
      rw [← hst]
      cases rs with
      | true => rfl
      | false => rw [h2 rfl]; rfl
    have hst2 : st ≤ m ∧ (rs = false → st = m) := by
      rw [← hst]
      cases rs with
      | true => exact ⟨h1, fun h => by cases h⟩
      | false => exact ⟨Int.le_refl _, fun _ => rfl⟩
    rw [hs, hst]
    have hN := eq_N len k st z ha.1
    have hle := nbN_le k st
    generalize nbN k st = r at *
    obtain ⟨k1, b1⟩ := r
    simp only at hN hle ⊢
    rcases hN with ⟨e1, e2, e3⟩ | ⟨e1, e2, e3⟩
    · rw [e1, e2, e3]
      simp only
      have hL := eq_L len l rs a (mxP b1 m) b1 z (by unfold mxP; split <;> omega) (fun h => by have := hst2.2 h; unfold mxP; split <;> omega) ha.2
      rcases hL with ⟨g1, g2, g3, g4⟩ | g
      · rw [g1, g2]
        exact .inl ⟨rfl, rfl, g3, g4⟩
      · exact .inr g
    · right
      have q1 := kidsP_err (cnt := cnt) (A := A) (l := (nbL l rs a (mxP b1 m)).1) (rs := rs) (a := a) (b := mxP (nodeP cnt A k1 ⟨st, 0, z⟩).2.last m) e1
      have q2 := kidsD_err (cnt := cnt) (A := A) (nbL l rs a (mxP b1 m)).1 rs a (mxP (nodeD cnt A k1 st ⟨0, z⟩).2.1 m) (nodeD cnt A k1 st ⟨0, z⟩).2.2 (by rw [e2]; exact e1)
      rw [q1.1, q1.2, q2]
      exact ⟨e1, e2, e3⟩
end
end
end Go.Proofs.Ytnoohgiecnmajaa.VC

/- The laws of references: numbered trees; what resolving answers. -/
namespace Go.Proofs.Ytnoohgiecnmajaa.VC
open Go Go.RowKit
set_option linter.unusedVariables false
set_option linter.unusedSimpArgs false
set_option maxHeartbeats 4000000

def resD (cnt : Int) (A : List (ByteArray × Int)) (n : Node) : ParR :=
  if (nodeD cnt A n 0 ⟨0, 0⟩).2.2.e ≠ 0 then ⟨nodeZ, (nodeD cnt A n 0 ⟨0, 0⟩).2.2.e, (nodeD cnt A n 0 ⟨0, 0⟩).2.2.at_⟩ else ⟨(nodeD cnt A n 0 ⟨0, 0⟩).1, 0, 0⟩
theorem res_same (cnt : Int) (A : List (ByteArray × Int)) (len : Int) (n : Node) (ha : n.all (RefT len)) : resD cnt A (nbN n 0).1 = resP cnt A (nbN n 0).1 := by
  have h := eq_N (cnt := cnt) (A := A) len n 0 0 ha
  unfold resD resP
  generalize nodeP cnt A (nbN n 0).1 ⟨0, 0, 0⟩ = P at *
  generalize nodeD cnt A (nbN n 0).1 0 ⟨0, 0⟩ = D at *
  rcases h with ⟨h1, h2, h3⟩ | ⟨h1, h2, h3⟩
  · rw [h1, h2, h3]
  · rw [if_pos h1, if_pos (by rw [h2]; exact h1), h2, h3]
mutual
theorem nodeP_w (cnt : Int) (A : List (ByteArray × Int)) : ∀ (n : Node) (s : Rs), (nodeP cnt A n s).1.w = n.w
  | .mk f ks, s => by
    rw [nodeP]
    split
    · rfl
    · simp only
      rw [Node.w, Node.w, kidsP_w cnt A ks]
theorem kidsP_w (cnt : Int) (A : List (ByteArray × Int)) : ∀ (l : List Node) (rs : Bool) (a b : Int) (s : Rs), wN (kidsP cnt A l rs a b s).1 = wN l
  | [], rs, a, b, s => by rw [kidsP]
  | k :: l, rs, a, b, s => by rw [kidsP]; simp only; rw [wN, wN, nodeP_w cnt A k, kidsP_w cnt A l]
end
mutual
theorem nodeP_set (cnt : Int) (A : List (ByteArray × Int)) : ∀ (n : Node) (s : Rs), n.all SetOk → (nodeP cnt A n s).1.all SetOk
  | .mk f ks, s, h => by
    rw [nodeP]
    split
    · exact h
    · rw [Node.all] at h
      simp only
      rw [Node.all]
      refine ⟨?_, kidsP_set cnt A ks _ _ _ _ h.2⟩
      have h1 : f.set.length ≤ 4000000000 := h.1
      show (headP cnt A f s).1.set.length ≤ 4000000000
      rw [(headP_same f s).2]
      exact h1
theorem kidsP_set (cnt : Int) (A : List (ByteArray × Int)) : ∀ (l : List Node) (rs : Bool) (a b : Int) (s : Rs), allN SetOk l → allN SetOk (kidsP cnt A l rs a b s).1
  | [], rs, a, b, s, h => by rw [kidsP]; exact h
  | k :: l, rs, a, b, s, h => by
    rw [allN] at h
    rw [kidsP]
    simp only
    rw [allN]
    exact ⟨nodeP_set cnt A k _ h.1, kidsP_set cnt A l _ _ _ _ h.2⟩
end
theorem resP_ok (cnt : Int) (A : List (ByteArray × Int)) (n : Node) (h : n.all SetOk) : (resP cnt A n).n.w ≤ n.w ∧ (resP cnt A n).n.all SetOk := by
  have hz : nodeZ.all SetOk := by unfold nodeZ; rw [Node.all, allN]; exact ⟨Nat.zero_le _, trivial⟩
  have hzw : nodeZ.w = 1 := by decide
  have h1 := w_pos n
  unfold resP
  split
  · exact ⟨by show nodeZ.w ≤ n.w; omega, hz⟩
  · exact ⟨Nat.le_of_eq (nodeP_w cnt A n _), nodeP_set cnt A n _ h⟩
theorem flatP_ref (l : List Int) (o : Int) : (flatP l o).1.all (RefT l.length) := by
  have h1 := lexP_ok l o
  unfold flatP
  split
  · exact zRefT _
  split
  · exact zRefT _
  · rename_i e1 e2
    have h2 := parse_all (ref_ph (h1.2.1 (by simpa using e1)).2.2) l.length (by simpa using e2)
    exact nodeR_ref _ _ _ _ h2.1
/-- A tree with numbers, and whether there is one. -/
def numdP (l : List Int) (o : Int) : NumR × Bool :=
  if (flatP l o).2 = false then (⟨nodeZ, 0, [], 0, 0⟩, false) else (numR9 (flatP l o).1, decide ((numR9 (flatP l o).1).e = 0))
@[reducible] def numdE (r : NumR × Bool) : SV := .tuple [r.1.n.enc, iv r.1.most, ms r.1.names, bv r.2]
theorem numd_facts (l : List Int) (o : Int) (h : (numdP l o).2 = true) : (numdP l o).1.n = (nbN (flatP l o).1 0).1 ∧ (numdP l o).1.most = (nbN (flatP l o).1 0).2 ∧ (numdP l o).1.n.w ≤ 20000 ∧ (numdP l o).1.names.length ≤ 20000 ∧
    (numdP l o).1.n.all SetOk ∧ (numdP l o).1.n.all (RefT l.length) ∧ (numdP l o).1.n.all RefOk ∧ (∀ p ∈ (numdP l o).1.names, 1 ≤ p.2 ∧ p.2 ≤ (numdP l o).1.most) := by
  have hr := flatP_ref l o
  have hs := flatP_all l o
  have hw := flatP_w l o
  have hgw := numG_w (flatP l o).1
  have hsay := names_say (flatP l o).1
  have hnb := nbN_le (flatP l o).1 0
  have hri := fun x => rise_N (flatP l o).1 0 x
  have hrf := nbN_ref l.length (flatP l o).1 0 (by omega) (by omega) hr
  rw [numG_is] at hgw hsay
  unfold numdP at h ⊢
  by_cases q : (flatP l o).2 = false
  · rw [if_pos q] at h; cases h
  rw [if_neg q] at h ⊢
  have he : (numR9 (flatP l o).1).e = 0 := of_decide_eq_true h
  have hn : (numR9 (flatP l o).1).n = (nbN (flatP l o).1 0).1 ∧ (numR9 (flatP l o).1).most = (nbN (flatP l o).1 0).2 := by
    unfold numR9 at he ⊢
    split
    · rename_i q; rw [if_pos q] at he; exact absurd he q
    · exact ⟨rfl, rfl⟩
  obtain ⟨hd, hall⟩ := hsay he
  have hset := hgw.2.2 hs
  refine ⟨hn.1, hn.2, by simp only; omega, by simp only; omega, hset, by simp only; rw [hn.1]; exact hrf, ?_, ?_⟩
  · simp only at hset ⊢
    rw [hn.1] at hset ⊢
    exact all_and (fun n (h1 : SetOk n) (h2 : RefT l.length n) => ⟨h1, h2.1, h2.2.1, h2.2.2.1⟩) _ hset hrf
  · intro p hp
    obtain ⟨c, h1, h2⟩ := List.any_eq_true.1 (hall p hp)
    rw [hn.1] at h1
    have h3 : p.2 ∈ numsC (capsN (nbN (flatP l o).1 0).1) := by
      unfold numsC
      refine List.mem_map.2 ⟨c, h1, ?_⟩
      unfold isX at h2
      rw [Bool.and_eq_true] at h2
      exact of_decide_eq_true h2.2
    have h4 := (hri p.2).2 h3
    simp only
    rw [hn.2]
    omega
attribute [local irreducible] lexP parseP resolveP numR9 nodeD nodeP resP
set_option maxHeartbeats 16000000
theorem resD_c (cnt : Int) (A : List (ByteArray × Int)) (n : Node) (hA : A.length ≤ 1000000) (hw : n.w ≤ 1000000) (ha : n.all RefOk) : VCalls Try.prog 32 [n.enc, iv cnt, ms A] (fun r => r = parE (resD cnt A n)) := by
  have hc := nd_c cnt A hA n.w n (Nat.le_refl _) hw ha 0 ⟨0, 0⟩ (by decide) (by decide)
  obtain ⟨G, hG⟩ : ∃ G, resD cnt A n = G := ⟨_, rfl⟩
  rw [hG]
  unfold resD at hG
  obtain ⟨f0, k0, h0⟩ := n.ex
  rw [h0] at hc hG ⊢
  generalize nodeD cnt A (.mk f0 k0) 0 ⟨0, 0⟩ = r at *
  obtain ⟨⟨f, ks⟩, most, ⟨e, at_⟩⟩ := r
  simp only at hG hc
  refine VCalls.ofr tabOk Try.func32 (by decide) rfl rfl ?_
  refine RWP.seqx tabOk orders ?_
  conv => whnf
  refine RWP.seqx tabOk orders ?_
  repeat' ((conv => whnf); (first
    | (with_reducible first | refine Spl.yes ?_ | refine Spl.no ?_ | refine Spl.dec (fun h => ?_) (fun h => ?_) | refine Spl.eq (fun h => ?_) (fun h => ?_) | refine Spl.ne (fun h => ?_) (fun h => ?_) | refine Spl.seq (fun h => ?_) (fun h => ?_) | refine Spl.not ?_ | refine Spl.any (fun h => ?_) (fun h => ?_))
    | ((with_reducible apply And.intro); first | omega | rfl | (dsimp only; omega))))
  all_goals (conv => whnf)
  refine RWP.seqx tabOk orders ?_
  repeat' ((conv => whnf); (first
    | (with_reducible first | refine Spl.yes ?_ | refine Spl.no ?_ | refine Spl.dec (fun h => ?_) (fun h => ?_) | refine Spl.eq (fun h => ?_) (fun h => ?_) | refine Spl.ne (fun h => ?_) (fun h => ?_) | refine Spl.seq (fun h => ?_) (fun h => ?_) | refine Spl.not ?_ | refine Spl.any (fun h => ?_) (fun h => ?_))
    | (refine HQ.use (hc) ⟨fun _ => 15, id, id⟩ ⟨rfl, rfl⟩ rfl rfl (by first | exact ⟨⟨rfl, rfl⟩, trivial⟩ | exact ⟨⟨rfl, rfl⟩, ⟨rfl, rfl⟩, trivial⟩) (by first | exact trivial | exact ⟨⟨rfl, rfl⟩, trivial⟩ | exact ⟨⟨rfl, rfl⟩, ⟨rfl, rfl⟩, trivial⟩) (by first | exact trivial | exact ⟨⟨rfl, rfl⟩, trivial⟩) ?_; rintro _ _ ⟨rfl, rfl⟩; refine ⟨⟨rfl, rfl, rfl⟩, ?_⟩)
    | refine And.intro (Nat.le_of_ble_eq_true rfl) ?_
    | ((with_reducible apply And.intro); first | omega | rfl | (dsimp only; omega))))
  all_goals (conv => whnf)
  refine RWP.of tabOk orders ?_
  repeat' ((conv => whnf); (first
    | (with_reducible first | refine Spl.yes ?_ | refine Spl.no ?_ | refine Spl.dec (fun h => ?_) (fun h => ?_) | refine Spl.eq (fun h => ?_) (fun h => ?_) | refine Spl.ne (fun h => ?_) (fun h => ?_) | refine Spl.seq (fun h => ?_) (fun h => ?_) | refine Spl.not ?_ | refine Spl.any (fun h => ?_) (fun h => ?_))
    | refine drawn_plan (.one 0 (.one 1 (.one 2 (.one 3 (.one 5 (.one 6 (.one 7 (.three 4 (.two 8 (.ofList [9, 10, 11]) 9 (.ofList [8, 10, 11])) 8 (.two 4 (.ofList [9, 10, 11]) 9 (.ofList [4, 10, 11])) 9 (.ofList [4, 8, 10, 11]))))))))) (by decide +kernel) ?_
    | refine Fork.mk ?_ ?_
    | refine And.intro (Nat.le_of_ble_eq_true rfl) ?_
    | ((with_reducible apply And.intro); first | omega | rfl | (dsimp only; omega))))
  all_goals (conv => whnf)
  all_goals first
    | (rw [if_pos (by assumption)] at hG; subst hG; rfl)
    | (rw [if_neg (fun h => h (by assumption))] at hG; subst hG; rfl)
theorem numd_c (l : List Int) (o : Int) (hb : Bytes l) : VCalls Try.prog 30 [ys l, iv o] (fun r => r = numdE (numdP l o)) := by
  have h1 := lexP_ok l o
  have hlex := lex_c l o hb
  have hbl : (byteRows l).length = l.length := by simp [byteRows]
  have hpar := parse_c (lexP l o).toks l.length (by omega)
  have hall : (lexP l o).e = 0 → (parseP (lexP l o).toks l.length).e = 0 → VCalls Try.prog 44 [(parseP (lexP l o).toks l.length).n.enc, iv o] (fun r => r = (resolveP (parseP (lexP l o).toks l.length).n o).enc) := by
    intro e1 e2
    have h2 := parse_all (fit_ph (h1.2.1 e1).2.2) l.length e2
    have h4 := h1.1
    exact resolve_c _ o (by omega) h2.1
  have hw := flatP_w l o
  obtain ⟨G, hG⟩ : ∃ G, numdP l o = G := ⟨_, rfl⟩
  rw [hG]
  unfold numdP at hG
  unfold flatP at hG hw
  generalize lexP l o = x at *
  obtain ⟨toks, e, at_⟩ := x
  simp only at *
  generalize parseP toks l.length = y at *
  obtain ⟨⟨f1, k1⟩, e2, at2⟩ := y
  simp only at *
  have hnum : e = 0 → e2 = 0 → VCalls Try.prog 22 [(resolveP (Node.mk f1 k1) o).enc] (fun r => r = numE (numR9 (resolveP (Node.mk f1 k1) o))) := by
    intro e1 e2
    rw [if_neg (by simp [e1]), if_neg (by simp [e2])] at hw
    exact number9_c _ (by simp only at hw; omega)
  generalize resolveP (Node.mk f1 k1) o = z at *
  obtain ⟨f2, k2⟩ := z
  generalize hq : numR9 (.mk f2 k2) = Q at *
  obtain ⟨⟨f3, k3⟩, most, names, e3, at3⟩ := Q
  refine VCalls.ofr tabOk Try.func30 (by decide) rfl rfl ?_
  refine RWP.of tabOk orders ?_
  repeat' ((conv => whnf); (first
    | (with_reducible first | refine Spl.yes ?_ | refine Spl.no ?_ | refine Spl.dec (fun h => ?_) (fun h => ?_) | refine Spl.eq (fun h => ?_) (fun h => ?_) | refine Spl.ne (fun h => ?_) (fun h => ?_) | refine Spl.seq (fun h => ?_) (fun h => ?_) | refine Spl.not ?_ | refine Spl.any (fun h => ?_) (fun h => ?_))
    | (refine VCalls.mono (hlex) ?_; rintro _ rfl)
    | (refine VCalls.mono (hpar) ?_; rintro _ rfl)
    | (refine VCalls.mono (hall (by assumption) (by assumption)) ?_; rintro _ rfl)
    | (refine VCalls.mono (hnum (by assumption) (by assumption)) ?_; rintro _ rfl)
    | (rw [hbl])
    | (dsimp only)
    | refine And.intro (Nat.le_of_ble_eq_true rfl) ?_
    | ((with_reducible apply And.intro); first | omega | rfl | (dsimp only; omega))))
  all_goals (conv => whnf)
  all_goals (try dsimp only at *)
  all_goals first
    | (exfalso; omega)
    | (rw [if_pos (show e ≠ 0 by assumption)] at hG; rw [if_pos rfl] at hG; subst hG; rfl)
    | (rw [if_neg (show ¬ e ≠ 0 by omega), if_pos (show e2 ≠ 0 by assumption)] at hG; rw [if_pos rfl] at hG; subst hG; rfl)
    | (rw [if_neg (show ¬ e ≠ 0 by omega), if_neg (show ¬ e2 ≠ 0 by omega)] at hG; rw [if_neg (by simp), hq] at hG; subst hG; rfl)
end Go.Proofs.Ytnoohgiecnmajaa.VC

/- The laws of references: awake; RefsSays. -/
namespace Go.Proofs.Ytnoohgiecnmajaa.VC
open Go Go.RowKit
set_option linter.unusedVariables false
set_option linter.unusedSimpArgs false
set_option maxHeartbeats 4000000

def rdP (l : List Int) : ParR := if (numdP l 0).2 = false then ⟨nodeZ, 1, -1⟩ else resP (numdP l 0).1.most (numdP l 0).1.names (numdP l 0).1.n
def rw1 : List Int := [40, 97, 41, 40, 98, 41, 92, 103, 123, 45, 49, 125, 92, 103, 123, 45, 50, 125]
def rw2 : List Int := [40, 97, 41, 92, 50]
theorem rw1_is : (rdP rw1).e = 0 ∧ (rdP rw1).n.kids.length = 4 ∧ (rdn (rdP rw1).n.kids 2).f.n = 2 ∧ (rdn (rdP rw1).n.kids 2).f.m = 0 ∧ (rdn (rdP rw1).n.kids 3).f.n = 1 := by decide +kernel
theorem rw2_is : (rdP rw2).e = 34 ∧ (rdP rw2).at_ = 3 := by decide +kernel
attribute [local irreducible] numdP resP resD nodeP nodeD
set_option maxHeartbeats 16000000
theorem resolved_c (s : ByteArray) : VCalls Try.prog 34 [sv s] (fun r => r = parE (rdP (numsOf s))) := by
  have hb := numsOf_bytes s
  have hnd := numd_c (numsOf s) 0 hb
  have hfa := numd_facts (numsOf s) 0
  have hres : (numdP (numsOf s) 0).2 = true → VCalls Try.prog 31 [(numdP (numsOf s) 0).1.n.enc, iv (numdP (numsOf s) 0).1.most, ms (numdP (numsOf s) 0).1.names] (fun r => r = parE (resP (numdP (numsOf s) 0).1.most (numdP (numsOf s) 0).1.names (numdP (numsOf s) 0).1.n)) := by
    intro h
    obtain ⟨h1, h2, h3, h4, h5, h6, h7, h8⟩ := hfa h
    exact resP_c _ _ _ (by omega) (by omega) h7
  obtain ⟨G, hG⟩ : ∃ G, rdP (numsOf s) = G := ⟨_, rfl⟩
  rw [hG]
  unfold rdP at hG
  generalize numdP (numsOf s) 0 = q at *
  obtain ⟨⟨⟨f1, k1⟩, most, names, e1, at1⟩, ok⟩ := q
  simp only at *
  generalize resP most names (Node.mk f1 k1) = z at *
  obtain ⟨⟨f2, k2⟩, e2, at2⟩ := z
  refine VCalls.ofr tabOk Try.func34 (by decide) rfl rfl ?_
  refine RWP.of tabOk orders ?_
  repeat' ((conv => whnf); (first
    | (with_reducible first | refine Spl.yes ?_ | refine Spl.no ?_ | refine Spl.dec (fun h => ?_) (fun h => ?_) | refine Spl.eq (fun h => ?_) (fun h => ?_) | refine Spl.ne (fun h => ?_) (fun h => ?_) | refine Spl.seq (fun h => ?_) (fun h => ?_) | refine Spl.not ?_ | refine Spl.any (fun h => ?_) (fun h => ?_))
    | (refine VCalls.mono (hnd) ?_; rintro _ rfl)
    | (refine VCalls.mono (hres (by assumption)) ?_; rintro _ rfl)
    | refine And.intro (Nat.le_of_ble_eq_true rfl) ?_
    | ((with_reducible apply And.intro); first | omega | rfl | (dsimp only; omega))))
  all_goals (conv => whnf)
  all_goals first
    | (rw [if_pos (by assumption)] at hG; subst hG; rfl)
    | (have hok : ok = true := by assumption
       subst hok
       rw [if_neg (by simp)] at hG; subst hG; rfl)
attribute [local irreducible] rdP
theorem awake10_c : VCalls Try.prog 29 [] (fun r => r = bv true) := by
  have hr1 := resolved_c { data := #[40, 97, 41, 40, 98, 41, 92, 103, 123, 45, 49, 125, 92, 103, 123, 45, 50, 125] }
  have hr2 := resolved_c { data := #[40, 97, 41, 92, 50] }
  rw [show numsOf { data := #[40, 97, 41, 40, 98, 41, 92, 103, 123, 45, 49, 125, 92, 103, 123, 45, 50, 125] } = rw1 by decide +kernel] at hr1
  rw [show numsOf { data := #[40, 97, 41, 92, 50] } = rw2 by decide +kernel] at hr2
  have ha1 := rw1_is
  have ha2 := rw2_is
  generalize rdP rw1 = q1 at *
  generalize rdP rw2 = q2 at *
  obtain ⟨⟨g1, m1⟩, e1, at1⟩ := q1
  obtain ⟨⟨g2, m2⟩, e2, at2⟩ := q2
  simp only [Node.kids] at *
  obtain ⟨rfl, hk, hn2, hm2, hn3⟩ := ha1
  obtain ⟨rfl, rfl⟩ := ha2
  have hrl := rowsN_len m1
  obtain ⟨f2, k2, h2⟩ := (rdn m1 2).ex
  obtain ⟨f3, k3, h3⟩ := (rdn m1 3).ex
  rw [h2] at hn2 hm2
  rw [h3] at hn3
  refine VCalls.ofr tabOk Try.func29 (by decide) rfl rfl ?_
  refine RWP.of tabOk orders ?_
  repeat' ((conv => whnf); (first
    | (with_reducible first | refine Spl.yes ?_ | refine Spl.no ?_ | refine Spl.dec (fun h => ?_) (fun h => ?_) | refine Spl.eq (fun h => ?_) (fun h => ?_) | refine Spl.ne (fun h => ?_) (fun h => ?_) | refine Spl.seq (fun h => ?_) (fun h => ?_) | refine Spl.not ?_ | refine Spl.any (fun h => ?_) (fun h => ?_))
    | (refine VCalls.mono (hr1) ?_; rintro _ rfl)
    | (refine VCalls.mono (hr2) ?_; rintro _ rfl)
    | (rw [rowsN_get (show (2 : Int).toNat < m1.length by rw [hk]; decide)])
    | (rw [rowsN_get (show (3 : Int).toNat < m1.length by rw [hk]; decide)])
    | (rw [h2])
    | (rw [h3])
    | refine And.intro (Nat.le_of_ble_eq_true rfl) ?_
    | ((with_reducible apply And.intro); first | omega | rfl | (dsimp only; omega))))
  all_goals (conv => whnf)
  all_goals first
    | (exfalso; omega)
    | (exfalso; exact absurd (show f2.n = 2 from hn2) (by assumption))
    | (exfalso; exact absurd (show f2.m = 0 from hm2) (by assumption))
    | (exfalso; exact absurd (show f3.n = 1 from hn3) (by assumption))
    | (exfalso; exact absurd rfl (by assumption))
    | rfl
theorem says10_c (l : List Int) (o : Int) (hb : Bytes l) : VCalls Try.prog 8 [ys l, iv o] (fun r => r = bv true) := by
  have hnd := numd_c l o hb
  have hfa := numd_facts l o
  have hfl := flatP_ref l o
  have hres : (numdP l o).2 = true → VCalls Try.prog 31 [(numdP l o).1.n.enc, iv (numdP l o).1.most, ms (numdP l o).1.names] (fun r => r = parE (resP (numdP l o).1.most (numdP l o).1.names (numdP l o).1.n)) := by
    intro h
    obtain ⟨h1, h2, h3, h4, h5, h6, h7, h8⟩ := hfa h
    exact resP_c _ _ _ (by omega) (by omega) h7
  have hred : (numdP l o).2 = true → VCalls Try.prog 32 [(numdP l o).1.n.enc, iv (numdP l o).1.most, ms (numdP l o).1.names] (fun r => r = parE (resP (numdP l o).1.most (numdP l o).1.names (numdP l o).1.n)) := by
    intro h
    obtain ⟨h1, h2, h3, h4, h5, h6, h7, h8⟩ := hfa h
    have := resD_c (numdP l o).1.most (numdP l o).1.names (numdP l o).1.n (by omega) (by omega) h7
    rw [h1, res_same _ _ _ _ hfl, ← h1] at this
    exact this
  have hrok : (numdP l o).2 = true → (resP (numdP l o).1.most (numdP l o).1.names (numdP l o).1.n).n.w ≤ 1000000 ∧ (resP (numdP l o).1.most (numdP l o).1.names (numdP l o).1.n).n.all SetOk := by
    intro h
    obtain ⟨h1, h2, h3, h4, h5, h6, h7, h8⟩ := hfa h
    have := resP_ok (numdP l o).1.most (numdP l o).1.names (numdP l o).1.n h5
    exact ⟨by omega, this.2⟩
  have hsm : (numdP l o).2 = true → SmC (resP (numdP l o).1.most (numdP l o).1.names (numdP l o).1.n).n := fun h => same_c _ _ (Nat.le_refl _) (hrok h).1 (hrok h).2
  have hpl : (numdP l o).2 = true → PlC (resP (numdP l o).1.most (numdP l o).1.names (numdP l o).1.n).n := fun h => places_c _ _ (Nat.le_refl _) (hrok h).1
  unfold SmC at hsm
  unfold PlC at hpl
  clear hfa hfl hrok
  generalize numdP l o = q at *
  obtain ⟨⟨⟨f1, k1⟩, most, names, e1, at1⟩, ok⟩ := q
  simp only at *
  generalize resP most names (Node.mk f1 k1) = z at *
  obtain ⟨⟨f2, k2⟩, e2, at2⟩ := z
  simp only at *
  refine VCalls.ofr tabOk Try.func8 (by decide) rfl rfl ?_
  refine RWP.of tabOk orders ?_
  repeat' ((conv => whnf); (first
    | (with_reducible first | refine Spl.yes ?_ | refine Spl.no ?_ | refine Spl.dec (fun h => ?_) (fun h => ?_) | refine Spl.eq (fun h => ?_) (fun h => ?_) | refine Spl.ne (fun h => ?_) (fun h => ?_) | refine Spl.seq (fun h => ?_) (fun h => ?_) | refine Spl.not ?_ | refine Spl.any (fun h => ?_) (fun h => ?_))
    | (refine VCalls.mono (awake10_c) ?_; rintro _ rfl)
    | (refine VCalls.mono (hnd) ?_; rintro _ rfl)
    | (refine VCalls.mono (hres (by assumption)) ?_; rintro _ rfl)
    | (refine VCalls.mono (hred (by assumption)) ?_; rintro _ rfl)
    | (refine VCalls.mono (hsm (by assumption)) ?_; rintro _ rfl)
    | (refine VCalls.mono (hpl (by assumption)) ?_; rintro _ rfl)
    | refine drawn_text (by decide +kernel) ?_
    | refine And.intro (Nat.le_of_ble_eq_true rfl) ?_
    | ((with_reducible apply And.intro); first | omega | rfl | (dsimp only; omega))))
  all_goals (conv => whnf)
  all_goals first
    | (exfalso; exact absurd rfl (by assumption))
    | rfl
    | (simp only [beq_self_eq_true]; rfl)
end Go.Proofs.Ytnoohgiecnmajaa.VC

/- The laws of references: RefsWithin. -/
namespace Go.Proofs.Ytnoohgiecnmajaa.VC
open Go Go.RowKit
set_option linter.unusedVariables false
set_option linter.unusedSimpArgs false
set_option maxHeartbeats 4000000

/-- A node's references are right. -/
def WithN (cnt : Int) (n : Node) : Prop :=
  (n.f.kind = 7 ∨ n.f.kind = 8 → n.f.m = 0 ∧ n.f.name = bs [] ∧ n.f.n ≤ cnt ∧ 0 ≤ n.f.n ∧ (n.f.kind = 7 → n.f.n ≠ 0)) ∧
  (n.f.kind = 19 → n.f.n ≠ 10 ∧ n.f.m = 0 ∧ n.f.name = bs [] ∧ n.f.mode ≤ cnt ∧ (n.f.n = 9 → 1 ≤ n.f.mode))
theorem meantP_le {cnt : Int} {A : List (ByteArray × Int)} (hA : ∀ p ∈ A, 1 ≤ p.2 ∧ p.2 ≤ cnt) {last m k : Int} {nm : ByteArray} (h0 : 0 ≤ cnt) : meantP cnt A last m k nm ≤ cnt := by
  unfold meantP
  split
  · cases h : findS nm A with
    | none => show (-1 : Int) ≤ cnt; omega
    | some v => exact (hA _ (findS_mem h)).2
  · generalize (if m = 1 then last - k + 1 else if m = 2 then last + k else k) = K
    split <;> omega
theorem setS_ok {s : Rs} {v least a : Int} (h0 : s.e = 0) (h : (setS s v least a).e = 0) : least ≤ v ∧ setS s v least a = s := by
  unfold setS at h ⊢
  by_cases q : v < least
  · rw [if_pos q, if_pos h0] at h; exact absurd h (by show ¬ (34 : Int) = 0; decide)
  · rw [if_neg q]; exact ⟨by omega, rfl⟩
section
variable {cnt : Int} {A : List (ByteArray × Int)}
theorem condF_with {len : Int} (hA : ∀ p ∈ A, 1 ≤ p.2 ∧ p.2 ≤ cnt) (h0 : 0 ≤ cnt) {s : Rs} {f : NodeF} {ks ks' : List Node} (hk : f.kind = 19) (ht : RefT len (.mk f ks)) (he : s.e = 0) (h : (condF cnt A s f).2.e = 0) : WithN cnt (.mk (condF cnt A s f).1 ks') := by
  have hc := (ht.2.2.2.2 hk).2
  have hmo : f.n = 9 ∨ f.n = 10 ∨ (f.n = 11 ∧ (f.mode = -1 → f.m = 0 ∧ f.name = bs [])) ∨ (f.n ≥ 12 ∧ f.m = 0 ∧ f.name = bs [] ∧ f.mode = 0) := hc
  unfold condF vM at h ⊢
  by_cases q11 : f.n = 11
  · rw [if_pos q11] at h ⊢
    by_cases qm : f.mode = -1
    · rw [if_pos qm]
      rcases hmo with q | q | ⟨_, q⟩ | q
      · omega
      · omega
      · obtain ⟨q1, q2⟩ := q qm
        exact ⟨fun hh => by have hh : f.kind = 7 ∨ f.kind = 8 := hh; omega, fun _ => ⟨by show f.n ≠ 10; omega, q1, q2, by show f.mode ≤ cnt; omega, fun hh => by have hh : f.n = 9 := hh; omega⟩⟩
      · omega
    · rw [if_neg qm] at h ⊢
      have := setS_ok he h
      refine ⟨fun hh => by have hh : f.kind = 7 ∨ f.kind = 8 := hh; omega, fun _ => ⟨by show f.n ≠ 10; omega, rfl, rfl, meantP_le hA h0, fun hh => by have hh : f.n = 9 := hh; omega⟩⟩
  rw [if_neg q11] at h ⊢
  by_cases q10 : f.n = 10
  · rw [if_pos q10] at h ⊢
    have := setS_ok he h
    refine ⟨fun hh => by have hh : f.kind = 7 ∨ f.kind = 8 := hh; omega, fun _ => ⟨by show (9 : Int) ≠ 10; decide, rfl, rfl, (show meantP cnt A s.last 3 f.mode f.name ≤ cnt from meantP_le hA h0), fun _ => this.1⟩⟩
  rw [if_neg q10] at h ⊢
  by_cases q9 : f.n = 9
  · rw [if_pos q9] at h ⊢
    have := setS_ok he h
    refine ⟨fun hh => by have hh : f.kind = 7 ∨ f.kind = 8 := hh; omega, fun _ => ⟨by show f.n ≠ 10; omega, rfl, rfl, meantP_le hA h0, fun _ => this.1⟩⟩
  · rw [if_neg q9]
    rcases hmo with q | q | q | ⟨q, q1, q2, q3⟩
    · omega
    · omega
    · omega
    · exact ⟨fun hh => by have hh : f.kind = 7 ∨ f.kind = 8 := hh; omega, fun _ => ⟨by show f.n ≠ 10; omega, q1, q2, by show f.mode ≤ cnt; omega, fun hh => by have hh : f.n = 9 := hh; omega⟩⟩
theorem headP_with {len : Int} (hA : ∀ p ∈ A, 1 ≤ p.2 ∧ p.2 ≤ cnt) (h0 : 0 ≤ cnt) {s : Rs} {f : NodeF} {ks ks' : List Node} (ht : RefT len (.mk f ks)) (he : s.e = 0) (h : (headP cnt A f s).2.e = 0) : WithN cnt (.mk (headP cnt A f s).1 ks') := by
  have triv : ∀ f : NodeF, f.kind ≠ 7 → f.kind ≠ 8 → f.kind ≠ 19 → WithN cnt (.mk f ks') := fun f q1 q2 q3 => ⟨fun hh => by have hh : f.kind = 7 ∨ f.kind = 8 := hh; omega, fun hh => absurd hh q3⟩
  unfold headP vN at h ⊢
  by_cases q14 : f.kind = 14
  · rw [if_pos q14]; exact triv f (by omega) (by omega) (by omega)
  rw [if_neg q14] at h ⊢
  by_cases q7 : f.kind = 7
  · rw [if_pos q7] at h ⊢
    have := setS_ok he h
    refine ⟨fun _ => ⟨rfl, rfl, meantP_le hA h0, ?_, fun _ => ?_⟩, fun hh => by have hh : f.kind = 19 := hh; omega⟩
    · show 0 ≤ meantP cnt A s.last f.m f.n f.name; omega
    · show meantP cnt A s.last f.m f.n f.name ≠ 0; omega
  rw [if_neg q7] at h ⊢
  by_cases q8 : f.kind = 8
  · rw [if_pos q8] at h ⊢
    have := setS_ok he h
    exact ⟨fun _ => ⟨rfl, rfl, meantP_le hA h0, this.1, fun hh => absurd hh (by show ¬ f.kind = 7; omega)⟩, fun hh => by have hh : f.kind = 19 := hh; omega⟩
  rw [if_neg q8] at h ⊢
  by_cases q19 : f.kind = 19
  · rw [if_pos q19] at h ⊢
    exact condF_with hA h0 q19 ht he h
  · rw [if_neg q19]; exact triv f q7 q8 q19
mutual
theorem nodeP_with {len : Int} (hA : ∀ p ∈ A, 1 ≤ p.2 ∧ p.2 ≤ cnt) (h0 : 0 ≤ cnt) : ∀ (n : Node) (s : Rs), n.all (RefT len) → s.e = 0 → (nodeP cnt A n s).2.e = 0 → (nodeP cnt A n s).1.all (WithN cnt)
  | .mk f ks, s, ha, he, h => by
    rw [Node.all] at ha
    rw [nodeP, if_neg (by simp [he])] at h ⊢
    have hk : (kidsP cnt A ks (decide (f.kind = 16)) (headP cnt A f s).2.last (headP cnt A f s).2.last (headP cnt A f s).2).2.2.e = 0 := by
      simp only at h
      split at h
      · exact h
      · exact h
    have hh : (headP cnt A f s).2.e = 0 := by
      by_cases q : (headP cnt A f s).2.e = 0
      · exact q
      · rw [(kidsP_err q).1] at hk; exact absurd hk q
    simp only
    rw [Node.all]
    exact ⟨headP_with hA h0 ha.1 he hh, kidsP_with hA h0 ks _ _ _ _ ha.2 hh hk⟩
theorem kidsP_with {len : Int} (hA : ∀ p ∈ A, 1 ≤ p.2 ∧ p.2 ≤ cnt) (h0 : 0 ≤ cnt) : ∀ (l : List Node) (rs : Bool) (a b : Int) (s : Rs), allN (RefT len) l → s.e = 0 → (kidsP cnt A l rs a b s).2.2.e = 0 → allN (WithN cnt) (kidsP cnt A l rs a b s).1
  | [], rs, a, b, s, ha, he, h => by rw [kidsP, allN]; trivial
  | k :: l, rs, a, b, s, ha, he, h => by
    rw [allN] at ha
    rw [kidsP] at h ⊢
    have h1 : (if rs = true then { s with last := a } else s).e = 0 := by split <;> exact he
    have hk : (nodeP cnt A k (if rs = true then { s with last := a } else s)).2.e = 0 := by
      by_cases q : (nodeP cnt A k (if rs = true then { s with last := a } else s)).2.e = 0
      · exact q
      · simp only at h
        rw [(kidsP_err q).1] at h; exact absurd h q
    simp only
    rw [allN]
    exact ⟨nodeP_with hA h0 k _ ha.1 h1 hk, kidsP_with hA h0 l _ _ _ _ ha.2 hk h⟩
end
/-- Where an error is. -/
theorem setS_at {s : Rs} {v least a len : Int} (ha : 0 ≤ a ∧ a < len) (h : s.e ≠ 0 → s.e = 34 ∧ 0 ≤ s.at_ ∧ s.at_ < len) : (setS s v least a).e ≠ 0 → (setS s v least a).e = 34 ∧ 0 ≤ (setS s v least a).at_ ∧ (setS s v least a).at_ < len := by
  unfold setS
  split
  · split
    · exact fun _ => ⟨rfl, ha.1, ha.2⟩
    · exact h
  · exact h
theorem headP_at {len : Int} {s : Rs} {f : NodeF} {ks : List Node} (ht : RefT len (.mk f ks)) (h : s.e ≠ 0 → s.e = 34 ∧ 0 ≤ s.at_ ∧ s.at_ < len) : (headP cnt A f s).2.e ≠ 0 → (headP cnt A f s).2.e = 34 ∧ 0 ≤ (headP cnt A f s).2.at_ ∧ (headP cnt A f s).2.at_ < len := by
  have h78 : f.kind = 7 ∨ f.kind = 8 → 0 ≤ f.at_ ∧ f.at_ < len := fun q => (ht.2.2.2.1 q).2
  have h19 : f.kind = 19 → 0 ≤ f.at_ ∧ f.at_ < len := fun q => (ht.2.2.2.2 q).1
  unfold headP
  by_cases q14 : f.kind = 14
  · rw [if_pos q14]; exact h
  rw [if_neg q14]
  by_cases q7 : f.kind = 7
  · rw [if_pos q7]; exact setS_at (h78 (.inl q7)) h
  rw [if_neg q7]
  by_cases q8 : f.kind = 8
  · rw [if_pos q8]; exact setS_at (h78 (.inr q8)) h
  rw [if_neg q8]
  by_cases q19 : f.kind = 19
  · rw [if_pos q19]
    unfold condF
    by_cases q11 : f.n = 11
    · rw [if_pos q11]
      by_cases qm : f.mode = -1
      · rw [if_pos qm]; exact h
      · rw [if_neg qm]; exact setS_at (h19 q19) h
    rw [if_neg q11]
    by_cases q10 : f.n = 10
    · rw [if_pos q10]; exact setS_at (h19 q19) h
    rw [if_neg q10]
    by_cases q9 : f.n = 9
    · rw [if_pos q9]; exact setS_at (h19 q19) h
    · rw [if_neg q9]; exact h
  · rw [if_neg q19]; exact h
mutual
theorem nodeP_at {len : Int} : ∀ (n : Node) (s : Rs), n.all (RefT len) → (s.e ≠ 0 → s.e = 34 ∧ 0 ≤ s.at_ ∧ s.at_ < len) → ((nodeP cnt A n s).2.e ≠ 0 → (nodeP cnt A n s).2.e = 34 ∧ 0 ≤ (nodeP cnt A n s).2.at_ ∧ (nodeP cnt A n s).2.at_ < len)
  | .mk f ks, s, ha, h => by
    rw [Node.all] at ha
    rw [nodeP]
    by_cases q : s.e ≠ 0
    · rw [if_pos q]; exact h
    rw [if_neg q]
    have hk := kidsP_at (len := len) ks (decide (f.kind = 16)) (headP cnt A f s).2.last (headP cnt A f s).2.last (headP cnt A f s).2 ha.2 (headP_at ha.1 h)
    simp only
    split
    · exact hk
    · exact hk
theorem kidsP_at {len : Int} : ∀ (l : List Node) (rs : Bool) (a b : Int) (s : Rs), allN (RefT len) l → (s.e ≠ 0 → s.e = 34 ∧ 0 ≤ s.at_ ∧ s.at_ < len) → ((kidsP cnt A l rs a b s).2.2.e ≠ 0 → (kidsP cnt A l rs a b s).2.2.e = 34 ∧ 0 ≤ (kidsP cnt A l rs a b s).2.2.at_ ∧ (kidsP cnt A l rs a b s).2.2.at_ < len)
  | [], rs, a, b, s, ha, h => by rw [kidsP]; exact h
  | k :: l, rs, a, b, s, ha, h => by
    rw [allN] at ha
    rw [kidsP]
    have h1 : (if rs = true then { s with last := a } else s).e ≠ 0 → (if rs = true then { s with last := a } else s).e = 34 ∧ 0 ≤ (if rs = true then { s with last := a } else s).at_ ∧ (if rs = true then { s with last := a } else s).at_ < len := by split <;> exact h
    exact kidsP_at l _ _ _ _ ha.2 (nodeP_at k _ ha.1 h1)
end
end
def WiC (cnt : Int) (n : Node) : Prop := VCalls Try.prog 33 [n.enc, iv cnt] (fun r => r = bv true)
set_option maxHeartbeats 16000000
theorem within_step (cnt : Int) (f : NodeF) (ks : List Node) (hk : ks.length ≤ 1000000) (h : WithN cnt (.mk f ks)) (ih : ∀ n ∈ ks, WiC cnt n) : WiC cnt (.mk f ks) := by
  have hn := rowsN_len ks
  have h78 : f.kind = 7 ∨ f.kind = 8 → f.m = 0 ∧ f.name = bs [] ∧ f.n ≤ cnt ∧ 0 ≤ f.n ∧ (f.kind = 7 → f.n ≠ 0) := h.1
  have h19 : f.kind = 19 → f.n ≠ 10 ∧ f.m = 0 ∧ f.name = bs [] ∧ f.mode ≤ cnt ∧ (f.n = 9 → 1 ≤ f.mode) := h.2
  refine VCalls.ofr tabOk Try.func33 (by decide) rfl rfl ?_
  refine RWP.seqx tabOk orders ?_
  conv => whnf
  refine RWP.cut (fun st => st = ⟨96, [(1, .pv (iv cnt)), (2, .ptr 2 0)], [(2, (27, nfe f ks))], [], []⟩) tabOk orders ?_ ?_
  · by_cases q : f.kind = 7 ∨ f.kind = 8
    · obtain ⟨q1, q2, q3, q4, q5⟩ := h78 q
      repeat' ((conv => whnf); (first
    | (with_reducible first | refine Spl.yes ?_ | refine Spl.no ?_ | refine Spl.dec (fun h => ?_) (fun h => ?_) | refine Spl.eq (fun h => ?_) (fun h => ?_) | refine Spl.ne (fun h => ?_) (fun h => ?_) | refine Spl.seq (fun h => ?_) (fun h => ?_) | refine Spl.not ?_ | refine Spl.any (fun h => ?_) (fun h => ?_))
    | refine drawn_text (by decide +kernel) ?_
    | ((with_reducible apply And.intro); first | omega | rfl | (dsimp only; omega))))
      all_goals (conv => whnf)
      all_goals first
        | (exfalso; omega)
        | (exfalso; exact absurd q2 (by assumption))
        | exact ⟨_, Wk.narrow _ [1, 2] [2] [], rfl⟩
    · repeat' ((conv => whnf); (first
    | (with_reducible first | refine Spl.yes ?_ | refine Spl.no ?_ | refine Spl.dec (fun h => ?_) (fun h => ?_) | refine Spl.eq (fun h => ?_) (fun h => ?_) | refine Spl.ne (fun h => ?_) (fun h => ?_) | refine Spl.seq (fun h => ?_) (fun h => ?_) | refine Spl.not ?_ | refine Spl.any (fun h => ?_) (fun h => ?_))
    | refine drawn_text (by decide +kernel) ?_
    | ((with_reducible apply And.intro); first | omega | rfl | (dsimp only; omega))))
      all_goals (conv => whnf)
      all_goals first
        | (exfalso; omega)
        | exact ⟨_, Wk.narrow _ [1, 2] [2] [], rfl⟩
  rintro _ rfl
  refine RWP.cut (fun st => st = ⟨96, [(1, .pv (iv cnt)), (2, .ptr 2 0)], [(2, (27, nfe f ks))], [], []⟩) tabOk orders ?_ ?_
  · by_cases q : f.kind = 19
    · obtain ⟨q1, q2, q3, q4, q5⟩ := h19 q
      repeat' ((conv => whnf); (first
    | (with_reducible first | refine Spl.yes ?_ | refine Spl.no ?_ | refine Spl.dec (fun h => ?_) (fun h => ?_) | refine Spl.eq (fun h => ?_) (fun h => ?_) | refine Spl.ne (fun h => ?_) (fun h => ?_) | refine Spl.seq (fun h => ?_) (fun h => ?_) | refine Spl.not ?_ | refine Spl.any (fun h => ?_) (fun h => ?_))
    | refine drawn_text (by decide +kernel) ?_
    | ((with_reducible apply And.intro); first | omega | rfl | (dsimp only; omega))))
      all_goals (conv => whnf)
      all_goals first
        | (exfalso; omega)
        | (exfalso; exact absurd q3 (by assumption))
        | exact ⟨_, Wk.narrow _ [1, 2] [2] [], rfl⟩
    · repeat' ((conv => whnf); (first
    | (with_reducible first | refine Spl.yes ?_ | refine Spl.no ?_ | refine Spl.dec (fun h => ?_) (fun h => ?_) | refine Spl.eq (fun h => ?_) (fun h => ?_) | refine Spl.ne (fun h => ?_) (fun h => ?_) | refine Spl.seq (fun h => ?_) (fun h => ?_) | refine Spl.not ?_ | refine Spl.any (fun h => ?_) (fun h => ?_))
    | refine drawn_text (by decide +kernel) ?_
    | ((with_reducible apply And.intro); first | omega | rfl | (dsimp only; omega))))
      all_goals (conv => whnf)
      all_goals first
        | (exfalso; omega)
        | exact ⟨_, Wk.narrow _ [1, 2] [2] [], rfl⟩
  rintro _ rfl
  refine RWP.seq ?_
  refine RWP.seqx tabOk orders ?_
  conv => whnf
  refine RWP.block ?_
  refine RWP.loop (fun k st => ∃ (j : Int), st = ⟨96, [(1, .pv (iv cnt)), (2, .ptr 2 0), (5, .pv (iv j))], [(2, (27, nfe f ks))], [], []⟩ ∧ 0 ≤ j ∧ j ≤ ks.length ∧ k = (ks.length - j).toNat)
    ⟨_, _, Wk.narrow _ [1, 2, 5] [2] [], 0, rfl, by omega, by omega, rfl⟩ ?_
  rintro k st ⟨j, rfl, hj0, hj1, hk⟩
  refine RWP.seqx tabOk orders ?_
  repeat' ((conv => whnf); (first
    | (with_reducible first | refine Spl.yes ?_ | refine Spl.no ?_ | refine Spl.dec (fun h => ?_) (fun h => ?_) | refine Spl.eq (fun h => ?_) (fun h => ?_) | refine Spl.ne (fun h => ?_) (fun h => ?_) | refine Spl.seq (fun h => ?_) (fun h => ?_) | refine Spl.not ?_ | refine Spl.any (fun h => ?_) (fun h => ?_))
    | ((with_reducible apply And.intro); first | omega | rfl | (dsimp only; omega))))
  all_goals (conv => whnf)
  rotate_left
  · refine RWP.of tabOk orders ?_
    conv => whnf
    rfl
  have hc := ih (rdn ks j) (rdn_mem (by omega))
  unfold WiC at hc
  obtain ⟨f3, k3, h3⟩ := (rdn ks j).ex
  rw [h3] at hc
  refine RWP.of tabOk orders ?_
  repeat' ((conv => whnf); (first
    | (with_reducible first | refine Spl.yes ?_ | refine Spl.no ?_ | refine Spl.dec (fun h => ?_) (fun h => ?_) | refine Spl.eq (fun h => ?_) (fun h => ?_) | refine Spl.ne (fun h => ?_) (fun h => ?_) | refine Spl.seq (fun h => ?_) (fun h => ?_) | refine Spl.not ?_ | refine Spl.any (fun h => ?_) (fun h => ?_))
    | refine drawn_text (by decide +kernel) ?_
    | (rw [rowsN_get (by omega)])
    | (rw [h3])
    | (refine VCalls.mono (hc) ?_; rintro _ rfl)
    | refine And.intro (Nat.le_of_ble_eq_true rfl) ?_
    | ((with_reducible apply And.intro); first | omega | rfl | (dsimp only; omega))))
  all_goals (conv => whnf)
  all_goals exact ⟨(ks.length - (j + 1)).toNat, _, by omega, Wk.narrow _ [1, 2, 5] [2] [], j + 1, rfl, by omega, by omega, rfl⟩
theorem within_c (cnt : Int) : ∀ (k : Nat) (n : Node), n.w ≤ k → n.w ≤ 1000000 → n.all (WithN cnt) → WiC cnt n := by
  intro k
  induction k with
  | zero => intro n h; have := w_pos n; omega
  | succ k ih =>
    intro n hk hw ha
    cases n with
    | mk f ks =>
      rw [Node.w] at hk hw
      rw [Node.all] at ha
      have hl := wN_len ks
      exact within_step cnt f ks (by omega) ha.1 (fun n hn => ih n (by have := wN_mem hn; omega) (by have := wN_mem hn; omega) (allN_mem ha.2 hn))
end Go.Proofs.Ytnoohgiecnmajaa.VC

/- The laws of references: RefsWithin; what stays. -/
namespace Go.Proofs.Ytnoohgiecnmajaa.VC
open Go Go.RowKit
set_option linter.unusedVariables false
set_option linter.unusedSimpArgs false
set_option maxHeartbeats 4000000

theorem resP_at (l : List Int) (cnt : Int) (A : List (ByteArray × Int)) (n : Node) (ha : n.all (RefT l.length)) : (resP cnt A n).e ≠ 0 → (resP cnt A n).e = 34 ∧ 0 ≤ (resP cnt A n).at_ ∧ (resP cnt A n).at_ < l.length := by
  have h := nodeP_at (cnt := cnt) (A := A) n ⟨0, 0, 0⟩ ha (fun h => absurd rfl h)
  unfold resP
  split
  · exact h
  · exact fun h => absurd rfl h
theorem resP_with (l : List Int) (cnt : Int) (A : List (ByteArray × Int)) (n : Node) (ha : n.all (RefT l.length)) (hA : ∀ p ∈ A, 1 ≤ p.2 ∧ p.2 ≤ cnt) (h0 : 0 ≤ cnt) : (resP cnt A n).e = 0 → (resP cnt A n).n.all (WithN cnt) := by
  have h := nodeP_with hA h0 n ⟨0, 0, 0⟩ ha rfl
  unfold resP
  split
  · rename_i q; exact fun h => absurd h q
  · rename_i q; exact fun _ => h (Decidable.not_not.1 q)
mutual
/-- But references nothing changes. -/
def kpN : Node → Node → Prop
  | .mk f ks, .mk g ls => g.kind = f.kind ∧ kpL ks ls ∧ (if f.kind = 7 ∨ f.kind = 8 ∨ f.kind = 19 then g.on = f.on ∧ g.at_ = f.at_ else g = f)
def kpL : List Node → List Node → Prop
  | [], [] => True
  | [], _ :: _ => False
  | _ :: _, [] => False
  | a :: l, b :: m => kpN a b ∧ kpL l m
end
mutual
theorem keep_self : ∀ n : Node, kpN n n
  | .mk f ks => by
    rw [kpN]
    refine ⟨rfl, keepL_self ks, ?_⟩
    split
    · exact ⟨rfl, rfl⟩
    · rfl
theorem keepL_self : ∀ l : List Node, kpL l l
  | [] => by rw [kpL]; trivial
  | k :: l => by rw [kpL]; exact ⟨keep_self k, keepL_self l⟩
end
section
variable {cnt : Int} {A : List (ByteArray × Int)}
theorem condF_keep (s : Rs) (f : NodeF) : (condF cnt A s f).1.on = f.on ∧ (condF cnt A s f).1.at_ = f.at_ := by
  unfold condF setFM
  repeat' split
  all_goals exact ⟨rfl, rfl⟩
theorem headP_keep (f : NodeF) (s : Rs) : if f.kind = 7 ∨ f.kind = 8 ∨ f.kind = 19 then (headP cnt A f s).1.on = f.on ∧ (headP cnt A f s).1.at_ = f.at_ else (headP cnt A f s).1 = f := by
  unfold headP
  by_cases q14 : f.kind = 14
  · rw [if_pos q14, if_neg (by omega)]
  rw [if_neg q14]
  by_cases q7 : f.kind = 7
  · rw [if_pos q7, if_pos (.inl q7)]; exact ⟨rfl, rfl⟩
  rw [if_neg q7]
  by_cases q8 : f.kind = 8
  · rw [if_pos q8, if_pos (.inr (.inl q8))]; exact ⟨rfl, rfl⟩
  rw [if_neg q8]
  by_cases q19 : f.kind = 19
  · rw [if_pos q19, if_pos (.inr (.inr q19))]; exact condF_keep s f
  · rw [if_neg q19, if_neg (by omega)]
mutual
theorem nodeP_keep : ∀ (n : Node) (s : Rs), kpN n (nodeP cnt A n s).1
  | .mk f ks, s => by
    rw [nodeP]
    by_cases q : s.e ≠ 0
    · rw [if_pos q]; exact keep_self _
    rw [if_neg q]
    simp only
    rw [kpN]
    exact ⟨(headP_same f s).1, kidsP_keep ks _ _ _ _, headP_keep f s⟩
theorem kidsP_keep : ∀ (l : List Node) (rs : Bool) (a b : Int) (s : Rs), kpL l (kidsP cnt A l rs a b s).1
  | [], rs, a, b, s => by rw [kidsP, kpL]; trivial
  | k :: l, rs, a, b, s => by rw [kidsP]; simp only; rw [kpL]; exact ⟨nodeP_keep k _, kidsP_keep l _ _ _ _⟩
end
end
theorem keepL_len : ∀ {l m : List Node}, kpL l m → m.length = l.length
  | [], [], _ => rfl
  | [], _ :: _, h => by rw [kpL] at h; exact h.elim
  | _ :: _, [], h => by rw [kpL] at h; exact h.elim
  | a :: l, b :: m, h => by rw [kpL] at h; simp [keepL_len h.2]
theorem keepL_get : ∀ {l m : List Node} {j : Nat}, kpL l m → j < l.length → kpN (l.getD j nodeZ) (m.getD j nodeZ)
  | [], [], j, _, hj => by simp at hj
  | [], _ :: _, j, h, _ => by rw [kpL] at h; exact h.elim
  | _ :: _, [], j, h, _ => by rw [kpL] at h; exact h.elim
  | a :: l, b :: m, 0, h, _ => by rw [kpL] at h; simpa using h.1
  | a :: l, b :: m, j + 1, h, hj => by rw [kpL] at h; simpa using keepL_get h.2 (by simpa using hj)
attribute [local irreducible] numdP resP nodeP
set_option maxHeartbeats 16000000
theorem within10_c (l : List Int) (o : Int) (hb : Bytes l) : VCalls Try.prog 9 [ys l, iv o] (fun r => r = bv true) := by
  have hbl : (byteRows l).length = l.length := by simp [byteRows]
  have hnd := numd_c l o hb
  have hfa := numd_facts l o
  have hres : (numdP l o).2 = true → VCalls Try.prog 31 [(numdP l o).1.n.enc, iv (numdP l o).1.most, ms (numdP l o).1.names] (fun r => r = parE (resP (numdP l o).1.most (numdP l o).1.names (numdP l o).1.n)) := by
    intro h
    obtain ⟨h1, h2, h3, h4, h5, h6, h7, h8⟩ := hfa h
    exact resP_c _ _ _ (by omega) (by omega) h7
  have hat : (numdP l o).2 = true → (resP (numdP l o).1.most (numdP l o).1.names (numdP l o).1.n).e ≠ 0 → (resP (numdP l o).1.most (numdP l o).1.names (numdP l o).1.n).e = 34 ∧ 0 ≤ (resP (numdP l o).1.most (numdP l o).1.names (numdP l o).1.n).at_ ∧ (resP (numdP l o).1.most (numdP l o).1.names (numdP l o).1.n).at_ < l.length := by
    intro h
    obtain ⟨h1, h2, h3, h4, h5, h6, h7, h8⟩ := hfa h
    exact resP_at l _ _ _ h6
  have hwi : (numdP l o).2 = true → (resP (numdP l o).1.most (numdP l o).1.names (numdP l o).1.n).e = 0 → WiC (numdP l o).1.most (resP (numdP l o).1.most (numdP l o).1.names (numdP l o).1.n).n := by
    intro h he
    obtain ⟨h1, h2, h3, h4, h5, h6, h7, h8⟩ := hfa h
    have hok := resP_ok (numdP l o).1.most (numdP l o).1.names (numdP l o).1.n h5
    have h0 := nbN_le (flatP l o).1 0
    exact within_c _ _ _ (Nat.le_refl _) (by omega) (resP_with l _ _ _ h6 h8 (by rw [h2]; omega) he)
  unfold WiC at hwi
  clear hfa
  generalize numdP l o = q at *
  obtain ⟨⟨⟨f1, k1⟩, most, names, e1, at1⟩, ok⟩ := q
  simp only at *
  generalize resP most names (Node.mk f1 k1) = z at *
  obtain ⟨⟨f2, k2⟩, e2, at2⟩ := z
  simp only at *
  refine VCalls.ofr tabOk Try.func9 (by decide) rfl rfl ?_
  refine RWP.of tabOk orders ?_
  repeat' ((conv => whnf); (first
    | (with_reducible first | refine Spl.yes ?_ | refine Spl.no ?_ | refine Spl.dec (fun h => ?_) (fun h => ?_) | refine Spl.eq (fun h => ?_) (fun h => ?_) | refine Spl.ne (fun h => ?_) (fun h => ?_) | refine Spl.seq (fun h => ?_) (fun h => ?_) | refine Spl.not ?_ | refine Spl.any (fun h => ?_) (fun h => ?_))
    | (refine VCalls.mono (awake10_c) ?_; rintro _ rfl)
    | (refine VCalls.mono (hnd) ?_; rintro _ rfl)
    | (refine VCalls.mono (hres (by assumption)) ?_; rintro _ rfl)
    | (refine VCalls.mono (hwi (by assumption) (by assumption)) ?_; rintro _ rfl)
    | refine drawn_text (by decide +kernel) ?_
    | refine And.intro (Nat.le_of_ble_eq_true rfl) ?_
    | ((with_reducible apply And.intro); first | omega | rfl | (dsimp only; omega))))
  all_goals (conv => whnf)
  all_goals first
    | (exfalso; exact absurd rfl (by assumption))
    | rfl
    | (have hok : ok = true := by assumption
       have he : e2 ≠ 0 := by assumption
       obtain ⟨q1, q2, q3⟩ := hat hok he
       exfalso; exact (show ¬ at2 ≥ 0 by assumption) q2)
    | (have hok : ok = true := by assumption
       have he : e2 ≠ 0 := by assumption
       obtain ⟨q1, q2, q3⟩ := hat hok he
       exfalso; exact (show e2 ≠ 34 by assumption) q1)
    | (have hok : ok = true := by assumption
       have he : e2 ≠ 0 := by assumption
       obtain ⟨q1, q2, q3⟩ := hat hok he
       rw [hbl]
       simp only [decide_eq_true q3]
       rfl)
end Go.Proofs.Ytnoohgiecnmajaa.VC

/- The laws of references: RefsKeeps. -/
namespace Go.Proofs.Ytnoohgiecnmajaa.VC
open Go Go.RowKit
set_option linter.unusedVariables false
set_option linter.unusedSimpArgs false
set_option maxHeartbeats 4000000

attribute [local irreducible] numdP resP nodeP kpN kpL
def KpC (a b : Node) : Prop := VCalls Try.prog 36 [a.enc, b.enc] (fun r => r = bv true)
set_option maxHeartbeats 16000000
theorem keeps_step (f g : NodeF) (ks ls : List Node) (hk : ks.length ≤ 1000000) (hset : f.set.length ≤ 4000000000) (hkind : g.kind = f.kind) (hlen : ls.length = ks.length) (hfg : if f.kind = 7 ∨ f.kind = 8 ∨ f.kind = 19 then g.on = f.on ∧ g.at_ = f.at_ else g = f)
    (ih : ∀ j : Int, 0 ≤ j → j < ks.length → KpC (rdn ks j) (rdn ls j)) : KpC (.mk f ks) (.mk g ls) := by
  have hn := rowsN_len ks
  have hn2 := rowsN_len ls
  have hsm := same_c 1 (Node.mk f []) (by rw [Node.w, wN]; omega) (by rw [Node.w, wN]; omega) (by rw [Node.all, allN]; exact ⟨hset, trivial⟩)
  unfold SmC at hsm
  refine VCalls.ofr tabOk Try.func36 (by decide) rfl rfl ?_
  refine RWP.seqx tabOk orders ?_
  conv => whnf
  refine RWP.cut (fun st => st = ⟨78, [(2, .ptr 2 0), (3, .ptr 3 0)], [(2, (27, nfe f ks)), (3, (27, nfe g ls))], [], []⟩) tabOk orders ?_ ?_
  · repeat' ((conv => whnf); (first
    | (with_reducible first | refine Spl.yes ?_ | refine Spl.no ?_ | refine Spl.dec (fun h => ?_) (fun h => ?_) | refine Spl.eq (fun h => ?_) (fun h => ?_) | refine Spl.ne (fun h => ?_) (fun h => ?_) | refine Spl.seq (fun h => ?_) (fun h => ?_) | refine Spl.not ?_ | refine Spl.any (fun h => ?_) (fun h => ?_))
    | refine drawn_text (by decide +kernel) ?_
    | ((with_reducible apply And.intro); first | omega | rfl | (dsimp only; omega))))
    all_goals (conv => whnf)
    all_goals first
      | (exfalso; exact absurd hkind.symm (by assumption))
      | (exfalso; omega)
      | exact ⟨_, Wk.narrow _ [2, 3] [2, 3] [], rfl⟩
  rintro _ rfl
  refine RWP.seq ?_
  refine RWP.seqx tabOk orders ?_
  conv => whnf
  refine RWP.block ?_
  refine RWP.loop (fun k st => ∃ (j : Int), st = ⟨78, [(2, .ptr 2 0), (3, .ptr 3 0), (5, .pv (iv j))], [(2, (27, nfe f ks)), (3, (27, nfe g ls))], [], []⟩ ∧ 0 ≤ j ∧ j ≤ ks.length ∧ k = (ks.length - j).toNat)
    ⟨_, _, Wk.narrow _ [2, 3, 5] [2, 3] [], 0, rfl, by omega, by omega, rfl⟩ ?_
  rintro k st ⟨j, rfl, hj0, hj1, hk⟩
  refine RWP.seqx tabOk orders ?_
  repeat' ((conv => whnf); (first
    | (with_reducible first | refine Spl.yes ?_ | refine Spl.no ?_ | refine Spl.dec (fun h => ?_) (fun h => ?_) | refine Spl.eq (fun h => ?_) (fun h => ?_) | refine Spl.ne (fun h => ?_) (fun h => ?_) | refine Spl.seq (fun h => ?_) (fun h => ?_) | refine Spl.not ?_ | refine Spl.any (fun h => ?_) (fun h => ?_))
    | ((with_reducible apply And.intro); first | omega | rfl | (dsimp only; omega))))
  all_goals (conv => whnf)
  rotate_left
  · refine RWP.weak (Wk.narrow _ [2, 3] [2, 3] []) ?_
    by_cases q : f.kind = 7 ∨ f.kind = 8 ∨ f.kind = 19
    · rw [if_pos q] at hfg
      obtain ⟨h1, h2⟩ := hfg
      refine RWP.of tabOk orders ?_
      repeat' ((conv => whnf); (first
    | (with_reducible first | refine Spl.yes ?_ | refine Spl.no ?_ | refine Spl.dec (fun h => ?_) (fun h => ?_) | refine Spl.eq (fun h => ?_) (fun h => ?_) | refine Spl.ne (fun h => ?_) (fun h => ?_) | refine Spl.seq (fun h => ?_) (fun h => ?_) | refine Spl.not ?_ | refine Spl.any (fun h => ?_) (fun h => ?_))
    | (refine VCalls.mono (hsm) ?_; rintro _ rfl)
    | refine drawn_text (by decide +kernel) ?_
    | refine And.intro (Nat.le_of_ble_eq_true rfl) ?_
    | ((with_reducible apply And.intro); first | omega | rfl | (dsimp only; omega))))
      all_goals (conv => whnf)
      all_goals first
        | (exfalso; omega)
        | (exfalso; exact absurd h1.symm (by assumption))
        | (rw [h2]; simp only [beq_self_eq_true]; rfl)
        | rfl
    · rw [if_neg q] at hfg
      subst hfg
      refine RWP.of tabOk orders ?_
      repeat' ((conv => whnf); (first
    | (with_reducible first | refine Spl.yes ?_ | refine Spl.no ?_ | refine Spl.dec (fun h => ?_) (fun h => ?_) | refine Spl.eq (fun h => ?_) (fun h => ?_) | refine Spl.ne (fun h => ?_) (fun h => ?_) | refine Spl.seq (fun h => ?_) (fun h => ?_) | refine Spl.not ?_ | refine Spl.any (fun h => ?_) (fun h => ?_))
    | (refine VCalls.mono (hsm) ?_; rintro _ rfl)
    | refine drawn_text (by decide +kernel) ?_
    | refine And.intro (Nat.le_of_ble_eq_true rfl) ?_
    | ((with_reducible apply And.intro); first | omega | rfl | (dsimp only; omega))))
      all_goals (conv => whnf)
      all_goals first
        | (exfalso; omega)
        | rfl
        | (simp only [beq_self_eq_true]; rfl)
  have hc := ih j hj0 (by omega)
  unfold KpC at hc
  obtain ⟨f3, k3, h3⟩ := (rdn ks j).ex
  obtain ⟨f4, k4, h4⟩ := (rdn ls j).ex
  rw [h3, h4] at hc
  refine RWP.of tabOk orders ?_
  repeat' ((conv => whnf); (first
    | (with_reducible first | refine Spl.yes ?_ | refine Spl.no ?_ | refine Spl.dec (fun h => ?_) (fun h => ?_) | refine Spl.eq (fun h => ?_) (fun h => ?_) | refine Spl.ne (fun h => ?_) (fun h => ?_) | refine Spl.seq (fun h => ?_) (fun h => ?_) | refine Spl.not ?_ | refine Spl.any (fun h => ?_) (fun h => ?_))
    | refine drawn_text (by decide +kernel) ?_
    | (rw [rowsN_get (show j.toNat < ks.length by omega)])
    | (rw [rowsN_get (show j.toNat < ls.length by omega)])
    | (rw [h3])
    | (rw [h4])
    | (refine VCalls.mono (hc) ?_; rintro _ rfl)
    | refine And.intro (Nat.le_of_ble_eq_true rfl) ?_
    | ((with_reducible apply And.intro); first | omega | rfl | (dsimp only; omega))))
  all_goals (conv => whnf)
  all_goals first
    | exact ⟨(ks.length - (j + 1)).toNat, _, by omega, Wk.narrow _ [2, 3, 5] [2, 3] [], j + 1, rfl, by omega, by omega, rfl⟩
theorem keeps_c : ∀ (k : Nat) (a b : Node), a.w ≤ k → a.w ≤ 1000000 → a.all SetOk → kpN a b → KpC a b := by
  intro k
  induction k with
  | zero => intro a b h; have := w_pos a; omega
  | succ k ih =>
    intro a b hk hw ha hab
    cases a with
    | mk f ks =>
      cases b with
      | mk g ls =>
        rw [Node.w] at hk hw
        rw [Node.all] at ha
        rw [kpN] at hab
        obtain ⟨h1, h2, h3⟩ := hab
        have hl := wN_len ks
        refine keeps_step f g ks ls (by omega) ha.1 h1 (keepL_len h2) h3 (fun j h0 hj => ?_)
        have hm := rdn_mem (l := ks) (j := j) (by omega)
        have hwm := wN_mem hm
        exact ih (rdn ks j) (rdn ls j) (by omega) (by omega) (allN_mem ha.2 hm) (keepL_get h2 (by omega))
theorem resP_keep (cnt : Int) (A : List (ByteArray × Int)) (n : Node) : ((resP cnt A n).e = 0 → kpN n (resP cnt A n).n) ∧ ((resP cnt A n).e ≠ 0 → (resP cnt A n).n = nodeZ) := by
  have h := nodeP_keep (cnt := cnt) (A := A) n ⟨0, 0, 0⟩
  unfold resP
  by_cases q : (nodeP cnt A n ⟨0, 0, 0⟩).2.e ≠ 0
  · rw [if_pos q]; exact ⟨fun hh => absurd hh q, fun _ => rfl⟩
  · rw [if_neg q]; exact ⟨fun _ => h, fun hh => absurd rfl hh⟩
theorem keeps10_c (l : List Int) (o : Int) (hb : Bytes l) : VCalls Try.prog 12 [ys l, iv o] (fun r => r = bv true) := by
  have hnd := numd_c l o hb
  have hfa := numd_facts l o
  have hres : (numdP l o).2 = true → VCalls Try.prog 31 [(numdP l o).1.n.enc, iv (numdP l o).1.most, ms (numdP l o).1.names] (fun r => r = parE (resP (numdP l o).1.most (numdP l o).1.names (numdP l o).1.n)) := by
    intro h
    obtain ⟨h1, h2, h3, h4, h5, h6, h7, h8⟩ := hfa h
    exact resP_c _ _ _ (by omega) (by omega) h7
  have hkp : (numdP l o).2 = true → (resP (numdP l o).1.most (numdP l o).1.names (numdP l o).1.n).e = 0 → KpC (numdP l o).1.n (resP (numdP l o).1.most (numdP l o).1.names (numdP l o).1.n).n := by
    intro h he
    obtain ⟨h1, h2, h3, h4, h5, h6, h7, h8⟩ := hfa h
    exact keeps_c _ _ _ (Nat.le_refl _) (by omega) h5 ((resP_keep _ _ _).1 he)
  have hz : (resP (numdP l o).1.most (numdP l o).1.names (numdP l o).1.n).e ≠ 0 → (resP (numdP l o).1.most (numdP l o).1.names (numdP l o).1.n).n.f.kind = 0 := by
    intro he
    rw [(resP_keep _ _ _).2 he]
    rfl
  unfold KpC at hkp
  clear hfa
  generalize numdP l o = q at *
  obtain ⟨⟨⟨f1, k1⟩, most, names, e1, at1⟩, ok⟩ := q
  simp only at *
  generalize resP most names (Node.mk f1 k1) = z at *
  obtain ⟨⟨f2, k2⟩, e2, at2⟩ := z
  simp only at *
  refine VCalls.ofr tabOk Try.func12 (by decide) rfl rfl ?_
  refine RWP.of tabOk orders ?_
  repeat' ((conv => whnf); (first
    | (with_reducible first | refine Spl.yes ?_ | refine Spl.no ?_ | refine Spl.dec (fun h => ?_) (fun h => ?_) | refine Spl.eq (fun h => ?_) (fun h => ?_) | refine Spl.ne (fun h => ?_) (fun h => ?_) | refine Spl.seq (fun h => ?_) (fun h => ?_) | refine Spl.not ?_ | refine Spl.any (fun h => ?_) (fun h => ?_))
    | (refine VCalls.mono (awake10_c) ?_; rintro _ rfl)
    | (refine VCalls.mono (hnd) ?_; rintro _ rfl)
    | (refine VCalls.mono (hres (by assumption)) ?_; rintro _ rfl)
    | (refine VCalls.mono (hkp (by assumption) (by assumption)) ?_; rintro _ rfl)
    | refine drawn_text (by decide +kernel) ?_
    | refine And.intro (Nat.le_of_ble_eq_true rfl) ?_
    | ((with_reducible apply And.intro); first | omega | rfl | (dsimp only; omega))))
  all_goals (conv => whnf)
  all_goals first
    | (exfalso; exact absurd rfl (by assumption))
    | rfl
    | (exfalso; exact absurd (show e2 = 0 by assumption) (by assumption))
    | (have he : e2 ≠ 0 := by assumption
       have hz : f2.kind = 0 := hz he
       exfalso; exact absurd hz (by assumption))
end Go.Proofs.Ytnoohgiecnmajaa.VC

