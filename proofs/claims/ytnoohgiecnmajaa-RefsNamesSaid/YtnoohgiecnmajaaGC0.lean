/- A part of the ground of the proof. No condition. -/
import Derived.Test.YtnoohgiecnmajaaGB0

/- refs: the group that is meant; a node's number is set. -/
namespace Go.Proofs.Ytnoohgiecnmajaa.VC
open Go Go.RowKit
set_option linter.unusedVariables false
set_option linter.unusedSimpArgs false
set_option maxHeartbeats 4000000

/-- How far the groups are, and the error. -/
structure Rs where
  last : Int
  e : Int
  at_ : Int
def rsFs (cnt : Int) (A : List (ByteArray × Int)) (s : Rs) : List FE := [.pv (iv s.last), .pv (iv cnt), .pv (ms A), .pv (iv s.e), .pv (iv s.at_)]
def HR (cnt : Int) (A : List (ByteArray × Int)) (s : Rs) : St := ⟨0, [], [(1000000, (77, rsFs cnt A s))], [], []⟩
def meantP (cnt : Int) (A : List (ByteArray × Int)) (last m k : Int) (nm : ByteArray) : Int :=
  if m = 3 then (findS nm A).getD (-1)
  else if (if m = 1 then last - k + 1 else if m = 2 then last + k else k) > cnt then -1
  else (if m = 1 then last - k + 1 else if m = 2 then last + k else k)
theorem findS_nil' (s : ByteArray) : findS s [] = none := by rw [findS]
theorem findS_cons' (s : ByteArray) (p : ByteArray × Int) (l : List (ByteArray × Int)) : findS s (p :: l) = if p.1 = s then some p.2 else findS s l := by rw [findS]
theorem findS_app (s : ByteArray) (B : List (ByteArray × Int)) : ∀ A : List (ByteArray × Int), findS s A = none → findS s (A ++ B) = findS s B
  | [], _ => rfl
  | p :: l, h => by
    rw [findS_cons'] at h
    rw [List.cons_append, findS_cons']
    by_cases q : p.1 = s
    · rw [if_pos q] at h; cases h
    · rw [if_neg q] at h ⊢; exact findS_app s B l h
set_option maxHeartbeats 16000000
theorem meant_h (cnt : Int) (A : List (ByteArray × Int)) (s : Rs) (m k : Int) (nm : ByteArray) (hA : A.length ≤ 1000000) (hl : 0 ≤ s.last ∧ s.last ≤ 2000000000) (hk : -1000 ≤ k ∧ k ≤ 30000) :
    HCalls Try.prog 94 (HR cnt A s) [.ptr 1000000 0, .pv (iv m), .pv (iv k), .pv (sv nm)] (fun fe H' => fe = .pv (iv (meantP cnt A s.last m k nm)) ∧ H' = HR cnt A s) := by
  have hrl := rowsM_len A
  obtain ⟨last, e, at_⟩ := s
  simp only at hl
  obtain ⟨G, hG⟩ : ∃ G, meantP cnt A last m k nm = G := ⟨_, rfl⟩
  simp only
  rw [hG]
  unfold meantP at hG
  refine HCalls.ofr tabOk Try.func94 (by decide) rfl rfl ?_
  refine RWP.seqx tabOk orders ?_
  conv => whnf
  refine RWP.cutr (fun st => m ≠ 3 ∧ st = ⟨54, [(0, .ptr 1000000 0), (2, .pv (iv (if m = 1 then last - k + 1 else if m = 2 then last + k else k)))], [(1000000, (77, rsFs cnt A ⟨last, e, at_⟩))], [], []⟩) ?_ ?_
  rotate_left
  · rintro _ ⟨h3, rfl⟩
    rw [if_neg h3] at hG
    generalize (if m = 1 then last - k + 1 else if m = 2 then last + k else k) = k' at *
    refine RWP.of tabOk orders ?_
    repeat' ((conv => whnf); (first
    | (with_reducible first | refine Spl.yes ?_ | refine Spl.no ?_ | refine Spl.dec (fun h => ?_) (fun h => ?_) | refine Spl.eq (fun h => ?_) (fun h => ?_) | refine Spl.ne (fun h => ?_) (fun h => ?_) | refine Spl.seq (fun h => ?_) (fun h => ?_) | refine Spl.not ?_ | refine Spl.any (fun h => ?_) (fun h => ?_))
    | ((with_reducible apply And.intro); first | omega | rfl | (dsimp only; omega))))
    all_goals (conv => whnf)
    all_goals (refine ⟨_, Wk.narrow _ [8] [1000000] [], .inl ?_⟩)
    all_goals (conv => whnf)
    · rw [if_pos (by assumption)] at hG; subst hG; exact ⟨rfl, rfl⟩
    · rw [if_neg (by assumption)] at hG; subst hG; exact ⟨rfl, rfl⟩
  refine RWP.seqx tabOk orders ?_
  conv => whnf
  refine RWP.block ?_
  refine RWP.seqx tabOk orders ?_
  conv => whnf
  refine RWP.cond ?_
  conv => whnf
  (with_reducible first | refine Spl.yes ?_ | refine Spl.no ?_ | refine Spl.dec (fun h => ?_) (fun h => ?_) | refine Spl.eq (fun h => ?_) (fun h => ?_) | refine Spl.ne (fun h => ?_) (fun h => ?_) | refine Spl.seq (fun h => ?_) (fun h => ?_) | refine Spl.not ?_ | refine Spl.any (fun h => ?_) (fun h => ?_))
  · have h1 : m = 1 := by assumption
    refine RWP.of tabOk orders ?_
    repeat' ((conv => whnf); (first
    | (with_reducible first | refine Spl.yes ?_ | refine Spl.no ?_ | refine Spl.dec (fun h => ?_) (fun h => ?_) | refine Spl.eq (fun h => ?_) (fun h => ?_) | refine Spl.ne (fun h => ?_) (fun h => ?_) | refine Spl.seq (fun h => ?_) (fun h => ?_) | refine Spl.not ?_ | refine Spl.any (fun h => ?_) (fun h => ?_))
    | ((with_reducible apply And.intro); first | omega | rfl | (dsimp only; omega))))
    all_goals (conv => whnf)
    exact ⟨_, Wk.narrow _ [0, 2] [1000000] [], by omega, by rw [if_pos h1]; rfl⟩
  refine RWP.seqx tabOk orders ?_
  conv => whnf
  refine RWP.cond ?_
  conv => whnf
  (with_reducible first | refine Spl.yes ?_ | refine Spl.no ?_ | refine Spl.dec (fun h => ?_) (fun h => ?_) | refine Spl.eq (fun h => ?_) (fun h => ?_) | refine Spl.ne (fun h => ?_) (fun h => ?_) | refine Spl.seq (fun h => ?_) (fun h => ?_) | refine Spl.not ?_ | refine Spl.any (fun h => ?_) (fun h => ?_))
  · have h1 : m = 2 := by assumption
    refine RWP.of tabOk orders ?_
    repeat' ((conv => whnf); (first
    | (with_reducible first | refine Spl.yes ?_ | refine Spl.no ?_ | refine Spl.dec (fun h => ?_) (fun h => ?_) | refine Spl.eq (fun h => ?_) (fun h => ?_) | refine Spl.ne (fun h => ?_) (fun h => ?_) | refine Spl.seq (fun h => ?_) (fun h => ?_) | refine Spl.not ?_ | refine Spl.any (fun h => ?_) (fun h => ?_))
    | ((with_reducible apply And.intro); first | omega | rfl | (dsimp only; omega))))
    all_goals (conv => whnf)
    exact ⟨_, Wk.narrow _ [0, 2] [1000000] [], by omega, by rw [if_neg (by omega), if_pos h1]; rfl⟩
  refine RWP.seqx tabOk orders ?_
  conv => whnf
  refine RWP.cond ?_
  conv => whnf
  (with_reducible first | refine Spl.yes ?_ | refine Spl.no ?_ | refine Spl.dec (fun h => ?_) (fun h => ?_) | refine Spl.eq (fun h => ?_) (fun h => ?_) | refine Spl.ne (fun h => ?_) (fun h => ?_) | refine Spl.seq (fun h => ?_) (fun h => ?_) | refine Spl.not ?_ | refine Spl.any (fun h => ?_) (fun h => ?_))
  rotate_left
  · refine RWP.of tabOk orders ?_
    repeat' ((conv => whnf); (first
    | (with_reducible first | refine Spl.yes ?_ | refine Spl.no ?_ | refine Spl.dec (fun h => ?_) (fun h => ?_) | refine Spl.eq (fun h => ?_) (fun h => ?_) | refine Spl.ne (fun h => ?_) (fun h => ?_) | refine Spl.seq (fun h => ?_) (fun h => ?_) | refine Spl.not ?_ | refine Spl.any (fun h => ?_) (fun h => ?_))
    | ((with_reducible apply And.intro); first | omega | rfl | (dsimp only; omega))))
    all_goals (conv => whnf)
    exact ⟨_, Wk.narrow _ [0, 2] [1000000] [], by assumption, by rw [if_neg (by assumption), if_neg (by assumption)]; rfl⟩
  have h3 : m = 3 := by assumption
  rw [if_pos h3] at hG
  refine RWP.weak (Wk.narrow _ [0, 3] [1000000] []) ?_
  refine RWP.seq ?_
  refine RWP.seqx tabOk orders ?_
  conv => whnf
  refine RWP.block ?_
  have hbig : ∀ x : Int, 0 ≤ x → 0 ≤ x := fun _ h => h
  refine RWP.loop (fun k st => ∃ (j : Int), st = ⟨54, [(0, .ptr 1000000 0), (3, .pv (sv nm)), (34, .pv (ms A)), (35, .pv (iv (rowsM A).length)), (36, .pv (iv j))], [(1000000, (77, rsFs cnt A ⟨last, e, at_⟩))], [], []⟩ ∧ 0 ≤ j ∧ j ≤ A.length ∧ k = (A.length - j).toNat ∧ findS nm (A.take j.toNat) = none)
    ⟨_, _, Wk.narrow _ [0, 3, 34, 35, 36] [1000000] [], 0, rfl, by omega, by omega, rfl, by show findS nm [] = none; rw [findS]⟩ ?_
  rintro k st ⟨j, rfl, hj0, hj1, hk, hno⟩
  refine RWP.seqx tabOk orders ?_
  conv => whnf
  refine RWP.seqx tabOk orders ?_
  repeat' ((conv => whnf); (first
    | (with_reducible first | refine Spl.yes ?_ | refine Spl.no ?_ | refine Spl.dec (fun h => ?_) (fun h => ?_) | refine Spl.eq (fun h => ?_) (fun h => ?_) | refine Spl.ne (fun h => ?_) (fun h => ?_) | refine Spl.seq (fun h => ?_) (fun h => ?_) | refine Spl.not ?_ | refine Spl.any (fun h => ?_) (fun h => ?_))
    | ((with_reducible apply And.intro); first | omega | rfl | (dsimp only; omega))))
  all_goals (conv => whnf)
  rotate_left
  · have e : j = A.length := by omega
    subst e
    rw [Int.toNat_natCast, List.take_length] at hno
    rw [hno] at hG
    subst hG
    refine RWP.of tabOk orders ?_
    repeat' ((conv => whnf); (first
    | (with_reducible first | refine Spl.yes ?_ | refine Spl.no ?_ | refine Spl.dec (fun h => ?_) (fun h => ?_) | refine Spl.eq (fun h => ?_) (fun h => ?_) | refine Spl.ne (fun h => ?_) (fun h => ?_) | refine Spl.seq (fun h => ?_) (fun h => ?_) | refine Spl.not ?_ | refine Spl.any (fun h => ?_) (fun h => ?_))
    | ((with_reducible apply And.intro); first | omega | rfl | (dsimp only; omega))))
    all_goals (conv => whnf)
    refine ⟨_, Wk.narrow _ [8] [1000000] [], .inl ?_⟩
    conv => whnf
    exact ⟨rfl, rfl⟩
  have hsp := drop_stepM (l := A) hj0 (by omega)
  have htd := List.take_append_drop j.toNat A
  have hts : A.take (j + 1).toNat = A.take j.toNat ++ [rdm A j] := by
    rw [show (j + 1).toNat = j.toNat + 1 by omega, List.take_add_one]
    simp [rdm, List.getD_eq_getElem?_getD, List.getElem?_eq_getElem (show j.toNat < A.length by omega)]
  have hf1 : findS nm A = if (rdm A j).1 = nm then some (rdm A j).2 else findS nm (A.drop (j + 1).toNat) := by
    have := findS_app nm (A.drop j.toNat) (A.take j.toNat) hno
    rw [htd] at this
    rw [this, hsp, findS_cons']
  have hf2 : findS nm (A.take (j + 1).toNat) = if (rdm A j).1 = nm then some (rdm A j).2 else none := by
    rw [hts, findS_app nm _ _ hno, findS_cons', findS_nil']
  generalize hx : rdm A j = x at *
  obtain ⟨xs, xn⟩ := x
  refine RWP.of tabOk orders ?_
  repeat' ((conv => whnf); (first
    | (with_reducible first | refine Spl.yes ?_ | refine Spl.no ?_ | refine Spl.dec (fun h => ?_) (fun h => ?_) | refine Spl.eq (fun h => ?_) (fun h => ?_) | refine Spl.ne (fun h => ?_) (fun h => ?_) | refine Spl.seq (fun h => ?_) (fun h => ?_) | refine Spl.not ?_ | refine Spl.any (fun h => ?_) (fun h => ?_))
    | (rw [rowsM_get (by omega)])
    | (rw [hx])
    | refine And.intro (Nat.le_of_ble_eq_true rfl) ?_
    | ((with_reducible apply And.intro); first | omega | rfl | (dsimp only; omega))))
  all_goals (conv => whnf)
  all_goals first
    | (exact ⟨(A.length - (j + 1)).toNat, _, by omega, Wk.narrow _ [0, 3, 34, 35, 36] [1000000] [], j + 1, rfl, by omega, by omega, rfl, by rw [hf2, if_neg (by assumption)]⟩)
    | (rw [hf1, if_pos (by assumption)] at hG
       subst hG
       refine ⟨_, Wk.narrow _ [8] [1000000] [], .inl ?_⟩
       conv => whnf
       exact ⟨rfl, rfl⟩)
end Go.Proofs.Ytnoohgiecnmajaa.VC

/- refs: a node's number is set; a condition. -/
namespace Go.Proofs.Ytnoohgiecnmajaa.VC
open Go Go.RowKit
set_option linter.unusedVariables false
set_option linter.unusedSimpArgs false
set_option maxHeartbeats 4000000

def HRN (cnt : Int) (A : List (ByteArray × Int)) (s : Rs) (f : NodeF) (ks : List Node) : St := ⟨0, [], [(1000000, (77, rsFs cnt A s)), (1000001, (27, nfe f ks))], [], []⟩
def setS (s : Rs) (v least a : Int) : Rs := if v < least then (if s.e = 0 then { s with e := 34, at_ := a } else s) else s
def setFN (v : Int) (f : NodeF) : NodeF := { f with n := v, m := 0, name := bs [] }
def setFM (v : Int) (f : NodeF) : NodeF := { f with mode := v, m := 0, name := bs [] }
def vN (cnt : Int) (A : List (ByteArray × Int)) (s : Rs) (f : NodeF) : Int := meantP cnt A s.last f.m f.n f.name
def vM (cnt : Int) (A : List (ByteArray × Int)) (s : Rs) (f : NodeF) : Int := meantP cnt A s.last f.m f.mode f.name
attribute [local irreducible] meantP
set_option maxHeartbeats 16000000
theorem setN_h (cnt : Int) (A : List (ByteArray × Int)) (s : Rs) (f : NodeF) (ks : List Node) (least : Int) (hA : A.length ≤ 1000000) (hl : 0 ≤ s.last ∧ s.last ≤ 2000000000) (hk : -1000 ≤ f.n ∧ f.n ≤ 30000) :
    HCalls Try.prog 69 (HRN cnt A s f ks) [.ptr 1000000 0, .ptr 1000001 0, .ptr 1000001 5, .pv (iv least)] (fun fe H' => fe = .pv (.tuple []) ∧ H' = HRN cnt A (setS s (vN cnt A s f) least f.at_) (setFN (vN cnt A s f) f) ks) := by
  have hm := meant_h cnt A s f.m f.n f.name hA hl hk
  unfold vN
  obtain ⟨last, e, at_⟩ := s
  simp only at hm ⊢
  generalize meantP cnt A last f.m f.n f.name = v at *
  obtain ⟨G, hG⟩ : ∃ G, setS ⟨last, e, at_⟩ v least f.at_ = G := ⟨_, rfl⟩
  rw [hG]
  unfold setS at hG
  refine HCalls.ofr tabOk Try.func69 (by decide) rfl rfl ?_
  refine RWP.of tabOk orders ?_
  repeat' ((conv => whnf); (first
    | (with_reducible first | refine Spl.yes ?_ | refine Spl.no ?_ | refine Spl.dec (fun h => ?_) (fun h => ?_) | refine Spl.eq (fun h => ?_) (fun h => ?_) | refine Spl.ne (fun h => ?_) (fun h => ?_) | refine Spl.seq (fun h => ?_) (fun h => ?_) | refine Spl.not ?_ | refine Spl.any (fun h => ?_) (fun h => ?_))
    | refine drawn_text (by decide +kernel) ?_
    | (refine HQ.use (hm) ⟨id, id, id⟩ ⟨rfl, rfl⟩ rfl rfl (by first | exact ⟨⟨rfl, rfl⟩, trivial⟩ | exact ⟨⟨rfl, rfl⟩, ⟨rfl, rfl⟩, trivial⟩) (by first | exact trivial | exact ⟨⟨rfl, rfl⟩, trivial⟩ | exact ⟨⟨rfl, rfl⟩, ⟨rfl, rfl⟩, trivial⟩) (by first | exact trivial | exact ⟨⟨rfl, rfl⟩, trivial⟩) ?_; rintro _ _ ⟨rfl, rfl⟩; refine ⟨⟨rfl, rfl, rfl⟩, ?_⟩)
    | refine And.intro (Nat.le_of_ble_eq_true rfl) ?_
    | ((with_reducible apply And.intro); first | omega | rfl | (dsimp only; omega))))
  all_goals (conv => whnf)
  all_goals (refine ⟨_, Wk.narrow _ [0] [1000000, 1000001] [], .inl ?_⟩)
  all_goals (conv => whnf)
  · rw [if_pos (by assumption), if_pos (by assumption)] at hG
    subst hG
    exact ⟨rfl, rfl⟩
  · rw [if_pos (by assumption), if_neg (by assumption)] at hG
    subst hG
    exact ⟨rfl, rfl⟩
  · rw [if_neg (by assumption)] at hG
    subst hG
    exact ⟨rfl, rfl⟩
theorem setM_h (cnt : Int) (A : List (ByteArray × Int)) (s : Rs) (f : NodeF) (ks : List Node) (least : Int) (hA : A.length ≤ 1000000) (hl : 0 ≤ s.last ∧ s.last ≤ 2000000000) (hk : -1000 ≤ f.mode ∧ f.mode ≤ 30000) :
    HCalls Try.prog 69 (HRN cnt A s f ks) [.ptr 1000000 0, .ptr 1000001 0, .ptr 1000001 7, .pv (iv least)] (fun fe H' => fe = .pv (.tuple []) ∧ H' = HRN cnt A (setS s (vM cnt A s f) least f.at_) (setFM (vM cnt A s f) f) ks) := by
  have hm := meant_h cnt A s f.m f.mode f.name hA hl hk
  unfold vM
  obtain ⟨last, e, at_⟩ := s
  simp only at hm ⊢
  generalize meantP cnt A last f.m f.mode f.name = v at *
  obtain ⟨G, hG⟩ : ∃ G, setS ⟨last, e, at_⟩ v least f.at_ = G := ⟨_, rfl⟩
  rw [hG]
  unfold setS at hG
  refine HCalls.ofr tabOk Try.func69 (by decide) rfl rfl ?_
  refine RWP.of tabOk orders ?_
  repeat' ((conv => whnf); (first
    | (with_reducible first | refine Spl.yes ?_ | refine Spl.no ?_ | refine Spl.dec (fun h => ?_) (fun h => ?_) | refine Spl.eq (fun h => ?_) (fun h => ?_) | refine Spl.ne (fun h => ?_) (fun h => ?_) | refine Spl.seq (fun h => ?_) (fun h => ?_) | refine Spl.not ?_ | refine Spl.any (fun h => ?_) (fun h => ?_))
    | refine drawn_text (by decide +kernel) ?_
    | (refine HQ.use (hm) ⟨id, id, id⟩ ⟨rfl, rfl⟩ rfl rfl (by first | exact ⟨⟨rfl, rfl⟩, trivial⟩ | exact ⟨⟨rfl, rfl⟩, ⟨rfl, rfl⟩, trivial⟩) (by first | exact trivial | exact ⟨⟨rfl, rfl⟩, trivial⟩ | exact ⟨⟨rfl, rfl⟩, ⟨rfl, rfl⟩, trivial⟩) (by first | exact trivial | exact ⟨⟨rfl, rfl⟩, trivial⟩) ?_; rintro _ _ ⟨rfl, rfl⟩; refine ⟨⟨rfl, rfl, rfl⟩, ?_⟩)
    | refine And.intro (Nat.le_of_ble_eq_true rfl) ?_
    | ((with_reducible apply And.intro); first | omega | rfl | (dsimp only; omega))))
  all_goals (conv => whnf)
  all_goals (refine ⟨_, Wk.narrow _ [0] [1000000, 1000001] [], .inl ?_⟩)
  all_goals (conv => whnf)
  · rw [if_pos (by assumption), if_pos (by assumption)] at hG
    subst hG
    exact ⟨rfl, rfl⟩
  · rw [if_pos (by assumption), if_neg (by assumption)] at hG
    subst hG
    exact ⟨rfl, rfl⟩
  · rw [if_neg (by assumption)] at hG
    subst hG
    exact ⟨rfl, rfl⟩
/-- A condition's reference. -/
def condF (cnt : Int) (A : List (ByteArray × Int)) (s : Rs) (f : NodeF) : NodeF × Rs :=
  if f.n = 11 then
    if f.mode = -1 then (f, s)
    else (setFM (vM cnt A s f) f, setS s (vM cnt A s f) (if f.m = 3 then 1 else 0) f.at_)
  else if f.n = 10 then (setFM (vM cnt A s { f with n := 9, m := 3 }) { f with n := 9, m := 3 }, setS s (vM cnt A s { f with n := 9, m := 3 }) 1 f.at_)
  else if f.n = 9 then (setFM (vM cnt A s f) f, setS s (vM cnt A s f) 1 f.at_)
  else (f, s)
attribute [local irreducible] setS vM vN
theorem cond_h (cnt : Int) (A : List (ByteArray × Int)) (s : Rs) (f : NodeF) (ks : List Node) (hA : A.length ≤ 1000000) (hl : 0 ≤ s.last ∧ s.last ≤ 2000000000) (hk : -1000 ≤ f.mode ∧ f.mode ≤ 30000) :
    HCalls Try.prog 70 (HRN cnt A s f ks) [.ptr 1000000 0, .ptr 1000001 0] (fun fe H' => fe = .pv (.tuple []) ∧ H' = HRN cnt A (condF cnt A s f).2 (condF cnt A s f).1 ks) := by
  have hm1 := setM_h cnt A s f ks (if f.m = 3 then 1 else 0) hA hl hk
  have hm2 := setM_h cnt A s f ks 1 hA hl hk
  have hm3 := setM_h cnt A s { f with n := 9, m := 3 } ks 1 hA hl hk
  obtain ⟨G, hG⟩ : ∃ G, condF cnt A s f = G := ⟨_, rfl⟩
  rw [hG]
  unfold condF at hG
  refine HCalls.ofr tabOk Try.func70 (by decide) rfl rfl ?_
  refine RWP.of tabOk orders ?_
  repeat' ((conv => whnf); (first
    | (with_reducible first | refine Spl.yes ?_ | refine Spl.no ?_ | refine Spl.dec (fun h => ?_) (fun h => ?_) | refine Spl.eq (fun h => ?_) (fun h => ?_) | refine Spl.ne (fun h => ?_) (fun h => ?_) | refine Spl.seq (fun h => ?_) (fun h => ?_) | refine Spl.not ?_ | refine Spl.any (fun h => ?_) (fun h => ?_))
    | refine And.intro (Nat.le_of_ble_eq_true rfl) ?_
    | ((with_reducible apply And.intro); first | omega | rfl | (dsimp only; omega))))
  all_goals (conv => whnf)
  · rw [if_pos (by assumption), if_pos (by assumption)] at hG
    subst hG
    refine ⟨_, Wk.narrow _ [0] [1000000, 1000001] [], .inl ?_⟩
    conv => whnf
    exact ⟨rfl, rfl⟩
  · rw [if_pos (by assumption), if_neg (by assumption), if_neg (by assumption)] at hG
    subst hG
    rw [if_neg (by assumption)] at hm1
    (refine HQ.use (hm1) ⟨id, id, id⟩ ⟨rfl, rfl⟩ rfl rfl (by first | exact ⟨⟨rfl, rfl⟩, trivial⟩ | exact ⟨⟨rfl, rfl⟩, ⟨rfl, rfl⟩, trivial⟩) (by first | exact trivial | exact ⟨⟨rfl, rfl⟩, trivial⟩ | exact ⟨⟨rfl, rfl⟩, ⟨rfl, rfl⟩, trivial⟩) (by first | exact trivial | exact ⟨⟨rfl, rfl⟩, trivial⟩) ?_; rintro _ _ ⟨rfl, rfl⟩; refine ⟨⟨rfl, rfl, rfl⟩, ?_⟩)
    repeat' ((conv => whnf); (first
    | (with_reducible first | refine Spl.yes ?_ | refine Spl.no ?_ | refine Spl.dec (fun h => ?_) (fun h => ?_) | refine Spl.eq (fun h => ?_) (fun h => ?_) | refine Spl.ne (fun h => ?_) (fun h => ?_) | refine Spl.seq (fun h => ?_) (fun h => ?_) | refine Spl.not ?_ | refine Spl.any (fun h => ?_) (fun h => ?_))
    | ((with_reducible apply And.intro); first | omega | rfl | (dsimp only; omega))))
    all_goals (conv => whnf)
    refine ⟨_, Wk.narrow _ [0] [1000000, 1000001] [], .inl ?_⟩
    conv => whnf
    exact ⟨rfl, rfl⟩
  · rw [if_pos (by assumption), if_neg (by assumption), if_pos (by assumption)] at hG
    subst hG
    rw [if_pos (by assumption)] at hm1
    (refine HQ.use (hm1) ⟨id, id, id⟩ ⟨rfl, rfl⟩ rfl rfl (by first | exact ⟨⟨rfl, rfl⟩, trivial⟩ | exact ⟨⟨rfl, rfl⟩, ⟨rfl, rfl⟩, trivial⟩) (by first | exact trivial | exact ⟨⟨rfl, rfl⟩, trivial⟩ | exact ⟨⟨rfl, rfl⟩, ⟨rfl, rfl⟩, trivial⟩) (by first | exact trivial | exact ⟨⟨rfl, rfl⟩, trivial⟩) ?_; rintro _ _ ⟨rfl, rfl⟩; refine ⟨⟨rfl, rfl, rfl⟩, ?_⟩)
    repeat' ((conv => whnf); (first
    | (with_reducible first | refine Spl.yes ?_ | refine Spl.no ?_ | refine Spl.dec (fun h => ?_) (fun h => ?_) | refine Spl.eq (fun h => ?_) (fun h => ?_) | refine Spl.ne (fun h => ?_) (fun h => ?_) | refine Spl.seq (fun h => ?_) (fun h => ?_) | refine Spl.not ?_ | refine Spl.any (fun h => ?_) (fun h => ?_))
    | ((with_reducible apply And.intro); first | omega | rfl | (dsimp only; omega))))
    all_goals (conv => whnf)
    refine ⟨_, Wk.narrow _ [0] [1000000, 1000001] [], .inl ?_⟩
    conv => whnf
    exact ⟨rfl, rfl⟩
  · rw [if_neg (by assumption), if_pos (by assumption)] at hG
    subst hG
    (refine HQ.use (hm3) ⟨id, id, id⟩ ⟨rfl, rfl⟩ rfl rfl (by first | exact ⟨⟨rfl, rfl⟩, trivial⟩ | exact ⟨⟨rfl, rfl⟩, ⟨rfl, rfl⟩, trivial⟩) (by first | exact trivial | exact ⟨⟨rfl, rfl⟩, trivial⟩ | exact ⟨⟨rfl, rfl⟩, ⟨rfl, rfl⟩, trivial⟩) (by first | exact trivial | exact ⟨⟨rfl, rfl⟩, trivial⟩) ?_; rintro _ _ ⟨rfl, rfl⟩; refine ⟨⟨rfl, rfl, rfl⟩, ?_⟩)
    repeat' ((conv => whnf); (first
    | (with_reducible first | refine Spl.yes ?_ | refine Spl.no ?_ | refine Spl.dec (fun h => ?_) (fun h => ?_) | refine Spl.eq (fun h => ?_) (fun h => ?_) | refine Spl.ne (fun h => ?_) (fun h => ?_) | refine Spl.seq (fun h => ?_) (fun h => ?_) | refine Spl.not ?_ | refine Spl.any (fun h => ?_) (fun h => ?_))
    | ((with_reducible apply And.intro); first | omega | rfl | (dsimp only; omega))))
    all_goals (conv => whnf)
    refine ⟨_, Wk.narrow _ [0] [1000000, 1000001] [], .inl ?_⟩
    conv => whnf
    exact ⟨rfl, rfl⟩
  · rw [if_neg (by assumption), if_neg (by assumption), if_pos (by assumption)] at hG
    subst hG
    (refine HQ.use (hm2) ⟨id, id, id⟩ ⟨rfl, rfl⟩ rfl rfl (by first | exact ⟨⟨rfl, rfl⟩, trivial⟩ | exact ⟨⟨rfl, rfl⟩, ⟨rfl, rfl⟩, trivial⟩) (by first | exact trivial | exact ⟨⟨rfl, rfl⟩, trivial⟩ | exact ⟨⟨rfl, rfl⟩, ⟨rfl, rfl⟩, trivial⟩) (by first | exact trivial | exact ⟨⟨rfl, rfl⟩, trivial⟩) ?_; rintro _ _ ⟨rfl, rfl⟩; refine ⟨⟨rfl, rfl, rfl⟩, ?_⟩)
    repeat' ((conv => whnf); (first
    | (with_reducible first | refine Spl.yes ?_ | refine Spl.no ?_ | refine Spl.dec (fun h => ?_) (fun h => ?_) | refine Spl.eq (fun h => ?_) (fun h => ?_) | refine Spl.ne (fun h => ?_) (fun h => ?_) | refine Spl.seq (fun h => ?_) (fun h => ?_) | refine Spl.not ?_ | refine Spl.any (fun h => ?_) (fun h => ?_))
    | ((with_reducible apply And.intro); first | omega | rfl | (dsimp only; omega))))
    all_goals (conv => whnf)
    refine ⟨_, Wk.narrow _ [0] [1000000, 1000001] [], .inl ?_⟩
    conv => whnf
    exact ⟨rfl, rfl⟩
  · rw [if_neg (by assumption), if_neg (by assumption), if_neg (by assumption)] at hG
    subst hG
    refine ⟨_, Wk.narrow _ [0] [1000000, 1000001] [], .inl ?_⟩
    conv => whnf
    exact ⟨rfl, rfl⟩
end Go.Proofs.Ytnoohgiecnmajaa.VC

/- refs: a node with its references resolved. -/
namespace Go.Proofs.Ytnoohgiecnmajaa.VC
open Go Go.RowKit
set_option linter.unusedVariables false
set_option linter.unusedSimpArgs false
set_option maxHeartbeats 4000000

def headP (cnt : Int) (A : List (ByteArray × Int)) (f : NodeF) (s : Rs) : NodeF × Rs :=
  if f.kind = 14 then (f, { s with last := f.n })
  else if f.kind = 7 then (setFN (vN cnt A s f) f, setS s (vN cnt A s f) 1 f.at_)
  else if f.kind = 8 then (setFN (vN cnt A s f) f, setS s (vN cnt A s f) 0 f.at_)
  else if f.kind = 19 then condF cnt A s f
  else (f, s)
mutual
def nodeP (cnt : Int) (A : List (ByteArray × Int)) : Node → Rs → Node × Rs
  | .mk f ks, s =>
    if s.e ≠ 0 then (.mk f ks, s)
    else (.mk (headP cnt A f s).1 (kidsP cnt A ks (decide (f.kind = 16)) (headP cnt A f s).2.last (headP cnt A f s).2.last (headP cnt A f s).2).1,
      if f.kind = 16 then { (kidsP cnt A ks (decide (f.kind = 16)) (headP cnt A f s).2.last (headP cnt A f s).2.last (headP cnt A f s).2).2.2 with last := (kidsP cnt A ks (decide (f.kind = 16)) (headP cnt A f s).2.last (headP cnt A f s).2.last (headP cnt A f s).2).2.1 }
      else (kidsP cnt A ks (decide (f.kind = 16)) (headP cnt A f s).2.last (headP cnt A f s).2.last (headP cnt A f s).2).2.2)
def kidsP (cnt : Int) (A : List (ByteArray × Int)) : List Node → Bool → Int → Int → Rs → List Node × Int × Rs
  | [], _, _, most, s => ([], most, s)
  | k :: l, rs, first, most, s =>
    ((nodeP cnt A k (if rs = true then { s with last := first } else s)).1 ::
      (kidsP cnt A l rs first (mxP (nodeP cnt A k (if rs = true then { s with last := first } else s)).2.last most) (nodeP cnt A k (if rs = true then { s with last := first } else s)).2).1,
     (kidsP cnt A l rs first (mxP (nodeP cnt A k (if rs = true then { s with last := first } else s)).2.last most) (nodeP cnt A k (if rs = true then { s with last := first } else s)).2).2)
end
section
variable {cnt : Int} {A : List (ByteArray × Int)}
theorem kidsP_nil (rs : Bool) (a b : Int) (c : Rs) : kidsP cnt A [] rs a b c = ([], b, c) := by rw [kidsP]
theorem kidsP_snoc (k : Node) : ∀ (l : List Node) (rs : Bool) (a b : Int) (c : Rs), kidsP cnt A (l ++ [k]) rs a b c =
    ((kidsP cnt A l rs a b c).1 ++ [(nodeP cnt A k (if rs = true then { (kidsP cnt A l rs a b c).2.2 with last := a } else (kidsP cnt A l rs a b c).2.2)).1],
     mxP (nodeP cnt A k (if rs = true then { (kidsP cnt A l rs a b c).2.2 with last := a } else (kidsP cnt A l rs a b c).2.2)).2.last (kidsP cnt A l rs a b c).2.1,
     (nodeP cnt A k (if rs = true then { (kidsP cnt A l rs a b c).2.2 with last := a } else (kidsP cnt A l rs a b c).2.2)).2)
  | [], rs, a, b, c => by rw [List.nil_append, kidsP, kidsP, kidsP]; rfl
  | x :: l, rs, a, b, c => by
    rw [List.cons_append, kidsP, kidsP, kidsP_snoc k l]
    rfl
theorem kidsP_len : ∀ (l : List Node) (rs : Bool) (a b : Int) (c : Rs), (kidsP cnt A l rs a b c).1.length = l.length
  | [], rs, a, b, c => by rw [kidsP]
  | k :: l, rs, a, b, c => by rw [kidsP]; simp [kidsP_len l]
theorem setS_last (s : Rs) (v least a : Int) : (setS s v least a).last = s.last := by
  unfold setS
  split
  · split <;> rfl
  · rfl
theorem condF_last (s : Rs) (f : NodeF) : (condF cnt A s f).2.last = s.last := by
  unfold condF
  repeat' split
  all_goals first | rfl | exact setS_last _ _ _ _
theorem headP_last (f : NodeF) (s : Rs) : (headP cnt A f s).2.last = if f.kind = 14 then f.n else s.last := by
  unfold headP
  by_cases q : f.kind = 14
  · rw [if_pos q, if_pos q]
  rw [if_neg q, if_neg q]
  repeat' split
  all_goals first | rfl | exact setS_last _ _ _ _ | exact condF_last _ _
theorem condF_same (s : Rs) (f : NodeF) : (condF cnt A s f).1.kind = f.kind ∧ (condF cnt A s f).1.set = f.set := by
  unfold condF setFM
  repeat' split
  all_goals exact ⟨rfl, rfl⟩
theorem headP_same (f : NodeF) (s : Rs) : (headP cnt A f s).1.kind = f.kind ∧ (headP cnt A f s).1.set = f.set := by
  unfold headP setFN
  repeat' split
  all_goals first | exact ⟨rfl, rfl⟩ | exact condF_same _ _
end
/-- What resolving references asks of a node. -/
def RefOk (n : Node) : Prop := n.f.set.length ≤ 4000000000 ∧ (-1000 ≤ n.f.n ∧ n.f.n ≤ 30000) ∧ (-1000 ≤ n.f.mode ∧ n.f.mode ≤ 30000) ∧ (n.f.kind = 14 → 0 ≤ n.f.n)
mutual
theorem nodeP_le (cnt : Int) (A : List (ByteArray × Int)) : ∀ (n : Node) (c : Rs), n.all RefOk → 0 ≤ c.last → c.last ≤ 30000 → 0 ≤ (nodeP cnt A n c).2.last ∧ (nodeP cnt A n c).2.last ≤ 30000
  | .mk f ks, c, ha, h0, h1 => by
    rw [Node.all] at ha
    have hn : (-1000 ≤ f.n ∧ f.n ≤ 30000) := ha.1.2.1
    have h14 : f.kind = 14 → 0 ≤ f.n := ha.1.2.2.2
    rw [nodeP]
    split
    · exact ⟨h0, h1⟩
    · have hl := headP_last (cnt := cnt) (A := A) f c
      have hb : 0 ≤ (headP cnt A f c).2.last ∧ (headP cnt A f c).2.last ≤ 30000 := by rw [hl]; split <;> omega
      have h2 := kidsP_le cnt A ks (decide (f.kind = 16)) (headP cnt A f c).2.last (headP cnt A f c).2.last (headP cnt A f c).2 ha.2 hb.1 hb.2 hb.1 hb.2 hb.1 hb.2
      split
      · exact ⟨h2.1, h2.2.1⟩
      · exact ⟨h2.2.2.1, h2.2.2.2⟩
theorem kidsP_le (cnt : Int) (A : List (ByteArray × Int)) : ∀ (l : List Node) (rs : Bool) (a b : Int) (c : Rs), allN RefOk l → 0 ≤ a → a ≤ 30000 → 0 ≤ b → b ≤ 30000 → 0 ≤ c.last → c.last ≤ 30000 →
    0 ≤ (kidsP cnt A l rs a b c).2.1 ∧ (kidsP cnt A l rs a b c).2.1 ≤ 30000 ∧ 0 ≤ (kidsP cnt A l rs a b c).2.2.last ∧ (kidsP cnt A l rs a b c).2.2.last ≤ 30000
  | [], rs, a, b, c, ha, h1, h2, h3, h4, h5, h6 => by rw [kidsP]; simp only; omega
  | k :: l, rs, a, b, c, ha, h1, h2, h3, h4, h5, h6 => by
    rw [allN] at ha
    rw [kidsP]
    have hc : ∃ c1, (if rs = true then { c with last := a } else c) = c1 ∧ 0 ≤ c1.last ∧ c1.last ≤ 30000 := by
      split
      · exact ⟨_, rfl, h1, h2⟩
      · exact ⟨_, rfl, h5, h6⟩
    obtain ⟨c1, e, q1, q2⟩ := hc
    rw [e]
    have h7 := nodeP_le cnt A k c1 ha.1 q1 q2
    generalize nodeP cnt A k c1 = r at *
    have hm : 0 ≤ mxP r.2.last b ∧ mxP r.2.last b ≤ 30000 := by unfold mxP; split <;> omega
    exact kidsP_le cnt A l rs a (mxP r.2.last b) r.2 ha.2 h1 h2 hm.1 hm.2 h7.1 h7.2
end
theorem all_take {P : Node → Prop} : ∀ {l : List Node} (n : Nat), allN P l → allN P (l.take n)
  | [], n, h => by rw [List.take_nil]; exact h
  | k :: l, 0, h => by rw [List.take_zero, allN]; trivial
  | k :: l, n + 1, h => by rw [allN] at h; rw [List.take_succ_cons, allN]; exact ⟨h.1, all_take n h.2⟩
attribute [local irreducible] nodeP kidsP condF setS vN
def NpC (cnt : Int) (A : List (ByteArray × Int)) (n : Node) : Prop := ∀ s : Rs, 0 ≤ s.last → s.last ≤ 30000 →
  HCalls Try.prog 48 (HR cnt A s) [.ptr 1000000 0, .pv n.enc] (fun fe H' => fe = .pv (nodeP cnt A n s).1.enc ∧ H' = HR cnt A (nodeP cnt A n s).2)
def headSt (cnt : Int) (A : List (ByteArray × Int)) (f : NodeF) (ks : List Node) (s : Rs) : St :=
  ⟨88, [(0, .ptr 1000000 0), (3, .ptr 3 0), (4, .ptr 4 0)], [(1000000, (77, rsFs cnt A s)), (3, (27, nfe f ks)), (4, (27, nzero))], [], []⟩
def kidRt (cnt : Int) (A : List (ByteArray × Int)) (s1 : Rs) (f : NodeF) (ks : List Node) (v : Bool) (j most : Int) (s : Rs) (o : List (List SV)) : St :=
  ⟨88, [(0, .ptr 1000000 0), (3, .ptr 3 0), (4, .ptr 4 0), (5, .pv (iv s1.last)), (6, .pv (iv most)), (7, .own 66), (48, .pv (nodesE ks)), (49, .pv (iv (rowsN ks).length)), (50, .pv (iv j))], [(1000000, (77, rsFs cnt A s)), (3, (27, nfe f ks)), (4, (27, nzero))], [(66, ⟨12, 27, v, o⟩)], []⟩
set_option maxHeartbeats 16000000
theorem np_step (cnt : Int) (A : List (ByteArray × Int)) (hA : A.length ≤ 1000000) (f : NodeF) (ks : List Node) (ha : (Node.mk f ks).all RefOk) (hw : wN ks ≤ 1000000) (ih : ∀ n ∈ ks, NpC cnt A n) : NpC cnt A (.mk f ks) := by
  intro c h0 h1
  rw [Node.all] at ha
  have hset : f.set.length ≤ 4000000000 := ha.1.1
  have hnr : (-1000 ≤ f.n ∧ f.n ≤ 30000) := ha.1.2.1
  have hmr : (-1000 ≤ f.mode ∧ f.mode ≤ 30000) := ha.1.2.2.1
  have h14 : f.kind = 14 → 0 ≤ f.n := ha.1.2.2.2
  have hks := ha.2
  have hn := rowsN_len ks
  have hl := wN_len ks
  have hs2 := rows2_len f.set
  obtain ⟨G, hG⟩ : ∃ G, nodeP cnt A (.mk f ks) c = G := ⟨_, rfl⟩
  rw [hG]
  rw [nodeP] at hG
  refine HCalls.ofr tabOk Try.func48 (by decide) rfl rfl ?_
  obtain ⟨last, e, at_⟩ := c
  simp only at h0 h1 hG
  refine RWP.seqx tabOk orders ?_
  conv => whnf
  refine RWP.seqx tabOk orders ?_
  repeat' ((conv => whnf); (first
    | (with_reducible first | refine Spl.yes ?_ | refine Spl.no ?_ | refine Spl.dec (fun h => ?_) (fun h => ?_) | refine Spl.eq (fun h => ?_) (fun h => ?_) | refine Spl.ne (fun h => ?_) (fun h => ?_) | refine Spl.seq (fun h => ?_) (fun h => ?_) | refine Spl.not ?_ | refine Spl.any (fun h => ?_) (fun h => ?_))
    | refine And.intro (Nat.le_of_ble_eq_true rfl) ?_
    | ((with_reducible apply And.intro); first | omega | rfl | (dsimp only; omega))))
  all_goals (conv => whnf)
  · rw [if_pos (by assumption)] at hG
    subst hG
    refine ⟨_, Wk.narrow _ [4] [1000000, 4] [], .inl ?_⟩
    conv => whnf
    exact ⟨rfl, rfl⟩
  have he : e = 0 := by assumption
  rw [if_neg (by simp [he])] at hG
  have hl1 : (headP cnt A f ⟨last, e, at_⟩).2.last = if f.kind = 14 then f.n else last := headP_last (cnt := cnt) (A := A) f ⟨last, e, at_⟩
  have hsm := headP_same (cnt := cnt) (A := A) f ⟨last, e, at_⟩
  have hset1 := setN_h cnt A ⟨last, e, at_⟩ f ks 1 hA ⟨h0, by simp only; omega⟩ hnr
  have hset0 := setN_h cnt A ⟨last, e, at_⟩ f ks 0 hA ⟨h0, by simp only; omega⟩ hnr
  have hcond := cond_h cnt A ⟨last, e, at_⟩ f ks hA ⟨h0, by simp only; omega⟩ hmr
  refine RWP.cutr (fun st => st = headSt cnt A (headP cnt A f ⟨last, e, at_⟩).1 ks (headP cnt A f ⟨last, e, at_⟩).2) ?_ ?_
  · unfold headP
    refine RWP.seqx tabOk orders ?_
    conv => whnf
    refine RWP.block ?_
    refine RWP.seqx tabOk orders ?_
    conv => whnf
    refine RWP.cond ?_
    conv => whnf
    (with_reducible first | refine Spl.yes ?_ | refine Spl.no ?_ | refine Spl.dec (fun h => ?_) (fun h => ?_) | refine Spl.eq (fun h => ?_) (fun h => ?_) | refine Spl.ne (fun h => ?_) (fun h => ?_) | refine Spl.seq (fun h => ?_) (fun h => ?_) | refine Spl.not ?_ | refine Spl.any (fun h => ?_) (fun h => ?_))
    · rw [if_pos (by assumption)]
      refine RWP.of tabOk orders ?_
      repeat' ((conv => whnf); (first
    | (with_reducible first | refine Spl.yes ?_ | refine Spl.no ?_ | refine Spl.dec (fun h => ?_) (fun h => ?_) | refine Spl.eq (fun h => ?_) (fun h => ?_) | refine Spl.ne (fun h => ?_) (fun h => ?_) | refine Spl.seq (fun h => ?_) (fun h => ?_) | refine Spl.not ?_ | refine Spl.any (fun h => ?_) (fun h => ?_))
    | ((with_reducible apply And.intro); first | omega | rfl | (dsimp only; omega))))
      all_goals (conv => whnf)
      exact ⟨_, Wk.narrow _ [0, 3, 4] [1000000, 3, 4] [], rfl⟩
    rw [if_neg (by assumption)]
    refine RWP.seqx tabOk orders ?_
    conv => whnf
    refine RWP.cond ?_
    conv => whnf
    (with_reducible first | refine Spl.yes ?_ | refine Spl.no ?_ | refine Spl.dec (fun h => ?_) (fun h => ?_) | refine Spl.eq (fun h => ?_) (fun h => ?_) | refine Spl.ne (fun h => ?_) (fun h => ?_) | refine Spl.seq (fun h => ?_) (fun h => ?_) | refine Spl.not ?_ | refine Spl.any (fun h => ?_) (fun h => ?_))
    · rw [if_pos (by assumption)]
      refine RWP.of tabOk orders ?_
      repeat' ((conv => whnf); (first
    | (with_reducible first | refine Spl.yes ?_ | refine Spl.no ?_ | refine Spl.dec (fun h => ?_) (fun h => ?_) | refine Spl.eq (fun h => ?_) (fun h => ?_) | refine Spl.ne (fun h => ?_) (fun h => ?_) | refine Spl.seq (fun h => ?_) (fun h => ?_) | refine Spl.not ?_ | refine Spl.any (fun h => ?_) (fun h => ?_))
    | (refine HQ.use (hset1) ⟨fun k => if k = 1000001 then 3 else k, id, id⟩ ⟨rfl, rfl⟩ rfl rfl (by first | exact ⟨⟨rfl, rfl⟩, trivial⟩ | exact ⟨⟨rfl, rfl⟩, ⟨rfl, rfl⟩, trivial⟩) (by first | exact trivial | exact ⟨⟨rfl, rfl⟩, trivial⟩ | exact ⟨⟨rfl, rfl⟩, ⟨rfl, rfl⟩, trivial⟩) (by first | exact trivial | exact ⟨⟨rfl, rfl⟩, trivial⟩) ?_; rintro _ _ ⟨rfl, rfl⟩; refine ⟨⟨rfl, rfl, rfl⟩, ?_⟩)
    | ((with_reducible apply And.intro); first | omega | rfl | (dsimp only; omega))))
      all_goals (conv => whnf)
      exact ⟨_, Wk.narrow _ [0, 3, 4] [1000000, 3, 4] [], rfl⟩
    rw [if_neg (by assumption)]
    refine RWP.seqx tabOk orders ?_
    conv => whnf
    refine RWP.cond ?_
    conv => whnf
    (with_reducible first | refine Spl.yes ?_ | refine Spl.no ?_ | refine Spl.dec (fun h => ?_) (fun h => ?_) | refine Spl.eq (fun h => ?_) (fun h => ?_) | refine Spl.ne (fun h => ?_) (fun h => ?_) | refine Spl.seq (fun h => ?_) (fun h => ?_) | refine Spl.not ?_ | refine Spl.any (fun h => ?_) (fun h => ?_))
    · rw [if_pos (by assumption)]
      refine RWP.of tabOk orders ?_
      repeat' ((conv => whnf); (first
    | (with_reducible first | refine Spl.yes ?_ | refine Spl.no ?_ | refine Spl.dec (fun h => ?_) (fun h => ?_) | refine Spl.eq (fun h => ?_) (fun h => ?_) | refine Spl.ne (fun h => ?_) (fun h => ?_) | refine Spl.seq (fun h => ?_) (fun h => ?_) | refine Spl.not ?_ | refine Spl.any (fun h => ?_) (fun h => ?_))
    | (refine HQ.use (hset0) ⟨fun k => if k = 1000001 then 3 else k, id, id⟩ ⟨rfl, rfl⟩ rfl rfl (by first | exact ⟨⟨rfl, rfl⟩, trivial⟩ | exact ⟨⟨rfl, rfl⟩, ⟨rfl, rfl⟩, trivial⟩) (by first | exact trivial | exact ⟨⟨rfl, rfl⟩, trivial⟩ | exact ⟨⟨rfl, rfl⟩, ⟨rfl, rfl⟩, trivial⟩) (by first | exact trivial | exact ⟨⟨rfl, rfl⟩, trivial⟩) ?_; rintro _ _ ⟨rfl, rfl⟩; refine ⟨⟨rfl, rfl, rfl⟩, ?_⟩)
    | ((with_reducible apply And.intro); first | omega | rfl | (dsimp only; omega))))
      all_goals (conv => whnf)
      exact ⟨_, Wk.narrow _ [0, 3, 4] [1000000, 3, 4] [], rfl⟩
    rw [if_neg (by assumption)]
    refine RWP.seqx tabOk orders ?_
    conv => whnf
    refine RWP.cond ?_
    conv => whnf
    (with_reducible first | refine Spl.yes ?_ | refine Spl.no ?_ | refine Spl.dec (fun h => ?_) (fun h => ?_) | refine Spl.eq (fun h => ?_) (fun h => ?_) | refine Spl.ne (fun h => ?_) (fun h => ?_) | refine Spl.seq (fun h => ?_) (fun h => ?_) | refine Spl.not ?_ | refine Spl.any (fun h => ?_) (fun h => ?_))
    · rw [if_pos (by assumption)]
      refine RWP.of tabOk orders ?_
      repeat' ((conv => whnf); (first
    | (with_reducible first | refine Spl.yes ?_ | refine Spl.no ?_ | refine Spl.dec (fun h => ?_) (fun h => ?_) | refine Spl.eq (fun h => ?_) (fun h => ?_) | refine Spl.ne (fun h => ?_) (fun h => ?_) | refine Spl.seq (fun h => ?_) (fun h => ?_) | refine Spl.not ?_ | refine Spl.any (fun h => ?_) (fun h => ?_))
    | (refine HQ.use (hcond) ⟨fun k => if k = 1000001 then 3 else k, id, id⟩ ⟨rfl, rfl⟩ rfl rfl (by first | exact ⟨⟨rfl, rfl⟩, trivial⟩ | exact ⟨⟨rfl, rfl⟩, ⟨rfl, rfl⟩, trivial⟩) (by first | exact trivial | exact ⟨⟨rfl, rfl⟩, trivial⟩ | exact ⟨⟨rfl, rfl⟩, ⟨rfl, rfl⟩, trivial⟩) (by first | exact trivial | exact ⟨⟨rfl, rfl⟩, trivial⟩) ?_; rintro _ _ ⟨rfl, rfl⟩; refine ⟨⟨rfl, rfl, rfl⟩, ?_⟩)
    | ((with_reducible apply And.intro); first | omega | rfl | (dsimp only; omega))))
      all_goals (conv => whnf)
      exact ⟨_, Wk.narrow _ [0, 3, 4] [1000000, 3, 4] [], rfl⟩
    rw [if_neg (by assumption)]
    refine RWP.of tabOk orders ?_
    conv => whnf
    exact ⟨_, Wk.narrow _ [0, 3, 4] [1000000, 3, 4] [], rfl⟩
  rintro _ rfl
  obtain ⟨hfk, hfs⟩ := hsm
  have hb1 : 0 ≤ (headP cnt A f ⟨last, e, at_⟩).2.last ∧ (headP cnt A f ⟨last, e, at_⟩).2.last ≤ 30000 := by rw [hl1]; split <;> omega
  generalize headP cnt A f ⟨last, e, at_⟩ = hd at *
  obtain ⟨f1, s1⟩ := hd
  simp only at hfk hfs hb1 hG ⊢
  rw [← hfs] at hset hs2
  refine RWP.seqx tabOk orders ?_
  repeat' ((conv => whnf); (first
    | (with_reducible first | refine Spl.yes ?_ | refine Spl.no ?_ | refine Spl.dec (fun h => ?_) (fun h => ?_) | refine Spl.eq (fun h => ?_) (fun h => ?_) | refine Spl.ne (fun h => ?_) (fun h => ?_) | refine Spl.seq (fun h => ?_) (fun h => ?_) | refine Spl.not ?_ | refine Spl.any (fun h => ?_) (fun h => ?_))
    | refine drawn_text (by decide +kernel) ?_
    | ((with_reducible apply And.intro); first | omega | rfl | (dsimp only; omega))))
  all_goals (conv => whnf)
  refine RWP.seqx tabOk orders ?_
  conv => whnf
  refine RWP.seq ?_
  refine RWP.seqx tabOk orders ?_
  conv => whnf
  refine RWP.block ?_
  refine RWP.loop (fun k st => ∃ (j : Int) (v : Bool), st = kidRt cnt A s1 f1 ks v j (kidsP cnt A (ks.take j.toNat) (decide (f.kind = 16)) s1.last s1.last s1).2.1 (kidsP cnt A (ks.take j.toNat) (decide (f.kind = 16)) s1.last s1.last s1).2.2 (rowsN (kidsP cnt A (ks.take j.toNat) (decide (f.kind = 16)) s1.last s1.last s1).1) ∧ 0 ≤ j ∧ j ≤ ks.length ∧ k = (ks.length - j).toNat)
    ⟨_, _, Wk.trans (Wk.ownNil (t := 7) (k := 66) (sz := 12) (e := 27) rfl) (Wk.narrow _ [0, 3, 4, 5, 6, 7, 48, 49, 50] [1000000, 3, 4] [66]), 0, true, Eq.trans (b := kidRt cnt A s1 f1 ks true 0 s1.last s1 []) rfl (congrArg (fun (X : List Node × Int × Rs) => kidRt cnt A s1 f1 ks true 0 X.2.1 X.2.2 (rowsN X.1)) (kidsP_nil (decide (f.kind = 16)) s1.last s1.last s1).symm), by omega, by omega, rfl⟩ ?_
  rintro k st ⟨j, v, rfl, hj0, hj1, hk⟩
  have hlj := kidsP_len (cnt := cnt) (A := A) (ks.take j.toNat) (decide (f.kind = 16)) s1.last s1.last s1
  have hle := kidsP_le cnt A (ks.take j.toNat) (decide (f.kind = 16)) s1.last s1.last s1 (all_take _ hks) hb1.1 hb1.2 hb1.1 hb1.2 hb1.1 hb1.2
  have hll := rowsN_len (kidsP cnt A (ks.take j.toNat) (decide (f.kind = 16)) s1.last s1.last s1).1
  rw [List.length_take] at hlj
  refine RWP.seqx tabOk orders ?_
  conv => whnf
  refine RWP.seqx tabOk orders ?_
  repeat' ((conv => whnf); (first
    | (with_reducible first | refine Spl.yes ?_ | refine Spl.no ?_ | refine Spl.dec (fun h => ?_) (fun h => ?_) | refine Spl.eq (fun h => ?_) (fun h => ?_) | refine Spl.ne (fun h => ?_) (fun h => ?_) | refine Spl.seq (fun h => ?_) (fun h => ?_) | refine Spl.not ?_ | refine Spl.any (fun h => ?_) (fun h => ?_))
    | ((with_reducible apply And.intro); first | omega | rfl | (dsimp only; omega))))
  all_goals (conv => whnf)
  rotate_left
  · have e : j = ks.length := by omega
    subst e
    rw [Int.toNat_natCast, List.take_length] at hle hll hlj ⊢
    generalize kidsP cnt A ks (decide (f.kind = 16)) s1.last s1.last s1 = r at *
    obtain ⟨o, most, ⟨last2, e2, at2⟩⟩ := r
    subst hG
    refine RWP.of tabOk orders ?_
    repeat' ((conv => whnf); (first
    | (with_reducible first | refine Spl.yes ?_ | refine Spl.no ?_ | refine Spl.dec (fun h => ?_) (fun h => ?_) | refine Spl.eq (fun h => ?_) (fun h => ?_) | refine Spl.ne (fun h => ?_) (fun h => ?_) | refine Spl.seq (fun h => ?_) (fun h => ?_) | refine Spl.not ?_ | refine Spl.any (fun h => ?_) (fun h => ?_))
    | refine drawn_text (by decide +kernel) ?_
    | refine And.intro (Nat.le_of_ble_eq_true rfl) ?_
    | refine And.intro (by show (rows2 f1.set).length * 16 ≤ 140737488355328; omega) ?_
    | ((with_reducible apply And.intro); first | omega | rfl | (dsimp only; omega))))
    all_goals (conv => whnf)
    · have q : f1.kind = 16 := by assumption
      rw [hfk] at q
      rw [if_pos q]
      refine ⟨_, Wk.narrow _ [4] [1000000, 4] [], .inl ?_⟩
      conv => whnf
      exact ⟨rfl, rfl⟩
    · have q : ¬ f1.kind = 16 := by assumption
      rw [hfk] at q
      rw [if_neg q]
      refine ⟨_, Wk.narrow _ [4] [1000000, 4] [], .inl ?_⟩
      conv => whnf
      exact ⟨rfl, rfl⟩
  have hsn := kidsP_snoc (cnt := cnt) (A := A) (rdn ks j) (ks.take j.toNat) (decide (f.kind = 16)) s1.last s1.last s1
  rw [← take_stepN hj0 (by omega)] at hsn
  have hm := rdn_mem (l := ks) (j := j) (by omega)
  have hc := ih (rdn ks j) hm
  generalize kidsP cnt A (ks.take j.toNat) (decide (f.kind = 16)) s1.last s1.last s1 = r at *
  obtain ⟨o, most, ⟨last2, e2, at2⟩⟩ := r
  obtain ⟨f3, k3, h3⟩ := (rdn ks j).ex
  rw [h3] at hc hsn
  simp only at hsn hll hlj hle
  by_cases q : f.kind = 16
  · rw [if_pos (by simp [q])] at hsn
    have hc := hc ⟨s1.last, e2, at2⟩ (by simp only; omega) (by simp only; omega)
    generalize nodeP cnt A (.mk f3 k3) ⟨s1.last, e2, at2⟩ = r2 at *
    obtain ⟨⟨f4, k4⟩, ⟨last4, e4, at4⟩⟩ := r2
    simp only at hsn hc
    have fin : kidRt cnt A s1 f1 ks v (j + 1) (if last4 > most then last4 else most) ⟨last4, e4, at4⟩ (rowsN o ++ [(Node.mk f4 k4).cells]) = kidRt cnt A s1 f1 ks v (j + 1) (kidsP cnt A (ks.take (j + 1).toNat) (decide (f.kind = 16)) s1.last s1.last s1).2.1 (kidsP cnt A (ks.take (j + 1).toNat) (decide (f.kind = 16)) s1.last s1.last s1).2.2 (rowsN (kidsP cnt A (ks.take (j + 1).toNat) (decide (f.kind = 16)) s1.last s1.last s1).1) := by
      rw [hsn, rowsN_snoc]; rfl
    refine RWP.of tabOk orders ?_
    repeat' ((conv => whnf); (first
    | (with_reducible first | refine Spl.yes ?_ | refine Spl.no ?_ | refine Spl.dec (fun h => ?_) (fun h => ?_) | refine Spl.eq (fun h => ?_) (fun h => ?_) | refine Spl.ne (fun h => ?_) (fun h => ?_) | refine Spl.seq (fun h => ?_) (fun h => ?_) | refine Spl.not ?_ | refine Spl.any (fun h => ?_) (fun h => ?_))
    | (rw [rowsN_get (by omega)])
    | (rw [h3])
    | (refine HQ.use (hc) ⟨id, id, id⟩ ⟨rfl, rfl⟩ rfl rfl (by first | exact ⟨⟨rfl, rfl⟩, trivial⟩ | exact ⟨⟨rfl, rfl⟩, ⟨rfl, rfl⟩, trivial⟩) (by first | exact trivial | exact ⟨⟨rfl, rfl⟩, trivial⟩ | exact ⟨⟨rfl, rfl⟩, ⟨rfl, rfl⟩, trivial⟩) (by first | exact trivial | exact ⟨⟨rfl, rfl⟩, trivial⟩) ?_; rintro _ _ ⟨rfl, rfl⟩; refine ⟨⟨rfl, rfl, rfl⟩, ?_⟩)
    | refine And.intro (Nat.le_of_ble_eq_true rfl) ?_
    | refine And.intro (by show ((rowsN o).length + 1) * 136 ≤ 140737488355328; omega) ?_
    | ((with_reducible apply And.intro); first | omega | rfl | (dsimp only; omega))))
    all_goals (conv => whnf)
    all_goals first
      | (exfalso; omega)
      | (exact ⟨(ks.length - (j + 1)).toNat, _, by omega, Wk.narrow _ [0, 3, 4, 5, 6, 7, 48, 49, 50] [1000000, 3, 4] [66], j + 1, v, Eq.trans rfl fin, by omega, by omega, rfl⟩)
  · rw [if_neg (by simp [q])] at hsn
    have hc := hc ⟨last2, e2, at2⟩ (by simp only; omega) (by simp only; omega)
    generalize nodeP cnt A (.mk f3 k3) ⟨last2, e2, at2⟩ = r2 at *
    obtain ⟨⟨f4, k4⟩, ⟨last4, e4, at4⟩⟩ := r2
    simp only at hsn hc
    have fin : kidRt cnt A s1 f1 ks v (j + 1) (if last4 > most then last4 else most) ⟨last4, e4, at4⟩ (rowsN o ++ [(Node.mk f4 k4).cells]) = kidRt cnt A s1 f1 ks v (j + 1) (kidsP cnt A (ks.take (j + 1).toNat) (decide (f.kind = 16)) s1.last s1.last s1).2.1 (kidsP cnt A (ks.take (j + 1).toNat) (decide (f.kind = 16)) s1.last s1.last s1).2.2 (rowsN (kidsP cnt A (ks.take (j + 1).toNat) (decide (f.kind = 16)) s1.last s1.last s1).1) := by
      rw [hsn, rowsN_snoc]; rfl
    refine RWP.of tabOk orders ?_
    repeat' ((conv => whnf); (first
    | (with_reducible first | refine Spl.yes ?_ | refine Spl.no ?_ | refine Spl.dec (fun h => ?_) (fun h => ?_) | refine Spl.eq (fun h => ?_) (fun h => ?_) | refine Spl.ne (fun h => ?_) (fun h => ?_) | refine Spl.seq (fun h => ?_) (fun h => ?_) | refine Spl.not ?_ | refine Spl.any (fun h => ?_) (fun h => ?_))
    | (rw [rowsN_get (by omega)])
    | (rw [h3])
    | (refine HQ.use (hc) ⟨id, id, id⟩ ⟨rfl, rfl⟩ rfl rfl (by first | exact ⟨⟨rfl, rfl⟩, trivial⟩ | exact ⟨⟨rfl, rfl⟩, ⟨rfl, rfl⟩, trivial⟩) (by first | exact trivial | exact ⟨⟨rfl, rfl⟩, trivial⟩ | exact ⟨⟨rfl, rfl⟩, ⟨rfl, rfl⟩, trivial⟩) (by first | exact trivial | exact ⟨⟨rfl, rfl⟩, trivial⟩) ?_; rintro _ _ ⟨rfl, rfl⟩; refine ⟨⟨rfl, rfl, rfl⟩, ?_⟩)
    | refine And.intro (Nat.le_of_ble_eq_true rfl) ?_
    | refine And.intro (by show ((rowsN o).length + 1) * 136 ≤ 140737488355328; omega) ?_
    | ((with_reducible apply And.intro); first | omega | rfl | (dsimp only; omega))))
    all_goals (conv => whnf)
    all_goals first
      | (exfalso; omega)
      | (exact ⟨(ks.length - (j + 1)).toNat, _, by omega, Wk.narrow _ [0, 3, 4, 5, 6, 7, 48, 49, 50] [1000000, 3, 4] [66], j + 1, v, Eq.trans rfl fin, by omega, by omega, rfl⟩)
theorem np_c (cnt : Int) (A : List (ByteArray × Int)) (hA : A.length ≤ 1000000) : ∀ (k : Nat) (n : Node), n.w ≤ k → n.w ≤ 1000000 → n.all RefOk → NpC cnt A n := by
  intro k
  induction k with
  | zero => intro n h; have := w_pos n; omega
  | succ k ih =>
    intro n hk hw ha
    cases n with
    | mk f ks =>
      have ha' := ha
      rw [Node.w] at hk hw
      rw [Node.all] at ha'
      exact np_step cnt A hA f ks ha (by omega) (fun n hn => ih n (by have := wN_mem hn; omega) (by have := wN_mem hn; omega) (allN_mem ha'.2 hn))
end Go.Proofs.Ytnoohgiecnmajaa.VC

/- References by definition: what is meant; what is asked. -/
namespace Go.Proofs.Ytnoohgiecnmajaa.VC
open Go Go.RowKit
set_option linter.unusedVariables false
set_option linter.unusedSimpArgs false
set_option maxHeartbeats 4000000

/-- The error. -/
structure Ds where
  e : Int
  at_ : Int
def dsFs (cnt : Int) (A : List (ByteArray × Int)) (s : Ds) : List FE := [.pv (iv cnt), .pv (ms A), .pv (iv s.e), .pv (iv s.at_)]
def HD (cnt : Int) (A : List (ByteArray × Int)) (s : Ds) : St := ⟨0, [], [(1000000, (80, dsFs cnt A s))], [], []⟩
def meantK (last m k : Int) : Int := if m = 2 then last + (if m = 1 then last - k + 1 else k) else (if m = 1 then last - k + 1 else k)
def meantD (cnt : Int) (A : List (ByteArray × Int)) (last m k : Int) (nm : ByteArray) : Int :=
  if m = 3 then (findS nm A).getD (-1)
  else if meantK last m k < 0 then -1 else if meantK last m k > cnt then -1 else meantK last m k
def needD (s : Ds) (k least a : Int) : Ds := if k < least then (if s.e = 0 then ⟨34, a⟩ else s) else s
set_option maxHeartbeats 16000000
theorem meantD_h (cnt : Int) (A : List (ByteArray × Int)) (s : Ds) (m k : Int) (nm : ByteArray) (last : Int) (hA : A.length ≤ 1000000) (hl : 0 ≤ last ∧ last ≤ 2000000000) (hk : -1000 ≤ k ∧ k ≤ 30000) :
    HCalls Try.prog 71 (HD cnt A s) [.ptr 1000000 0, .pv (iv m), .pv (iv k), .pv (sv nm), .pv (iv last)] (fun fe H' => fe = .pv (iv (meantD cnt A last m k nm)) ∧ H' = HD cnt A s) := by
  have hrl := rowsM_len A
  obtain ⟨e, at_⟩ := s
  obtain ⟨G, hG⟩ : ∃ G, meantD cnt A last m k nm = G := ⟨_, rfl⟩
  rw [hG]
  unfold meantD at hG
  refine HCalls.ofr tabOk Try.func71 (by decide) rfl rfl ?_
  refine RWP.seqx tabOk orders ?_
  conv => whnf
  refine RWP.cutr (fun st => m ≠ 3 ∧ st = ⟨63, [(0, .ptr 1000000 0), (1, .pv (iv m)), (2, .pv (iv k)), (4, .pv (iv last))], [(1000000, (80, dsFs cnt A ⟨e, at_⟩))], [], []⟩) ?_ ?_
  rotate_left
  · rintro _ ⟨h3, rfl⟩
    rw [if_neg h3] at hG
    refine RWP.cutr (fun st => st = ⟨63, [(0, .ptr 1000000 0), (1, .pv (iv m)), (2, .pv (iv (if m = 1 then last - k + 1 else k))), (4, .pv (iv last))], [(1000000, (80, dsFs cnt A ⟨e, at_⟩))], [], []⟩) ?_ ?_
    · refine RWP.of tabOk orders ?_
      repeat' ((conv => whnf); (first
    | (with_reducible first | refine Spl.yes ?_ | refine Spl.no ?_ | refine Spl.dec (fun h => ?_) (fun h => ?_) | refine Spl.eq (fun h => ?_) (fun h => ?_) | refine Spl.ne (fun h => ?_) (fun h => ?_) | refine Spl.seq (fun h => ?_) (fun h => ?_) | refine Spl.not ?_ | refine Spl.any (fun h => ?_) (fun h => ?_))
    | ((with_reducible apply And.intro); first | omega | rfl | (dsimp only; omega))))
      all_goals (conv => whnf)
      · rw [if_pos (by assumption)]
        exact ⟨_, Wk.narrow _ [0, 1, 2, 4] [1000000] [], rfl⟩
      · rw [if_neg (by assumption)]
        exact ⟨_, Wk.narrow _ [0, 1, 2, 4] [1000000] [], rfl⟩
    rintro _ rfl
    obtain ⟨K, hK⟩ : ∃ K, (if m = 1 then last - k + 1 else k) = K := ⟨_, rfl⟩
    have hKr : -2000000 ≤ K ∧ K ≤ 3000000000 := by rw [← hK]; split <;> omega
    have hKK : meantK last m k = if m = 2 then last + K else K := by unfold meantK; rw [hK]
    rw [hK]
    rw [hKK] at hG
    refine RWP.cutr (fun st => st = ⟨63, [(0, .ptr 1000000 0), (2, .pv (iv (if m = 2 then last + K else K)))], [(1000000, (80, dsFs cnt A ⟨e, at_⟩))], [], []⟩) ?_ ?_
    · refine RWP.of tabOk orders ?_
      repeat' ((conv => whnf); (first
    | (with_reducible first | refine Spl.yes ?_ | refine Spl.no ?_ | refine Spl.dec (fun h => ?_) (fun h => ?_) | refine Spl.eq (fun h => ?_) (fun h => ?_) | refine Spl.ne (fun h => ?_) (fun h => ?_) | refine Spl.seq (fun h => ?_) (fun h => ?_) | refine Spl.not ?_ | refine Spl.any (fun h => ?_) (fun h => ?_))
    | ((with_reducible apply And.intro); first | omega | rfl | (dsimp only; omega))))
      all_goals (conv => whnf)
      · rw [if_pos (by assumption)]
        exact ⟨_, Wk.narrow _ [0, 2] [1000000] [], rfl⟩
      · rw [if_neg (by assumption)]
        exact ⟨_, Wk.narrow _ [0, 2] [1000000] [], rfl⟩
    rintro _ rfl
    generalize (if m = 2 then last + K else K) = k' at *
    refine RWP.of tabOk orders ?_
    repeat' ((conv => whnf); (first
    | (with_reducible first | refine Spl.yes ?_ | refine Spl.no ?_ | refine Spl.dec (fun h => ?_) (fun h => ?_) | refine Spl.eq (fun h => ?_) (fun h => ?_) | refine Spl.ne (fun h => ?_) (fun h => ?_) | refine Spl.seq (fun h => ?_) (fun h => ?_) | refine Spl.not ?_ | refine Spl.any (fun h => ?_) (fun h => ?_))
    | ((with_reducible apply And.intro); first | omega | rfl | (dsimp only; omega))))
    all_goals (conv => whnf)
    all_goals (refine ⟨_, Wk.narrow _ [10] [1000000] [], .inl ?_⟩)
    all_goals (conv => whnf)
    · rw [if_pos (by assumption)] at hG; subst hG; exact ⟨rfl, rfl⟩
    · rw [if_neg (by assumption), if_pos (by assumption)] at hG; subst hG; exact ⟨rfl, rfl⟩
    · rw [if_neg (by assumption), if_neg (by assumption)] at hG; subst hG; exact ⟨rfl, rfl⟩
  refine RWP.seqx tabOk orders ?_
  conv => whnf
  refine RWP.cond ?_
  conv => whnf
  (with_reducible first | refine Spl.yes ?_ | refine Spl.no ?_ | refine Spl.dec (fun h => ?_) (fun h => ?_) | refine Spl.eq (fun h => ?_) (fun h => ?_) | refine Spl.ne (fun h => ?_) (fun h => ?_) | refine Spl.seq (fun h => ?_) (fun h => ?_) | refine Spl.not ?_ | refine Spl.any (fun h => ?_) (fun h => ?_))
  rotate_left
  · refine RWP.of tabOk orders ?_
    conv => whnf
    exact ⟨_, Wk.narrow _ [0, 1, 2, 4] [1000000] [], by assumption, rfl⟩
  have h3 : m = 3 := by assumption
  rw [if_pos h3] at hG
  refine RWP.weak (Wk.narrow _ [0, 3] [1000000] []) ?_
  refine RWP.seq ?_
  refine RWP.seqx tabOk orders ?_
  conv => whnf
  refine RWP.block ?_
  refine RWP.loop (fun k st => ∃ (j : Int), st = ⟨63, [(0, .ptr 1000000 0), (3, .pv (sv nm)), (11, .pv (iv j))], [(1000000, (80, dsFs cnt A ⟨e, at_⟩))], [], []⟩ ∧ 0 ≤ j ∧ j ≤ A.length ∧ k = (A.length - j).toNat ∧ findS nm (A.take j.toNat) = none)
    ⟨_, _, Wk.narrow _ [0, 3, 11] [1000000] [], 0, rfl, by omega, by omega, rfl, by show findS nm [] = none; rw [findS]⟩ ?_
  rintro k st ⟨j, rfl, hj0, hj1, hk, hno⟩
  refine RWP.seqx tabOk orders ?_
  repeat' ((conv => whnf); (first
    | (with_reducible first | refine Spl.yes ?_ | refine Spl.no ?_ | refine Spl.dec (fun h => ?_) (fun h => ?_) | refine Spl.eq (fun h => ?_) (fun h => ?_) | refine Spl.ne (fun h => ?_) (fun h => ?_) | refine Spl.seq (fun h => ?_) (fun h => ?_) | refine Spl.not ?_ | refine Spl.any (fun h => ?_) (fun h => ?_))
    | ((with_reducible apply And.intro); first | omega | rfl | (dsimp only; omega))))
  all_goals (conv => whnf)
  rotate_left
  · have e : j = A.length := by omega
    subst e
    rw [Int.toNat_natCast, List.take_length] at hno
    rw [hno] at hG
    subst hG
    refine RWP.of tabOk orders ?_
    repeat' ((conv => whnf); (first
    | (with_reducible first | refine Spl.yes ?_ | refine Spl.no ?_ | refine Spl.dec (fun h => ?_) (fun h => ?_) | refine Spl.eq (fun h => ?_) (fun h => ?_) | refine Spl.ne (fun h => ?_) (fun h => ?_) | refine Spl.seq (fun h => ?_) (fun h => ?_) | refine Spl.not ?_ | refine Spl.any (fun h => ?_) (fun h => ?_))
    | ((with_reducible apply And.intro); first | omega | rfl | (dsimp only; omega))))
    all_goals (conv => whnf)
    refine ⟨_, Wk.narrow _ [10] [1000000] [], .inl ?_⟩
    conv => whnf
    exact ⟨rfl, rfl⟩
  have hsp := drop_stepM (l := A) hj0 (by omega)
  have htd := List.take_append_drop j.toNat A
  have hts : A.take (j + 1).toNat = A.take j.toNat ++ [rdm A j] := by
    rw [show (j + 1).toNat = j.toNat + 1 by omega, List.take_add_one]
    simp [rdm, List.getD_eq_getElem?_getD, List.getElem?_eq_getElem (show j.toNat < A.length by omega)]
  have hf1 : findS nm A = if (rdm A j).1 = nm then some (rdm A j).2 else findS nm (A.drop (j + 1).toNat) := by
    have := findS_app nm (A.drop j.toNat) (A.take j.toNat) hno
    rw [htd] at this
    rw [this, hsp, findS_cons']
  have hf2 : findS nm (A.take (j + 1).toNat) = if (rdm A j).1 = nm then some (rdm A j).2 else none := by
    rw [hts, findS_app nm _ _ hno, findS_cons', findS_nil']
  generalize hx : rdm A j = x at *
  obtain ⟨xs, xn⟩ := x
  refine RWP.of tabOk orders ?_
  repeat' ((conv => whnf); (first
    | (with_reducible first | refine Spl.yes ?_ | refine Spl.no ?_ | refine Spl.dec (fun h => ?_) (fun h => ?_) | refine Spl.eq (fun h => ?_) (fun h => ?_) | refine Spl.ne (fun h => ?_) (fun h => ?_) | refine Spl.seq (fun h => ?_) (fun h => ?_) | refine Spl.not ?_ | refine Spl.any (fun h => ?_) (fun h => ?_))
    | (rw [rowsM_get (by omega)])
    | (rw [hx])
    | refine And.intro (Nat.le_of_ble_eq_true rfl) ?_
    | ((with_reducible apply And.intro); first | omega | rfl | (dsimp only; omega))))
  all_goals (conv => whnf)
  all_goals first
    | (exact ⟨(A.length - (j + 1)).toNat, _, by omega, Wk.narrow _ [0, 3, 11] [1000000] [], j + 1, rfl, by omega, by omega, rfl, by rw [hf2, if_neg (by assumption)]⟩)
    | (rw [hf1, if_pos (by assumption)] at hG
       subst hG
       refine ⟨_, Wk.narrow _ [10] [1000000] [], .inl ?_⟩
       conv => whnf
       exact ⟨rfl, rfl⟩)
theorem needD_h (cnt : Int) (A : List (ByteArray × Int)) (s : Ds) (k least a : Int) :
    HCalls Try.prog 72 (HD cnt A s) [.ptr 1000000 0, .pv (iv k), .pv (iv least), .pv (iv a)] (fun fe H' => fe = .pv (.tuple []) ∧ H' = HD cnt A (needD s k least a)) := by
  obtain ⟨e, at_⟩ := s
  obtain ⟨G, hG⟩ : ∃ G, needD ⟨e, at_⟩ k least a = G := ⟨_, rfl⟩
  rw [hG]
  unfold needD at hG
  refine HCalls.ofr tabOk Try.func72 (by decide) rfl rfl ?_
  refine RWP.of tabOk orders ?_
  repeat' ((conv => whnf); (first
    | (with_reducible first | refine Spl.yes ?_ | refine Spl.no ?_ | refine Spl.dec (fun h => ?_) (fun h => ?_) | refine Spl.eq (fun h => ?_) (fun h => ?_) | refine Spl.ne (fun h => ?_) (fun h => ?_) | refine Spl.seq (fun h => ?_) (fun h => ?_) | refine Spl.not ?_ | refine Spl.any (fun h => ?_) (fun h => ?_))
    | ((with_reducible apply And.intro); first | omega | rfl | (dsimp only; omega))))
  all_goals (conv => whnf)
  all_goals (refine ⟨_, Wk.narrow _ [0] [1000000] [], .inl ?_⟩)
  all_goals (conv => whnf)
  · rw [if_pos (by assumption), if_pos (by assumption)] at hG
    subst hG
    exact ⟨rfl, rfl⟩
  · rw [if_pos (by assumption), if_neg (by assumption)] at hG
    subst hG
    exact ⟨rfl, rfl⟩
  · rw [if_neg (by assumption)] at hG
    subst hG
    exact ⟨rfl, rfl⟩
/-- What refs.Resolve answers. -/
def resP (cnt : Int) (A : List (ByteArray × Int)) (n : Node) : ParR :=
  if (nodeP cnt A n ⟨0, 0, 0⟩).2.e ≠ 0 then ⟨nodeZ, (nodeP cnt A n ⟨0, 0, 0⟩).2.e, (nodeP cnt A n ⟨0, 0, 0⟩).2.at_⟩ else ⟨(nodeP cnt A n ⟨0, 0, 0⟩).1, 0, 0⟩
attribute [local irreducible] nodeP
theorem resP_c (cnt : Int) (A : List (ByteArray × Int)) (n : Node) (hA : A.length ≤ 1000000) (hw : n.w ≤ 1000000) (ha : n.all RefOk) : VCalls Try.prog 31 [n.enc, iv cnt, ms A] (fun r => r = parE (resP cnt A n)) := by
  have hc := np_c cnt A hA n.w n (Nat.le_refl _) hw ha ⟨0, 0, 0⟩ (by decide) (by decide)
  obtain ⟨G, hG⟩ : ∃ G, resP cnt A n = G := ⟨_, rfl⟩
  rw [hG]
  unfold resP at hG
  obtain ⟨f0, k0, h0⟩ := n.ex
  rw [h0] at hc hG ⊢
  generalize nodeP cnt A (.mk f0 k0) ⟨0, 0, 0⟩ = r at *
  obtain ⟨⟨f, ks⟩, ⟨last, e, at_⟩⟩ := r
  simp only at hG hc
  refine VCalls.ofr tabOk Try.func31 (by decide) rfl rfl ?_
  refine RWP.seqx tabOk orders ?_
  conv => whnf
  refine RWP.seqx tabOk orders ?_
  repeat' ((conv => whnf); (first
    | (with_reducible first | refine Spl.yes ?_ | refine Spl.no ?_ | refine Spl.dec (fun h => ?_) (fun h => ?_) | refine Spl.eq (fun h => ?_) (fun h => ?_) | refine Spl.ne (fun h => ?_) (fun h => ?_) | refine Spl.seq (fun h => ?_) (fun h => ?_) | refine Spl.not ?_ | refine Spl.any (fun h => ?_) (fun h => ?_))
    | ((with_reducible apply And.intro); first | omega | rfl | (dsimp only; omega))))
  all_goals (conv => whnf)
  refine RWP.seqx tabOk orders ?_
  repeat' ((conv => whnf); (first
    | (with_reducible first | refine Spl.yes ?_ | refine Spl.no ?_ | refine Spl.dec (fun h => ?_) (fun h => ?_) | refine Spl.eq (fun h => ?_) (fun h => ?_) | refine Spl.ne (fun h => ?_) (fun h => ?_) | refine Spl.seq (fun h => ?_) (fun h => ?_) | refine Spl.not ?_ | refine Spl.any (fun h => ?_) (fun h => ?_))
    | (refine HQ.use (hc) ⟨fun _ => 14, id, id⟩ ⟨rfl, rfl⟩ rfl rfl (by first | exact ⟨⟨rfl, rfl⟩, trivial⟩ | exact ⟨⟨rfl, rfl⟩, ⟨rfl, rfl⟩, trivial⟩) (by first | exact trivial | exact ⟨⟨rfl, rfl⟩, trivial⟩ | exact ⟨⟨rfl, rfl⟩, ⟨rfl, rfl⟩, trivial⟩) (by first | exact trivial | exact ⟨⟨rfl, rfl⟩, trivial⟩) ?_; rintro _ _ ⟨rfl, rfl⟩; refine ⟨⟨rfl, rfl, rfl⟩, ?_⟩)
    | refine And.intro (Nat.le_of_ble_eq_true rfl) ?_
    | ((with_reducible apply And.intro); first | omega | rfl | (dsimp only; omega))))
  all_goals (conv => whnf)
  refine RWP.of tabOk orders ?_
  repeat' ((conv => whnf); (first
    | (with_reducible first | refine Spl.yes ?_ | refine Spl.no ?_ | refine Spl.dec (fun h => ?_) (fun h => ?_) | refine Spl.eq (fun h => ?_) (fun h => ?_) | refine Spl.ne (fun h => ?_) (fun h => ?_) | refine Spl.seq (fun h => ?_) (fun h => ?_) | refine Spl.not ?_ | refine Spl.any (fun h => ?_) (fun h => ?_))
    | refine drawn_plan (.one 0 (.one 1 (.one 2 (.one 3 (.one 5 (.one 6 (.one 7 (.three 4 (.two 8 (.ofList [9, 10, 11]) 9 (.ofList [8, 10, 11])) 8 (.two 4 (.ofList [9, 10, 11]) 9 (.ofList [4, 10, 11])) 9 (.ofList [4, 8, 10, 11]))))))))) (by decide +kernel) ?_
    | refine Fork.mk ?_ ?_
    | refine And.intro (Nat.le_of_ble_eq_true rfl) ?_
    | ((with_reducible apply And.intro); first | omega | rfl | (dsimp only; omega))))
  all_goals (conv => whnf)
  all_goals first
    | (rw [if_pos (by assumption)] at hG; subst hG; rfl)
    | (rw [if_neg (fun h => h (by assumption))] at hG; subst hG; rfl)
end Go.Proofs.Ytnoohgiecnmajaa.VC

/- References by definition: a node. -/
namespace Go.Proofs.Ytnoohgiecnmajaa.VC
open Go Go.RowKit
set_option linter.unusedVariables false
set_option linter.unusedSimpArgs false
set_option maxHeartbeats 4000000

def condD (cnt : Int) (A : List (ByteArray × Int)) (f : NodeF) (last : Int) (s : Ds) : NodeF × Ds :=
  if f.kind = 19 then
    if f.n = 9 then (setFM (meantD cnt A last f.m f.mode f.name) { f with n := 9 }, needD s (meantD cnt A last f.m f.mode f.name) 1 f.at_)
    else if f.n = 10 then (setFM (meantD cnt A last 3 f.mode f.name) { f with n := 9 }, needD s (meantD cnt A last 3 f.mode f.name) 1 f.at_)
    else if f.n = 11 then
      (if f.mode = -1 then (f, s)
       else (setFM (meantD cnt A last f.m f.mode f.name) f, needD s (meantD cnt A last f.m f.mode f.name) (if f.m = 3 then 1 else 0) f.at_))
    else (f, s)
  else (f, s)
mutual
def nodeD (cnt : Int) (A : List (ByteArray × Int)) : Node → Int → Ds → Node × Int × Ds
  | .mk f ks, last, s =>
    if f.kind = 7 then (.mk (setFN (meantD cnt A last f.m f.n f.name) f) ks, last, needD s (meantD cnt A last f.m f.n f.name) 1 f.at_)
    else if f.kind = 8 then (.mk (setFN (meantD cnt A last f.m f.n f.name) f) ks, last, needD s (meantD cnt A last f.m f.n f.name) 0 f.at_)
    else (.mk (condD cnt A f last s).1 (kidsD cnt A ks (decide (f.kind = 16)) (if f.kind = 14 then f.n else last) (if f.kind = 14 then f.n else last) (condD cnt A f last s).2).1,
      (kidsD cnt A ks (decide (f.kind = 16)) (if f.kind = 14 then f.n else last) (if f.kind = 14 then f.n else last) (condD cnt A f last s).2).2)
def kidsD (cnt : Int) (A : List (ByteArray × Int)) : List Node → Bool → Int → Int → Ds → List Node × Int × Ds
  | [], _, _, most, s => ([], most, s)
  | k :: l, rs, last, most, s =>
    ((nodeD cnt A k (if rs = true then last else most) s).1 :: (kidsD cnt A l rs last (mxP (nodeD cnt A k (if rs = true then last else most) s).2.1 most) (nodeD cnt A k (if rs = true then last else most) s).2.2).1,
     (kidsD cnt A l rs last (mxP (nodeD cnt A k (if rs = true then last else most) s).2.1 most) (nodeD cnt A k (if rs = true then last else most) s).2.2).2)
end
section
variable {cnt : Int} {A : List (ByteArray × Int)}
theorem kidsD_nil (rs : Bool) (a b : Int) (c : Ds) : kidsD cnt A [] rs a b c = ([], b, c) := by rw [kidsD]
theorem kidsD_snoc (k : Node) : ∀ (l : List Node) (rs : Bool) (a b : Int) (c : Ds), kidsD cnt A (l ++ [k]) rs a b c =
    ((kidsD cnt A l rs a b c).1 ++ [(nodeD cnt A k (if rs = true then a else (kidsD cnt A l rs a b c).2.1) (kidsD cnt A l rs a b c).2.2).1],
     mxP (nodeD cnt A k (if rs = true then a else (kidsD cnt A l rs a b c).2.1) (kidsD cnt A l rs a b c).2.2).2.1 (kidsD cnt A l rs a b c).2.1,
     (nodeD cnt A k (if rs = true then a else (kidsD cnt A l rs a b c).2.1) (kidsD cnt A l rs a b c).2.2).2.2)
  | [], rs, a, b, c => by rw [List.nil_append, kidsD, kidsD, kidsD]; rfl
  | x :: l, rs, a, b, c => by
    rw [List.cons_append, kidsD, kidsD, kidsD_snoc k l]
    rfl
theorem kidsD_len : ∀ (l : List Node) (rs : Bool) (a b : Int) (c : Ds), (kidsD cnt A l rs a b c).1.length = l.length
  | [], rs, a, b, c => by rw [kidsD]
  | k :: l, rs, a, b, c => by rw [kidsD]; simp [kidsD_len l]
theorem condD_same (f : NodeF) (last : Int) (s : Ds) : (condD cnt A f last s).1.kind = f.kind ∧ (f.kind = 14 → (condD cnt A f last s).1 = f) := by
  unfold condD setFM
  by_cases q : f.kind = 19
  · rw [if_pos q]
    refine ⟨?_, fun h => by omega⟩
    repeat' split
    all_goals rfl
  · rw [if_neg q]
    exact ⟨rfl, fun _ => rfl⟩
end
mutual
theorem nodeD_le (cnt : Int) (A : List (ByteArray × Int)) : ∀ (n : Node) (last : Int) (s : Ds), n.all RefOk → 0 ≤ last → last ≤ 30000 → 0 ≤ (nodeD cnt A n last s).2.1 ∧ (nodeD cnt A n last s).2.1 ≤ 30000
  | .mk f ks, last, s, ha, h0, h1 => by
    rw [Node.all] at ha
    have hn : (-1000 ≤ f.n ∧ f.n ≤ 30000) := ha.1.2.1
    have h14 : f.kind = 14 → 0 ≤ f.n := ha.1.2.2.2
    rw [nodeD]
    split
    · exact ⟨h0, h1⟩
    split
    · exact ⟨h0, h1⟩
    · have hb : 0 ≤ (if f.kind = 14 then f.n else last) ∧ (if f.kind = 14 then f.n else last) ≤ 30000 := by split <;> omega
      exact kidsD_le cnt A ks _ _ _ _ ha.2 hb.1 hb.2 hb.1 hb.2
theorem kidsD_le (cnt : Int) (A : List (ByteArray × Int)) : ∀ (l : List Node) (rs : Bool) (a b : Int) (c : Ds), allN RefOk l → 0 ≤ a → a ≤ 30000 → 0 ≤ b → b ≤ 30000 →
    0 ≤ (kidsD cnt A l rs a b c).2.1 ∧ (kidsD cnt A l rs a b c).2.1 ≤ 30000
  | [], rs, a, b, c, ha, h1, h2, h3, h4 => by rw [kidsD]; exact ⟨h3, h4⟩
  | k :: l, rs, a, b, c, ha, h1, h2, h3, h4 => by
    rw [allN] at ha
    rw [kidsD]
    have hb : 0 ≤ (if rs = true then a else b) ∧ (if rs = true then a else b) ≤ 30000 := by split <;> omega
    have h7 := nodeD_le cnt A k (if rs = true then a else b) c ha.1 hb.1 hb.2
    generalize nodeD cnt A k (if rs = true then a else b) c = r at *
    have hm : 0 ≤ mxP r.2.1 b ∧ mxP r.2.1 b ≤ 30000 := by unfold mxP; split <;> omega
    exact kidsD_le cnt A l rs a (mxP r.2.1 b) r.2.2 ha.2 h1 h2 hm.1 hm.2
end
attribute [local irreducible] nodeD kidsD meantD needD
@[reducible] def Ty3 (r : Node × Int × Ds) : SV := .tuple [r.1.enc, iv r.2.1]
def NdC (cnt : Int) (A : List (ByteArray × Int)) (n : Node) : Prop := ∀ (last : Int) (s : Ds), 0 ≤ last → last ≤ 30000 →
  HCalls Try.prog 49 (HD cnt A s) [.ptr 1000000 0, .pv n.enc, .pv (iv last)] (fun fe H' => fe = .pv (Ty3 (nodeD cnt A n last s)) ∧ H' = HD cnt A (nodeD cnt A n last s).2.2)
def ndSt (cnt : Int) (A : List (ByteArray × Int)) (f : NodeF) (ks : List Node) (last : Int) (s : Ds) : St :=
  ⟨154, [(0, .ptr 1000000 0), (2, .pv (iv last)), (4, .ptr 4 0), (6, .ptr 6 0)], [(1000000, (80, dsFs cnt A s)), (4, (27, nfe f ks)), (6, (27, nzero))], [], []⟩
def kidDt (cnt : Int) (A : List (ByteArray × Int)) (f : NodeF) (ks : List Node) (last : Int) (v : Bool) (j most : Int) (s : Ds) (o : List (List SV)) : St :=
  ⟨154, [(0, .ptr 1000000 0), (2, .pv (iv last)), (4, .ptr 4 0), (6, .ptr 6 0), (11, .pv (iv most)), (12, .own 145), (13, .pv (iv j))], [(1000000, (80, dsFs cnt A s)), (4, (27, nfe f ks)), (6, (27, nzero))], [(145, ⟨12, 27, v, o⟩)], []⟩
set_option maxHeartbeats 16000000
theorem nd_step (cnt : Int) (A : List (ByteArray × Int)) (hA : A.length ≤ 1000000) (f : NodeF) (ks : List Node) (ha : (Node.mk f ks).all RefOk) (hw : wN ks ≤ 1000000) (ih : ∀ n ∈ ks, NdC cnt A n) : NdC cnt A (.mk f ks) := by
  intro last s h0 h1
  rw [Node.all] at ha
  have hnr : (-1000 ≤ f.n ∧ f.n ≤ 30000) := ha.1.2.1
  have hmr : (-1000 ≤ f.mode ∧ f.mode ≤ 30000) := ha.1.2.2.1
  have h14 : f.kind = 14 → 0 ≤ f.n := ha.1.2.2.2
  have hks := ha.2
  have hn := rowsN_len ks
  have hl := wN_len ks
  have hmn := meantD_h cnt A s f.m f.n f.name last hA ⟨h0, by omega⟩ hnr
  have hmm := meantD_h cnt A s f.m f.mode f.name last hA ⟨h0, by omega⟩ hmr
  have hm3 := meantD_h cnt A s 3 f.mode f.name last hA ⟨h0, by omega⟩ hmr
  obtain ⟨G, hG⟩ : ∃ G, nodeD cnt A (.mk f ks) last s = G := ⟨_, rfl⟩
  rw [hG]
  rw [nodeD] at hG
  obtain ⟨C, hC⟩ : ∃ C, condD cnt A f last s = C := ⟨_, rfl⟩
  have hsm := condD_same (cnt := cnt) (A := A) f last s
  rw [hC] at hG hsm
  unfold condD at hC
  generalize hvn : meantD cnt A last f.m f.n f.name = vn at *
  generalize hvm : meantD cnt A last f.m f.mode f.name = vm at *
  generalize hv3 : meantD cnt A last 3 f.mode f.name = v3 at *
  have hq1 := needD_h cnt A s vn 1 f.at_
  have hq0 := needD_h cnt A s vn 0 f.at_
  have hqm1 := needD_h cnt A s vm 1 f.at_
  have hqm0 := needD_h cnt A s vm 0 f.at_
  have hq31 := needD_h cnt A s v3 1 f.at_
  obtain ⟨e, at_⟩ := s
  refine HCalls.ofr tabOk Try.func49 (by decide) rfl rfl ?_
  refine RWP.seqx tabOk orders ?_
  conv => whnf
  refine RWP.cutr (fun st => f.kind ≠ 7 ∧ f.kind ≠ 8 ∧ st = ndSt cnt A f ks last ⟨e, at_⟩) ?_ ?_
  · refine RWP.of tabOk orders ?_
    repeat' ((conv => whnf); (first
    | (with_reducible first | refine Spl.yes ?_ | refine Spl.no ?_ | refine Spl.dec (fun h => ?_) (fun h => ?_) | refine Spl.eq (fun h => ?_) (fun h => ?_) | refine Spl.ne (fun h => ?_) (fun h => ?_) | refine Spl.seq (fun h => ?_) (fun h => ?_) | refine Spl.not ?_ | refine Spl.any (fun h => ?_) (fun h => ?_))
    | refine drawn_text (by decide +kernel) ?_
    | (refine HQ.use (hmn) ⟨id, id, id⟩ ⟨rfl, rfl⟩ rfl rfl (by first | exact ⟨⟨rfl, rfl⟩, trivial⟩ | exact ⟨⟨rfl, rfl⟩, ⟨rfl, rfl⟩, trivial⟩) (by first | exact trivial | exact ⟨⟨rfl, rfl⟩, trivial⟩ | exact ⟨⟨rfl, rfl⟩, ⟨rfl, rfl⟩, trivial⟩) (by first | exact trivial | exact ⟨⟨rfl, rfl⟩, trivial⟩) ?_; rintro _ _ ⟨rfl, rfl⟩; refine ⟨⟨rfl, rfl, rfl⟩, ?_⟩)
    | (refine HQ.use (hq1) ⟨id, id, id⟩ ⟨rfl, rfl⟩ rfl rfl (by first | exact ⟨⟨rfl, rfl⟩, trivial⟩ | exact ⟨⟨rfl, rfl⟩, ⟨rfl, rfl⟩, trivial⟩) (by first | exact trivial | exact ⟨⟨rfl, rfl⟩, trivial⟩ | exact ⟨⟨rfl, rfl⟩, ⟨rfl, rfl⟩, trivial⟩) (by first | exact trivial | exact ⟨⟨rfl, rfl⟩, trivial⟩) ?_; rintro _ _ ⟨rfl, rfl⟩; refine ⟨⟨rfl, rfl, rfl⟩, ?_⟩)
    | (refine HQ.use (hq0) ⟨id, id, id⟩ ⟨rfl, rfl⟩ rfl rfl (by first | exact ⟨⟨rfl, rfl⟩, trivial⟩ | exact ⟨⟨rfl, rfl⟩, ⟨rfl, rfl⟩, trivial⟩) (by first | exact trivial | exact ⟨⟨rfl, rfl⟩, trivial⟩ | exact ⟨⟨rfl, rfl⟩, ⟨rfl, rfl⟩, trivial⟩) (by first | exact trivial | exact ⟨⟨rfl, rfl⟩, trivial⟩) ?_; rintro _ _ ⟨rfl, rfl⟩; refine ⟨⟨rfl, rfl, rfl⟩, ?_⟩)
    | refine And.intro (Nat.le_of_ble_eq_true rfl) ?_
    | ((with_reducible apply And.intro); first | omega | rfl | (dsimp only; omega))))
    all_goals (conv => whnf)
    all_goals first
      | (exfalso; omega)
      | (exact ⟨_, Wk.narrow _ [0, 2, 4, 6] [1000000, 4, 6] [], by assumption, by assumption, rfl⟩)
      | (rw [if_pos (by assumption)] at hG
         subst hG
         refine ⟨_, Wk.narrow _ [6, 7] [1000000, 6] [], .inl ?_⟩
         conv => whnf
         exact ⟨rfl, rfl⟩)
      | (rw [if_neg (by assumption), if_pos (by assumption)] at hG
         subst hG
         refine ⟨_, Wk.narrow _ [6, 7] [1000000, 6] [], .inl ?_⟩
         conv => whnf
         exact ⟨rfl, rfl⟩)
  rintro _ ⟨h7, h8, rfl⟩
  rw [if_neg h7, if_neg h8] at hG
  refine RWP.cutr (fun st => st = ndSt cnt A C.1 ks last C.2) ?_ ?_
  · refine RWP.of tabOk orders ?_
    repeat' ((conv => whnf); (first
    | (with_reducible first | refine Spl.yes ?_ | refine Spl.no ?_ | refine Spl.dec (fun h => ?_) (fun h => ?_) | refine Spl.eq (fun h => ?_) (fun h => ?_) | refine Spl.ne (fun h => ?_) (fun h => ?_) | refine Spl.seq (fun h => ?_) (fun h => ?_) | refine Spl.not ?_ | refine Spl.any (fun h => ?_) (fun h => ?_))
    | refine drawn_text (by decide +kernel) ?_
    | (refine HQ.use (hmm) ⟨id, id, id⟩ ⟨rfl, rfl⟩ rfl rfl (by first | exact ⟨⟨rfl, rfl⟩, trivial⟩ | exact ⟨⟨rfl, rfl⟩, ⟨rfl, rfl⟩, trivial⟩) (by first | exact trivial | exact ⟨⟨rfl, rfl⟩, trivial⟩ | exact ⟨⟨rfl, rfl⟩, ⟨rfl, rfl⟩, trivial⟩) (by first | exact trivial | exact ⟨⟨rfl, rfl⟩, trivial⟩) ?_; rintro _ _ ⟨rfl, rfl⟩; refine ⟨⟨rfl, rfl, rfl⟩, ?_⟩)
    | (refine HQ.use (hm3) ⟨id, id, id⟩ ⟨rfl, rfl⟩ rfl rfl (by first | exact ⟨⟨rfl, rfl⟩, trivial⟩ | exact ⟨⟨rfl, rfl⟩, ⟨rfl, rfl⟩, trivial⟩) (by first | exact trivial | exact ⟨⟨rfl, rfl⟩, trivial⟩ | exact ⟨⟨rfl, rfl⟩, ⟨rfl, rfl⟩, trivial⟩) (by first | exact trivial | exact ⟨⟨rfl, rfl⟩, trivial⟩) ?_; rintro _ _ ⟨rfl, rfl⟩; refine ⟨⟨rfl, rfl, rfl⟩, ?_⟩)
    | (refine HQ.use (hqm1) ⟨id, id, id⟩ ⟨rfl, rfl⟩ rfl rfl (by first | exact ⟨⟨rfl, rfl⟩, trivial⟩ | exact ⟨⟨rfl, rfl⟩, ⟨rfl, rfl⟩, trivial⟩) (by first | exact trivial | exact ⟨⟨rfl, rfl⟩, trivial⟩ | exact ⟨⟨rfl, rfl⟩, ⟨rfl, rfl⟩, trivial⟩) (by first | exact trivial | exact ⟨⟨rfl, rfl⟩, trivial⟩) ?_; rintro _ _ ⟨rfl, rfl⟩; refine ⟨⟨rfl, rfl, rfl⟩, ?_⟩)
    | (refine HQ.use (hqm0) ⟨id, id, id⟩ ⟨rfl, rfl⟩ rfl rfl (by first | exact ⟨⟨rfl, rfl⟩, trivial⟩ | exact ⟨⟨rfl, rfl⟩, ⟨rfl, rfl⟩, trivial⟩) (by first | exact trivial | exact ⟨⟨rfl, rfl⟩, trivial⟩ | exact ⟨⟨rfl, rfl⟩, ⟨rfl, rfl⟩, trivial⟩) (by first | exact trivial | exact ⟨⟨rfl, rfl⟩, trivial⟩) ?_; rintro _ _ ⟨rfl, rfl⟩; refine ⟨⟨rfl, rfl, rfl⟩, ?_⟩)
    | (refine HQ.use (hq31) ⟨id, id, id⟩ ⟨rfl, rfl⟩ rfl rfl (by first | exact ⟨⟨rfl, rfl⟩, trivial⟩ | exact ⟨⟨rfl, rfl⟩, ⟨rfl, rfl⟩, trivial⟩) (by first | exact trivial | exact ⟨⟨rfl, rfl⟩, trivial⟩ | exact ⟨⟨rfl, rfl⟩, ⟨rfl, rfl⟩, trivial⟩) (by first | exact trivial | exact ⟨⟨rfl, rfl⟩, trivial⟩) ?_; rintro _ _ ⟨rfl, rfl⟩; refine ⟨⟨rfl, rfl, rfl⟩, ?_⟩)
    | refine And.intro (Nat.le_of_ble_eq_true rfl) ?_
    | ((with_reducible apply And.intro); first | omega | rfl | (dsimp only; omega))))
    all_goals (conv => whnf)
    all_goals first
      | (exfalso; omega)
      | (rw [if_neg (by assumption)] at hC; subst hC; exact ⟨_, Wk.narrow _ [0, 2, 4, 6] [1000000, 4, 6] [], rfl⟩)
      | (rw [if_pos (by assumption), if_pos (by assumption)] at hC; subst hC; exact ⟨_, Wk.narrow _ [0, 2, 4, 6] [1000000, 4, 6] [], rfl⟩)
      | (rw [if_pos (by assumption), if_neg (by assumption), if_pos (by assumption)] at hC; subst hC; exact ⟨_, Wk.narrow _ [0, 2, 4, 6] [1000000, 4, 6] [], rfl⟩)
      | (rw [if_pos (by assumption), if_neg (by assumption), if_neg (by assumption), if_pos (by assumption), if_pos (by assumption)] at hC; subst hC; exact ⟨_, Wk.narrow _ [0, 2, 4, 6] [1000000, 4, 6] [], rfl⟩)
      | (rw [if_pos (by assumption), if_neg (by assumption), if_neg (by assumption), if_pos (by assumption), if_neg (by assumption), if_pos (by assumption)] at hC; subst hC; exact ⟨_, Wk.narrow _ [0, 2, 4, 6] [1000000, 4, 6] [], rfl⟩)
      | (rw [if_pos (by assumption), if_neg (by assumption), if_neg (by assumption), if_pos (by assumption), if_neg (by assumption), if_neg (by assumption)] at hC; subst hC; exact ⟨_, Wk.narrow _ [0, 2, 4, 6] [1000000, 4, 6] [], rfl⟩)
      | (rw [if_pos (by assumption), if_neg (by assumption), if_neg (by assumption), if_neg (by assumption)] at hC; subst hC; exact ⟨_, Wk.narrow _ [0, 2, 4, 6] [1000000, 4, 6] [], rfl⟩)
  rintro _ rfl
  obtain ⟨f1, ⟨e1, at1⟩⟩ := C
  simp only at hsm hG ⊢
  obtain ⟨l1, hl1⟩ : ∃ l1, (if f.kind = 14 then f.n else last) = l1 := ⟨_, rfl⟩
  have hl1r : 0 ≤ l1 ∧ l1 ≤ 30000 := by rw [← hl1]; split <;> omega
  rw [hl1] at hG
  refine RWP.cutr (fun st => st = ndSt cnt A f1 ks l1 ⟨e1, at1⟩) ?_ ?_
  · refine RWP.of tabOk orders ?_
    repeat' ((conv => whnf); (first
    | (with_reducible first | refine Spl.yes ?_ | refine Spl.no ?_ | refine Spl.dec (fun h => ?_) (fun h => ?_) | refine Spl.eq (fun h => ?_) (fun h => ?_) | refine Spl.ne (fun h => ?_) (fun h => ?_) | refine Spl.seq (fun h => ?_) (fun h => ?_) | refine Spl.not ?_ | refine Spl.any (fun h => ?_) (fun h => ?_))
    | ((with_reducible apply And.intro); first | omega | rfl | (dsimp only; omega))))
    all_goals (conv => whnf)
    · have q : f1.kind = 14 := by assumption
      rw [hsm.1] at q
      have q2 := hsm.2 q
      rw [if_pos q] at hl1
      subst hl1
      subst q2
      exact ⟨_, Wk.narrow _ [0, 2, 4, 6] [1000000, 4, 6] [], rfl⟩
    · have q : ¬ f1.kind = 14 := by assumption
      rw [hsm.1] at q
      rw [if_neg q] at hl1
      subst hl1
      exact ⟨_, Wk.narrow _ [0, 2, 4, 6] [1000000, 4, 6] [], rfl⟩
  rintro _ rfl
  refine RWP.seqx tabOk orders ?_
  conv => whnf
  refine RWP.seqx tabOk orders ?_
  conv => whnf
  refine RWP.seq ?_
  refine RWP.seqx tabOk orders ?_
  conv => whnf
  refine RWP.block ?_
  refine RWP.loop (fun k st => ∃ (j : Int) (v : Bool), st = kidDt cnt A f1 ks l1 v j (kidsD cnt A (ks.take j.toNat) (decide (f.kind = 16)) l1 l1 ⟨e1, at1⟩).2.1 (kidsD cnt A (ks.take j.toNat) (decide (f.kind = 16)) l1 l1 ⟨e1, at1⟩).2.2 (rowsN (kidsD cnt A (ks.take j.toNat) (decide (f.kind = 16)) l1 l1 ⟨e1, at1⟩).1) ∧ 0 ≤ j ∧ j ≤ ks.length ∧ k = (ks.length - j).toNat)
    ⟨_, _, Wk.trans (Wk.ownNil (t := 12) (k := 145) (sz := 12) (e := 27) rfl) (Wk.narrow _ [0, 2, 4, 6, 11, 12, 13] [1000000, 4, 6] [145]), 0, true, Eq.trans (b := kidDt cnt A f1 ks l1 true 0 l1 ⟨e1, at1⟩ []) rfl (congrArg (fun (X : List Node × Int × Ds) => kidDt cnt A f1 ks l1 true 0 X.2.1 X.2.2 (rowsN X.1)) (kidsD_nil (decide (f.kind = 16)) l1 l1 ⟨e1, at1⟩).symm), by omega, by omega, rfl⟩ ?_
  rintro k st ⟨j, v, rfl, hj0, hj1, hk⟩
  have hlj := kidsD_len (cnt := cnt) (A := A) (ks.take j.toNat) (decide (f.kind = 16)) l1 l1 ⟨e1, at1⟩
  have hle := kidsD_le cnt A (ks.take j.toNat) (decide (f.kind = 16)) l1 l1 ⟨e1, at1⟩ (all_take _ hks) hl1r.1 hl1r.2 hl1r.1 hl1r.2
  have hll := rowsN_len (kidsD cnt A (ks.take j.toNat) (decide (f.kind = 16)) l1 l1 ⟨e1, at1⟩).1
  rw [List.length_take] at hlj
  refine RWP.seqx tabOk orders ?_
  repeat' ((conv => whnf); (first
    | (with_reducible first | refine Spl.yes ?_ | refine Spl.no ?_ | refine Spl.dec (fun h => ?_) (fun h => ?_) | refine Spl.eq (fun h => ?_) (fun h => ?_) | refine Spl.ne (fun h => ?_) (fun h => ?_) | refine Spl.seq (fun h => ?_) (fun h => ?_) | refine Spl.not ?_ | refine Spl.any (fun h => ?_) (fun h => ?_))
    | ((with_reducible apply And.intro); first | omega | rfl | (dsimp only; omega))))
  all_goals (conv => whnf)
  rotate_left
  · have e : j = ks.length := by omega
    subst e
    rw [Int.toNat_natCast, List.take_length] at hle hll hlj ⊢
    generalize kidsD cnt A ks (decide (f.kind = 16)) l1 l1 ⟨e1, at1⟩ = r at *
    obtain ⟨o, most, ⟨e2, at2⟩⟩ := r
    subst hG
    refine RWP.of tabOk orders ?_
    repeat' ((conv => whnf); (first
    | (with_reducible first | refine Spl.yes ?_ | refine Spl.no ?_ | refine Spl.dec (fun h => ?_) (fun h => ?_) | refine Spl.eq (fun h => ?_) (fun h => ?_) | refine Spl.ne (fun h => ?_) (fun h => ?_) | refine Spl.seq (fun h => ?_) (fun h => ?_) | refine Spl.not ?_ | refine Spl.any (fun h => ?_) (fun h => ?_))
    | refine And.intro (Nat.le_of_ble_eq_true rfl) ?_
    | ((with_reducible apply And.intro); first | omega | rfl | (dsimp only; omega))))
    all_goals (conv => whnf)
    refine ⟨_, Wk.narrow _ [6, 7] [1000000, 6] [], .inl ?_⟩
    conv => whnf
    exact ⟨rfl, rfl⟩
  have hsn := kidsD_snoc (cnt := cnt) (A := A) (rdn ks j) (ks.take j.toNat) (decide (f.kind = 16)) l1 l1 ⟨e1, at1⟩
  rw [← take_stepN hj0 (by omega)] at hsn
  have hm := rdn_mem (l := ks) (j := j) (by omega)
  have hc := ih (rdn ks j) hm
  generalize kidsD cnt A (ks.take j.toNat) (decide (f.kind = 16)) l1 l1 ⟨e1, at1⟩ = r at *
  obtain ⟨o, most, ⟨e2, at2⟩⟩ := r
  obtain ⟨f3, k3, h3⟩ := (rdn ks j).ex
  rw [h3] at hc hsn
  simp only at hsn hll hlj hle
  have hfk := hsm.1
  by_cases q : f.kind = 16
  · rw [if_pos (by simp [q])] at hsn
    have hc := hc l1 ⟨e2, at2⟩ (by omega) (by omega)
    generalize nodeD cnt A (.mk f3 k3) l1 ⟨e2, at2⟩ = r2 at *
    obtain ⟨⟨f4, k4⟩, last4, ⟨e4, at4⟩⟩ := r2
    simp only at hsn hc
    have fin : kidDt cnt A f1 ks l1 v (j + 1) (if last4 > most then last4 else most) ⟨e4, at4⟩ (rowsN o ++ [(Node.mk f4 k4).cells]) = kidDt cnt A f1 ks l1 v (j + 1) (kidsD cnt A (ks.take (j + 1).toNat) (decide (f.kind = 16)) l1 l1 ⟨e1, at1⟩).2.1 (kidsD cnt A (ks.take (j + 1).toNat) (decide (f.kind = 16)) l1 l1 ⟨e1, at1⟩).2.2 (rowsN (kidsD cnt A (ks.take (j + 1).toNat) (decide (f.kind = 16)) l1 l1 ⟨e1, at1⟩).1) := by
      rw [hsn, rowsN_snoc]; rfl
    refine RWP.of tabOk orders ?_
    repeat' ((conv => whnf); (first
    | (with_reducible first | refine Spl.yes ?_ | refine Spl.no ?_ | refine Spl.dec (fun h => ?_) (fun h => ?_) | refine Spl.eq (fun h => ?_) (fun h => ?_) | refine Spl.ne (fun h => ?_) (fun h => ?_) | refine Spl.seq (fun h => ?_) (fun h => ?_) | refine Spl.not ?_ | refine Spl.any (fun h => ?_) (fun h => ?_))
    | (rw [rowsN_get (by omega)])
    | (rw [h3])
    | (refine HQ.use (hc) ⟨id, id, id⟩ ⟨rfl, rfl⟩ rfl rfl (by first | exact ⟨⟨rfl, rfl⟩, trivial⟩ | exact ⟨⟨rfl, rfl⟩, ⟨rfl, rfl⟩, trivial⟩) (by first | exact trivial | exact ⟨⟨rfl, rfl⟩, trivial⟩ | exact ⟨⟨rfl, rfl⟩, ⟨rfl, rfl⟩, trivial⟩) (by first | exact trivial | exact ⟨⟨rfl, rfl⟩, trivial⟩) ?_; rintro _ _ ⟨rfl, rfl⟩; refine ⟨⟨rfl, rfl, rfl⟩, ?_⟩)
    | refine And.intro (Nat.le_of_ble_eq_true rfl) ?_
    | refine And.intro (by show ((rowsN o).length + 1) * 136 ≤ 140737488355328; omega) ?_
    | ((with_reducible apply And.intro); first | omega | rfl | (dsimp only; omega))))
    all_goals (conv => whnf)
    all_goals first
      | (exfalso; omega)
      | (rw [if_pos (by assumption)] at fin; exact ⟨(ks.length - (j + 1)).toNat, _, by omega, Wk.narrow _ [0, 2, 4, 6, 11, 12, 13] [1000000, 4, 6] [145], j + 1, v, Eq.trans rfl fin, by omega, by omega, rfl⟩)
      | (rw [if_neg (by assumption)] at fin; exact ⟨(ks.length - (j + 1)).toNat, _, by omega, Wk.narrow _ [0, 2, 4, 6, 11, 12, 13] [1000000, 4, 6] [145], j + 1, v, Eq.trans rfl fin, by omega, by omega, rfl⟩)
  · rw [if_neg (by simp [q])] at hsn
    have hc := hc most ⟨e2, at2⟩ (by omega) (by omega)
    generalize nodeD cnt A (.mk f3 k3) most ⟨e2, at2⟩ = r2 at *
    obtain ⟨⟨f4, k4⟩, last4, ⟨e4, at4⟩⟩ := r2
    simp only at hsn hc
    have fin : kidDt cnt A f1 ks l1 v (j + 1) (if last4 > most then last4 else most) ⟨e4, at4⟩ (rowsN o ++ [(Node.mk f4 k4).cells]) = kidDt cnt A f1 ks l1 v (j + 1) (kidsD cnt A (ks.take (j + 1).toNat) (decide (f.kind = 16)) l1 l1 ⟨e1, at1⟩).2.1 (kidsD cnt A (ks.take (j + 1).toNat) (decide (f.kind = 16)) l1 l1 ⟨e1, at1⟩).2.2 (rowsN (kidsD cnt A (ks.take (j + 1).toNat) (decide (f.kind = 16)) l1 l1 ⟨e1, at1⟩).1) := by
      rw [hsn, rowsN_snoc]; rfl
    refine RWP.of tabOk orders ?_
    repeat' ((conv => whnf); (first
    | (with_reducible first | refine Spl.yes ?_ | refine Spl.no ?_ | refine Spl.dec (fun h => ?_) (fun h => ?_) | refine Spl.eq (fun h => ?_) (fun h => ?_) | refine Spl.ne (fun h => ?_) (fun h => ?_) | refine Spl.seq (fun h => ?_) (fun h => ?_) | refine Spl.not ?_ | refine Spl.any (fun h => ?_) (fun h => ?_))
    | (rw [rowsN_get (by omega)])
    | (rw [h3])
    | (refine HQ.use (hc) ⟨id, id, id⟩ ⟨rfl, rfl⟩ rfl rfl (by first | exact ⟨⟨rfl, rfl⟩, trivial⟩ | exact ⟨⟨rfl, rfl⟩, ⟨rfl, rfl⟩, trivial⟩) (by first | exact trivial | exact ⟨⟨rfl, rfl⟩, trivial⟩ | exact ⟨⟨rfl, rfl⟩, ⟨rfl, rfl⟩, trivial⟩) (by first | exact trivial | exact ⟨⟨rfl, rfl⟩, trivial⟩) ?_; rintro _ _ ⟨rfl, rfl⟩; refine ⟨⟨rfl, rfl, rfl⟩, ?_⟩)
    | refine And.intro (Nat.le_of_ble_eq_true rfl) ?_
    | refine And.intro (by show ((rowsN o).length + 1) * 136 ≤ 140737488355328; omega) ?_
    | ((with_reducible apply And.intro); first | omega | rfl | (dsimp only; omega))))
    all_goals (conv => whnf)
    all_goals first
      | (exfalso; omega)
      | (rw [if_pos (by assumption)] at fin; exact ⟨(ks.length - (j + 1)).toNat, _, by omega, Wk.narrow _ [0, 2, 4, 6, 11, 12, 13] [1000000, 4, 6] [145], j + 1, v, Eq.trans rfl fin, by omega, by omega, rfl⟩)
      | (rw [if_neg (by assumption)] at fin; exact ⟨(ks.length - (j + 1)).toNat, _, by omega, Wk.narrow _ [0, 2, 4, 6, 11, 12, 13] [1000000, 4, 6] [145], j + 1, v, Eq.trans rfl fin, by omega, by omega, rfl⟩)
theorem nd_c (cnt : Int) (A : List (ByteArray × Int)) (hA : A.length ≤ 1000000) : ∀ (k : Nat) (n : Node), n.w ≤ k → n.w ≤ 1000000 → n.all RefOk → NdC cnt A n := by
  intro k
  induction k with
  | zero => intro n h; have := w_pos n; omega
  | succ k ih =>
    intro n hk hw ha
    cases n with
    | mk f ks =>
      have ha' := ha
      rw [Node.w] at hk hw
      rw [Node.all] at ha'
      exact nd_step cnt A hA f ks ha (by omega) (fun n hn => ih n (by have := wN_mem hn; omega) (by have := wN_mem hn; omega) (allN_mem ha'.2 hn))
end Go.Proofs.Ytnoohgiecnmajaa.VC

/- What is known of trees whose references are resolved (plain). -/
namespace Go.Proofs.Ytnoohgiecnmajaa.VC
open Go Go.RowKit
set_option linter.unusedVariables false
set_option linter.unusedSimpArgs false
set_option maxHeartbeats 4000000

/-- What is known of a node with a reference in it. -/
def RefT (len : Int) (n : Node) : Prop :=
  (-1000 ≤ n.f.n ∧ n.f.n ≤ 30000) ∧ (-1000 ≤ n.f.mode ∧ n.f.mode ≤ 30000) ∧ (n.f.kind = 14 → 0 ≤ n.f.n) ∧
  (n.f.kind = 7 ∨ n.f.kind = 8 → n.kids = [] ∧ 0 ≤ n.f.at_ ∧ n.f.at_ < len) ∧
  (n.f.kind = 19 → (0 ≤ n.f.at_ ∧ n.f.at_ < len) ∧ (n.f.n = 9 ∨ n.f.n = 10 ∨ (n.f.n = 11 ∧ (n.f.mode = -1 → n.f.m = 0 ∧ n.f.name = bs [])) ∨ (n.f.n ≥ 12 ∧ n.f.m = 0 ∧ n.f.name = bs [] ∧ n.f.mode = 0)))
/-- A node without a reference. -/
theorem refT_of {len : Int} {f : NodeF} {ks : List Node} (h1 : f.kind ≠ 7) (h2 : f.kind ≠ 8) (h3 : f.kind ≠ 19) (h4 : f.kind = 14 → 0 ≤ f.n) (h5 : -1000 ≤ f.n ∧ f.n ≤ 30000) (h6 : -1000 ≤ f.mode ∧ f.mode ≤ 30000) : RefT len (.mk f ks) :=
  ⟨h5, h6, h4, fun h => absurd h (by show ¬ (f.kind = 7 ∨ f.kind = 8); omega), fun h => absurd h h3⟩
theorem all_and {P Q R : Node → Prop} (hi : ∀ n, P n → Q n → R n) : (∀ n : Node, n.all P → n.all Q → n.all R) :=
  fun n => go n
  where
  go : ∀ n : Node, n.all P → n.all Q → n.all R
    | .mk f ks, hp, hq => by
      rw [Node.all] at hp hq ⊢
      exact ⟨hi _ hp.1 hq.1, goL ks hp.2 hq.2⟩
  goL : ∀ l : List Node, allN P l → allN Q l → allN R l
    | [], _, _ => by rw [allN]; trivial
    | k :: l, hp, hq => by
      rw [allN] at hp hq ⊢
      exact ⟨go k hp.1 hq.1, goL l hp.2 hq.2⟩
theorem zRefT (len : Int) : nodeZ.all (RefT len) := by
  unfold nodeZ
  rw [Node.all, allN]
  exact ⟨refT_of (by decide) (by decide) (by decide) (by decide) (by decide) (by decide), trivial⟩
theorem kindRefT (len : Int) (k : Int) (l : List Node) (h : k = 12 ∨ k = 13) : RefT len (.mk { fZ with kind := k } l) :=
  refT_of (by show k ≠ 7; omega) (by show k ≠ 8; omega) (by show k ≠ 19; omega) (fun h => by have h : k = 14 := h; omega) (by show -1000 ≤ (0 : Int) ∧ (0 : Int) ≤ 30000; decide) (by show -1000 ≤ (0 : Int) ∧ (0 : Int) ≤ 30000; decide)
theorem ref_ph {m n : Int} {L : List Tok} (hL : ∀ t ∈ L, TokIn m n t) : PH L (RefT n) := by
  refine ⟨fun t ht hk => ?_, fun t ht hk look l h1 h2 h3 h4 h5 => ?_, fun t ht hk k hn hr => ?_, fun l h1 h2 => kindRefT n 12 l (.inl rfl), fun l h1 h2 h3 => kindRefT n 13 l (.inr rfl)⟩
  · have hm := (hL t ht).may
    have hn := hm.n
    have h0 := (hL t ht).at0
    have h1 := (hL t ht).at1
    refine ⟨by show -1000 ≤ t.n ∧ t.n ≤ 30000; omega, by show -1000 ≤ (0 : Int) ∧ (0 : Int) ≤ 30000; decide, fun h => ?_, fun h => ⟨rfl, h0, h1⟩, fun h => ?_⟩
    · show 0 ≤ t.n; omega
    · exfalso
      have := leafK_le t.kind
      have h : leafK t.kind = 19 := h
      omega
  · have hm := (hL t ht).may
    have hn := hm.n
    have hmo := hm.mode
    have h0 := (hL t ht).at0
    have h1 := (hL t ht).at1
    have hc := hm.cond hk
    have z : -1000 ≤ (0 : Int) ∧ (0 : Int) ≤ 30000 := by decide
    unfold groupN
    by_cases q1 : t.n = 1
    · rw [if_pos q1]; exact refT_of (by show (14 : Int) ≠ 7; decide) (by show (14 : Int) ≠ 8; decide) (by show (14 : Int) ≠ 19; decide) (fun _ => Int.le_refl 0) z z
    by_cases q2 : t.n = 2
    · rw [if_neg q1, if_pos q2]; exact refT_of (by show (15 : Int) ≠ 7; decide) (by show (15 : Int) ≠ 8; decide) (by show (15 : Int) ≠ 19; decide) (fun _ => Int.le_refl 0) z z
    by_cases q3 : t.n = 4
    · rw [if_neg q1, if_neg q2, if_pos q3]; exact refT_of (by show (17 : Int) ≠ 7; decide) (by show (17 : Int) ≠ 8; decide) (by show (17 : Int) ≠ 19; decide) (fun _ => Int.le_refl 0) z z
    by_cases q4 : t.n = 5 ∨ t.n = 6 ∨ t.n = 7 ∨ t.n = 8
    · rw [if_neg q1, if_neg q2, if_neg q3, if_pos q4]; exact refT_of (by show (18 : Int) ≠ 7; decide) (by show (18 : Int) ≠ 8; decide) (by show (18 : Int) ≠ 19; decide) (fun _ => by show 0 ≤ t.n; omega) (by show -1000 ≤ t.n ∧ t.n ≤ 30000; omega) z
    by_cases q5 : t.n = 3
    · rw [if_neg q1, if_neg q2, if_neg q3, if_neg q4, if_pos q5]; exact refT_of (by show (16 : Int) ≠ 7; decide) (by show (16 : Int) ≠ 8; decide) (by show (16 : Int) ≠ 19; decide) (fun _ => Int.le_refl 0) z z
    · rw [if_neg q1, if_neg q2, if_neg q3, if_neg q4, if_neg q5]
      refine ⟨by show -1000 ≤ t.n ∧ t.n ≤ 30000; omega, by show -1000 ≤ t.mode ∧ t.mode ≤ 30000; omega, fun h => absurd h (by show ¬ (19 : Int) = 14; decide), fun h => absurd h (by show ¬ ((19 : Int) = 7 ∨ (19 : Int) = 8); decide), fun _ => ⟨⟨h0, h1⟩, ?_⟩⟩
      show t.n = 9 ∨ t.n = 10 ∨ (t.n = 11 ∧ (t.mode = -1 → t.m = 0 ∧ t.name = bs [])) ∨ (t.n ≥ 12 ∧ t.m = 0 ∧ t.name = bs [] ∧ t.mode = 0)
      have hk10 := hm.k10 hk
      by_cases q9 : t.n = 9
      · exact .inl q9
      by_cases q10 : t.n = 10
      · exact .inr (.inl q10)
      by_cases q11 : t.n = 11
      · refine .inr (.inr (.inl ⟨q11, fun hmm => ?_⟩))
        rcases hc.2.2.1 q11 with h | h
        · omega
        · exact h
      · have h12 := hc.2.2.2 (show t.n ≥ 12 by omega)
        exact .inr (.inr (.inr ⟨by omega, h12.1, h12.2.2, h12.2.1⟩))
  · have hm := (hL t ht).may
    have hn := hm.n
    have hmo := hm.mode
    exact refT_of (by show (20 : Int) ≠ 7; decide) (by show (20 : Int) ≠ 8; decide) (by show (20 : Int) ≠ 19; decide) (fun h => absurd h (by show ¬ (20 : Int) = 14; decide)) (by show -1000 ≤ t.n ∧ t.n ≤ 30000; omega) (by show -1000 ≤ t.mode ∧ t.mode ≤ 30000; omega)
theorem setRef {len a : Int} {l : List (Int × Int)} : (setN a l).all (RefT len) := by
  unfold setN; rw [Node.all, allN]
  exact ⟨refT_of (by show (2 : Int) ≠ 7; decide) (by show (2 : Int) ≠ 8; decide) (by show (2 : Int) ≠ 19; decide) (fun h => absurd h (by show ¬ (2 : Int) = 14; decide)) (by show -1000 ≤ (0 : Int) ∧ (0 : Int) ≤ 30000; decide) (by show -1000 ≤ (0 : Int) ∧ (0 : Int) ≤ 30000; decide), trivial⟩
theorem seqRef {len : Int} {l : List Node} (h : allN (RefT len) l) : (seqN l).all (RefT len) := by
  unfold seqN
  split
  · rename_i h1
    exact allN_mem h (rdn_mem (by simp [h1]))
  · rw [Node.all]; exact ⟨kindRefT len 12 l (.inl rfl), h⟩
theorem listRef {len : Int} {l : List Node} (h : allN (RefT len) l) : allN (RefT len) (l.flatMap listN) := by
  refine all_of_mem (fun n hn => ?_)
  obtain ⟨k, hk, hn⟩ := List.mem_flatMap.1 hn
  have hka := allN_mem h hk
  unfold listN at hn
  split at hn
  · exact allN_mem (Node.all_kids hka) hn
  · have : n = k := by simpa using hn
    subst this; exact hka
theorem lineRef (len : Int) (c : Ctx) (a : Int) : (lineN c a).all (RefT len) := by
  unfold lineN
  rw [Node.all, allN, allN, Node.all, allN, allN, allN]
  have z : -1000 ≤ (0 : Int) ∧ (0 : Int) ≤ 30000 := by decide
  refine ⟨refT_of (by show (17 : Int) ≠ 7; decide) (by show (17 : Int) ≠ 8; decide) (by show (17 : Int) ≠ 19; decide) (fun h => absurd h (by show ¬ (17 : Int) = 14; decide)) z z, ⟨refT_of (by show (13 : Int) ≠ 7; decide) (by show (13 : Int) ≠ 8; decide) (by show (13 : Int) ≠ 19; decide) (fun h => absurd h (by show ¬ (13 : Int) = 14; decide)) z z, seqRef ?_, setRef, trivial⟩, trivial⟩
  rw [allN, allN, allN]
  exact ⟨setRef, setRef, trivial⟩
mutual
theorem nodeR_ref (len : Int) (c : Ctx) : ∀ (n : Node) (g : Int), n.all (RefT len) → (nodeR c n g).1.all (RefT len)
  | .mk f ks, g, ha => by
    rw [Node.all] at ha
    have h := rowR_ref len c ks
    have hk := ha.1
    rw [nodeR]
    unfold nodeS
    by_cases q : f.kind = 1
    · rw [if_pos q]; exact setRef
    rw [if_neg q]; clear q
    by_cases q : f.kind = 2
    · rw [if_pos q]; exact setRef
    rw [if_neg q]; clear q
    by_cases q : f.kind = 3
    · rw [if_pos q]; split <;> exact setRef
    rw [if_neg q]; clear q
    by_cases q : f.kind = 4
    · rw [if_pos q, Node.all]
      refine ⟨?_, ha.2⟩
      have hm : -1000 ≤ f.mode ∧ f.mode ≤ 30000 := hk.2.1
      have hn : -1000 ≤ f.n ∧ f.n ≤ 30000 := hk.1
      unfold assertN
      split
      · exact refT_of (by show f.kind ≠ 7; omega) (by show f.kind ≠ 8; omega) (by show f.kind ≠ 19; omega) (fun h => by have h : f.kind = 14 := h; omega) (by show -1000 ≤ (9 : Int) ∧ (9 : Int) ≤ 30000; decide) hm
      split
      · exact refT_of (by show f.kind ≠ 7; omega) (by show f.kind ≠ 8; omega) (by show f.kind ≠ 19; omega) (fun h => by have h : f.kind = 14 := h; omega) (by show -1000 ≤ (10 : Int) ∧ (10 : Int) ≤ 30000; decide) hm
      · exact hk
    rw [if_neg q]; clear q
    by_cases q : f.kind = 6
    · rw [if_pos q]; exact lineRef len c _
    rw [if_neg q]; clear q
    by_cases q : f.kind = 7
    · rw [if_pos q, Node.all]; exact ⟨hk, ha.2⟩
    rw [if_neg q]; clear q
    by_cases q : f.kind = 11
    · rw [if_pos q, Node.all, allN]; exact ⟨kindRefT len 12 [] (.inl rfl), trivial⟩
    rw [if_neg q]; clear q
    by_cases q : f.kind = 12
    · rw [if_pos q]; exact seqRef (listRef (h g ha.2))
    rw [if_neg q]; clear q
    by_cases q : f.kind = 13
    · rw [if_pos q, Node.all]
      exact ⟨refT_of (by omega) (by omega) (by omega) (fun h => by omega) hk.1 hk.2.1, h g ha.2⟩
    rw [if_neg q]; clear q
    by_cases q : f.kind = 15
    · rw [if_pos q]
      simp only
      by_cases q : (0 : Int).toNat < (rowR c ks (turnP g f.on f.off)).1.length
      · exact allN_mem (h _ ha.2) (rdn_mem q)
      · have : rdn (rowR c ks (turnP g f.on f.off)).1 0 = nodeZ := by
          unfold rdn; rw [List.getD_eq_getElem?_getD, List.getElem?_eq_none (by omega)]; rfl
        rw [this]; exact zRefT len
    rw [if_neg q]; clear q
    rw [Node.all]
    refine ⟨?_, h g ha.2⟩
    by_cases q : f.kind = 20
    · have hn : -1000 ≤ f.n ∧ f.n ≤ 30000 := hk.1
      have hm : -1000 ≤ f.mode ∧ f.mode ≤ 30000 := hk.2.1
      have hg : (greedN f g).kind = f.kind ∧ (greedN f g).n = f.n ∧ (-1000 ≤ (greedN f g).mode ∧ (greedN f g).mode ≤ 30000) := by
        unfold greedN
        rw [if_pos q]
        split
        · exact ⟨rfl, rfl, by show -1000 ≤ (1 : Int) ∧ (1 : Int) ≤ 30000; decide⟩
        split
        · exact ⟨rfl, rfl, by show -1000 ≤ (0 : Int) ∧ (0 : Int) ≤ 30000; decide⟩
        · exact ⟨rfl, rfl, hm⟩
      exact refT_of (by rw [hg.1]; omega) (by rw [hg.1]; omega) (by rw [hg.1]; omega) (fun h => by rw [hg.1] at h; omega) (by rw [hg.2.1]; exact hn) hg.2.2
    · have hg : greedN f g = f := by unfold greedN; rw [if_neg q]
      rw [hg]
      refine ⟨hk.1, hk.2.1, hk.2.2.1, fun h => ?_, hk.2.2.2.2⟩
      obtain ⟨h1, h2⟩ := hk.2.2.2.1 h
      have h1 : ks = [] := h1
      subst h1
      exact ⟨by show (rowR c [] g).1 = []; rw [rowR], h2⟩
theorem rowR_ref (len : Int) (c : Ctx) : ∀ (l : List Node) (g : Int), allN (RefT len) l → allN (RefT len) (rowR c l g).1
  | [], g, ha => by rw [rowR, allN]; trivial
  | k :: l, g, ha => by
    rw [allN] at ha
    rw [rowR]
    simp only
    rw [allN]
    exact ⟨nodeR_ref len c k g ha.1, rowR_ref len c l _ ha.2⟩
end
mutual
theorem nbN_ref (len : Int) : ∀ (n : Node) (a : Int), 0 ≤ a → a + n.w ≤ 30000 → n.all (RefT len) → (nbN n a).1.all (RefT len)
  | .mk f ks, a, h0, h1, ha => by
    rw [Node.all] at ha
    rw [Node.w] at h1
    have hT : a ≤ nbT f a ∧ nbT f a ≤ a + 1 := by unfold nbT; split <;> omega
    rw [nbN]
    simp only
    rw [Node.all]
    refine ⟨?_, nbL_ref len ks _ _ _ (by omega) (Int.le_refl _) (by omega) ha.2⟩
    have hk := ha.1
    by_cases q : f.kind = 14
    · unfold nbF
      rw [if_pos q]
      exact refT_of (by show f.kind ≠ 7; omega) (by show f.kind ≠ 8; omega) (by show f.kind ≠ 19; omega) (fun _ => by show 0 ≤ a + 1; omega) (by show -1000 ≤ a + 1 ∧ a + 1 ≤ 30000; omega) hk.2.1
    · unfold nbF
      rw [if_neg q]
      refine ⟨hk.1, hk.2.1, hk.2.2.1, fun h => ?_, hk.2.2.2.2⟩
      obtain ⟨h1, h2⟩ := hk.2.2.2.1 h
      have h1 : ks = [] := h1
      subst h1
      exact ⟨by show (nbL [] _ _ _).1 = []; rw [nbL], h2⟩
theorem nbL_ref (len : Int) : ∀ (l : List Node) (rs : Bool) (a b : Int), 0 ≤ a → a ≤ b → b + wN l ≤ 30000 → allN (RefT len) l → allN (RefT len) (nbL l rs a b).1
  | [], rs, a, b, h0, h1, h2, ha => by rw [nbL, allN]; trivial
  | k :: l, rs, a, b, h0, h1, h2, ha => by
    rw [allN] at ha
    rw [wN] at h2
    rw [nbL]
    simp only
    rw [allN]
    have hs : 0 ≤ (if rs = true then a else b) ∧ (if rs = true then a else b) ≤ b := by split <;> omega
    have hle := nbN_le k (if rs = true then a else b)
    have h5 := nbN_ref len k (if rs = true then a else b) hs.1 (by omega) ha.1
    generalize nbN k (if rs = true then a else b) = r at *
    have hm : b ≤ mxP r.2 b ∧ mxP r.2 b ≤ b + k.w := by unfold mxP; split <;> omega
    exact ⟨h5, nbL_ref len l _ _ _ h0 (by omega) (by omega) ha.2⟩
end
end Go.Proofs.Ytnoohgiecnmajaa.VC

/- The references of the program are those of the definition (plain). -/
namespace Go.Proofs.Ytnoohgiecnmajaa.VC
open Go Go.RowKit
set_option linter.unusedVariables false
set_option linter.unusedSimpArgs false
set_option maxHeartbeats 4000000

section
variable {cnt : Int} {A : List (ByteArray × Int)}
theorem meant_same (last m k : Int) (nm : ByteArray) {least : Int} (h0 : 0 ≤ least) : (meantP cnt A last m k nm < least ↔ meantD cnt A last m k nm < least) ∧ (¬ meantP cnt A last m k nm < least → meantP cnt A last m k nm = meantD cnt A last m k nm) := by
  unfold meantP meantD
  by_cases h3 : m = 3
  · rw [if_pos h3, if_pos h3]; exact ⟨Iff.rfl, fun _ => rfl⟩
  rw [if_neg h3, if_neg h3]
  have hK : meantK last m k = (if m = 1 then last - k + 1 else if m = 2 then last + k else k) := by
    unfold meantK
    by_cases h1 : m = 1
    · rw [if_pos h1, if_pos h1, if_neg (by omega)]
    · rw [if_neg h1, if_neg h1]
  rw [← hK]
  generalize meantK last m k = K
  by_cases h1 : K > cnt
  · rw [if_pos h1]
    by_cases h2 : K < 0
    · rw [if_pos h2]; exact ⟨Iff.rfl, fun _ => rfl⟩
    · rw [if_neg h2]; exact ⟨Iff.rfl, fun _ => rfl⟩
  · rw [if_neg h1]
    by_cases h2 : K < 0
    · rw [if_pos h2]; exact ⟨⟨fun _ => by omega, fun _ => by omega⟩, fun h => by omega⟩
    · rw [if_neg h2]; exact ⟨Iff.rfl, fun _ => rfl⟩
theorem set_same (a z at_ m k : Int) (nm : ByteArray) {least : Int} (h0 : 0 ≤ least) :
    (setS ⟨a, 0, z⟩ (meantP cnt A a m k nm) least at_ = ⟨a, 0, z⟩ ∧ needD ⟨0, z⟩ (meantD cnt A a m k nm) least at_ = ⟨0, z⟩ ∧ meantP cnt A a m k nm = meantD cnt A a m k nm) ∨
    (setS ⟨a, 0, z⟩ (meantP cnt A a m k nm) least at_ = ⟨a, 34, at_⟩ ∧ needD ⟨0, z⟩ (meantD cnt A a m k nm) least at_ = ⟨34, at_⟩) := by
  obtain ⟨h1, h2⟩ := meant_same (cnt := cnt) (A := A) a m k nm h0
  unfold setS needD
  by_cases q : meantP cnt A a m k nm < least
  · right
    rw [if_pos q, if_pos (h1.1 q), if_pos rfl, if_pos rfl]
    exact ⟨rfl, rfl⟩
  · left
    rw [if_neg q, if_neg (fun h => q (h1.2 h))]
    exact ⟨rfl, rfl, h2 q⟩
theorem nodeP_err {n : Node} {s : Rs} (h : s.e ≠ 0) : nodeP cnt A n s = (n, s) := by
  cases n with
  | mk f ks => rw [nodeP, if_pos h]
theorem kidsP_err : ∀ {l : List Node} {rs : Bool} {a b : Int} {s : Rs}, s.e ≠ 0 → (kidsP cnt A l rs a b s).2.2.e = s.e ∧ (kidsP cnt A l rs a b s).2.2.at_ = s.at_
  | [], rs, a, b, s, h => by rw [kidsP]; exact ⟨rfl, rfl⟩
  | k :: l, rs, a, b, s, h => by
    have h1 : (if rs = true then { s with last := a } else s).e = s.e ∧ (if rs = true then { s with last := a } else s).at_ = s.at_ := by split <;> exact ⟨rfl, rfl⟩
    rw [kidsP, nodeP_err (by rw [h1.1]; exact h)]
    have h2 := kidsP_err (l := l) (rs := rs) (a := a) (b := mxP (if rs = true then { s with last := a } else s).last b) (s := (if rs = true then { s with last := a } else s)) (by rw [h1.1]; exact h)
    simp only
    rw [h2.1, h2.2, h1.1, h1.2]
    exact ⟨rfl, rfl⟩
theorem needD_err {s : Ds} {k l a : Int} (h : s.e ≠ 0) : needD s k l a = s := by
  unfold needD
  rw [if_neg h]
  split <;> rfl
theorem condD_err {f : NodeF} {last : Int} {s : Ds} (h : s.e ≠ 0) : (condD cnt A f last s).2 = s := by
  unfold condD
  repeat' split
  all_goals first | rfl | exact needD_err h
mutual
theorem nodeD_err : ∀ (n : Node) (last : Int) (s : Ds), s.e ≠ 0 → (nodeD cnt A n last s).2.2 = s
  | .mk f ks, last, s, h => by
    rw [nodeD]
    by_cases q : f.kind = 7
    · rw [if_pos q]; exact needD_err h
    rw [if_neg q]
    by_cases q : f.kind = 8
    · rw [if_pos q]; exact needD_err h
    rw [if_neg q]
    have hc := condD_err (cnt := cnt) (A := A) (f := f) (last := last) h
    simp only
    rw [hc]
    exact kidsD_err ks _ _ _ s h
theorem kidsD_err : ∀ (l : List Node) (rs : Bool) (a b : Int) (s : Ds), s.e ≠ 0 → (kidsD cnt A l rs a b s).2.2 = s
  | [], rs, a, b, s, h => by rw [kidsD]
  | k :: l, rs, a, b, s, h => by
    rw [kidsD, nodeD_err k _ s h]
    exact kidsD_err l _ _ _ s h
end
theorem cond_same (f : NodeF) (a z : Int) (hk : f.kind = 19) :
    ((condF cnt A ⟨a, 0, z⟩ f).2 = ⟨a, 0, z⟩ ∧ (condD cnt A f a ⟨0, z⟩).2 = ⟨0, z⟩ ∧ (condF cnt A ⟨a, 0, z⟩ f).1 = (condD cnt A f a ⟨0, z⟩).1) ∨
    ((condF cnt A ⟨a, 0, z⟩ f).2.e ≠ 0 ∧ (condD cnt A f a ⟨0, z⟩).2.e = (condF cnt A ⟨a, 0, z⟩ f).2.e ∧ (condD cnt A f a ⟨0, z⟩).2.at_ = (condF cnt A ⟨a, 0, z⟩ f).2.at_) := by
  unfold condF condD vM
  rw [if_pos hk]
  by_cases q11 : f.n = 11
  · rw [if_pos q11, if_neg (show ¬ f.n = 9 by omega), if_neg (show ¬ f.n = 10 by omega), if_pos q11]
    by_cases qm : f.mode = -1
    · rw [if_pos qm, if_pos qm]; exact .inl ⟨rfl, rfl, rfl⟩
    · rw [if_neg qm, if_neg qm]
      simp only
      rcases set_same (cnt := cnt) (A := A) a z f.at_ f.m f.mode f.name (least := if f.m = 3 then 1 else 0) (by split <;> omega) with ⟨h1, h2, h3⟩ | ⟨h1, h2⟩
      · rw [h1, h2, h3]; exact .inl ⟨rfl, rfl, rfl⟩
      · rw [h1, h2]; exact .inr ⟨by show (34 : Int) ≠ 0; decide, rfl, rfl⟩
  rw [if_neg q11]
  by_cases q10 : f.n = 10
  · rw [if_pos q10, if_neg (show ¬ f.n = 9 by omega), if_pos q10]
    simp only
    rcases set_same (cnt := cnt) (A := A) a z f.at_ 3 f.mode f.name (least := 1) (by omega) with ⟨h1, h2, h3⟩ | ⟨h1, h2⟩
    · rw [h1, h2, h3]; exact .inl ⟨rfl, rfl, rfl⟩
    · rw [h1, h2]; exact .inr ⟨by show (34 : Int) ≠ 0; decide, rfl, rfl⟩
  rw [if_neg q10]
  by_cases q9 : f.n = 9
  · rw [if_pos q9, if_pos q9]
    simp only
    have hf : ({ f with n := 9 } : NodeF) = f := by rw [← q9]
    rw [hf]
    rcases set_same (cnt := cnt) (A := A) a z f.at_ f.m f.mode f.name (least := 1) (by omega) with ⟨h1, h2, h3⟩ | ⟨h1, h2⟩
    · rw [h1, h2, h3]; exact .inl ⟨rfl, rfl, rfl⟩
    · rw [h1, h2]; exact .inr ⟨by show (34 : Int) ≠ 0; decide, rfl, rfl⟩
  · rw [if_neg q9, if_neg q9, if_neg q10, if_neg q11]; exact .inl ⟨rfl, rfl, rfl⟩
theorem head_same (f : NodeF) (a z : Int) (h7 : ¬ (f.kind = 7 ∨ f.kind = 8)) :
    ((headP cnt A (nbF f a) ⟨a, 0, z⟩).2 = ⟨nbT f a, 0, z⟩ ∧ (condD cnt A (nbF f a) a ⟨0, z⟩).2 = ⟨0, z⟩ ∧ (headP cnt A (nbF f a) ⟨a, 0, z⟩).1 = (condD cnt A (nbF f a) a ⟨0, z⟩).1) ∨
    ((headP cnt A (nbF f a) ⟨a, 0, z⟩).2.e ≠ 0 ∧ (condD cnt A (nbF f a) a ⟨0, z⟩).2.e = (headP cnt A (nbF f a) ⟨a, 0, z⟩).2.e ∧ (condD cnt A (nbF f a) a ⟨0, z⟩).2.at_ = (headP cnt A (nbF f a) ⟨a, 0, z⟩).2.at_) := by
  unfold headP
  by_cases q14 : f.kind = 14
  · have h1 : nbF f a = { f with n := a + 1 } := by unfold nbF; rw [if_pos q14]
    have h2 : nbT f a = a + 1 := by unfold nbT; rw [if_pos q14]
    have hk : (nbF f a).kind = 14 := by rw [h1]; exact q14
    rw [if_pos hk, h2]
    unfold condD
    rw [if_neg (by omega), h1]
    exact .inl ⟨rfl, rfl, rfl⟩
  have h1 : nbF f a = f := by unfold nbF; rw [if_neg q14]
  have h2 : nbT f a = a := by unfold nbT; rw [if_neg q14]
  rw [h1, h2, if_neg q14, if_neg (by omega), if_neg (by omega)]
  by_cases q19 : f.kind = 19
  · rw [if_pos q19]
    exact cond_same f a z q19
  · rw [if_neg q19]
    unfold condD
    rw [if_neg q19]
    exact .inl ⟨rfl, rfl, rfl⟩
mutual
theorem eq_N (len : Int) : ∀ (n : Node) (a z : Int), n.all (RefT len) →
    ((nodeP cnt A (nbN n a).1 ⟨a, 0, z⟩).2 = ⟨(nbN n a).2, 0, z⟩ ∧ (nodeD cnt A (nbN n a).1 a ⟨0, z⟩).2 = ((nbN n a).2, ⟨0, z⟩) ∧ (nodeP cnt A (nbN n a).1 ⟨a, 0, z⟩).1 = (nodeD cnt A (nbN n a).1 a ⟨0, z⟩).1) ∨
    ((nodeP cnt A (nbN n a).1 ⟨a, 0, z⟩).2.e ≠ 0 ∧ (nodeD cnt A (nbN n a).1 a ⟨0, z⟩).2.2.e = (nodeP cnt A (nbN n a).1 ⟨a, 0, z⟩).2.e ∧ (nodeD cnt A (nbN n a).1 a ⟨0, z⟩).2.2.at_ = (nodeP cnt A (nbN n a).1 ⟨a, 0, z⟩).2.at_)
  | .mk f ks, a, z, ha => by
    rw [Node.all] at ha
    have hfk : (nbF f a).kind = f.kind := by unfold nbF; split <;> rfl
    rw [nbN]
    simp only
    rw [nodeP, nodeD, if_neg (by simp)]
    by_cases q7 : f.kind = 7 ∨ f.kind = 8
    · have hks : ks = [] := (ha.1.2.2.2.1 q7).1
      subst hks
      have h1 : nbF f a = f := by unfold nbF; rw [if_neg (by omega)]
      have h2 : nbT f a = a := by unfold nbT; rw [if_neg (by omega)]
      rw [h1, h2, nbL]
      simp only
      rw [kidsP]
      simp only
      rw [if_neg (show ¬ f.kind = 16 by omega)]
      unfold headP vN
      rw [if_neg (show ¬ f.kind = 14 by omega)]
      rcases q7 with q | q
      · rw [if_pos q, if_pos q]
        simp only
        rcases set_same (cnt := cnt) (A := A) a z f.at_ f.m f.n f.name (least := 1) (by omega) with ⟨h1, h2, h3⟩ | ⟨h1, h2⟩
        · rw [h1, h2, h3]; exact .inl ⟨rfl, rfl, rfl⟩
        · rw [h1, h2]; exact .inr ⟨by show (34 : Int) ≠ 0; decide, rfl, rfl⟩
      · rw [if_neg (show ¬ f.kind = 7 by omega), if_neg (show ¬ f.kind = 7 by omega), if_pos q, if_pos q]
        simp only
        rcases set_same (cnt := cnt) (A := A) a z f.at_ f.m f.n f.name (least := 0) (by omega) with ⟨h1, h2, h3⟩ | ⟨h1, h2⟩
        · rw [h1, h2, h3]; exact .inl ⟨rfl, rfl, rfl⟩
        · rw [h1, h2]; exact .inr ⟨by show (34 : Int) ≠ 0; decide, rfl, rfl⟩
    · rw [if_neg (show ¬ (nbF f a).kind = 7 by omega), if_neg (show ¬ (nbF f a).kind = 8 by omega)]
      have hT : (if (nbF f a).kind = 14 then (nbF f a).n else a) = nbT f a := by
        by_cases q : f.kind = 14
        · have h1 : nbF f a = { f with n := a + 1 } := by unfold nbF; rw [if_pos q]
          have h2 : nbT f a = a + 1 := by unfold nbT; rw [if_pos q]
          rw [hfk, if_pos q, h1, h2]
        · have h2 : nbT f a = a := by unfold nbT; rw [if_neg q]
          rw [hfk, if_neg q, h2]
      rw [hT, hfk]
      simp only
      rcases head_same (cnt := cnt) (A := A) f a z q7 with ⟨h1, h2, h3⟩ | ⟨h1, h2, h3⟩
      · rw [h1, h2, h3]
        simp only
        have hK := eq_L len ks (decide (f.kind = 16)) (nbT f a) (nbT f a) (nbT f a) z (Int.le_refl _) (fun _ => rfl) ha.2
        rcases hK with ⟨k1, k2, k3, k4⟩ | ⟨k1, k2, k3⟩
        · left
          by_cases q : f.kind = 16
          · obtain ⟨sl', g1, g2⟩ := k4
            rw [if_pos q, k1, k2, k3, g1]
            exact ⟨rfl, rfl, rfl⟩
          · obtain ⟨sl', g1, g2⟩ := k4
            have g3 := g2 (decide_eq_false q)
            rw [if_neg q, k1, k2, g1, g3]
            exact ⟨rfl, rfl, rfl⟩
        · right
          by_cases q : f.kind = 16
          · rw [if_pos q]; exact ⟨k1, k2, k3⟩
          · rw [if_neg q]; exact ⟨k1, k2, k3⟩
      · right
        have e1 := kidsP_err (cnt := cnt) (A := A) (l := (nbL ks (decide (f.kind = 16)) (nbT f a) (nbT f a)).1) (rs := decide (f.kind = 16)) (a := (headP cnt A (nbF f a) ⟨a, 0, z⟩).2.last) (b := (headP cnt A (nbF f a) ⟨a, 0, z⟩).2.last) h1
        have e2 := kidsD_err (cnt := cnt) (A := A) (nbL ks (decide (f.kind = 16)) (nbT f a) (nbT f a)).1 (decide (f.kind = 16)) (nbT f a) (nbT f a) (condD cnt A (nbF f a) a ⟨0, z⟩).2 (by rw [h2]; exact h1)
        rw [e2]
        by_cases q : f.kind = 16
        · rw [if_pos q]
          simp only
          rw [e1.1, e1.2]; exact ⟨h1, h2, h3⟩
        · rw [if_neg q, e1.1, e1.2]; exact ⟨h1, h2, h3⟩
theorem eq_L (len : Int) : ∀ (l : List Node) (rs : Bool) (a m sl z : Int), a ≤ m → (rs = false → sl = m) → allN (RefT len) l →
    ((kidsP cnt A (nbL l rs a m).1 rs a m ⟨sl, 0, z⟩).1 = (kidsD cnt A (nbL l rs a m).1 rs a m ⟨0, z⟩).1 ∧ (kidsD cnt A (nbL l rs a m).1 rs a m ⟨0, z⟩).2 = ((nbL l rs a m).2, ⟨0, z⟩) ∧ (kidsP cnt A (nbL l rs a m).1 rs a m ⟨sl, 0, z⟩).2.1 = (nbL l rs a m).2 ∧
      ∃ sl', (kidsP cnt A (nbL l rs a m).1 rs a m ⟨sl, 0, z⟩).2.2 = ⟨sl', 0, z⟩ ∧ (rs = false → sl' = (nbL l rs a m).2)) ∨
    ((kidsP cnt A (nbL l rs a m).1 rs a m ⟨sl, 0, z⟩).2.2.e ≠ 0 ∧ (kidsD cnt A (nbL l rs a m).1 rs a m ⟨0, z⟩).2.2.e = (kidsP cnt A (nbL l rs a m).1 rs a m ⟨sl, 0, z⟩).2.2.e ∧ (kidsD cnt A (nbL l rs a m).1 rs a m ⟨0, z⟩).2.2.at_ = (kidsP cnt A (nbL l rs a m).1 rs a m ⟨sl, 0, z⟩).2.2.at_)
  | [], rs, a, m, sl, z, h1, h2, ha => by
    rw [nbL]
    simp only
    rw [kidsP, kidsD]
    exact .inl ⟨rfl, rfl, rfl, _, rfl, h2⟩
  | k :: l, rs, a, m, sl, z, h1, h2, ha => by
    rw [allN] at ha
    rw [nbL]
    simp only
    rw [kidsP, kidsD]
    obtain ⟨st, hst⟩ : ∃ st, (if rs = true then a else m) = st := ⟨_, rfl⟩
    have hs : (if rs = true then ({ (⟨sl, 0, z⟩ : Rs) with last := a } : Rs) else ⟨sl, 0, z⟩) = ⟨st, 0, z⟩ := by
      rw [← hst]
      cases rs with
      | true => rfl
      | false => rw [h2 rfl]; rfl
    have hst2 : st ≤ m ∧ (rs = false → st = m) := by
      rw [← hst]
      cases rs with
      | true => exact ⟨h1, fun h => by cases h⟩
      | false => exact ⟨Int.le_refl _, fun _ => rfl⟩
    rw [hs, hst]
    have hN := eq_N len k st z ha.1
    have hle := nbN_le k st
    generalize nbN k st = r at *
    obtain ⟨k1, b1⟩ := r
    simp only at hN hle ⊢
    rcases hN with ⟨e1, e2, e3⟩ | ⟨e1, e2, e3⟩
    · rw [e1, e2, e3]
      simp only
      have hL := eq_L len l rs a (mxP b1 m) b1 z (by unfold mxP; split <;> omega) (fun h => by have := hst2.2 h; unfold mxP; split <;> omega) ha.2
      rcases hL with ⟨g1, g2, g3, g4⟩ | g
      · rw [g1, g2]
        exact .inl ⟨rfl, rfl, g3, g4⟩
      · exact .inr g
    · right
      have q1 := kidsP_err (cnt := cnt) (A := A) (l := (nbL l rs a (mxP b1 m)).1) (rs := rs) (a := a) (b := mxP (nodeP cnt A k1 ⟨st, 0, z⟩).2.last m) e1
      have q2 := kidsD_err (cnt := cnt) (A := A) (nbL l rs a (mxP b1 m)).1 rs a (mxP (nodeD cnt A k1 st ⟨0, z⟩).2.1 m) (nodeD cnt A k1 st ⟨0, z⟩).2.2 (by rw [e2]; exact e1)
      rw [q1.1, q1.2, q2]
      exact ⟨e1, e2, e3⟩
end
end
end Go.Proofs.Ytnoohgiecnmajaa.VC

/- The laws of references: numbered trees; what resolving answers. -/
namespace Go.Proofs.Ytnoohgiecnmajaa.VC
open Go Go.RowKit
set_option linter.unusedVariables false
set_option linter.unusedSimpArgs false
set_option maxHeartbeats 4000000

def resD (cnt : Int) (A : List (ByteArray × Int)) (n : Node) : ParR :=
  if (nodeD cnt A n 0 ⟨0, 0⟩).2.2.e ≠ 0 then ⟨nodeZ, (nodeD cnt A n 0 ⟨0, 0⟩).2.2.e, (nodeD cnt A n 0 ⟨0, 0⟩).2.2.at_⟩ else ⟨(nodeD cnt A n 0 ⟨0, 0⟩).1, 0, 0⟩
theorem res_same (cnt : Int) (A : List (ByteArray × Int)) (len : Int) (n : Node) (ha : n.all (RefT len)) : resD cnt A (nbN n 0).1 = resP cnt A (nbN n 0).1 := by
  have h := eq_N (cnt := cnt) (A := A) len n 0 0 ha
  unfold resD resP
  generalize nodeP cnt A (nbN n 0).1 ⟨0, 0, 0⟩ = P at *
  generalize nodeD cnt A (nbN n 0).1 0 ⟨0, 0⟩ = D at *
  rcases h with ⟨h1, h2, h3⟩ | ⟨h1, h2, h3⟩
  · rw [h1, h2, h3]
  · rw [if_pos h1, if_pos (by rw [h2]; exact h1), h2, h3]
mutual
theorem nodeP_w (cnt : Int) (A : List (ByteArray × Int)) : ∀ (n : Node) (s : Rs), (nodeP cnt A n s).1.w = n.w
  | .mk f ks, s => by
    rw [nodeP]
    split
    · rfl
    · simp only
      rw [Node.w, Node.w, kidsP_w cnt A ks]
theorem kidsP_w (cnt : Int) (A : List (ByteArray × Int)) : ∀ (l : List Node) (rs : Bool) (a b : Int) (s : Rs), wN (kidsP cnt A l rs a b s).1 = wN l
  | [], rs, a, b, s => by rw [kidsP]
  | k :: l, rs, a, b, s => by rw [kidsP]; simp only; rw [wN, wN, nodeP_w cnt A k, kidsP_w cnt A l]
end
mutual
theorem nodeP_set (cnt : Int) (A : List (ByteArray × Int)) : ∀ (n : Node) (s : Rs), n.all SetOk → (nodeP cnt A n s).1.all SetOk
  | .mk f ks, s, h => by
    rw [nodeP]
    split
    · exact h
    · rw [Node.all] at h
      simp only
      rw [Node.all]
      refine ⟨?_, kidsP_set cnt A ks _ _ _ _ h.2⟩
      have h1 : f.set.length ≤ 4000000000 := h.1
      show (headP cnt A f s).1.set.length ≤ 4000000000
      rw [(headP_same f s).2]
      exact h1
theorem kidsP_set (cnt : Int) (A : List (ByteArray × Int)) : ∀ (l : List Node) (rs : Bool) (a b : Int) (s : Rs), allN SetOk l → allN SetOk (kidsP cnt A l rs a b s).1
  | [], rs, a, b, s, h => by rw [kidsP]; exact h
  | k :: l, rs, a, b, s, h => by
    rw [allN] at h
    rw [kidsP]
    simp only
    rw [allN]
    exact ⟨nodeP_set cnt A k _ h.1, kidsP_set cnt A l _ _ _ _ h.2⟩
end
theorem resP_ok (cnt : Int) (A : List (ByteArray × Int)) (n : Node) (h : n.all SetOk) : (resP cnt A n).n.w ≤ n.w ∧ (resP cnt A n).n.all SetOk := by
  have hz : nodeZ.all SetOk := by unfold nodeZ; rw [Node.all, allN]; exact ⟨Nat.zero_le _, trivial⟩
  have hzw : nodeZ.w = 1 := by decide
  have h1 := w_pos n
  unfold resP
  split
  · exact ⟨by show nodeZ.w ≤ n.w; omega, hz⟩
  · exact ⟨Nat.le_of_eq (nodeP_w cnt A n _), nodeP_set cnt A n _ h⟩
theorem flatP_ref (l : List Int) (o : Int) : (flatP l o).1.all (RefT l.length) := by
  have h1 := lexP_ok l o
  unfold flatP
  split
  · exact zRefT _
  split
  · exact zRefT _
  · rename_i e1 e2
    have h2 := parse_all (ref_ph (h1.2.1 (by simpa using e1)).2.2) l.length (by simpa using e2)
    exact nodeR_ref _ _ _ _ h2.1
/-- A tree with numbers, and whether there is one. -/
def numdP (l : List Int) (o : Int) : NumR × Bool :=
  if (flatP l o).2 = false then (⟨nodeZ, 0, [], 0, 0⟩, false) else (numR9 (flatP l o).1, decide ((numR9 (flatP l o).1).e = 0))
@[reducible] def numdE (r : NumR × Bool) : SV := .tuple [r.1.n.enc, iv r.1.most, ms r.1.names, bv r.2]
theorem numd_facts (l : List Int) (o : Int) (h : (numdP l o).2 = true) : (numdP l o).1.n = (nbN (flatP l o).1 0).1 ∧ (numdP l o).1.most = (nbN (flatP l o).1 0).2 ∧ (numdP l o).1.n.w ≤ 20000 ∧ (numdP l o).1.names.length ≤ 20000 ∧
    (numdP l o).1.n.all SetOk ∧ (numdP l o).1.n.all (RefT l.length) ∧ (numdP l o).1.n.all RefOk ∧ (∀ p ∈ (numdP l o).1.names, 1 ≤ p.2 ∧ p.2 ≤ (numdP l o).1.most) := by
  have hr := flatP_ref l o
  have hs := flatP_all l o
  have hw := flatP_w l o
  have hgw := numG_w (flatP l o).1
  have hsay := names_say (flatP l o).1
  have hnb := nbN_le (flatP l o).1 0
  have hri := fun x => rise_N (flatP l o).1 0 x
  have hrf := nbN_ref l.length (flatP l o).1 0 (by omega) (by omega) hr
  rw [numG_is] at hgw hsay
  unfold numdP at h ⊢
  by_cases q : (flatP l o).2 = false
  · rw [if_pos q] at h; cases h
  rw [if_neg q] at h ⊢
  have he : (numR9 (flatP l o).1).e = 0 := of_decide_eq_true h
  have hn : (numR9 (flatP l o).1).n = (nbN (flatP l o).1 0).1 ∧ (numR9 (flatP l o).1).most = (nbN (flatP l o).1 0).2 := by
    unfold numR9 at he ⊢
    split
    · rename_i q; rw [if_pos q] at he; exact absurd he q
    · exact ⟨rfl, rfl⟩
  obtain ⟨hd, hall⟩ := hsay he
  have hset := hgw.2.2 hs
  refine ⟨hn.1, hn.2, by simp only; omega, by simp only; omega, hset, by simp only; rw [hn.1]; exact hrf, ?_, ?_⟩
  · simp only at hset ⊢
    rw [hn.1] at hset ⊢
    exact all_and (fun n (h1 : SetOk n) (h2 : RefT l.length n) => ⟨h1, h2.1, h2.2.1, h2.2.2.1⟩) _ hset hrf
  · intro p hp
    obtain ⟨c, h1, h2⟩ := List.any_eq_true.1 (hall p hp)
    rw [hn.1] at h1
    have h3 : p.2 ∈ numsC (capsN (nbN (flatP l o).1 0).1) := by
      unfold numsC
      refine List.mem_map.2 ⟨c, h1, ?_⟩
      unfold isX at h2
      rw [Bool.and_eq_true] at h2
      exact of_decide_eq_true h2.2
    have h4 := (hri p.2).2 h3
    simp only
    rw [hn.2]
    omega
attribute [local irreducible] lexP parseP resolveP numR9 nodeD nodeP resP
set_option maxHeartbeats 16000000
theorem resD_c (cnt : Int) (A : List (ByteArray × Int)) (n : Node) (hA : A.length ≤ 1000000) (hw : n.w ≤ 1000000) (ha : n.all RefOk) : VCalls Try.prog 32 [n.enc, iv cnt, ms A] (fun r => r = parE (resD cnt A n)) := by
  have hc := nd_c cnt A hA n.w n (Nat.le_refl _) hw ha 0 ⟨0, 0⟩ (by decide) (by decide)
  obtain ⟨G, hG⟩ : ∃ G, resD cnt A n = G := ⟨_, rfl⟩
  rw [hG]
  unfold resD at hG
  obtain ⟨f0, k0, h0⟩ := n.ex
  rw [h0] at hc hG ⊢
  generalize nodeD cnt A (.mk f0 k0) 0 ⟨0, 0⟩ = r at *
  obtain ⟨⟨f, ks⟩, most, ⟨e, at_⟩⟩ := r
  simp only at hG hc
  refine VCalls.ofr tabOk Try.func32 (by decide) rfl rfl ?_
  refine RWP.seqx tabOk orders ?_
  conv => whnf
  refine RWP.seqx tabOk orders ?_
  repeat' ((conv => whnf); (first
    | (with_reducible first | refine Spl.yes ?_ | refine Spl.no ?_ | refine Spl.dec (fun h => ?_) (fun h => ?_) | refine Spl.eq (fun h => ?_) (fun h => ?_) | refine Spl.ne (fun h => ?_) (fun h => ?_) | refine Spl.seq (fun h => ?_) (fun h => ?_) | refine Spl.not ?_ | refine Spl.any (fun h => ?_) (fun h => ?_))
    | ((with_reducible apply And.intro); first | omega | rfl | (dsimp only; omega))))
  all_goals (conv => whnf)
  refine RWP.seqx tabOk orders ?_
  repeat' ((conv => whnf); (first
    | (with_reducible first | refine Spl.yes ?_ | refine Spl.no ?_ | refine Spl.dec (fun h => ?_) (fun h => ?_) | refine Spl.eq (fun h => ?_) (fun h => ?_) | refine Spl.ne (fun h => ?_) (fun h => ?_) | refine Spl.seq (fun h => ?_) (fun h => ?_) | refine Spl.not ?_ | refine Spl.any (fun h => ?_) (fun h => ?_))
    | (refine HQ.use (hc) ⟨fun _ => 15, id, id⟩ ⟨rfl, rfl⟩ rfl rfl (by first | exact ⟨⟨rfl, rfl⟩, trivial⟩ | exact ⟨⟨rfl, rfl⟩, ⟨rfl, rfl⟩, trivial⟩) (by first | exact trivial | exact ⟨⟨rfl, rfl⟩, trivial⟩ | exact ⟨⟨rfl, rfl⟩, ⟨rfl, rfl⟩, trivial⟩) (by first | exact trivial | exact ⟨⟨rfl, rfl⟩, trivial⟩) ?_; rintro _ _ ⟨rfl, rfl⟩; refine ⟨⟨rfl, rfl, rfl⟩, ?_⟩)
    | refine And.intro (Nat.le_of_ble_eq_true rfl) ?_
    | ((with_reducible apply And.intro); first | omega | rfl | (dsimp only; omega))))
  all_goals (conv => whnf)
  refine RWP.of tabOk orders ?_
  repeat' ((conv => whnf); (first
    | (with_reducible first | refine Spl.yes ?_ | refine Spl.no ?_ | refine Spl.dec (fun h => ?_) (fun h => ?_) | refine Spl.eq (fun h => ?_) (fun h => ?_) | refine Spl.ne (fun h => ?_) (fun h => ?_) | refine Spl.seq (fun h => ?_) (fun h => ?_) | refine Spl.not ?_ | refine Spl.any (fun h => ?_) (fun h => ?_))
    | refine drawn_plan (.one 0 (.one 1 (.one 2 (.one 3 (.one 5 (.one 6 (.one 7 (.three 4 (.two 8 (.ofList [9, 10, 11]) 9 (.ofList [8, 10, 11])) 8 (.two 4 (.ofList [9, 10, 11]) 9 (.ofList [4, 10, 11])) 9 (.ofList [4, 8, 10, 11]))))))))) (by decide +kernel) ?_
    | refine Fork.mk ?_ ?_
    | refine And.intro (Nat.le_of_ble_eq_true rfl) ?_
    | ((with_reducible apply And.intro); first | omega | rfl | (dsimp only; omega))))
  all_goals (conv => whnf)
  all_goals first
    | (rw [if_pos (by assumption)] at hG; subst hG; rfl)
    | (rw [if_neg (fun h => h (by assumption))] at hG; subst hG; rfl)
theorem numd_c (l : List Int) (o : Int) (hb : Bytes l) : VCalls Try.prog 30 [ys l, iv o] (fun r => r = numdE (numdP l o)) := by
  have h1 := lexP_ok l o
  have hlex := lex_c l o hb
  have hbl : (byteRows l).length = l.length := by simp [byteRows]
  have hpar := parse_c (lexP l o).toks l.length (by omega)
  have hall : (lexP l o).e = 0 → (parseP (lexP l o).toks l.length).e = 0 → VCalls Try.prog 44 [(parseP (lexP l o).toks l.length).n.enc, iv o] (fun r => r = (resolveP (parseP (lexP l o).toks l.length).n o).enc) := by
    intro e1 e2
    have h2 := parse_all (fit_ph (h1.2.1 e1).2.2) l.length e2
    have h4 := h1.1
    exact resolve_c _ o (by omega) h2.1
  have hw := flatP_w l o
  obtain ⟨G, hG⟩ : ∃ G, numdP l o = G := ⟨_, rfl⟩
  rw [hG]
  unfold numdP at hG
  unfold flatP at hG hw
  generalize lexP l o = x at *
  obtain ⟨toks, e, at_⟩ := x
  simp only at *
  generalize parseP toks l.length = y at *
  obtain ⟨⟨f1, k1⟩, e2, at2⟩ := y
  simp only at *
  have hnum : e = 0 → e2 = 0 → VCalls Try.prog 22 [(resolveP (Node.mk f1 k1) o).enc] (fun r => r = numE (numR9 (resolveP (Node.mk f1 k1) o))) := by
    intro e1 e2
    rw [if_neg (by simp [e1]), if_neg (by simp [e2])] at hw
    exact number9_c _ (by simp only at hw; omega)
  generalize resolveP (Node.mk f1 k1) o = z at *
  obtain ⟨f2, k2⟩ := z
  generalize hq : numR9 (.mk f2 k2) = Q at *
  obtain ⟨⟨f3, k3⟩, most, names, e3, at3⟩ := Q
  refine VCalls.ofr tabOk Try.func30 (by decide) rfl rfl ?_
  refine RWP.of tabOk orders ?_
  repeat' ((conv => whnf); (first
    | (with_reducible first | refine Spl.yes ?_ | refine Spl.no ?_ | refine Spl.dec (fun h => ?_) (fun h => ?_) | refine Spl.eq (fun h => ?_) (fun h => ?_) | refine Spl.ne (fun h => ?_) (fun h => ?_) | refine Spl.seq (fun h => ?_) (fun h => ?_) | refine Spl.not ?_ | refine Spl.any (fun h => ?_) (fun h => ?_))
    | (refine VCalls.mono (hlex) ?_; rintro _ rfl)
    | (refine VCalls.mono (hpar) ?_; rintro _ rfl)
    | (refine VCalls.mono (hall (by assumption) (by assumption)) ?_; rintro _ rfl)
    | (refine VCalls.mono (hnum (by assumption) (by assumption)) ?_; rintro _ rfl)
    | (rw [hbl])
    | (dsimp only)
    | refine And.intro (Nat.le_of_ble_eq_true rfl) ?_
    | ((with_reducible apply And.intro); first | omega | rfl | (dsimp only; omega))))
  all_goals (conv => whnf)
  all_goals (try dsimp only at *)
  all_goals first
    | (exfalso; omega)
    | (rw [if_pos (show e ≠ 0 by assumption)] at hG; rw [if_pos rfl] at hG; subst hG; rfl)
    | (rw [if_neg (show ¬ e ≠ 0 by omega), if_pos (show e2 ≠ 0 by assumption)] at hG; rw [if_pos rfl] at hG; subst hG; rfl)
    | (rw [if_neg (show ¬ e ≠ 0 by omega), if_neg (show ¬ e2 ≠ 0 by omega)] at hG; rw [if_neg (by simp), hq] at hG; subst hG; rfl)
end Go.Proofs.Ytnoohgiecnmajaa.VC

/- The laws of references: awake; RefsSays. -/
namespace Go.Proofs.Ytnoohgiecnmajaa.VC
open Go Go.RowKit
set_option linter.unusedVariables false
set_option linter.unusedSimpArgs false
set_option maxHeartbeats 4000000

def rdP (l : List Int) : ParR := if (numdP l 0).2 = false then ⟨nodeZ, 1, -1⟩ else resP (numdP l 0).1.most (numdP l 0).1.names (numdP l 0).1.n
def rw1 : List Int := [40, 97, 41, 40, 98, 41, 92, 103, 123, 45, 49, 125, 92, 103, 123, 45, 50, 125]
def rw2 : List Int := [40, 97, 41, 92, 50]
theorem rw1_is : (rdP rw1).e = 0 ∧ (rdP rw1).n.kids.length = 4 ∧ (rdn (rdP rw1).n.kids 2).f.n = 2 ∧ (rdn (rdP rw1).n.kids 2).f.m = 0 ∧ (rdn (rdP rw1).n.kids 3).f.n = 1 := by decide +kernel
theorem rw2_is : (rdP rw2).e = 34 ∧ (rdP rw2).at_ = 3 := by decide +kernel
attribute [local irreducible] numdP resP resD nodeP nodeD
set_option maxHeartbeats 16000000
theorem resolved_c (s : ByteArray) : VCalls Try.prog 34 [sv s] (fun r => r = parE (rdP (numsOf s))) := by
  have hb := numsOf_bytes s
  have hnd := numd_c (numsOf s) 0 hb
  have hfa := numd_facts (numsOf s) 0
  have hres : (numdP (numsOf s) 0).2 = true → VCalls Try.prog 31 [(numdP (numsOf s) 0).1.n.enc, iv (numdP (numsOf s) 0).1.most, ms (numdP (numsOf s) 0).1.names] (fun r => r = parE (resP (numdP (numsOf s) 0).1.most (numdP (numsOf s) 0).1.names (numdP (numsOf s) 0).1.n)) := by
    intro h
    obtain ⟨h1, h2, h3, h4, h5, h6, h7, h8⟩ := hfa h
    exact resP_c _ _ _ (by omega) (by omega) h7
  obtain ⟨G, hG⟩ : ∃ G, rdP (numsOf s) = G := ⟨_, rfl⟩
  rw [hG]
  unfold rdP at hG
  generalize numdP (numsOf s) 0 = q at *
  obtain ⟨⟨⟨f1, k1⟩, most, names, e1, at1⟩, ok⟩ := q
  simp only at *
  generalize resP most names (Node.mk f1 k1) = z at *
  obtain ⟨⟨f2, k2⟩, e2, at2⟩ := z
  refine VCalls.ofr tabOk Try.func34 (by decide) rfl rfl ?_
  refine RWP.of tabOk orders ?_
  repeat' ((conv => whnf); (first
    | (with_reducible first | refine Spl.yes ?_ | refine Spl.no ?_ | refine Spl.dec (fun h => ?_) (fun h => ?_) | refine Spl.eq (fun h => ?_) (fun h => ?_) | refine Spl.ne (fun h => ?_) (fun h => ?_) | refine Spl.seq (fun h => ?_) (fun h => ?_) | refine Spl.not ?_ | refine Spl.any (fun h => ?_) (fun h => ?_))
    | (refine VCalls.mono (hnd) ?_; rintro _ rfl)
    | (refine VCalls.mono (hres (by assumption)) ?_; rintro _ rfl)
    | refine And.intro (Nat.le_of_ble_eq_true rfl) ?_
    | ((with_reducible apply And.intro); first | omega | rfl | (dsimp only; omega))))
  all_goals (conv => whnf)
  all_goals first
    | (rw [if_pos (by assumption)] at hG; subst hG; rfl)
    | (have hok : ok = true := by assumption
       subst hok
       rw [if_neg (by simp)] at hG; subst hG; rfl)
attribute [local irreducible] rdP
theorem awake10_c : VCalls Try.prog 29 [] (fun r => r = bv true) := by
  have hr1 := resolved_c { data := #[40, 97, 41, 40, 98, 41, 92, 103, 123, 45, 49, 125, 92, 103, 123, 45, 50, 125] }
  have hr2 := resolved_c { data := #[40, 97, 41, 92, 50] }
  rw [show numsOf { data := #[40, 97, 41, 40, 98, 41, 92, 103, 123, 45, 49, 125, 92, 103, 123, 45, 50, 125] } = rw1 by decide +kernel] at hr1
  rw [show numsOf { data := #[40, 97, 41, 92, 50] } = rw2 by decide +kernel] at hr2
  have ha1 := rw1_is
  have ha2 := rw2_is
  generalize rdP rw1 = q1 at *
  generalize rdP rw2 = q2 at *
  obtain ⟨⟨g1, m1⟩, e1, at1⟩ := q1
  obtain ⟨⟨g2, m2⟩, e2, at2⟩ := q2
  simp only [Node.kids] at *
  obtain ⟨rfl, hk, hn2, hm2, hn3⟩ := ha1
  obtain ⟨rfl, rfl⟩ := ha2
  have hrl := rowsN_len m1
  obtain ⟨f2, k2, h2⟩ := (rdn m1 2).ex
  obtain ⟨f3, k3, h3⟩ := (rdn m1 3).ex
  rw [h2] at hn2 hm2
  rw [h3] at hn3
  refine VCalls.ofr tabOk Try.func29 (by decide) rfl rfl ?_
  refine RWP.of tabOk orders ?_
  repeat' ((conv => whnf); (first
    | (with_reducible first | refine Spl.yes ?_ | refine Spl.no ?_ | refine Spl.dec (fun h => ?_) (fun h => ?_) | refine Spl.eq (fun h => ?_) (fun h => ?_) | refine Spl.ne (fun h => ?_) (fun h => ?_) | refine Spl.seq (fun h => ?_) (fun h => ?_) | refine Spl.not ?_ | refine Spl.any (fun h => ?_) (fun h => ?_))
    | (refine VCalls.mono (hr1) ?_; rintro _ rfl)
    | (refine VCalls.mono (hr2) ?_; rintro _ rfl)
    | (rw [rowsN_get (show (2 : Int).toNat < m1.length by rw [hk]; decide)])
    | (rw [rowsN_get (show (3 : Int).toNat < m1.length by rw [hk]; decide)])
    | (rw [h2])
    | (rw [h3])
    | refine And.intro (Nat.le_of_ble_eq_true rfl) ?_
    | ((with_reducible apply And.intro); first | omega | rfl | (dsimp only; omega))))
  all_goals (conv => whnf)
  all_goals first
    | (exfalso; omega)
    | (exfalso; exact absurd (show f2.n = 2 from hn2) (by assumption))
    | (exfalso; exact absurd (show f2.m = 0 from hm2) (by assumption))
    | (exfalso; exact absurd (show f3.n = 1 from hn3) (by assumption))
    | (exfalso; exact absurd rfl (by assumption))
    | rfl
theorem says10_c (l : List Int) (o : Int) (hb : Bytes l) : VCalls Try.prog 8 [ys l, iv o] (fun r => r = bv true) := by
  have hnd := numd_c l o hb
  have hfa := numd_facts l o
  have hfl := flatP_ref l o
  have hres : (numdP l o).2 = true → VCalls Try.prog 31 [(numdP l o).1.n.enc, iv (numdP l o).1.most, ms (numdP l o).1.names] (fun r => r = parE (resP (numdP l o).1.most (numdP l o).1.names (numdP l o).1.n)) := by
    intro h
    obtain ⟨h1, h2, h3, h4, h5, h6, h7, h8⟩ := hfa h
    exact resP_c _ _ _ (by omega) (by omega) h7
  have hred : (numdP l o).2 = true → VCalls Try.prog 32 [(numdP l o).1.n.enc, iv (numdP l o).1.most, ms (numdP l o).1.names] (fun r => r = parE (resP (numdP l o).1.most (numdP l o).1.names (numdP l o).1.n)) := by
    intro h
    obtain ⟨h1, h2, h3, h4, h5, h6, h7, h8⟩ := hfa h
    have := resD_c (numdP l o).1.most (numdP l o).1.names (numdP l o).1.n (by omega) (by omega) h7
    rw [h1, res_same _ _ _ _ hfl, ← h1] at this
    exact this
  have hrok : (numdP l o).2 = true → (resP (numdP l o).1.most (numdP l o).1.names (numdP l o).1.n).n.w ≤ 1000000 ∧ (resP (numdP l o).1.most (numdP l o).1.names (numdP l o).1.n).n.all SetOk := by
    intro h
    obtain ⟨h1, h2, h3, h4, h5, h6, h7, h8⟩ := hfa h
    have := resP_ok (numdP l o).1.most (numdP l o).1.names (numdP l o).1.n h5
    exact ⟨by omega, this.2⟩
  have hsm : (numdP l o).2 = true → SmC (resP (numdP l o).1.most (numdP l o).1.names (numdP l o).1.n).n := fun h => same_c _ _ (Nat.le_refl _) (hrok h).1 (hrok h).2
  have hpl : (numdP l o).2 = true → PlC (resP (numdP l o).1.most (numdP l o).1.names (numdP l o).1.n).n := fun h => places_c _ _ (Nat.le_refl _) (hrok h).1
  unfold SmC at hsm
  unfold PlC at hpl
  clear hfa hfl hrok
  generalize numdP l o = q at *
  obtain ⟨⟨⟨f1, k1⟩, most, names, e1, at1⟩, ok⟩ := q
  simp only at *
  generalize resP most names (Node.mk f1 k1) = z at *
  obtain ⟨⟨f2, k2⟩, e2, at2⟩ := z
  simp only at *
  refine VCalls.ofr tabOk Try.func8 (by decide) rfl rfl ?_
  refine RWP.of tabOk orders ?_
  repeat' ((conv => whnf); (first
    | (with_reducible first | refine Spl.yes ?_ | refine Spl.no ?_ | refine Spl.dec (fun h => ?_) (fun h => ?_) | refine Spl.eq (fun h => ?_) (fun h => ?_) | refine Spl.ne (fun h => ?_) (fun h => ?_) | refine Spl.seq (fun h => ?_) (fun h => ?_) | refine Spl.not ?_ | refine Spl.any (fun h => ?_) (fun h => ?_))
    | (refine VCalls.mono (awake10_c) ?_; rintro _ rfl)
    | (refine VCalls.mono (hnd) ?_; rintro _ rfl)
    | (refine VCalls.mono (hres (by assumption)) ?_; rintro _ rfl)
    | (refine VCalls.mono (hred (by assumption)) ?_; rintro _ rfl)
    | (refine VCalls.mono (hsm (by assumption)) ?_; rintro _ rfl)
    | (refine VCalls.mono (hpl (by assumption)) ?_; rintro _ rfl)
    | refine drawn_text (by decide +kernel) ?_
    | refine And.intro (Nat.le_of_ble_eq_true rfl) ?_
    | ((with_reducible apply And.intro); first | omega | rfl | (dsimp only; omega))))
  all_goals (conv => whnf)
  all_goals first
    | (exfalso; exact absurd rfl (by assumption))
    | rfl
    | (simp only [beq_self_eq_true]; rfl)
end Go.Proofs.Ytnoohgiecnmajaa.VC

/- The laws of references: RefsWithin. -/
namespace Go.Proofs.Ytnoohgiecnmajaa.VC
open Go Go.RowKit
set_option linter.unusedVariables false
set_option linter.unusedSimpArgs false
set_option maxHeartbeats 4000000

/-- A node's references are right. -/
def WithN (cnt : Int) (n : Node) : Prop :=
  (n.f.kind = 7 ∨ n.f.kind = 8 → n.f.m = 0 ∧ n.f.name = bs [] ∧ n.f.n ≤ cnt ∧ 0 ≤ n.f.n ∧ (n.f.kind = 7 → n.f.n ≠ 0)) ∧
  (n.f.kind = 19 → n.f.n ≠ 10 ∧ n.f.m = 0 ∧ n.f.name = bs [] ∧ n.f.mode ≤ cnt ∧ (n.f.n = 9 → 1 ≤ n.f.mode))
theorem meantP_le {cnt : Int} {A : List (ByteArray × Int)} (hA : ∀ p ∈ A, 1 ≤ p.2 ∧ p.2 ≤ cnt) {last m k : Int} {nm : ByteArray} (h0 : 0 ≤ cnt) : meantP cnt A last m k nm ≤ cnt := by
  unfold meantP
  split
  · cases h : findS nm A with
    | none => show (-1 : Int) ≤ cnt; omega
    | some v => exact (hA _ (findS_mem h)).2
  · generalize (if m = 1 then last - k + 1 else if m = 2 then last + k else k) = K
    split <;> omega
theorem setS_ok {s : Rs} {v least a : Int} (h0 : s.e = 0) (h : (setS s v least a).e = 0) : least ≤ v ∧ setS s v least a = s := by
  unfold setS at h ⊢
  by_cases q : v < least
  · rw [if_pos q, if_pos h0] at h; exact absurd h (by show ¬ (34 : Int) = 0; decide)
  · rw [if_neg q]; exact ⟨by omega, rfl⟩
section
variable {cnt : Int} {A : List (ByteArray × Int)}
theorem condF_with {len : Int} (hA : ∀ p ∈ A, 1 ≤ p.2 ∧ p.2 ≤ cnt) (h0 : 0 ≤ cnt) {s : Rs} {f : NodeF} {ks ks' : List Node} (hk : f.kind = 19) (ht : RefT len (.mk f ks)) (he : s.e = 0) (h : (condF cnt A s f).2.e = 0) : WithN cnt (.mk (condF cnt A s f).1 ks') := by
  have hc := (ht.2.2.2.2 hk).2
  have hmo : f.n = 9 ∨ f.n = 10 ∨ (f.n = 11 ∧ (f.mode = -1 → f.m = 0 ∧ f.name = bs [])) ∨ (f.n ≥ 12 ∧ f.m = 0 ∧ f.name = bs [] ∧ f.mode = 0) := hc
  unfold condF vM at h ⊢
  by_cases q11 : f.n = 11
  · rw [if_pos q11] at h ⊢
    by_cases qm : f.mode = -1
    · rw [if_pos qm]
      rcases hmo with q | q | ⟨_, q⟩ | q
      · omega
      · omega
      · obtain ⟨q1, q2⟩ := q qm
        exact ⟨fun hh => by have hh : f.kind = 7 ∨ f.kind = 8 := hh; omega, fun _ => ⟨by show f.n ≠ 10; omega, q1, q2, by show f.mode ≤ cnt; omega, fun hh => by have hh : f.n = 9 := hh; omega⟩⟩
      · omega
    · rw [if_neg qm] at h ⊢
      have := setS_ok he h
      refine ⟨fun hh => by have hh : f.kind = 7 ∨ f.kind = 8 := hh; omega, fun _ => ⟨by show f.n ≠ 10; omega, rfl, rfl, meantP_le hA h0, fun hh => by have hh : f.n = 9 := hh; omega⟩⟩
  rw [if_neg q11] at h ⊢
  by_cases q10 : f.n = 10
  · rw [if_pos q10] at h ⊢
    have := setS_ok he h
    refine ⟨fun hh => by have hh : f.kind = 7 ∨ f.kind = 8 := hh; omega, fun _ => ⟨by show (9 : Int) ≠ 10; decide, rfl, rfl, (show meantP cnt A s.last 3 f.mode f.name ≤ cnt from meantP_le hA h0), fun _ => this.1⟩⟩
  rw [if_neg q10] at h ⊢
  by_cases q9 : f.n = 9
  · rw [if_pos q9] at h ⊢
    have := setS_ok he h
    refine ⟨fun hh => by have hh : f.kind = 7 ∨ f.kind = 8 := hh; omega, fun _ => ⟨by show f.n ≠ 10; omega, rfl, rfl, meantP_le hA h0, fun _ => this.1⟩⟩
  · rw [if_neg q9]
    rcases hmo with q | q | q | ⟨q, q1, q2, q3⟩
    · omega
    · omega
    · omega
    · exact ⟨fun hh => by have hh : f.kind = 7 ∨ f.kind = 8 := hh; omega, fun _ => ⟨by show f.n ≠ 10; omega, q1, q2, by show f.mode ≤ cnt; omega, fun hh => by have hh : f.n = 9 := hh; omega⟩⟩
theorem headP_with {len : Int} (hA : ∀ p ∈ A, 1 ≤ p.2 ∧ p.2 ≤ cnt) (h0 : 0 ≤ cnt) {s : Rs} {f : NodeF} {ks ks' : List Node} (ht : RefT len (.mk f ks)) (he : s.e = 0) (h : (headP cnt A f s).2.e = 0) : WithN cnt (.mk (headP cnt A f s).1 ks') := by
  have triv : ∀ f : NodeF, f.kind ≠ 7 → f.kind ≠ 8 → f.kind ≠ 19 → WithN cnt (.mk f ks') := fun f q1 q2 q3 => ⟨fun hh => by have hh : f.kind = 7 ∨ f.kind = 8 := hh; omega, fun hh => absurd hh q3⟩
  unfold headP vN at h ⊢
  by_cases q14 : f.kind = 14
  · rw [if_pos q14]; exact triv f (by omega) (by omega) (by omega)
  rw [if_neg q14] at h ⊢
  by_cases q7 : f.kind = 7
  · rw [if_pos q7] at h ⊢
    have := setS_ok he h
    refine ⟨fun _ => ⟨rfl, rfl, meantP_le hA h0, ?_, fun _ => ?_⟩, fun hh => by have hh : f.kind = 19 := hh; omega⟩
    · show 0 ≤ meantP cnt A s.last f.m f.n f.name; omega
    · show meantP cnt A s.last f.m f.n f.name ≠ 0; omega
  rw [if_neg q7] at h ⊢
  by_cases q8 : f.kind = 8
  · rw [if_pos q8] at h ⊢
    have := setS_ok he h
    exact ⟨fun _ => ⟨rfl, rfl, meantP_le hA h0, this.1, fun hh => absurd hh (by show ¬ f.kind = 7; omega)⟩, fun hh => by have hh : f.kind = 19 := hh; omega⟩
  rw [if_neg q8] at h ⊢
  by_cases q19 : f.kind = 19
  · rw [if_pos q19] at h ⊢
    exact condF_with hA h0 q19 ht he h
  · rw [if_neg q19]; exact triv f q7 q8 q19
mutual
theorem nodeP_with {len : Int} (hA : ∀ p ∈ A, 1 ≤ p.2 ∧ p.2 ≤ cnt) (h0 : 0 ≤ cnt) : ∀ (n : Node) (s : Rs), n.all (RefT len) → s.e = 0 → (nodeP cnt A n s).2.e = 0 → (nodeP cnt A n s).1.all (WithN cnt)
  | .mk f ks, s, ha, he, h => by
    rw [Node.all] at ha
    rw [nodeP, if_neg (by simp [he])] at h ⊢
    have hk : (kidsP cnt A ks (decide (f.kind = 16)) (headP cnt A f s).2.last (headP cnt A f s).2.last (headP cnt A f s).2).2.2.e = 0 := by
      simp only at h
      split at h
      · exact h
      · exact h
    have hh : (headP cnt A f s).2.e = 0 := by
      by_cases q : (headP cnt A f s).2.e = 0
      · exact q
      · rw [(kidsP_err q).1] at hk; exact absurd hk q
    simp only
    rw [Node.all]
    exact ⟨headP_with hA h0 ha.1 he hh, kidsP_with hA h0 ks _ _ _ _ ha.2 hh hk⟩
theorem kidsP_with {len : Int} (hA : ∀ p ∈ A, 1 ≤ p.2 ∧ p.2 ≤ cnt) (h0 : 0 ≤ cnt) : ∀ (l : List Node) (rs : Bool) (a b : Int) (s : Rs), allN (RefT len) l → s.e = 0 → (kidsP cnt A l rs a b s).2.2.e = 0 → allN (WithN cnt) (kidsP cnt A l rs a b s).1
  | [], rs, a, b, s, ha, he, h => by rw [kidsP, allN]; trivial
  | k :: l, rs, a, b, s, ha, he, h => by
    rw [allN] at ha
    rw [kidsP] at h ⊢
    have h1 : (if rs = true then { s with last := a } else s).e = 0 := by split <;> exact he
    have hk : (nodeP cnt A k (if rs = true then { s with last := a } else s)).2.e = 0 := by
      by_cases q : (nodeP cnt A k (if rs = true then { s with last := a } else s)).2.e = 0
      · exact q
      · simp only at h
        rw [(kidsP_err q).1] at h; exact absurd h q
    simp only
    rw [allN]
    exact ⟨nodeP_with hA h0 k _ ha.1 h1 hk, kidsP_with hA h0 l _ _ _ _ ha.2 hk h⟩
end
/-- Where an error is. -/
theorem setS_at {s : Rs} {v least a len : Int} (ha : 0 ≤ a ∧ a < len) (h : s.e ≠ 0 → s.e = 34 ∧ 0 ≤ s.at_ ∧ s.at_ < len) : (setS s v least a).e ≠ 0 → (setS s v least a).e = 34 ∧ 0 ≤ (setS s v least a).at_ ∧ (setS s v least a).at_ < len := by
  unfold setS
  split
  · split
    · exact fun _ => ⟨rfl, ha.1, ha.2⟩
    · exact h
  · exact h
theorem headP_at {len : Int} {s : Rs} {f : NodeF} {ks : List Node} (ht : RefT len (.mk f ks)) (h : s.e ≠ 0 → s.e = 34 ∧ 0 ≤ s.at_ ∧ s.at_ < len) : (headP cnt A f s).2.e ≠ 0 → (headP cnt A f s).2.e = 34 ∧ 0 ≤ (headP cnt A f s).2.at_ ∧ (headP cnt A f s).2.at_ < len := by
  have h78 : f.kind = 7 ∨ f.kind = 8 → 0 ≤ f.at_ ∧ f.at_ < len := fun q => (ht.2.2.2.1 q).2
  have h19 : f.kind = 19 → 0 ≤ f.at_ ∧ f.at_ < len := fun q => (ht.2.2.2.2 q).1
  unfold headP
  by_cases q14 : f.kind = 14
  · rw [if_pos q14]; exact h
  rw [if_neg q14]
  by_cases q7 : f.kind = 7
  · rw [if_pos q7]; exact setS_at (h78 (.inl q7)) h
  rw [if_neg q7]
  by_cases q8 : f.kind = 8
  · rw [if_pos q8]; exact setS_at (h78 (.inr q8)) h
  rw [if_neg q8]
  by_cases q19 : f.kind = 19
  · rw [if_pos q19]
    unfold condF
    by_cases q11 : f.n = 11
    · rw [if_pos q11]
      by_cases qm : f.mode = -1
      · rw [if_pos qm]; exact h
      · rw [if_neg qm]; exact setS_at (h19 q19) h
    rw [if_neg q11]
    by_cases q10 : f.n = 10
    · rw [if_pos q10]; exact setS_at (h19 q19) h
    rw [if_neg q10]
    by_cases q9 : f.n = 9
    · rw [if_pos q9]; exact setS_at (h19 q19) h
    · rw [if_neg q9]; exact h
  · rw [if_neg q19]; exact h
mutual
theorem nodeP_at {len : Int} : ∀ (n : Node) (s : Rs), n.all (RefT len) → (s.e ≠ 0 → s.e = 34 ∧ 0 ≤ s.at_ ∧ s.at_ < len) → ((nodeP cnt A n s).2.e ≠ 0 → (nodeP cnt A n s).2.e = 34 ∧ 0 ≤ (nodeP cnt A n s).2.at_ ∧ (nodeP cnt A n s).2.at_ < len)
  | .mk f ks, s, ha, h => by
    rw [Node.all] at ha
    rw [nodeP]
    by_cases q : s.e ≠ 0
    · rw [if_pos q]; exact h
    rw [if_neg q]
    have hk := kidsP_at (len := len) ks (decide (f.kind = 16)) (headP cnt A f s).2.last (headP cnt A f s).2.last (headP cnt A f s).2 ha.2 (headP_at ha.1 h)
    simp only
    split
    · exact hk
    · exact hk
theorem kidsP_at {len : Int} : ∀ (l : List Node) (rs : Bool) (a b : Int) (s : Rs), allN (RefT len) l → (s.e ≠ 0 → s.e = 34 ∧ 0 ≤ s.at_ ∧ s.at_ < len) → ((kidsP cnt A l rs a b s).2.2.e ≠ 0 → (kidsP cnt A l rs a b s).2.2.e = 34 ∧ 0 ≤ (kidsP cnt A l rs a b s).2.2.at_ ∧ (kidsP cnt A l rs a b s).2.2.at_ < len)
  | [], rs, a, b, s, ha, h => by rw [kidsP]; exact h
  | k :: l, rs, a, b, s, ha, h => by
    rw [allN] at ha
    rw [kidsP]
    have h1 : (if rs = true then { s with last := a } else s).e ≠ 0 → (if rs = true then { s with last := a } else s).e = 34 ∧ 0 ≤ (if rs = true then { s with last := a } else s).at_ ∧ (if rs = true then { s with last := a } else s).at_ < len := by split <;> exact h
    exact kidsP_at l _ _ _ _ ha.2 (nodeP_at k _ ha.1 h1)
end
end
def WiC (cnt : Int) (n : Node) : Prop := VCalls Try.prog 33 [n.enc, iv cnt] (fun r => r = bv true)
set_option maxHeartbeats 16000000
theorem within_step (cnt : Int) (f : NodeF) (ks : List Node) (hk : ks.length ≤ 1000000) (h : WithN cnt (.mk f ks)) (ih : ∀ n ∈ ks, WiC cnt n) : WiC cnt (.mk f ks) := by
  have hn := rowsN_len ks
  have h78 : f.kind = 7 ∨ f.kind = 8 → f.m = 0 ∧ f.name = bs [] ∧ f.n ≤ cnt ∧ 0 ≤ f.n ∧ (f.kind = 7 → f.n ≠ 0) := h.1
  have h19 : f.kind = 19 → f.n ≠ 10 ∧ f.m = 0 ∧ f.name = bs [] ∧ f.mode ≤ cnt ∧ (f.n = 9 → 1 ≤ f.mode) := h.2
  refine VCalls.ofr tabOk Try.func33 (by decide) rfl rfl ?_
  refine RWP.seqx tabOk orders ?_
  conv => whnf
  refine RWP.cut (fun st => st = ⟨96, [(1, .pv (iv cnt)), (2, .ptr 2 0)], [(2, (27, nfe f ks))], [], []⟩) tabOk orders ?_ ?_
  · by_cases q : f.kind = 7 ∨ f.kind = 8
    · obtain ⟨q1, q2, q3, q4, q5⟩ := h78 q
      repeat' ((conv => whnf); (first
    | (with_reducible first | refine Spl.yes ?_ | refine Spl.no ?_ | refine Spl.dec (fun h => ?_) (fun h => ?_) | refine Spl.eq (fun h => ?_) (fun h => ?_) | refine Spl.ne (fun h => ?_) (fun h => ?_) | refine Spl.seq (fun h => ?_) (fun h => ?_) | refine Spl.not ?_ | refine Spl.any (fun h => ?_) (fun h => ?_))
    | refine drawn_text (by decide +kernel) ?_
    | ((with_reducible apply And.intro); first | omega | rfl | (dsimp only; omega))))
      all_goals (conv => whnf)
      all_goals first
        | (exfalso; omega)
        | (exfalso; exact absurd q2 (by assumption))
        | exact ⟨_, Wk.narrow _ [1, 2] [2] [], rfl⟩
    · repeat' ((conv => whnf); (first
    | (with_reducible first | refine Spl.yes ?_ | refine Spl.no ?_ | refine Spl.dec (fun h => ?_) (fun h => ?_) | refine Spl.eq (fun h => ?_) (fun h => ?_) | refine Spl.ne (fun h => ?_) (fun h => ?_) | refine Spl.seq (fun h => ?_) (fun h => ?_) | refine Spl.not ?_ | refine Spl.any (fun h => ?_) (fun h => ?_))
    | refine drawn_text (by decide +kernel) ?_
    | ((with_reducible apply And.intro); first | omega | rfl | (dsimp only; omega))))
      all_goals (conv => whnf)
      all_goals first
        | (exfalso; omega)
        | exact ⟨_, Wk.narrow _ [1, 2] [2] [], rfl⟩
  rintro _ rfl
  refine RWP.cut (fun st => st = ⟨96, [(1, .pv (iv cnt)), (2, .ptr 2 0)], [(2, (27, nfe f ks))], [], []⟩) tabOk orders ?_ ?_
  · by_cases q : f.kind = 19
    · obtain ⟨q1, q2, q3, q4, q5⟩ := h19 q
      repeat' ((conv => whnf); (first
    | (with_reducible first | refine Spl.yes ?_ | refine Spl.no ?_ | refine Spl.dec (fun h => ?_) (fun h => ?_) | refine Spl.eq (fun h => ?_) (fun h => ?_) | refine Spl.ne (fun h => ?_) (fun h => ?_) | refine Spl.seq (fun h => ?_) (fun h => ?_) | refine Spl.not ?_ | refine Spl.any (fun h => ?_) (fun h => ?_))
    | refine drawn_text (by decide +kernel) ?_
    | ((with_reducible apply And.intro); first | omega | rfl | (dsimp only; omega))))
      all_goals (conv => whnf)
      all_goals first
        | (exfalso; omega)
        | (exfalso; exact absurd q3 (by assumption))
        | exact ⟨_, Wk.narrow _ [1, 2] [2] [], rfl⟩
    · repeat' ((conv => whnf); (first
    | (with_reducible first | refine Spl.yes ?_ | refine Spl.no ?_ | refine Spl.dec (fun h => ?_) (fun h => ?_) | refine Spl.eq (fun h => ?_) (fun h => ?_) | refine Spl.ne (fun h => ?_) (fun h => ?_) | refine Spl.seq (fun h => ?_) (fun h => ?_) | refine Spl.not ?_ | refine Spl.any (fun h => ?_) (fun h => ?_))
    | refine drawn_text (by decide +kernel) ?_
    | ((with_reducible apply And.intro); first | omega | rfl | (dsimp only; omega))))
      all_goals (conv => whnf)
      all_goals first
        | (exfalso; omega)
        | exact ⟨_, Wk.narrow _ [1, 2] [2] [], rfl⟩
  rintro _ rfl
  refine RWP.seq ?_
  refine RWP.seqx tabOk orders ?_
  conv => whnf
  refine RWP.block ?_
  refine RWP.loop (fun k st => ∃ (j : Int), st = ⟨96, [(1, .pv (iv cnt)), (2, .ptr 2 0), (5, .pv (iv j))], [(2, (27, nfe f ks))], [], []⟩ ∧ 0 ≤ j ∧ j ≤ ks.length ∧ k = (ks.length - j).toNat)
    ⟨_, _, Wk.narrow _ [1, 2, 5] [2] [], 0, rfl, by omega, by omega, rfl⟩ ?_
  rintro k st ⟨j, rfl, hj0, hj1, hk⟩
  refine RWP.seqx tabOk orders ?_
  repeat' ((conv => whnf); (first
    | (with_reducible first | refine Spl.yes ?_ | refine Spl.no ?_ | refine Spl.dec (fun h => ?_) (fun h => ?_) | refine Spl.eq (fun h => ?_) (fun h => ?_) | refine Spl.ne (fun h => ?_) (fun h => ?_) | refine Spl.seq (fun h => ?_) (fun h => ?_) | refine Spl.not ?_ | refine Spl.any (fun h => ?_) (fun h => ?_))
    | ((with_reducible apply And.intro); first | omega | rfl | (dsimp only; omega))))
  all_goals (conv => whnf)
  rotate_left
  · refine RWP.of tabOk orders ?_
    conv => whnf
    rfl
  have hc := ih (rdn ks j) (rdn_mem (by omega))
  unfold WiC at hc
  obtain ⟨f3, k3, h3⟩ := (rdn ks j).ex
  rw [h3] at hc
  refine RWP.of tabOk orders ?_
  repeat' ((conv => whnf); (first
    | (with_reducible first | refine Spl.yes ?_ | refine Spl.no ?_ | refine Spl.dec (fun h => ?_) (fun h => ?_) | refine Spl.eq (fun h => ?_) (fun h => ?_) | refine Spl.ne (fun h => ?_) (fun h => ?_) | refine Spl.seq (fun h => ?_) (fun h => ?_) | refine Spl.not ?_ | refine Spl.any (fun h => ?_) (fun h => ?_))
    | refine drawn_text (by decide +kernel) ?_
    | (rw [rowsN_get (by omega)])
    | (rw [h3])
    | (refine VCalls.mono (hc) ?_; rintro _ rfl)
    | refine And.intro (Nat.le_of_ble_eq_true rfl) ?_
    | ((with_reducible apply And.intro); first | omega | rfl | (dsimp only; omega))))
  all_goals (conv => whnf)
  all_goals exact ⟨(ks.length - (j + 1)).toNat, _, by omega, Wk.narrow _ [1, 2, 5] [2] [], j + 1, rfl, by omega, by omega, rfl⟩
theorem within_c (cnt : Int) : ∀ (k : Nat) (n : Node), n.w ≤ k → n.w ≤ 1000000 → n.all (WithN cnt) → WiC cnt n := by
  intro k
  induction k with
  | zero => intro n h; have := w_pos n; omega
  | succ k ih =>
    intro n hk hw ha
    cases n with
    | mk f ks =>
      rw [Node.w] at hk hw
      rw [Node.all] at ha
      have hl := wN_len ks
      exact within_step cnt f ks (by omega) ha.1 (fun n hn => ih n (by have := wN_mem hn; omega) (by have := wN_mem hn; omega) (allN_mem ha.2 hn))
end Go.Proofs.Ytnoohgiecnmajaa.VC

/- The laws of references: RefsWithin; what stays. -/
namespace Go.Proofs.Ytnoohgiecnmajaa.VC
open Go Go.RowKit
set_option linter.unusedVariables false
set_option linter.unusedSimpArgs false
set_option maxHeartbeats 4000000

theorem resP_at (l : List Int) (cnt : Int) (A : List (ByteArray × Int)) (n : Node) (ha : n.all (RefT l.length)) : (resP cnt A n).e ≠ 0 → (resP cnt A n).e = 34 ∧ 0 ≤ (resP cnt A n).at_ ∧ (resP cnt A n).at_ < l.length := by
  have h := nodeP_at (cnt := cnt) (A := A) n ⟨0, 0, 0⟩ ha (fun h => absurd rfl h)
  unfold resP
  split
  · exact h
  · exact fun h => absurd rfl h
theorem resP_with (l : List Int) (cnt : Int) (A : List (ByteArray × Int)) (n : Node) (ha : n.all (RefT l.length)) (hA : ∀ p ∈ A, 1 ≤ p.2 ∧ p.2 ≤ cnt) (h0 : 0 ≤ cnt) : (resP cnt A n).e = 0 → (resP cnt A n).n.all (WithN cnt) := by
  have h := nodeP_with hA h0 n ⟨0, 0, 0⟩ ha rfl
  unfold resP
  split
  · rename_i q; exact fun h => absurd h q
  · rename_i q; exact fun _ => h (Decidable.not_not.1 q)
mutual
/-- But references nothing changes. -/
def kpN : Node → Node → Prop
  | .mk f ks, .mk g ls => g.kind = f.kind ∧ kpL ks ls ∧ (if f.kind = 7 ∨ f.kind = 8 ∨ f.kind = 19 then g.on = f.on ∧ g.at_ = f.at_ else g = f)
def kpL : List Node → List Node → Prop
  | [], [] => True
  | [], _ :: _ => False
  | _ :: _, [] => False
  | a :: l, b :: m => kpN a b ∧ kpL l m
end
mutual
theorem keep_self : ∀ n : Node, kpN n n
  | .mk f ks => by
    rw [kpN]
    refine ⟨rfl, keepL_self ks, ?_⟩
    split
    · exact ⟨rfl, rfl⟩
    · rfl
theorem keepL_self : ∀ l : List Node, kpL l l
  | [] => by rw [kpL]; trivial
  | k :: l => by rw [kpL]; exact ⟨keep_self k, keepL_self l⟩
end
section
variable {cnt : Int} {A : List (ByteArray × Int)}
theorem condF_keep (s : Rs) (f : NodeF) : (condF cnt A s f).1.on = f.on ∧ (condF cnt A s f).1.at_ = f.at_ := by
  unfold condF setFM
  repeat' split
  all_goals exact ⟨rfl, rfl⟩
theorem headP_keep (f : NodeF) (s : Rs) : if f.kind = 7 ∨ f.kind = 8 ∨ f.kind = 19 then (headP cnt A f s).1.on = f.on ∧ (headP cnt A f s).1.at_ = f.at_ else (headP cnt A f s).1 = f := by
  unfold headP
  by_cases q14 : f.kind = 14
  · rw [if_pos q14, if_neg (by omega)]
  rw [if_neg q14]
  by_cases q7 : f.kind = 7
  · rw [if_pos q7, if_pos (.inl q7)]; exact ⟨rfl, rfl⟩
  rw [if_neg q7]
  by_cases q8 : f.kind = 8
  · rw [if_pos q8, if_pos (.inr (.inl q8))]; exact ⟨rfl, rfl⟩
  rw [if_neg q8]
  by_cases q19 : f.kind = 19
  · rw [if_pos q19, if_pos (.inr (.inr q19))]; exact condF_keep s f
  · rw [if_neg q19, if_neg (by omega)]
mutual
theorem nodeP_keep : ∀ (n : Node) (s : Rs), kpN n (nodeP cnt A n s).1
  | .mk f ks, s => by
    rw [nodeP]
    by_cases q : s.e ≠ 0
    · rw [if_pos q]; exact keep_self _
    rw [if_neg q]
    simp only
    rw [kpN]
    exact ⟨(headP_same f s).1, kidsP_keep ks _ _ _ _, headP_keep f s⟩
theorem kidsP_keep : ∀ (l : List Node) (rs : Bool) (a b : Int) (s : Rs), kpL l (kidsP cnt A l rs a b s).1
  | [], rs, a, b, s => by rw [kidsP, kpL]; trivial
  | k :: l, rs, a, b, s => by rw [kidsP]; simp only; rw [kpL]; exact ⟨nodeP_keep k _, kidsP_keep l _ _ _ _⟩
end
end
theorem keepL_len : ∀ {l m : List Node}, kpL l m → m.length = l.length
  | [], [], _ => rfl
  | [], _ :: _, h => by rw [kpL] at h; exact h.elim
  | _ :: _, [], h => by rw [kpL] at h; exact h.elim
  | a :: l, b :: m, h => by rw [kpL] at h; simp [keepL_len h.2]
theorem keepL_get : ∀ {l m : List Node} {j : Nat}, kpL l m → j < l.length → kpN (l.getD j nodeZ) (m.getD j nodeZ)
  | [], [], j, _, hj => by simp at hj
  | [], _ :: _, j, h, _ => by rw [kpL] at h; exact h.elim
  | _ :: _, [], j, h, _ => by rw [kpL] at h; exact h.elim
  | a :: l, b :: m, 0, h, _ => by rw [kpL] at h; simpa using h.1
  | a :: l, b :: m, j + 1, h, hj => by rw [kpL] at h; simpa using keepL_get h.2 (by simpa using hj)
attribute [local irreducible] numdP resP nodeP
set_option maxHeartbeats 16000000
theorem within10_c (l : List Int) (o : Int) (hb : Bytes l) : VCalls Try.prog 9 [ys l, iv o] (fun r => r = bv true) := by
  have hbl : (byteRows l).length = l.length := by simp [byteRows]
  have hnd := numd_c l o hb
  have hfa := numd_facts l o
  have hres : (numdP l o).2 = true → VCalls Try.prog 31 [(numdP l o).1.n.enc, iv (numdP l o).1.most, ms (numdP l o).1.names] (fun r => r = parE (resP (numdP l o).1.most (numdP l o).1.names (numdP l o).1.n)) := by
    intro h
    obtain ⟨h1, h2, h3, h4, h5, h6, h7, h8⟩ := hfa h
    exact resP_c _ _ _ (by omega) (by omega) h7
  have hat : (numdP l o).2 = true → (resP (numdP l o).1.most (numdP l o).1.names (numdP l o).1.n).e ≠ 0 → (resP (numdP l o).1.most (numdP l o).1.names (numdP l o).1.n).e = 34 ∧ 0 ≤ (resP (numdP l o).1.most (numdP l o).1.names (numdP l o).1.n).at_ ∧ (resP (numdP l o).1.most (numdP l o).1.names (numdP l o).1.n).at_ < l.length := by
    intro h
    obtain ⟨h1, h2, h3, h4, h5, h6, h7, h8⟩ := hfa h
    exact resP_at l _ _ _ h6
  have hwi : (numdP l o).2 = true → (resP (numdP l o).1.most (numdP l o).1.names (numdP l o).1.n).e = 0 → WiC (numdP l o).1.most (resP (numdP l o).1.most (numdP l o).1.names (numdP l o).1.n).n := by
    intro h he
    obtain ⟨h1, h2, h3, h4, h5, h6, h7, h8⟩ := hfa h
    have hok := resP_ok (numdP l o).1.most (numdP l o).1.names (numdP l o).1.n h5
    have h0 := nbN_le (flatP l o).1 0
    exact within_c _ _ _ (Nat.le_refl _) (by omega) (resP_with l _ _ _ h6 h8 (by rw [h2]; omega) he)
  unfold WiC at hwi
  clear hfa
  generalize numdP l o = q at *
  obtain ⟨⟨⟨f1, k1⟩, most, names, e1, at1⟩, ok⟩ := q
  simp only at *
  generalize resP most names (Node.mk f1 k1) = z at *
  obtain ⟨⟨f2, k2⟩, e2, at2⟩ := z
  simp only at *
  refine VCalls.ofr tabOk Try.func9 (by decide) rfl rfl ?_
  refine RWP.of tabOk orders ?_
  repeat' ((conv => whnf); (first
    | (with_reducible first | refine Spl.yes ?_ | refine Spl.no ?_ | refine Spl.dec (fun h => ?_) (fun h => ?_) | refine Spl.eq (fun h => ?_) (fun h => ?_) | refine Spl.ne (fun h => ?_) (fun h => ?_) | refine Spl.seq (fun h => ?_) (fun h => ?_) | refine Spl.not ?_ | refine Spl.any (fun h => ?_) (fun h => ?_))
    | (refine VCalls.mono (awake10_c) ?_; rintro _ rfl)
    | (refine VCalls.mono (hnd) ?_; rintro _ rfl)
    | (refine VCalls.mono (hres (by assumption)) ?_; rintro _ rfl)
    | (refine VCalls.mono (hwi (by assumption) (by assumption)) ?_; rintro _ rfl)
    | refine drawn_text (by decide +kernel) ?_
    | refine And.intro (Nat.le_of_ble_eq_true rfl) ?_
    | ((with_reducible apply And.intro); first | omega | rfl | (dsimp only; omega))))
  all_goals (conv => whnf)
  all_goals first
    | (exfalso; exact absurd rfl (by assumption))
    | rfl
    | (have hok : ok = true := by assumption
       have he : e2 ≠ 0 := by assumption
       obtain ⟨q1, q2, q3⟩ := hat hok he
       exfalso; exact (show ¬ at2 ≥ 0 by assumption) q2)
    | (have hok : ok = true := by assumption
       have he : e2 ≠ 0 := by assumption
       obtain ⟨q1, q2, q3⟩ := hat hok he
       exfalso; exact (show e2 ≠ 34 by assumption) q1)
    | (have hok : ok = true := by assumption
       have he : e2 ≠ 0 := by assumption
       obtain ⟨q1, q2, q3⟩ := hat hok he
       rw [hbl]
       simp only [decide_eq_true q3]
       rfl)
end Go.Proofs.Ytnoohgiecnmajaa.VC

/- The laws of references: RefsKeeps. -/
namespace Go.Proofs.Ytnoohgiecnmajaa.VC
open Go Go.RowKit
set_option linter.unusedVariables false
set_option linter.unusedSimpArgs false
set_option maxHeartbeats 4000000

attribute [local irreducible] numdP resP nodeP kpN kpL
def KpC (a b : Node) : Prop := VCalls Try.prog 36 [a.enc, b.enc] (fun r => r = bv true)
set_option maxHeartbeats 16000000
theorem keeps_step (f g : NodeF) (ks ls : List Node) (hk : ks.length ≤ 1000000) (hset : f.set.length ≤ 4000000000) (hkind : g.kind = f.kind) (hlen : ls.length = ks.length) (hfg : if f.kind = 7 ∨ f.kind = 8 ∨ f.kind = 19 then g.on = f.on ∧ g.at_ = f.at_ else g = f)
    (ih : ∀ j : Int, 0 ≤ j → j < ks.length → KpC (rdn ks j) (rdn ls j)) : KpC (.mk f ks) (.mk g ls) := by
  have hn := rowsN_len ks
  have hn2 := rowsN_len ls
  have hsm := same_c 1 (Node.mk f []) (by rw [Node.w, wN]; omega) (by rw [Node.w, wN]; omega) (by rw [Node.all, allN]; exact ⟨hset, trivial⟩)
  unfold SmC at hsm
  refine VCalls.ofr tabOk Try.func36 (by decide) rfl rfl ?_
  refine RWP.seqx tabOk orders ?_
  conv => whnf
  refine RWP.cut (fun st => st = ⟨78, [(2, .ptr 2 0), (3, .ptr 3 0)], [(2, (27, nfe f ks)), (3, (27, nfe g ls))], [], []⟩) tabOk orders ?_ ?_
  · repeat' ((conv => whnf); (first
    | (with_reducible first | refine Spl.yes ?_ | refine Spl.no ?_ | refine Spl.dec (fun h => ?_) (fun h => ?_) | refine Spl.eq (fun h => ?_) (fun h => ?_) | refine Spl.ne (fun h => ?_) (fun h => ?_) | refine Spl.seq (fun h => ?_) (fun h => ?_) | refine Spl.not ?_ | refine Spl.any (fun h => ?_) (fun h => ?_))
    | refine drawn_text (by decide +kernel) ?_
    | ((with_reducible apply And.intro); first | omega | rfl | (dsimp only; omega))))
    all_goals (conv => whnf)
    all_goals first
      | (exfalso; exact absurd hkind.symm (by assumption))
      | (exfalso; omega)
      | exact ⟨_, Wk.narrow _ [2, 3] [2, 3] [], rfl⟩
  rintro _ rfl
  refine RWP.seq ?_
  refine RWP.seqx tabOk orders ?_
  conv => whnf
  refine RWP.block ?_
  refine RWP.loop (fun k st => ∃ (j : Int), st = ⟨78, [(2, .ptr 2 0), (3, .ptr 3 0), (5, .pv (iv j))], [(2, (27, nfe f ks)), (3, (27, nfe g ls))], [], []⟩ ∧ 0 ≤ j ∧ j ≤ ks.length ∧ k = (ks.length - j).toNat)
    ⟨_, _, Wk.narrow _ [2, 3, 5] [2, 3] [], 0, rfl, by omega, by omega, rfl⟩ ?_
  rintro k st ⟨j, rfl, hj0, hj1, hk⟩
  refine RWP.seqx tabOk orders ?_
  repeat' ((conv => whnf); (first
    | (with_reducible first | refine Spl.yes ?_ | refine Spl.no ?_ | refine Spl.dec (fun h => ?_) (fun h => ?_) | refine Spl.eq (fun h => ?_) (fun h => ?_) | refine Spl.ne (fun h => ?_) (fun h => ?_) | refine Spl.seq (fun h => ?_) (fun h => ?_) | refine Spl.not ?_ | refine Spl.any (fun h => ?_) (fun h => ?_))
    | ((with_reducible apply And.intro); first | omega | rfl | (dsimp only; omega))))
  all_goals (conv => whnf)
  rotate_left
  · refine RWP.weak (Wk.narrow _ [2, 3] [2, 3] []) ?_
    by_cases q : f.kind = 7 ∨ f.kind = 8 ∨ f.kind = 19
    · rw [if_pos q] at hfg
      obtain ⟨h1, h2⟩ := hfg
      refine RWP.of tabOk orders ?_
      repeat' ((conv => whnf); (first
    | (with_reducible first | refine Spl.yes ?_ | refine Spl.no ?_ | refine Spl.dec (fun h => ?_) (fun h => ?_) | refine Spl.eq (fun h => ?_) (fun h => ?_) | refine Spl.ne (fun h => ?_) (fun h => ?_) | refine Spl.seq (fun h => ?_) (fun h => ?_) | refine Spl.not ?_ | refine Spl.any (fun h => ?_) (fun h => ?_))
    | (refine VCalls.mono (hsm) ?_; rintro _ rfl)
    | refine drawn_text (by decide +kernel) ?_
    | refine And.intro (Nat.le_of_ble_eq_true rfl) ?_
    | ((with_reducible apply And.intro); first | omega | rfl | (dsimp only; omega))))
      all_goals (conv => whnf)
      all_goals first
        | (exfalso; omega)
        | (exfalso; exact absurd h1.symm (by assumption))
        | (rw [h2]; simp only [beq_self_eq_true]; rfl)
        | rfl
    · rw [if_neg q] at hfg
      subst hfg
      refine RWP.of tabOk orders ?_
      repeat' ((conv => whnf); (first
    | (with_reducible first | refine Spl.yes ?_ | refine Spl.no ?_ | refine Spl.dec (fun h => ?_) (fun h => ?_) | refine Spl.eq (fun h => ?_) (fun h => ?_) | refine Spl.ne (fun h => ?_) (fun h => ?_) | refine Spl.seq (fun h => ?_) (fun h => ?_) | refine Spl.not ?_ | refine Spl.any (fun h => ?_) (fun h => ?_))
    | (refine VCalls.mono (hsm) ?_; rintro _ rfl)
    | refine drawn_text (by decide +kernel) ?_
    | refine And.intro (Nat.le_of_ble_eq_true rfl) ?_
    | ((with_reducible apply And.intro); first | omega | rfl | (dsimp only; omega))))
      all_goals (conv => whnf)
      all_goals first
        | (exfalso; omega)
        | rfl
        | (simp only [beq_self_eq_true]; rfl)
  have hc := ih j hj0 (by omega)
  unfold KpC at hc
  obtain ⟨f3, k3, h3⟩ := (rdn ks j).ex
  obtain ⟨f4, k4, h4⟩ := (rdn ls j).ex
  rw [h3, h4] at hc
  refine RWP.of tabOk orders ?_
  repeat' ((conv => whnf); (first
    | (with_reducible first | refine Spl.yes ?_ | refine Spl.no ?_ | refine Spl.dec (fun h => ?_) (fun h => ?_) | refine Spl.eq (fun h => ?_) (fun h => ?_) | refine Spl.ne (fun h => ?_) (fun h => ?_) | refine Spl.seq (fun h => ?_) (fun h => ?_) | refine Spl.not ?_ | refine Spl.any (fun h => ?_) (fun h => ?_))
    | refine drawn_text (by decide +kernel) ?_
    | (rw [rowsN_get (show j.toNat < ks.length by omega)])
    | (rw [rowsN_get (show j.toNat < ls.length by omega)])
    | (rw [h3])
    | (rw [h4])
    | (refine VCalls.mono (hc) ?_; rintro _ rfl)
    | refine And.intro (Nat.le_of_ble_eq_true rfl) ?_
    | ((with_reducible apply And.intro); first | omega | rfl | (dsimp only; omega))))
  all_goals (conv => whnf)
  all_goals first
    | exact ⟨(ks.length - (j + 1)).toNat, _, by omega, Wk.narrow _ [2, 3, 5] [2, 3] [], j + 1, rfl, by omega, by omega, rfl⟩
theorem keeps_c : ∀ (k : Nat) (a b : Node), a.w ≤ k → a.w ≤ 1000000 → a.all SetOk → kpN a b → KpC a b := by
  intro k
  induction k with
  | zero => intro a b h; have := w_pos a; omega
  | succ k ih =>
    intro a b hk hw ha hab
    cases a with
    | mk f ks =>
      cases b with
      | mk g ls =>
        rw [Node.w] at hk hw
        rw [Node.all] at ha
        rw [kpN] at hab
        obtain ⟨h1, h2, h3⟩ := hab
        have hl := wN_len ks
        refine keeps_step f g ks ls (by omega) ha.1 h1 (keepL_len h2) h3 (fun j h0 hj => ?_)
        have hm := rdn_mem (l := ks) (j := j) (by omega)
        have hwm := wN_mem hm
        exact ih (rdn ks j) (rdn ls j) (by omega) (by omega) (allN_mem ha.2 hm) (keepL_get h2 (by omega))
theorem resP_keep (cnt : Int) (A : List (ByteArray × Int)) (n : Node) : ((resP cnt A n).e = 0 → kpN n (resP cnt A n).n) ∧ ((resP cnt A n).e ≠ 0 → (resP cnt A n).n = nodeZ) := by
  have h := nodeP_keep (cnt := cnt) (A := A) n ⟨0, 0, 0⟩
  unfold resP
  by_cases q : (nodeP cnt A n ⟨0, 0, 0⟩).2.e ≠ 0
  · rw [if_pos q]; exact ⟨fun hh => absurd hh q, fun _ => rfl⟩
  · rw [if_neg q]; exact ⟨fun _ => h, fun hh => absurd rfl hh⟩
theorem keeps10_c (l : List Int) (o : Int) (hb : Bytes l) : VCalls Try.prog 12 [ys l, iv o] (fun r => r = bv true) := by
  have hnd := numd_c l o hb
  have hfa := numd_facts l o
  have hres : (numdP l o).2 = true → VCalls Try.prog 31 [(numdP l o).1.n.enc, iv (numdP l o).1.most, ms (numdP l o).1.names] (fun r => r = parE (resP (numdP l o).1.most (numdP l o).1.names (numdP l o).1.n)) := by
    intro h
    obtain ⟨h1, h2, h3, h4, h5, h6, h7, h8⟩ := hfa h
    exact resP_c _ _ _ (by omega) (by omega) h7
  have hkp : (numdP l o).2 = true → (resP (numdP l o).1.most (numdP l o).1.names (numdP l o).1.n).e = 0 → KpC (numdP l o).1.n (resP (numdP l o).1.most (numdP l o).1.names (numdP l o).1.n).n := by
    intro h he
    obtain ⟨h1, h2, h3, h4, h5, h6, h7, h8⟩ := hfa h
    exact keeps_c _ _ _ (Nat.le_refl _) (by omega) h5 ((resP_keep _ _ _).1 he)
  have hz : (resP (numdP l o).1.most (numdP l o).1.names (numdP l o).1.n).e ≠ 0 → (resP (numdP l o).1.most (numdP l o).1.names (numdP l o).1.n).n.f.kind = 0 := by
    intro he
    rw [(resP_keep _ _ _).2 he]
    rfl
  unfold KpC at hkp
  clear hfa
  generalize numdP l o = q at *
  obtain ⟨⟨⟨f1, k1⟩, most, names, e1, at1⟩, ok⟩ := q
  simp only at *
  generalize resP most names (Node.mk f1 k1) = z at *
  obtain ⟨⟨f2, k2⟩, e2, at2⟩ := z
  simp only at *
  refine VCalls.ofr tabOk Try.func12 (by decide) rfl rfl ?_
  refine RWP.of tabOk orders ?_
  repeat' ((conv => whnf); (first
    | (with_reducible first | refine Spl.yes ?_ | refine Spl.no ?_ | refine Spl.dec (fun h => ?_) (fun h => ?_) | refine Spl.eq (fun h => ?_) (fun h => ?_) | refine Spl.ne (fun h => ?_) (fun h => ?_) | refine Spl.seq (fun h => ?_) (fun h => ?_) | refine Spl.not ?_ | refine Spl.any (fun h => ?_) (fun h => ?_))
    | (refine VCalls.mono (awake10_c) ?_; rintro _ rfl)
    | (refine VCalls.mono (hnd) ?_; rintro _ rfl)
    | (refine VCalls.mono (hres (by assumption)) ?_; rintro _ rfl)
    | (refine VCalls.mono (hkp (by assumption) (by assumption)) ?_; rintro _ rfl)
    | refine drawn_text (by decide +kernel) ?_
    | refine And.intro (Nat.le_of_ble_eq_true rfl) ?_
    | ((with_reducible apply And.intro); first | omega | rfl | (dsimp only; omega))))
  all_goals (conv => whnf)
  all_goals first
    | (exfalso; exact absurd rfl (by assumption))
    | rfl
    | (exfalso; exact absurd (show e2 = 0 by assumption) (by assumption))
    | (have he : e2 ≠ 0 := by assumption
       have hz : f2.kind = 0 := hz he
       exfalso; exact absurd hz (by assumption))
end Go.Proofs.Ytnoohgiecnmajaa.VC

/- Texts with references by numbers: their tokens (plain). -/
namespace Go.Proofs.Ytnoohgiecnmajaa.VC
open Go Go.RowKit
set_option linter.unusedVariables false
set_option linter.unusedSimpArgs false
set_option maxHeartbeats 4000000

def dig (k : Int) : List Int := if k < 10 then [48 + k] else [48 + k / 10, 48 + k % 10]
theorem isP_ne {s : ByteArray} {i c : Int} {r : List Int} (h0 : 0 ≤ i) (h : (numsOf s).drop i.toNat = c :: r) {t : ByteArray} (c0 : Int) (l0 : List Int) (ht : numsOf t = c0 :: l0) (hne : c0 ≠ c) : isP s i t = false := by
  have hts : t.size ≠ 0 := by rw [← numsOf_len, ht]; simp
  rw [isP_pre _ _ _ h0 hts, h, ht]
  simp [List.isPrefixOf, hne]
theorem isP_eq {s : ByteArray} {i c : Int} {r : List Int} (h0 : 0 ≤ i) (h : (numsOf s).drop i.toNat = c :: r) {t : ByteArray} (ht : numsOf t = [c]) : isP s i t = true := by
  have hts : t.size ≠ 0 := by rw [← numsOf_len, ht]; simp
  rw [isP_pre _ _ _ h0 hts, h, ht]
  simp [List.isPrefixOf]
theorem digitP_no {c : Int} (h : c < 48 ∨ c > 57) : digitP c = false := by
  unfold digitP
  rw [Bool.and_eq_false_iff]
  rcases h with h | h
  · exact .inl (decide_eq_false (by omega))
  · exact .inr (decide_eq_false (by omega))
theorem digitP_yes {c : Int} (h : 48 ≤ c ∧ c ≤ 57) : digitP c = true := by
  unfold digitP
  rw [decide_eq_true h.1, decide_eq_true h.2]; rfl
theorem numL_stop {s : ByteArray} {k : Nat} {n i c : Int} {g : Bool} {r : List Int} (h0 : 0 ≤ i) (h : (numsOf s).drop i.toNat = c :: r) (hc : digitP c = false) : numL s k n g i = (n, i, g) := by
  obtain ⟨h1, h2, h3⟩ := byte_drop h0 h
  cases k with
  | zero => rw [numL]
  | succ k => rw [numL, if_neg (by rw [h1, hc]; simp)]
theorem numL_go {s : ByteArray} {k : Nat} {n i c : Int} {g : Bool} {r : List Int} (h0 : 0 ≤ i) (h : (numsOf s).drop i.toNat = c :: r) (hc : digitP c = true) (hn : n * 10 + c - 48 ≤ 255) : numL s (k + 1) n g i = numL s k (n * 10 + c - 48) g (i + 1) := by
  obtain ⟨h1, h2, h3⟩ := byte_drop h0 h
  rw [numL, if_pos ⟨h2, by rw [h1]; exact hc⟩, h1, if_neg (by omega)]
theorem dig_len (k : Int) : ((dig k).length : Int) = if k < 10 then 1 else 2 := by
  unfold dig
  split <;> rfl
/-- The number that digits spell. -/
theorem num_dig {s : ByteArray} {i k c : Int} {r : List Int} (h0 : 0 ≤ i) (hk : 0 ≤ k ∧ k < 100) (h : (numsOf s).drop i.toNat = dig k ++ c :: r) (hc : digitP c = false) :
    numP s i = (k, i + (dig k).length, false) ∧ (numsOf s).drop (i + (dig k).length).toNat = c :: r := by
  unfold numP
  unfold dig at h ⊢
  by_cases q : k < 10
  · rw [if_pos q] at h ⊢
    rw [List.cons_append, List.nil_append] at h
    obtain ⟨h1, h2, h3⟩ := byte_drop h0 h
    obtain ⟨f, hf⟩ : ∃ f, ((s.size : Int) - i).toNat = f + 1 := ⟨((s.size : Int) - i).toNat - 1, by omega⟩
    rw [hf, numL_go h0 h (digitP_yes (by omega)) (by omega), numL_stop (by omega) h3 hc]
    refine ⟨?_, h3⟩
    show (0 * 10 + (48 + k) - 48, i + 1, false) = (k, i + 1, false)
    rw [show 0 * 10 + (48 + k) - 48 = k by omega]
  · rw [if_neg q] at h ⊢
    rw [List.cons_append, List.cons_append, List.nil_append] at h
    obtain ⟨h1, h2, h3⟩ := byte_drop h0 h
    obtain ⟨h4, h5, h6⟩ := byte_drop (by omega) h3
    obtain ⟨f, hf⟩ : ∃ f, ((s.size : Int) - i).toNat = f + 1 + 1 := ⟨((s.size : Int) - i).toNat - 2, by omega⟩
    rw [hf, numL_go h0 h (digitP_yes (by omega)) (by omega), numL_go (by omega) h3 (digitP_yes (by omega)) (by omega), numL_stop (by omega) h6 hc]
    refine ⟨?_, ?_⟩
    · show ((0 * 10 + (48 + k / 10) - 48) * 10 + (48 + k % 10) - 48, i + 1 + 1, false) = (k, i + 2, false)
      rw [show (0 * 10 + (48 + k / 10) - 48) * 10 + (48 + k % 10) - 48 = k by omega, show i + 1 + 1 = i + 2 by omega]
    · show (numsOf s).drop (i + 2).toNat = c :: r
      rw [show i + 2 = i + 1 + 1 by omega]; exact h6
theorem dig_head {k : Int} (hk : 0 ≤ k ∧ k < 100) : ∃ d l, dig k = d :: l ∧ 48 ≤ d ∧ d ≤ 57 := by
  unfold dig
  split
  · exact ⟨_, _, rfl, by omega, by omega⟩
  · exact ⟨_, _, rfl, by omega, by omega⟩
theorem dig_pos {k : Int} : (1 : Int) ≤ (dig k).length := by rw [dig_len]; split <;> omega
theorem signed_abs {s : ByteArray} {i k c : Int} {r : List Int} (h0 : 0 ≤ i) (hk : 0 ≤ k ∧ k < 100) (h : (numsOf s).drop i.toNat = dig k ++ c :: r) (hc : digitP c = false) : signedP s i = (k, 0, i + (dig k).length, false) := by
  obtain ⟨d, l, hd, hd0, hd1⟩ := dig_head hk
  have h' := h
  rw [hd, List.cons_append] at h'
  have hn := (num_dig h0 hk h hc).1
  have hp := dig_pos (k := k)
  unfold signedP
  rw [isP_ne h0 h' (t := bs [45]) 45 [] rfl (by omega), isP_ne h0 h' (t := bs [43]) 43 [] rfl (by omega)]
  simp only [Bool.false_eq_true, if_false]
  rw [hn]
  rw [if_neg (by show ¬ i + ((dig k).length : Int) = i; omega)]
theorem signed_of {s : ByteArray} {i k c b m : Int} {r : List Int} (h0 : 0 ≤ i) (hk : 0 ≤ k ∧ k < 100) (hb : b = 45 ∧ m = 1 ∨ b = 43 ∧ m = 2) (h : (numsOf s).drop i.toNat = b :: (dig k ++ c :: r)) (hc : digitP c = false) : signedP s i = (k, m, i + 1 + (dig k).length, false) := by
  have h3 := (byte_drop h0 h).2.2
  have hn := (num_dig (by omega) hk h3 hc).1
  have hp := dig_pos (k := k)
  unfold signedP
  rcases hb with ⟨rfl, rfl⟩ | ⟨rfl, rfl⟩
  · rw [isP_eq h0 h (t := bs [45]) rfl]
    simp only [if_true]
    rw [hn]
    rw [if_neg (by show ¬ i + 1 + ((dig k).length : Int) = i + 1; omega)]
  · rw [isP_ne h0 h (t := bs [45]) 45 [] rfl (by omega), isP_eq h0 h (t := bs [43]) rfl]
    simp only [Bool.false_eq_true, if_false, if_true]
    rw [hn]
    rw [if_neg (by show ¬ i + 1 + ((dig k).length : Int) = i + 1; omega)]
/-- A reference in braces. -/
theorem refer_drop {x : Text} {a i k m : Int} {w r : List Int} (h0 : 0 ≤ i) (hk : 1 ≤ k ∧ k < 100) (h : (numsOf x.s).drop i.toNat = 123 :: (w ++ 125 :: r)) (hs : signedP x.s (i + 1) = (k, m, i + 1 + w.length, false)) (hw : 1 ≤ w.length) :
    referP x a i = tokG { tokZ with kind := 11, n := k, m := m } a (i + 1 + w.length + 1) := by
  have hc : (bs [125]).size = 1 := rfl
  have e1 : referK x.s i = (11, bs [125]) := by
    unfold referK
    rw [isP_eq h0 h (t := bs [123]) rfl, isP_ne h0 h (t := bs [60]) 60 [] rfl (by decide), isP_ne h0 h (t := bs [39]) 39 [] rfl (by decide)]
    simp
  have h3 := (byte_drop h0 h).2.2
  have h4 : (numsOf x.s).drop (i + 1 + w.length).toNat = 125 :: r := by
    rw [show (i + 1 + (w.length : Int)).toNat = (i + 1).toNat + w.length by omega, ← List.drop_drop, h3]
    try simp
  unfold referP
  rw [e1]
  simp only
  rw [hc]
  simp only [Int.natCast_one]
  rw [hs]
  simp only
  rw [if_neg (by decide), if_pos (by omega), isP_eq (by omega) h4 (t := bs [125]) rfl, if_neg (by decide), if_neg (by omega)]
theorem esc_g {x : Text} {i : Int} {c : Int} {r : List Int} (hu : x.utf = false) (h0 : 0 ≤ i) (h : (numsOf x.s).drop i.toNat = 92 :: 103 :: c :: r) : escapeP x i = referP x i (i + 1 + 1) ∧ isP x.s i (bs [92, 81]) = false := by
  have h1 := byte_drop h0 h
  have h2 := byte_drop (by omega) h1.2.2
  have hch := charP_drop hu (by omega) h1.2.2
  refine ⟨?_, ?_⟩
  · unfold escapeP
    rw [if_neg (by omega), hch]
    rfl
  · rw [isP_pre _ _ _ h0 (by decide), h]
    show (List.isPrefixOf [92, 81] (92 :: 103 :: c :: r)) = false
    simp [List.isPrefixOf]
/-- A step of the lexer at a backslash. -/
theorem lex_esc {x : Text} {k : Nat} {i c : Int} {r : List Int} {out : List Tok} {t : Tok} {b : Int} (hu : x.utf = false) (hx : x.x = false) (h0 : 0 ≤ i) (h : (numsOf x.s).drop i.toNat = 92 :: 103 :: c :: r) (ht : referP x i (i + 1 + 1) = tokG t i b) :
    lexGo x (k + 1) i false out = lexGo x k b false (out ++ [{ t with at_ := i, to := b }]) := by
  obtain ⟨h1, h2, h3⟩ := byte_drop h0 h
  have hch := charP_drop hu h0 h
  obtain ⟨he, hq⟩ := esc_g hu h0 h
  have htk : tokenP x i = tokG t i b := by
    unfold tokenP
    rw [if_neg (by rw [hx]; simp), hch]
    show tokC x i 92 (i + 1) = _
    unfold tokC
    rw [if_pos rfl, he, ht]
  rw [lexGo, if_pos h2, if_neg (by simp), if_neg (by rw [hq]; simp), htk, if_neg (by unfold tokG; simp), if_pos (by unfold tokG; rfl)]
  rfl
/-- A call by a number. -/
theorem call_drop {x : Text} {i d k m : Int} {w l r : List Int} (h0 : 0 ≤ i) (hk : 1 ≤ k ∧ k < 100) (h : (numsOf x.s).drop i.toNat = 40 :: 63 :: (w ++ 41 :: r)) (hw : w = d :: l) (hd : d = 43 ∨ 48 ≤ d ∧ d ≤ 57) (hs : signedP x.s (i + 2) = (k, m, i + 2 + w.length, false)) :
    openP x i = tokG { tokZ with kind := 12, n := k, m := m } i (i + 2 + w.length + 1) := by
  have h1 := byte_drop h0 h
  have h2 := byte_drop (by omega) h1.2.2
  rw [show i + 1 + 1 = i + 2 by omega] at h2
  have h3 := h2.2.2
  have h3' := h3
  rw [hw, List.cons_append] at h3'
  have b3 := byte_drop (by omega) h3'
  have h4 : (numsOf x.s).drop (i + 2 + w.length).toNat = 41 :: r := by
    rw [show (i + 2 + (w.length : Int)).toNat = (i + 2).toNat + w.length by omega, ← List.drop_drop, h3]
    simp
  have hl : (1 : Int) ≤ w.length := by rw [hw, List.length_cons]; omega
  have ne : ∀ (t : ByteArray) (c0 : Int) (l0 : List Int), numsOf t = c0 :: l0 → c0 ≠ d → isP x.s (i + 2) t = false := fun t c0 l0 q1 q2 => isP_ne (by omega) h3' c0 l0 q1 q2
  unfold openP
  rw [isP_ne (by omega) h1.2.2 (t := bs [42]) 42 [] rfl (by decide), isP_eq (by omega) h1.2.2 (t := bs [63]) rfl, if_neg (by decide), if_neg (by decide), if_neg (by omega)]
  unfold openList
  rw [openL, ne _ 58 [] rfl (by omega), if_neg (by decide), openL, ne _ 124 [] rfl (by omega), if_neg (by decide), openL, ne _ 62 [] rfl (by omega), if_neg (by decide), openL, ne _ 61 [] rfl (by omega), if_neg (by decide),
    openL, ne _ 33 [] rfl (by omega), if_neg (by decide), openL, ne _ 60 [61] rfl (by omega), if_neg (by decide), openL, ne _ 60 [33] rfl (by omega), if_neg (by decide), openL]
  unfold openRest
  rw [ne _ 35 [] rfl (by omega), if_neg (by decide), ne _ 80 [60] rfl (by omega), if_neg (by decide), ne _ 60 [] rfl (by omega), if_neg (by decide), ne _ 39 [] rfl (by omega), if_neg (by decide), ne _ 80 [61] rfl (by omega), if_neg (by decide),
    ne _ 80 [62] rfl (by omega), if_neg (by decide), ne _ 38 [] rfl (by omega), if_neg (by decide), ne _ 82 [] rfl (by omega), if_neg (by decide), ne _ 67 [] rfl (by omega), if_neg (by decide), ne _ 40 [] rfl (by omega), if_neg (by decide)]
  unfold openTail
  rw [b3.1, if_pos (by rcases hd with q | q
                       · exact .inl q
                       · exact .inr (.inl (digitP_yes q))), hs]
  simp only
  rw [if_neg (by decide), if_neg (by omega), if_neg (by omega)]
  unfold shutP
  rw [isP_eq (by omega) h4 (t := bs [41]) rfl, if_pos rfl]
  rfl
end Go.Proofs.Ytnoohgiecnmajaa.VC

/- Texts with references by numbers: their trees (plain). -/
namespace Go.Proofs.Ytnoohgiecnmajaa.VC
open Go Go.RowKit
set_option linter.unusedVariables false
set_option linter.unusedSimpArgs false
set_option maxHeartbeats 4000000

def tkB (kind k m a b : Int) : Tok := { tokZ with kind := kind, n := k, m := m, at_ := a, to := b }
/-- A thing that is one token. -/
theorem leaf_step {L : List Tok} {i op a : Int} {f : Nat} {l : List Node} {t : Tok} {R : List Tok} (h0 : 0 ≤ i) (h : L.drop i.toNat = t :: R) (ht : t.kind = 11 ∨ t.kind = 12) (hR : NoQ R) :
    seqGo L (f + 2) ⟨i, op, 0, a⟩ l = seqGo L (f + 1) ⟨i + 1, op, 0, a⟩ (l ++ [leafN t]) := by
  obtain ⟨r1, l1, d1⟩ := rdt_drop h0 h
  have k1 : kindP L ⟨i, op, 0, a⟩ = t.kind := kind_drop h0 h
  have k4 : kindP L ⟨i + 1, op, 0, a⟩ ≠ 9 := kind_noQ (by omega) hR d1
  have t1 : thingF L (f + 1) ⟨i, op, 0, a⟩ = (leafN t, ⟨i + 1, op, 0, a⟩) := by
    rw [thingF]
    simp only
    rw [r1, if_pos (by omega)]
  have sQ : quantN L (thingF L (f + 1) ⟨i, op, 0, a⟩) = (leafN t, ⟨i + 1, op, 0, a⟩) := by
    rw [t1]
    unfold quantN
    simp only
    rw [if_neg k4]
  rw [seqGo, k1, if_neg (by omega), if_neg (by omega), sQ]
/-- From the sequence to the tree. -/
theorem parse_seq {L : List Tok} {l : List Node} {e : Int} (h : seqGo L (4 * L.length + 1) par0 [] = (oneN 12 l, ⟨L.length, 0, 0, 0⟩)) : parseP L e = ⟨oneN 13 [oneN 12 l], 0, 0⟩ := by
  have hend : kindP L ⟨L.length, 0, 0, 0⟩ = 0 := by
    unfold kindP
    rw [if_pos (by show (L.length : Int) ≥ L.length; omega)]
  have ha : altF L (parFuel L) par0 = ([oneN 12 l], ⟨L.length, 0, 0, 0⟩) := by
    unfold parFuel
    rw [altF, h]
    simp only
    cases hf : 4 * L.length + 1 with
    | zero => omega
    | succ f => rw [altGo, hend, if_neg (by decide)]
  have hd : parDone L ⟨L.length, 0, 0, 0⟩ = ⟨L.length, 0, 0, 0⟩ := by
    unfold parDone
    rw [if_neg]
    rintro ⟨_, q⟩
    have q : (L.length : Int) < L.length := q
    omega
  unfold parseP
  rw [ha]
  simp only
  rw [hd, if_neg (show ¬ (0 : Int) = 20 by decide), if_neg (show ¬ (0 : Int) ≠ 0 by decide)]
theorem seq_end {L : List Tok} {f : Nat} {l : List Node} {i op a : Int} (h : i = L.length) : seqGo L (f + 1) ⟨i, op, 0, a⟩ l = (oneN 12 l, ⟨i, op, 0, a⟩) := by
  have hend : kindP L ⟨i, op, 0, a⟩ = 0 := by
    unfold kindP
    rw [if_pos (by show i ≥ L.length; omega)]
  rw [seqGo, hend, if_pos (.inl rfl)]
/-- Groups, and a reference behind them. -/
theorem parse_back (n : Nat) (t : Tok) (e : Int) (ht : t.kind = 11 ∨ t.kind = 12) : parseP (gToks 0 n ++ [t]) e = ⟨oneN 13 [oneN 12 (capsG 0 n ++ [leafN t])], 0, 0⟩ := by
  have hl := gToks_len 0 n
  have hlen : (gToks 0 n ++ [t]).length = 3 * n + 1 := by rw [List.length_append, hl]; rfl
  have hN : NoQ [t] := fun t' r e => by
    simp only [List.cons.injEq] at e
    rw [← e.1]; omega
  apply parse_seq
  rw [hlen]
  cases n with
  | zero =>
    have h1 := leaf_step (L := gToks 0 0 ++ [t]) (i := 0) (op := 0) (a := 0) (f := 3) (l := []) (t := t) (R := []) (by decide) rfl ht (fun t r e => by cases e)
    refine Eq.trans h1 ?_
    rw [seq_end (by rfl)]
    rfl
  | succ n =>
    have h := seq_groups (L := gToks 0 (n + 1) ++ [t]) (op := 0) (a := 0) (by decide) (n + 1) 0 0 (11 * n + 9) [] [t] (by decide) rfl hN
    rw [show 4 * (3 * (n + 1) + 1) + 1 = 11 * n + 9 + 7 + (n + 1) by omega]
    refine Eq.trans h.1 ?_
    have h1 := leaf_step (L := gToks 0 (n + 1) ++ [t]) (i := 0 + 3 * ((n + 1 : Nat) : Int)) (op := 0) (a := 0) (f := 11 * n + 14) (l := [] ++ capsG 0 (n + 1)) (t := t) (R := []) (by omega) h.2 ht (fun t r e => by cases e)
    rw [show 11 * n + 9 + 7 = 11 * n + 14 + 2 by omega]
    refine Eq.trans h1 ?_
    rw [seq_end (by rw [hlen]; omega)]
    refine Prod.ext rfl ?_
    show (⟨0 + 3 * ((n + 1 : Nat) : Int) + 1, 0, 0, 0⟩ : Par) = ⟨((3 * (n + 1) + 1 : Nat) : Int), 0, 0, 0⟩
    rw [show 0 + 3 * ((n + 1 : Nat) : Int) + 1 = ((3 * (n + 1) + 1 : Nat) : Int) by omega]
/-- A call, and groups behind it. -/
theorem parse_forth (n : Nat) (t : Tok) (j e : Int) (ht : t.kind = 11 ∨ t.kind = 12) : parseP (t :: gToks j n) e = ⟨oneN 13 [oneN 12 (leafN t :: capsG j n)], 0, 0⟩ := by
  have hl := gToks_len j n
  have hlen : (t :: gToks j n).length = 3 * n + 1 := by rw [List.length_cons, hl]
  have hN : NoQ (gToks j n) := fun t' r e => by
    cases n with
    | zero => rw [gToks] at e; cases e
    | succ n =>
      rw [gToks] at e
      simp only [List.cons.injEq] at e
      rw [← e.1]; show (10 : Int) ≠ 9; decide
  apply parse_seq
  rw [hlen]
  have h1 := leaf_step (L := t :: gToks j n) (i := 0) (op := 0) (a := 0) (f := 12 * n + 3) (l := []) (t := t) (R := gToks j n) (by decide) rfl ht hN
  rw [show 4 * (3 * n + 1) + 1 = 12 * n + 3 + 2 by omega]
  refine Eq.trans h1 ?_
  cases n with
  | zero =>
    rw [seq_end (by rfl)]
    rfl
  | succ n =>
    have h := seq_groups (L := t :: gToks j (n + 1)) (op := 0) (a := 0) (by decide) (n + 1) (0 + 1) j (11 * n + 8) ([] ++ [leafN t]) [] (by decide) (by show gToks j (n + 1) = _; rw [List.append_nil]) (fun t r e => by cases e)
    rw [show 12 * (n + 1) + 3 + 1 = 11 * n + 8 + 7 + (n + 1) by omega]
    refine Eq.trans h.1 ?_
    rw [show 11 * n + 8 + 7 = 11 * n + 14 + 1 by omega, seq_end (by rw [hlen]; omega)]
    refine Prod.ext rfl ?_
    show (⟨0 + 1 + 3 * ((n + 1 : Nat) : Int), 0, 0, 0⟩ : Par) = ⟨((3 * (n + 1) + 1 : Nat) : Int), 0, 0, 0⟩
    rw [show 0 + 1 + 3 * ((n + 1 : Nat) : Int) = ((3 * (n + 1) + 1 : Nat) : Int) by omega]
theorem text0 (l : List Int) : textOf l 0 = ⟨strOfNums l, false, false, 255⟩ := by
  unfold textOf
  rw [show bAnd 0 32 = 0 by decide, show bAnd 0 8 = 0 by decide]
  rfl
theorem lexP0 {l : List Int} (hl : l.length ≤ 1000) : lexP l 0 = lexGo ⟨strOfNums l, false, false, 255⟩ (l.length + 1) 0 false [] := by
  unfold lexP
  rw [if_neg (by decide), if_neg (by decide), if_neg (by omega), show bAnd 0 32 = 0 by decide, if_neg (by decide), text0]
  simp only
  rw [strOf_size]
theorem dig_bytes {k : Int} (hk : 0 ≤ k ∧ k < 100) : Bytes (dig k) := by
  intro x hx
  unfold dig at hx
  split at hx
  · simp only [List.mem_cons, List.mem_nil_iff, or_false] at hx; omega
  · simp only [List.mem_cons, List.mem_nil_iff, or_false] at hx; omega
theorem Bytes.app {a b : List Int} (ha : Bytes a) (hb : Bytes b) : Bytes (a ++ b) := by
  intro x hx
  rcases List.mem_append.1 hx with h | h
  · exact ha x h
  · exact hb x h
/-- The tokens of groups and a reference in braces behind them. -/
theorem lex_back (n : Nat) (hn : n ≤ 100) (k m : Int) (w : List Int) (hk : 1 ≤ k ∧ k < 100) (hw : 1 ≤ w.length) (hw2 : w.length ≤ 10) (hb : Bytes w)
    (hs : ∀ (s : ByteArray) (i : Int), 0 ≤ i → (numsOf s).drop i.toNat = w ++ [125] → signedP s i = (k, m, i + w.length, false)) :
    lexP (fullPat n ++ (92 :: 103 :: 123 :: (w ++ [125]))) 0 = ⟨gToks 0 n ++ [tkB 11 k m (3 * n) (3 * n + 4 + w.length)], 0, 0⟩ := by
  have hl := full_len n
  have hbb : Bytes (fullPat n ++ (92 :: 103 :: 123 :: (w ++ [125]))) := by
    refine (full_bytes n).app ?_
    refine Bytes.app (a := [92, 103, 123]) (by intro x hx; simp only [List.mem_cons, List.mem_nil_iff, or_false] at hx; omega) (hb.app (by intro x hx; simp only [List.mem_cons, List.mem_nil_iff, or_false] at hx; omega))
  have hlen : (fullPat n ++ (92 :: 103 :: 123 :: (w ++ [125]))).length = 3 * n + 4 + w.length := by simp [hl]; omega
  rw [lexP0 (by omega), hlen]
  obtain ⟨x, hx⟩ : ∃ x : Text, x = ⟨strOfNums (fullPat n ++ (92 :: 103 :: 123 :: (w ++ [125]))), false, false, 255⟩ := ⟨_, rfl⟩
  rw [← hx]
  have hxs : numsOf x.s = fullPat n ++ (92 :: 103 :: 123 :: (w ++ [125])) := by rw [hx]; exact nums_strOf hbb
  have hsz : (x.s.size : Int) = 3 * n + 4 + w.length := by
    have := numsOf_len x.s
    rw [hxs, hlen] at this
    omega
  have hu : x.utf = false := by rw [hx]
  have hxx : x.x = false := by rw [hx]
  have h := lex_groups hu hxx n 0 (w.length + 5) [] _ (by decide) (by show (numsOf x.s).drop 0 = _; rw [hxs]; rfl)
  rw [show 3 * n + 4 + w.length + 1 = w.length + 5 + 3 * n by omega]
  refine Eq.trans h.1 ?_
  have hd := h.2
  have d1 := (byte_drop (by omega) hd).2.2
  have d2 := (byte_drop (by omega) d1).2.2
  have d3 := (byte_drop (by omega) d2).2.2
  have hr := refer_drop (x := x) (a := 0 + 3 * (n : Int)) (i := 0 + 3 * (n : Int) + 1 + 1) (k := k) (m := m) (w := w) (r := []) (by omega) hk d2 (by
    rw [hs x.s _ (by omega) d3]) hw
  have hstep := lex_esc (k := w.length + 4) (out := [] ++ gToks 0 n) hu hxx (by omega) hd hr
  refine Eq.trans hstep ?_
  rw [lex_end (by rw [hsz]; omega)]
  have e1 : 0 + 3 * (n : Int) = 3 * n := by omega
  have e2 : 0 + 3 * (n : Int) + 1 + 1 + 1 + w.length + 1 = 3 * n + 4 + w.length := by omega
  rw [e2, e1]
  rfl
/-- The tokens of a call and groups behind it. -/
theorem lex_forth (n : Nat) (hn : n ≤ 100) (k m d : Int) (w l : List Int) (hk : 1 ≤ k ∧ k < 100) (hw2 : w.length ≤ 10) (hb : Bytes w) (hwd : w = d :: l) (hd : d = 43 ∨ 48 ≤ d ∧ d ≤ 57)
    (hs : ∀ (s : ByteArray) (i : Int) (r : List Int), 0 ≤ i → (numsOf s).drop i.toNat = w ++ 41 :: r → signedP s i = (k, m, i + w.length, false)) :
    lexP (40 :: 63 :: (w ++ 41 :: fullPat n)) 0 = ⟨tkB 12 k m 0 (3 + w.length) :: gToks (3 + w.length) n, 0, 0⟩ := by
  have hl := full_len n
  have hbb : Bytes (40 :: 63 :: (w ++ 41 :: fullPat n)) := by
    refine Bytes.app (a := [40, 63]) (by intro x hx; simp only [List.mem_cons, List.mem_nil_iff, or_false] at hx; omega) (hb.app ?_)
    exact Bytes.app (a := [41]) (by intro x hx; simp only [List.mem_cons, List.mem_nil_iff, or_false] at hx; omega) (full_bytes n)
  have hlen : (40 :: 63 :: (w ++ 41 :: fullPat n)).length = 3 * n + 3 + w.length := by simp [hl]; omega
  rw [lexP0 (by omega), hlen]
  obtain ⟨x, hx⟩ : ∃ x : Text, x = ⟨strOfNums (40 :: 63 :: (w ++ 41 :: fullPat n)), false, false, 255⟩ := ⟨_, rfl⟩
  rw [← hx]
  have hxs : numsOf x.s = 40 :: 63 :: (w ++ 41 :: fullPat n) := by rw [hx]; exact nums_strOf hbb
  have hsz : (x.s.size : Int) = 3 * n + 3 + w.length := by
    have := numsOf_len x.s
    rw [hxs, hlen] at this
    omega
  have hu : x.utf = false := by rw [hx]
  have hxx : x.x = false := by rw [hx]
  have h0 : (numsOf x.s).drop (0 : Int).toNat = 40 :: 63 :: (w ++ 41 :: fullPat n) := by rw [hxs]; rfl
  have d1 := (byte_drop (by omega) h0).2.2
  have d2 := (byte_drop (by omega) d1).2.2
  have hc := call_drop (x := x) (i := 0) (d := d) (k := k) (m := m) (w := w) (l := l) (r := fullPat n) (by decide) hk h0 hwd hd (hs x.s (0 + 2) (fullPat n) (by decide) d2)
  have hst := lex_step (k := 3 * n + w.length + 3) (out := []) hu hxx (by decide) h0 (by decide) (t := { tokZ with kind := 12, n := k, m := m }) (b := 0 + 2 + w.length + 1) (by
    unfold tokC
    rw [if_neg (by decide), if_neg (by decide), if_pos rfl]
    exact hc)
  rw [show 3 * n + 3 + w.length + 1 = 3 * n + w.length + 3 + 1 by omega]
  refine Eq.trans hst ?_
  have hdr : (numsOf x.s).drop (0 + 2 + (w.length : Int) + 1).toNat = fullPat n ++ [] := by
    rw [List.append_nil, show (0 + 2 + (w.length : Int) + 1).toNat = 2 + (w.length + 1) by omega, ← List.drop_drop, hxs]
    show (w ++ 41 :: fullPat n).drop (w.length + 1) = fullPat n
    simp
  have h := lex_groups hu hxx n (0 + 2 + w.length + 1) (w.length + 3) ([] ++ [{ ({ tokZ with kind := 12, n := k, m := m } : Tok) with at_ := 0, to := 0 + 2 + w.length + 1 }]) [] (by omega) hdr
  rw [show 3 * n + w.length + 3 = w.length + 3 + 3 * n by omega]
  refine Eq.trans h.1 ?_
  rw [lex_end (by rw [hsz]; omega)]
  have e2 : 0 + 2 + (w.length : Int) + 1 = 3 + w.length := by omega
  rw [e2]
  rfl
end Go.Proofs.Ytnoohgiecnmajaa.VC

/- Two trees that differ in their places alone are the same. -/
namespace Go.Proofs.Ytnoohgiecnmajaa.VC
open Go Go.RowKit
set_option linter.unusedVariables false
set_option linter.unusedSimpArgs false
set_option maxHeartbeats 4000000

set_option maxHeartbeats 16000000
def Sm2C (a b : Node) : Prop := VCalls Try.prog 23 [a.enc, b.enc] (fun r => r = bv true)
mutual
def eqA : Node → Node → Prop
  | .mk f ks, .mk g ls => g = { f with at_ := g.at_ } ∧ eqAL ks ls
def eqAL : List Node → List Node → Prop
  | [], [] => True
  | [], _ :: _ => False
  | _ :: _, [] => False
  | a :: l, b :: m => eqA a b ∧ eqAL l m
end
theorem eqAL_len : ∀ {l m : List Node}, eqAL l m → m.length = l.length
  | [], [], _ => rfl
  | [], _ :: _, h => by rw [eqAL] at h; exact h.elim
  | _ :: _, [], h => by rw [eqAL] at h; exact h.elim
  | a :: l, b :: m, h => by rw [eqAL] at h; simp [eqAL_len h.2]
theorem eqAL_get : ∀ {l m : List Node} {j : Nat}, eqAL l m → j < l.length → eqA (l.getD j nodeZ) (m.getD j nodeZ)
  | [], [], j, _, hj => by simp at hj
  | [], _ :: _, j, h, _ => by rw [eqAL] at h; exact h.elim
  | _ :: _, [], j, h, _ => by rw [eqAL] at h; exact h.elim
  | a :: l, b :: m, 0, h, _ => by rw [eqAL] at h; simpa using h.1
  | a :: l, b :: m, j + 1, h, hj => by rw [eqAL] at h; simpa using eqAL_get h.2 (by simpa using hj)
theorem same2_step (f : NodeF) (a : Int) (ks ls : List Node) (hset : f.set.length ≤ 4000000000) (hk : ks.length ≤ 1000000) (hlen : ls.length = ks.length) (ih : ∀ j : Int, 0 ≤ j → j < ks.length → Sm2C (rdn ks j) (rdn ls j)) : Sm2C (.mk f ks) (.mk { f with at_ := a } ls) := by
  have hn := rowsN_len ks
  have hn2 := rowsN_len ls
  have hs := rows2_len f.set
  refine VCalls.ofr tabOk Try.func23 (by decide) rfl rfl ?_
  refine RWP.seqx tabOk orders ?_
  conv => whnf
  refine RWP.cut (fun st => st = ⟨125, [(2, .ptr 2 0), (3, .ptr 3 0)], [(2, (27, nfe f ks)), (3, (27, nfe { f with at_ := a } ls))], [], []⟩) tabOk orders ?_ ?_
  · repeat' ((conv => whnf); (first
    | (with_reducible first | refine Spl.yes ?_ | refine Spl.no ?_ | refine Spl.dec (fun h => ?_) (fun h => ?_) | refine Spl.eq (fun h => ?_) (fun h => ?_) | refine Spl.ne (fun h => ?_) (fun h => ?_) | refine Spl.seq (fun h => ?_) (fun h => ?_) | refine Spl.not ?_ | refine Spl.any (fun h => ?_) (fun h => ?_))
    | (exfalso; exact absurd rfl (by assumption))
    | ((with_reducible apply And.intro); first | omega | rfl | (dsimp only; omega))))
    all_goals (conv => whnf)
    all_goals first
      | (exfalso; exact absurd rfl (by assumption))
      | (exfalso; omega)
      | (have hb : (f.neg == f.neg) = false := by assumption
         simp at hb)
      | exact ⟨_, Wk.narrow _ [2, 3] [2, 3] [], rfl⟩
  rintro _ rfl
  refine RWP.cutr (fun st => st = ⟨125, [(2, .ptr 2 0), (3, .ptr 3 0)], [(2, (27, nfe f ks)), (3, (27, nfe { f with at_ := a } ls))], [], []⟩) ?_ ?_
  · refine RWP.seqx tabOk orders ?_
    conv => whnf
    refine RWP.block ?_
    refine RWP.loop (fun k st => ∃ (j : Int), st = ⟨125, [(2, .ptr 2 0), (3, .ptr 3 0), (5, .pv (iv j))], [(2, (27, nfe f ks)), (3, (27, nfe { f with at_ := a } ls))], [], []⟩ ∧ 0 ≤ j ∧ j ≤ f.set.length ∧ k = (f.set.length - j).toNat)
      ⟨_, _, Wk.narrow _ [2, 3, 5] [2, 3] [], 0, rfl, by omega, by omega, rfl⟩ ?_
    rintro k st ⟨j, rfl, hj0, hj1, hk⟩
    refine RWP.seqx tabOk orders ?_
    repeat' ((conv => whnf); (first
    | (with_reducible first | refine Spl.yes ?_ | refine Spl.no ?_ | refine Spl.dec (fun h => ?_) (fun h => ?_) | refine Spl.eq (fun h => ?_) (fun h => ?_) | refine Spl.ne (fun h => ?_) (fun h => ?_) | refine Spl.seq (fun h => ?_) (fun h => ?_) | refine Spl.not ?_ | refine Spl.any (fun h => ?_) (fun h => ?_))
    | ((with_reducible apply And.intro); first | omega | rfl | (dsimp only; omega))))
    all_goals (conv => whnf)
    rotate_left
    · exact ⟨_, Wk.narrow _ [2, 3] [2, 3] [], rfl⟩
    refine RWP.of tabOk orders ?_
    repeat' ((conv => whnf); (first
    | (with_reducible first | refine Spl.yes ?_ | refine Spl.no ?_ | refine Spl.dec (fun h => ?_) (fun h => ?_) | refine Spl.eq (fun h => ?_) (fun h => ?_) | refine Spl.ne (fun h => ?_) (fun h => ?_) | refine Spl.seq (fun h => ?_) (fun h => ?_) | refine Spl.not ?_ | refine Spl.any (fun h => ?_) (fun h => ?_))
    | refine drawn_text (by decide +kernel) ?_
    | (rw [rows2_get (l := f.set) (show j.toNat < f.set.length by omega)])
    | (rw [rows2_get (l := ({ f with at_ := a } : NodeF).set) (show j.toNat < f.set.length by omega)])
    | refine And.intro (Nat.le_of_ble_eq_true rfl) ?_
    | refine ⟨_, eqS74 _ _ _ _, ?_⟩
    | ((with_reducible apply And.intro); first | omega | rfl | (dsimp only; omega))))
    all_goals (conv => whnf)
    all_goals first
      | exact ⟨(f.set.length - (j + 1)).toNat, _, by omega, Wk.narrow _ [2, 3, 5] [2, 3] [], j + 1, rfl, by omega, by omega, rfl⟩
      | (have hb : ((rdp f.set j).1 == (rdp f.set j).1 && ((rdp f.set j).2 == (rdp f.set j).2 && true)) = false := by assumption
         simp at hb)
  rintro _ rfl
  refine RWP.seq ?_
  refine RWP.seqx tabOk orders ?_
  conv => whnf
  refine RWP.block ?_
  refine RWP.loop (fun k st => ∃ (j : Int), st = ⟨125, [(2, .ptr 2 0), (3, .ptr 3 0), (6, .pv (iv j))], [(2, (27, nfe f ks)), (3, (27, nfe { f with at_ := a } ls))], [], []⟩ ∧ 0 ≤ j ∧ j ≤ ks.length ∧ k = (ks.length - j).toNat)
    ⟨_, _, Wk.narrow _ [2, 3, 6] [2, 3] [], 0, rfl, by omega, by omega, rfl⟩ ?_
  rintro k st ⟨j, rfl, hj0, hj1, hk⟩
  refine RWP.seqx tabOk orders ?_
  repeat' ((conv => whnf); (first
    | (with_reducible first | refine Spl.yes ?_ | refine Spl.no ?_ | refine Spl.dec (fun h => ?_) (fun h => ?_) | refine Spl.eq (fun h => ?_) (fun h => ?_) | refine Spl.ne (fun h => ?_) (fun h => ?_) | refine Spl.seq (fun h => ?_) (fun h => ?_) | refine Spl.not ?_ | refine Spl.any (fun h => ?_) (fun h => ?_))
    | ((with_reducible apply And.intro); first | omega | rfl | (dsimp only; omega))))
  all_goals (conv => whnf)
  rotate_left
  · refine RWP.of tabOk orders ?_
    conv => whnf
    rfl
  have hc := ih j hj0 (by omega)
  unfold Sm2C at hc
  obtain ⟨f3, k3, h3⟩ := (rdn ks j).ex
  obtain ⟨f4, k4, h4⟩ := (rdn ls j).ex
  rw [h3, h4] at hc
  refine RWP.of tabOk orders ?_
  repeat' ((conv => whnf); (first
    | (with_reducible first | refine Spl.yes ?_ | refine Spl.no ?_ | refine Spl.dec (fun h => ?_) (fun h => ?_) | refine Spl.eq (fun h => ?_) (fun h => ?_) | refine Spl.ne (fun h => ?_) (fun h => ?_) | refine Spl.seq (fun h => ?_) (fun h => ?_) | refine Spl.not ?_ | refine Spl.any (fun h => ?_) (fun h => ?_))
    | refine drawn_text (by decide +kernel) ?_
    | (rw [rowsN_get (show j.toNat < ks.length by omega)])
    | (rw [rowsN_get (show j.toNat < ls.length by omega)])
    | (rw [h3])
    | (rw [h4])
    | (refine VCalls.mono (hc) ?_; rintro _ rfl)
    | refine And.intro (Nat.le_of_ble_eq_true rfl) ?_
    | ((with_reducible apply And.intro); first | omega | rfl | (dsimp only; omega))))
  all_goals (conv => whnf)
  all_goals exact ⟨(ks.length - (j + 1)).toNat, _, by omega, Wk.narrow _ [2, 3, 6] [2, 3] [], j + 1, rfl, by omega, by omega, rfl⟩
theorem same2_c : ∀ (k : Nat) (a b : Node), a.w ≤ k → a.w ≤ 1000000 → a.all SetOk → eqA a b → Sm2C a b := by
  intro k
  induction k with
  | zero => intro a b h; have := w_pos a; omega
  | succ k ih =>
    intro a b hk hw ha hab
    cases a with
    | mk f ks =>
      cases b with
      | mk g ls =>
        rw [Node.w] at hk hw
        rw [Node.all] at ha
        rw [eqA] at hab
        obtain ⟨h1, h2⟩ := hab
        rw [h1]
        have hl := wN_len ks
        refine same2_step f g.at_ ks ls ha.1 (by omega) (eqAL_len h2) (fun j h0 hj => ?_)
        have hm := rdn_mem (l := ks) (j := j) (by omega)
        have hwm := wN_mem hm
        exact ih (rdn ks j) (rdn ls j) (by omega) (by omega) (allN_mem ha.2 hm) (eqAL_get h2 (by omega))
end Go.Proofs.Ytnoohgiecnmajaa.VC

/- Texts with references by numbers: what resolving answers (plain). -/
namespace Go.Proofs.Ytnoohgiecnmajaa.VC
open Go Go.RowKit
set_option linter.unusedVariables false
set_option linter.unusedSimpArgs false
set_option maxHeartbeats 4000000

def lf (kind k m a : Int) : NodeF := ⟨kind, a, 0, [], false, k, m, 0, bs [], 0, 0⟩
def lbF (g kind k m a : Int) : NodeF := if kind = 7 then { lf kind k m a with on := bAnd g 1 } else lf kind k m a
attribute [local irreducible] bAnd setP
theorem leaf_is (k m a b : Int) : leafN (tkB 11 k m a b) = .mk (lf 7 k m a) [] ∧ leafN (tkB 12 k m a b) = .mk (lf 8 k m a) [] := ⟨rfl, rfl⟩
theorem nodeR_leaf (c : Ctx) (g kind k m a : Int) (hk : kind = 7 ∨ kind = 8) : nodeR c (.mk (lf kind k m a) []) g = (.mk (lbF g kind k m a) [], g) := by
  rw [nodeR]
  unfold nodeS
  have hkind : (lf kind k m a).kind = kind := rfl
  rw [hkind, if_neg (by omega), if_neg (by omega), if_neg (by omega), if_neg (by omega), if_neg (by omega)]
  unfold lbF
  by_cases q : kind = 7
  · rw [if_pos q, if_pos q]
    rfl
  · rw [if_neg q, if_neg (by omega), if_neg (by omega), if_neg (by omega), if_neg (by omega), if_neg q]
    have : greedN (lf kind k m a) g = lf kind k m a := by unfold greedN; rw [if_neg (by rw [hkind]; omega)]
    rw [this]
    simp only
    rw [rowR]
theorem lbF_is (g kind k m a : Int) : (lbF g kind k m a).kind = kind ∧ (lbF g kind k m a).n = k ∧ (lbF g kind k m a).m = m ∧ (lbF g kind k m a).name = bs [] ∧ (lbF g kind k m a).at_ = a := by
  unfold lbF
  split <;> exact ⟨rfl, rfl, rfl, rfl, rfl⟩
theorem nbN_leaf {f : NodeF} {b : Int} (h : f.kind ≠ 14) : nbN (.mk f []) b = (.mk f [], b) := by
  rw [nbN]
  have h1 : nbF f b = f := by unfold nbF; rw [if_neg h]
  have h2 : nbT f b = b := by unfold nbT; rw [if_neg h]
  rw [h1, h2, nbL]
theorem capsN_leaf {f : NodeF} (h : f.kind ≠ 14) : capsN (.mk f []) = [] := by
  rw [capsN, if_neg h, capsL]
theorem nam_caps0 (c : Ctx) (g : Int) : ∀ (m : Nat) (i b : Int) (A : List (ByteArray × Int)), b + m ≤ 60 → namL (capsB c g i b m) A = ⟨A, 0, 0⟩
  | 0, i, b, A, hb => by rw [capsB, namL_nil]
  | m + 1, i, b, A, hb => by
    rw [capsB]
    unfold capB
    rw [namL_cons, if_neg (by show ¬ b + 1 > 60; omega), if_pos (by rfl), nam_caps0 c g m (i + 3) (b + 1) A (by omega)]
theorem head12 : nbF ({ fZ with kind := 12 } : NodeF) 0 = { fZ with kind := 12 } ∧ nbT ({ fZ with kind := 12 } : NodeF) 0 = 0 ∧ decide (({ fZ with kind := 12 } : NodeF).kind = 16) = false :=
  ⟨by unfold nbF; rw [if_neg (by decide)], by unfold nbT; rw [if_neg (by decide)], by decide⟩
theorem mxP_self (a : Int) : mxP a a = a := by unfold mxP; split <;> rfl
section
variable (c : Ctx) (g : Int)
theorem flat_back {l : List Int} {n : Nat} {k m a b : Int} (hn : 1 ≤ n) (hl : lexP l 0 = ⟨gToks 0 n ++ [tkB 11 k m a b], 0, 0⟩) :
    flatP l 0 = (.mk { fZ with kind := 12 } (capsR (ctxOf 0) (bAnd 0 23) 0 n ++ [.mk (lbF (bAnd 0 23) 7 k m a) []]), true) := by
  have hp := parse_back n (tkB 11 k m a b) l.length (.inl rfl)
  unfold flatP
  rw [hl]
  simp only
  rw [if_neg (by decide), hp]
  simp only
  rw [if_neg (by decide)]
  unfold resolveP
  generalize ctxOf 0 = c
  generalize bAnd 0 23 = g
  rw [(leaf_is k m a b).1]
  have hlen : (capsG 0 n ++ [Node.mk (lf 7 k m a) []]).length ≠ 1 := by rw [List.length_append, capG_len]; simp; omega
  have h1 : oneN 13 [oneN 12 (capsG 0 n ++ [Node.mk (lf 7 k m a) []])] = .mk { fZ with kind := 12 } (capsG 0 n ++ [Node.mk (lf 7 k m a) []]) := by
    show oneN 12 _ = _
    unfold oneN
    rw [if_neg hlen]
  rw [h1, nodeR]
  unfold nodeS
  simp only
  rw [if_neg (by decide), if_neg (by decide), if_neg (by decide), if_neg (by decide), if_neg (by decide), if_neg (by decide), if_neg (by decide), if_pos (by decide)]
  rw [rowR_snoc, rowR_caps]
  simp only
  rw [nodeR_leaf c g 7 k m a (.inl rfl), List.flatMap_append, list_caps]
  have h2 : [Node.mk (lbF g 7 k m a) []].flatMap listN = [Node.mk (lbF g 7 k m a) []] := by
    have : listN (Node.mk (lbF g 7 k m a) []) = [Node.mk (lbF g 7 k m a) []] := by
      unfold listN
      rw [if_neg]
      show ¬ (lbF g 7 k m a).kind = 12
      rw [(lbF_is g 7 k m a).1]; decide
    rw [List.flatMap_cons, this]; rfl
  rw [h2]
  unfold seqN
  rw [if_neg]
  rw [List.length_append, capR_len]; simp; omega
theorem flat_forth {l : List Int} {n : Nat} {k m a b j : Int} (hn : 1 ≤ n) (hl : lexP l 0 = ⟨tkB 12 k m a b :: gToks j n, 0, 0⟩) :
    flatP l 0 = (.mk { fZ with kind := 12 } (.mk (lbF (bAnd 0 23) 8 k m a) [] :: capsR (ctxOf 0) (bAnd 0 23) j n), true) := by
  have hp := parse_forth n (tkB 12 k m a b) j l.length (.inr rfl)
  unfold flatP
  rw [hl]
  simp only
  rw [if_neg (by decide), hp]
  simp only
  rw [if_neg (by decide)]
  unfold resolveP
  generalize ctxOf 0 = c
  generalize bAnd 0 23 = g
  rw [(leaf_is k m a b).2]
  have hlen : (Node.mk (lf 8 k m a) [] :: capsG j n).length ≠ 1 := by rw [List.length_cons, capG_len]; omega
  have h1 : oneN 13 [oneN 12 (Node.mk (lf 8 k m a) [] :: capsG j n)] = .mk { fZ with kind := 12 } (Node.mk (lf 8 k m a) [] :: capsG j n) := by
    show oneN 12 _ = _
    unfold oneN
    rw [if_neg hlen]
  rw [h1, nodeR]
  unfold nodeS
  simp only
  rw [if_neg (by decide), if_neg (by decide), if_neg (by decide), if_neg (by decide), if_neg (by decide), if_neg (by decide), if_neg (by decide), if_pos (by decide)]
  rw [rowR, nodeR_leaf c g 8 k m a (.inr rfl)]
  simp only
  rw [rowR_caps]
  simp only
  have this : listN (Node.mk (lbF g 8 k m a) []) = [Node.mk (lbF g 8 k m a) []] := by
    unfold listN
    rw [if_neg]
    show ¬ (lbF g 8 k m a).kind = 12
    rw [(lbF_is g 8 k m a).1]; decide
  rw [List.flatMap_cons, this, list_caps]
  unfold seqN
  rw [if_neg]
  · rfl
  · simp [capR_len]; omega
theorem num_back (n : Nat) (hn : n ≤ 60) (f : NodeF) (hf : f.kind ≠ 14) :
    numR9 (.mk { fZ with kind := 12 } (capsR c g 0 n ++ [.mk f []])) = ⟨.mk { fZ with kind := 12 } (capsB c g 0 0 n ++ [.mk f []]), n, [], 0, 0⟩ := by
  have h : nbN (.mk { fZ with kind := 12 } (capsR c g 0 n ++ [.mk f []])) 0 = (.mk { fZ with kind := 12 } (capsB c g 0 0 n ++ [.mk f []]), (n : Int)) := by
    rw [nbN, head12.1, head12.2.1, head12.2.2, nbL_snoc, nbL_caps]
    simp only
    rw [if_neg (by decide), nbN_leaf hf]
    simp only
    rw [mxP_self, Int.zero_add]
  have hc : capsN (.mk { fZ with kind := 12 } (capsB c g 0 0 n ++ [.mk f []])) = capsB c g 0 0 n := by
    rw [capsN, if_neg (by decide), capsL_snoc, capsL_caps, capsN_leaf hf, List.append_nil]
  unfold numR9
  rw [h]
  simp only
  rw [hc, nam_caps0 c g n 0 0 [] (by omega), if_neg (by decide)]
theorem num_forth (n : Nat) (j : Int) (hn : n ≤ 60) (f : NodeF) (hf : f.kind ≠ 14) :
    numR9 (.mk { fZ with kind := 12 } (.mk f [] :: capsR c g j n)) = ⟨.mk { fZ with kind := 12 } (.mk f [] :: capsB c g j 0 n), n, [], 0, 0⟩ := by
  have h : nbN (.mk { fZ with kind := 12 } (.mk f [] :: capsR c g j n)) 0 = (.mk { fZ with kind := 12 } (.mk f [] :: capsB c g j 0 n), (n : Int)) := by
    rw [nbN, head12.1, head12.2.1, head12.2.2, nbL, if_neg (by decide), nbN_leaf hf]
    simp only
    rw [mxP_self, nbL_caps, Int.zero_add]
  have hc : capsN (.mk { fZ with kind := 12 } (.mk f [] :: capsB c g j 0 n)) = capsB c g j 0 n := by
    rw [capsN, if_neg (by decide), capsL, capsL_caps, capsN_leaf hf, List.nil_append]
  unfold numR9
  rw [h]
  simp only
  rw [hc, nam_caps0 c g n j 0 [] (by omega), if_neg (by decide)]
variable {cnt : Int} {A : List (ByteArray × Int)}
theorem nodeP_lit (i : Int) (s : Rs) (h : s.e = 0) : nodeP cnt A (litR c g i) s = (litR c g i, s) := by
  unfold litR setN
  rw [nodeP, if_neg (by simp [h])]
  have hh : ∀ S : List (Int × Int), headP cnt A ({ fZ with kind := 2, at_ := i + 1, set := S } : NodeF) s = ({ fZ with kind := 2, at_ := i + 1, set := S }, s) := by
    intro S
    unfold headP
    rw [if_neg (by show ¬ (2 : Int) = 14; decide), if_neg (by show ¬ (2 : Int) = 7; decide), if_neg (by show ¬ (2 : Int) = 8; decide), if_neg (by show ¬ (2 : Int) = 19; decide)]
  rw [hh, kidsP]
  simp only
  rw [if_neg (by show ¬ (2 : Int) = 16; decide)]
theorem nodeP_cap (i b z : Int) : nodeP cnt A (capB c g i b) ⟨b, 0, z⟩ = (capB c g i b, ⟨b + 1, 0, z⟩) := by
  unfold capB
  rw [nodeP, if_neg (by simp)]
  have hh : headP cnt A ({ fZ with kind := 14, at_ := i, n := b + 1 } : NodeF) ⟨b, 0, z⟩ = ({ fZ with kind := 14, at_ := i, n := b + 1 }, ⟨b + 1, 0, z⟩) := by
    unfold headP
    rw [if_pos (by rfl)]
  rw [hh, kidsP, kidsP]
  simp only
  have h3 : (if decide (({ fZ with kind := 14, at_ := i, n := b + 1 } : NodeF).kind = 16) = true then (⟨b + 1, 0, z⟩ : Rs) else ⟨b + 1, 0, z⟩) = ⟨b + 1, 0, z⟩ := by split <;> rfl
  rw [h3, nodeP_lit c g i _ rfl]
  simp only
  rw [if_neg (by show ¬ (14 : Int) = 16; decide)]
theorem kidsP_caps : ∀ (m : Nat) (i a b z : Int), kidsP cnt A (capsB c g i b m) false a b ⟨b, 0, z⟩ = (capsB c g i b m, b + m, ⟨b + m, 0, z⟩)
  | 0, i, a, b, z => by rw [capsB, kidsP]; simp
  | m + 1, i, a, b, z => by
    rw [capsB, kidsP]
    rw [if_neg (by decide), nodeP_cap]
    have h4 : mxP (b + 1) b = b + 1 := by unfold mxP; rw [if_pos (by omega)]
    try dsimp only
    rw [h4, kidsP_caps m]
    rw [show b + 1 + (m : Int) = b + ((m + 1 : Nat) : Int) by omega]
theorem nodeP_leaf (f : NodeF) (s : Rs) (he : s.e = 0) (hk : f.kind = 7 ∨ f.kind = 8) : nodeP cnt A (.mk f []) s = (.mk (setFN (vN cnt A s f) f) [], setS s (vN cnt A s f) (if f.kind = 7 then 1 else 0) f.at_) := by
  rw [nodeP, if_neg (by simp [he])]
  have hh : headP cnt A f s = (setFN (vN cnt A s f) f, setS s (vN cnt A s f) (if f.kind = 7 then 1 else 0) f.at_) := by
    unfold headP
    rw [if_neg (by omega)]
    by_cases q : f.kind = 7
    · rw [if_pos q, if_pos q]
    · rw [if_neg q, if_pos (by omega), if_neg q]
  rw [hh, kidsP]
  simp only
  rw [if_neg (by omega)]
end
theorem head12P {cnt : Int} {A : List (ByteArray × Int)} (s : Rs) : headP cnt A ({ fZ with kind := 12 } : NodeF) s = ({ fZ with kind := 12 }, s) := by
  unfold headP
  rw [if_neg (by decide), if_neg (by decide), if_neg (by decide), if_neg (by decide)]
/-- What a reference behind groups is. -/
theorem rd_back {l : List Int} {n : Nat} {k m a b : Int} (hn : 1 ≤ n) (hn2 : n ≤ 60) (hl : lexP l 0 = ⟨gToks 0 n ++ [tkB 11 k m a b], 0, 0⟩) :
    rdP l = if meantP n [] n m k (bs []) < 1 then ⟨nodeZ, 34, a⟩ else ⟨.mk { fZ with kind := 12 } (capsB (ctxOf 0) (bAnd 0 23) 0 0 n ++ [.mk (setFN (meantP n [] n m k (bs [])) (lbF (bAnd 0 23) 7 k m a)) []]), 0, 0⟩ := by
  have hfl := flat_back hn hl
  have hlb := lbF_is (bAnd 0 23) 7 k m a
  have hnd : numdP l 0 = (⟨.mk { fZ with kind := 12 } (capsB (ctxOf 0) (bAnd 0 23) 0 0 n ++ [.mk (lbF (bAnd 0 23) 7 k m a) []]), n, [], 0, 0⟩, true) := by
    unfold numdP
    rw [hfl]
    simp only
    rw [if_neg (by decide), num_back (ctxOf 0) (bAnd 0 23) n hn2 _ (by rw [hlb.1]; decide)]
    rfl
  unfold rdP
  rw [hnd]
  simp only
  rw [if_neg (by decide)]
  unfold resP
  have hnode : nodeP (n : Int) [] (.mk { fZ with kind := 12 } (capsB (ctxOf 0) (bAnd 0 23) 0 0 n ++ [.mk (lbF (bAnd 0 23) 7 k m a) []])) ⟨0, 0, 0⟩ =
      (.mk { fZ with kind := 12 } (capsB (ctxOf 0) (bAnd 0 23) 0 0 n ++ [.mk (setFN (meantP n [] n m k (bs [])) (lbF (bAnd 0 23) 7 k m a)) []]), setS ⟨n, 0, 0⟩ (meantP n [] n m k (bs [])) 1 a) := by
    rw [nodeP, if_neg (by decide), head12P]
    simp only
    rw [head12.2.2, kidsP_snoc, kidsP_caps]
    simp only
    rw [if_neg (by decide), if_neg (by decide), Int.zero_add, nodeP_leaf _ _ rfl (.inl hlb.1)]
    simp only
    unfold vN
    rw [hlb.1, hlb.2.1, hlb.2.2.1, hlb.2.2.2.1, hlb.2.2.2.2, if_pos rfl]
  rw [hnode]
  simp only
  unfold setS
  by_cases q : meantP (n : Int) [] n m k (bs []) < 1
  · rw [if_pos q, if_pos q]; rfl
  · rw [if_neg q, if_neg q]; rfl
/-- What a call ahead of groups is. -/
theorem rd_forth {l : List Int} {n : Nat} {k m a b j : Int} (hn : 1 ≤ n) (hn2 : n ≤ 60) (hl : lexP l 0 = ⟨tkB 12 k m a b :: gToks j n, 0, 0⟩) (hv : 0 ≤ meantP n [] 0 m k (bs [])) :
    rdP l = ⟨.mk { fZ with kind := 12 } (.mk (setFN (meantP n [] 0 m k (bs [])) (lbF (bAnd 0 23) 8 k m a)) [] :: capsB (ctxOf 0) (bAnd 0 23) j 0 n), 0, 0⟩ := by
  have hfl := flat_forth hn hl
  have hlb := lbF_is (bAnd 0 23) 8 k m a
  have hnd : numdP l 0 = (⟨.mk { fZ with kind := 12 } (.mk (lbF (bAnd 0 23) 8 k m a) [] :: capsB (ctxOf 0) (bAnd 0 23) j 0 n), n, [], 0, 0⟩, true) := by
    unfold numdP
    rw [hfl]
    simp only
    rw [if_neg (by decide), num_forth (ctxOf 0) (bAnd 0 23) n j hn2 _ (by rw [hlb.1]; decide)]
    rfl
  unfold rdP
  rw [hnd]
  simp only
  rw [if_neg (by decide)]
  unfold resP
  have hs0 : setS ⟨0, 0, 0⟩ (meantP n [] 0 m k (bs [])) 0 a = ⟨0, 0, 0⟩ := by unfold setS; rw [if_neg (by omega)]
  have hnode : nodeP (n : Int) [] (.mk { fZ with kind := 12 } (.mk (lbF (bAnd 0 23) 8 k m a) [] :: capsB (ctxOf 0) (bAnd 0 23) j 0 n)) ⟨0, 0, 0⟩ =
      (.mk { fZ with kind := 12 } (.mk (setFN (meantP n [] 0 m k (bs [])) (lbF (bAnd 0 23) 8 k m a)) [] :: capsB (ctxOf 0) (bAnd 0 23) j 0 n), ⟨n, 0, 0⟩) := by
    rw [nodeP, if_neg (by decide), head12P]
    simp only
    rw [head12.2.2, kidsP, if_neg (by decide), nodeP_leaf _ _ rfl (.inr hlb.1)]
    simp only
    unfold vN
    rw [hlb.1, hlb.2.1, hlb.2.2.1, hlb.2.2.2.1, hlb.2.2.2.2, if_neg (by decide), hs0, mxP_self, kidsP_caps]
    simp only
    rw [if_neg (by decide), Int.zero_add]
  rw [hnode]
  simp only
  rw [if_neg (by decide)]
end Go.Proofs.Ytnoohgiecnmajaa.VC

/- Texts with references by names: their tokens (plain). -/
namespace Go.Proofs.Ytnoohgiecnmajaa.VC
open Go Go.RowKit
set_option linter.unusedVariables false
set_option linter.unusedSimpArgs false
set_option maxHeartbeats 4000000

theorem strOf_nums (s : ByteArray) : strOfNums (numsOf s) = s := by
  unfold strOfNums numsOf
  apply ByteArray.ext
  apply Array.ext'
  simp only [List.map_map]
  have : ∀ l : List UInt8, l.map ((fun n : Int => UInt8.ofNat n.toNat) ∘ fun b : UInt8 => (b.toNat : Int)) = l := by
    intro l
    induction l with
    | nil => rfl
    | cons a l ih => rw [List.map_cons, ih]; simp
  exact this _
theorem nums_extract (s : ByteArray) (a b : Nat) : numsOf (s.extract a b) = ((numsOf s).drop a).take (b - a) := by
  unfold numsOf
  rw [ByteArray.data_extract, Array.toList_extract, List.extract_eq_take_drop, List.map_take, List.map_drop]
theorem nameEnd_go {s : ByteArray} : ∀ (w : List Int) (i : Int) (k : Nat) (c : Int) (r : List Int), 0 ≤ i → (numsOf s).drop i.toNat = w ++ c :: r → (∀ x ∈ w, nameCh x = true) → nameCh c = false → w.length + 1 ≤ k → nameEnd s k i = i + w.length
  | [], i, k, c, r, h0, h, hw, hc, hk => by
    obtain ⟨k, rfl⟩ : ∃ j, k = j + 1 := ⟨k - 1, by simp at hk; omega⟩
    obtain ⟨h1, h2, h3⟩ := byte_drop h0 h
    rw [nameEnd, if_neg (by rw [h1, hc]; simp)]
    simp
  | x :: w, i, k, c, r, h0, h, hw, hc, hk => by
    simp only [List.length_cons] at hk
    obtain ⟨k, rfl⟩ : ∃ j, k = j + 1 := ⟨k - 1, by omega⟩
    obtain ⟨h1, h2, h3⟩ := byte_drop h0 h
    rw [nameEnd, if_pos ⟨h2, by rw [h1]; exact hw x (List.mem_cons_self ..)⟩, nameEnd_go w (i + 1) k c r (by omega) h3 (fun y hy => hw y (List.mem_cons_of_mem _ hy)) hc (by omega), List.length_cons]
    omega
/-- A name, and what ends it. -/
theorem name_drop {s : ByteArray} {w : List Int} {i c : Int} {r : List Int} (h0 : 0 ≤ i) (h : (numsOf s).drop i.toNat = w ++ c :: r) (hw : ∀ x ∈ w, nameCh x = true) (hc : nameCh c = false) :
    nameTo s i = i + w.length ∧ nameAt s i = strOfNums w ∧ (numsOf s).drop (i + w.length).toNat = c :: r ∧ i + w.length < s.size := by
  have hl := numsOf_len s
  have hlen : w.length + 1 ≤ (numsOf s).length - i.toNat := by
    rw [← List.length_drop, h]; simp
  have h1 : nameTo s i = i + w.length := nameEnd_go w i _ c r h0 h hw hc (by omega)
  have h2 : (numsOf s).drop (i + w.length).toNat = c :: r := by
    rw [show (i + (w.length : Int)).toNat = i.toNat + w.length by omega, ← List.drop_drop, h]
    simp
  refine ⟨h1, ?_, h2, by omega⟩
  rw [← strOf_nums (nameAt s i)]
  congr 1
  unfold nameAt
  rw [h1, nums_extract, h, show (i + (w.length : Int)).toNat - i.toNat = w.length by omega]
  simp
theorem nameOk_w {w : List Int} (hb : Bytes w) {d : Int} {l : List Int} (hw : w = d :: l) (hd : digitP d = false) (hl : w.length ≤ 32) : nameOk (strOfNums w) = true := by
  have hs := strOf_size w
  have hb0 : byteAt (strOfNums w) 0 = d := by rw [byteAt_nums, nums_strOf hb, hw]; rfl
  have : w.length = l.length + 1 := by rw [hw]; rfl
  unfold nameOk
  rw [if_pos (by omega), if_pos (by omega), hb0, hd]
  rfl
theorem isP_two {s : ByteArray} {i c d : Int} {r : List Int} (h0 : 0 ≤ i) (h : (numsOf s).drop i.toNat = c :: d :: r) {t : ByteArray} (c0 d0 : Int) (l0 : List Int) (ht : numsOf t = c0 :: d0 :: l0) (hne : c0 ≠ c ∨ d0 ≠ d) : isP s i t = false := by
  have hts : t.size ≠ 0 := by rw [← numsOf_len, ht]; simp
  rw [isP_pre _ _ _ h0 hts, h, ht]
  rcases hne with q | q
  · simp [List.isPrefixOf, q]
  · simp [List.isPrefixOf, q]
/-- A step of the lexer at a bracket. -/
theorem lex_open {x : Text} {k : Nat} {i : Int} {r : List Int} {out : List Tok} {t : Tok} {b : Int} (hu : x.utf = false) (hx : x.x = false) (h0 : 0 ≤ i) (h : (numsOf x.s).drop i.toNat = 40 :: r) (ht : openP x i = tokG t i b) :
    lexGo x (k + 1) i false out = lexGo x k b false (out ++ [{ t with at_ := i, to := b }]) :=
  lex_step hu hx h0 h (by decide) (by unfold tokC; rw [if_neg (by decide), if_neg (by decide), if_pos rfl]; exact ht)
/-- A step of the lexer at a backslash and another letter than Q. -/
theorem lex_esc2 {x : Text} {k : Nat} {i c : Int} {r : List Int} {out : List Tok} {t : Tok} {b : Int} (hu : x.utf = false) (hx : x.x = false) (h0 : 0 ≤ i) (h : (numsOf x.s).drop i.toNat = 92 :: c :: r) (hc : c ≠ 81) (ht : escapeP x i = tokG t i b) :
    lexGo x (k + 1) i false out = lexGo x k b false (out ++ [{ t with at_ := i, to := b }]) := by
  obtain ⟨h1, h2, h3⟩ := byte_drop h0 h
  have hch := charP_drop hu h0 h
  have hq : isP x.s i (bs [92, 81]) = false := isP_two h0 h 92 81 [] rfl (.inr (fun q => hc q.symm))
  have htk : tokenP x i = tokG t i b := by
    unfold tokenP
    rw [if_neg (by rw [hx]; simp), hch]
    show tokC x i 92 (i + 1) = _
    unfold tokC
    rw [if_pos rfl, ht]
  rw [lexGo, if_pos h2, if_neg (by simp), if_neg (by rw [hq]; simp), htk, if_neg (by unfold tokG; simp), if_pos (by unfold tokG; rfl)]
  rfl
/-- What opens with a question mark and none of the short forms. -/
theorem openL_none {x : Text} {i c d : Int} {r : List Int} (h0 : 0 ≤ i) (h : (numsOf x.s).drop i.toNat = 40 :: 63 :: c :: d :: r) (hc : c ≠ 58 ∧ c ≠ 124 ∧ c ≠ 62 ∧ c ≠ 61 ∧ c ≠ 33) (hd : c ≠ 60 ∨ (d ≠ 61 ∧ d ≠ 33)) :
    openP x i = openRest x i (i + 2) ∧ (numsOf x.s).drop (i + 2).toNat = c :: d :: r := by
  have h1 := byte_drop h0 h
  have h2 := byte_drop (by omega) h1.2.2
  rw [show i + 1 + 1 = i + 2 by omega] at h2
  have h3 := h2.2.2
  have b3 := byte_drop (by omega) h3
  refine ⟨?_, h3⟩
  have ne : ∀ (t : ByteArray) (c0 : Int) (l0 : List Int), numsOf t = c0 :: l0 → c0 ≠ c → isP x.s (i + 2) t = false := fun t c0 l0 q1 q2 => isP_ne (by omega) h3 c0 l0 q1 q2
  have ne2 : ∀ (t : ByteArray) (c0 d0 : Int) (l0 : List Int), numsOf t = c0 :: d0 :: l0 → (c0 ≠ c ∨ d0 ≠ d) → isP x.s (i + 2) t = false := fun t c0 d0 l0 q1 q2 => isP_two (by omega) h3 c0 d0 l0 q1 q2
  unfold openP
  rw [isP_ne (by omega) h1.2.2 (t := bs [42]) 42 [] rfl (by decide), isP_eq (by omega) h1.2.2 (t := bs [63]) rfl, if_neg (by decide), if_neg (by decide), if_neg (by omega)]
  unfold openList
  rw [openL, ne _ 58 [] rfl (by omega), if_neg (by decide), openL, ne _ 124 [] rfl (by omega), if_neg (by decide), openL, ne _ 62 [] rfl (by omega), if_neg (by decide), openL, ne _ 61 [] rfl (by omega), if_neg (by decide),
    openL, ne _ 33 [] rfl (by omega), if_neg (by decide), openL, ne2 _ 60 61 [] rfl (by omega), if_neg (by decide), openL, ne2 _ 60 33 [] rfl (by omega), if_neg (by decide), openL]
/-- A group with a name. -/
theorem group_drop {x : Text} {i d : Int} {w l r : List Int} (h0 : 0 ≤ i) (hw : w = d :: l) (hd : digitP d = false) (hd2 : d ≠ 61 ∧ d ≠ 33) (hb : Bytes w) (hl : w.length ≤ 32) (hn : ∀ y ∈ w, nameCh y = true) (h : (numsOf x.s).drop i.toNat = 40 :: 63 :: 60 :: (w ++ 62 :: r)) :
    openP x i = tokG { tokZ with kind := 10, n := 1, name := strOfNums w } i (i + 4 + w.length) ∧ (numsOf x.s).drop (i + 4 + w.length).toNat = r := by
  have h' := h
  rw [hw, List.cons_append] at h'
  obtain ⟨e1, d1⟩ := openL_none h0 h' (by decide) (.inr hd2)
  have d2 := (byte_drop (by omega) d1).2.2
  rw [← List.cons_append, ← hw] at d2
  obtain ⟨n1, n2, n3, n4⟩ := name_drop (by omega) d2 hn (by rfl)
  have n5 := (byte_drop (by omega) n3).2.2
  have ok := nameOk_w hb hw hd hl
  rw [show i + 2 + 1 = i + 3 by omega] at n1 n2 n3 n4 n5
  rw [show i + 3 + (w.length : Int) + 1 = i + 4 + w.length by omega] at n5
  refine ⟨?_, n5⟩
  rw [e1]
  unfold openRest
  rw [isP_ne (by omega) d1 (t := bs [35]) 35 [] rfl (by decide), if_neg (by decide), isP_ne (by omega) d1 (t := bs [80, 60]) 80 [60] rfl (by decide), if_neg (by decide), isP_eq (by omega) d1 (t := bs [60]) rfl, if_pos rfl]
  unfold calledP
  rw [show i + 2 + 1 = i + 3 by omega, n1, n2, if_neg (by omega), ok, if_neg (by decide), isP_eq (by omega) n3 (t := bs [62]) rfl, if_neg (by decide)]
  have hz : (bs [62]).size = 1 := rfl
  rw [hz]
  congr 1
  show i + 3 + (w.length : Int) + 1 = _
  omega
/-- A call by a name. -/
theorem callN_drop {x : Text} {i d : Int} {w l r : List Int} (h0 : 0 ≤ i) (hw : w = d :: l) (hd : digitP d = false) (hb : Bytes w) (hl : w.length ≤ 32) (hn : ∀ y ∈ w, nameCh y = true) (h : (numsOf x.s).drop i.toNat = 40 :: 63 :: 38 :: (w ++ 41 :: r)) :
    openP x i = tokG { tokZ with kind := 12, m := 3, name := strOfNums w } i (i + 4 + w.length) ∧ (numsOf x.s).drop (i + 4 + w.length).toNat = r := by
  have h' := h
  rw [hw, List.cons_append] at h'
  obtain ⟨e1, d1⟩ := openL_none h0 h' (by decide) (.inl (by decide))
  have d2 := (byte_drop (by omega) d1).2.2
  rw [← List.cons_append, ← hw] at d2
  obtain ⟨n1, n2, n3, n4⟩ := name_drop (by omega) d2 hn (by rfl)
  have n5 := (byte_drop (by omega) n3).2.2
  have ok := nameOk_w hb hw hd hl
  rw [show i + 2 + 1 = i + 3 by omega] at n1 n2 n3 n4 n5
  rw [show i + 3 + (w.length : Int) + 1 = i + 4 + w.length by omega] at n5
  refine ⟨?_, n5⟩
  rw [e1]
  unfold openRest
  rw [isP_ne (by omega) d1 (t := bs [35]) 35 [] rfl (by decide), if_neg (by decide), isP_ne (by omega) d1 (t := bs [80, 60]) 80 [60] rfl (by decide), if_neg (by decide), isP_ne (by omega) d1 (t := bs [60]) 60 [] rfl (by decide), if_neg (by decide),
    isP_ne (by omega) d1 (t := bs [39]) 39 [] rfl (by decide), if_neg (by decide), isP_ne (by omega) d1 (t := bs [80, 61]) 80 [61] rfl (by decide), if_neg (by decide), isP_ne (by omega) d1 (t := bs [80, 62]) 80 [62] rfl (by decide), if_neg (by decide),
    isP_eq (by omega) d1 (t := bs [38]) rfl, if_pos rfl]
  unfold calledP
  rw [show i + 2 + 1 = i + 3 by omega, n1, n2, if_neg (by omega), ok, if_neg (by decide), isP_eq (by omega) n3 (t := bs [41]) rfl, if_neg (by decide)]
  have hz : (bs [41]).size = 1 := rfl
  rw [hz]
  congr 1
  show i + 3 + (w.length : Int) + 1 = _
  omega
/-- A reference back by a name. -/
theorem backN_drop {x : Text} {i d : Int} {w l r : List Int} (hu : x.utf = false) (h0 : 0 ≤ i) (hw : w = d :: l) (hd : digitP d = false) (hb : Bytes w) (hl : w.length ≤ 32) (hn : ∀ y ∈ w, nameCh y = true) (h : (numsOf x.s).drop i.toNat = 92 :: 107 :: 60 :: (w ++ 62 :: r)) :
    escapeP x i = tokG { tokZ with kind := 11, m := 3, name := strOfNums w } i (i + 4 + w.length) ∧ (numsOf x.s).drop (i + 4 + w.length).toNat = r := by
  have h1 := byte_drop h0 h
  have h2 := byte_drop (by omega) h1.2.2
  have hch := charP_drop hu (by omega) h1.2.2
  have d1 := h2.2.2
  rw [show i + 1 + 1 = i + 2 by omega] at d1 hch h2
  have d2 := (byte_drop (by omega) d1).2.2
  obtain ⟨n1, n2, n3, n4⟩ := name_drop (by omega) d2 hn (by rfl)
  have n5 := (byte_drop (by omega) n3).2.2
  have ok := nameOk_w hb hw hd hl
  refine ⟨?_, by rw [show i + 4 + (w.length : Int) = i + 2 + 1 + w.length + 1 by omega]; exact n5⟩
  unfold escapeP
  rw [if_neg (by omega), hch]
  show escQ x i (i + 2) 107 = _
  have hq : escQ x i (i + 2) 107 = escL x i (i + 2) [(bs [123], bs [125]), (bs [60], bs [62]), (bs [39], bs [39])] := rfl
  rw [hq, escL, isP_ne (by omega) d1 (t := bs [123]) 123 [] rfl (by decide), if_neg (by decide), escL, isP_eq (by omega) d1 (t := bs [60]) rfl, if_pos rfl, n1, n2, ok, if_pos rfl, isP_eq (by omega) n3 (t := bs [62]) rfl, if_pos rfl]
  congr 1
  omega
theorem cond_none {x : Text} {a i c d : Int} {r : List Int} (h0 : 0 ≤ i) (h : (numsOf x.s).drop i.toNat = c :: d :: r) (hc : c ≠ 63) : conditionP x a i = condRest x a i := by
  unfold conditionP
  rw [isP_ne h0 h (t := bs [63, 61]) 63 [61] rfl (fun q => hc q.symm), if_neg (by decide), isP_ne h0 h (t := bs [63, 33]) 63 [33] rfl (fun q => hc q.symm), if_neg (by decide), isP_ne h0 h (t := bs [63, 60, 61]) 63 [60, 61] rfl (fun q => hc q.symm), if_neg (by decide), isP_ne h0 h (t := bs [63, 60, 33]) 63 [60, 33] rfl (fun q => hc q.symm), if_neg (by decide)]
theorem openRest_cond {x : Text} {a i : Int} {r : List Int} (h0 : 0 ≤ i) (h : (numsOf x.s).drop i.toNat = 40 :: r) : openRest x a i = conditionP x a (i + 1) := by
  have ne : ∀ (t : ByteArray) (c0 : Int) (l0 : List Int), numsOf t = c0 :: l0 → c0 ≠ 40 → isP x.s i t = false := fun t c0 l0 q1 q2 => isP_ne h0 h c0 l0 q1 q2
  unfold openRest
  rw [ne _ 35 [] rfl (by omega), if_neg (by decide), ne _ 80 [60] rfl (by omega), if_neg (by decide), ne _ 60 [] rfl (by omega), if_neg (by decide), ne _ 39 [] rfl (by omega), if_neg (by decide), ne _ 80 [61] rfl (by omega), if_neg (by decide),
    ne _ 80 [62] rfl (by omega), if_neg (by decide), ne _ 38 [] rfl (by omega), if_neg (by decide), ne _ 82 [] rfl (by omega), if_neg (by decide), ne _ 67 [] rfl (by omega), if_neg (by decide), isP_eq h0 h (t := bs [40]) rfl, if_pos rfl]
/-- A condition by a name. -/
theorem condN_drop {x : Text} {i d : Int} {w l r : List Int} (h0 : 0 ≤ i) (hw : w = d :: l) (hd : digitP d = false) (hb : Bytes w) (hl : w.length ≤ 32) (hn : ∀ y ∈ w, nameCh y = true) (h : (numsOf x.s).drop i.toNat = 40 :: 63 :: 40 :: 60 :: (w ++ 62 :: 41 :: r)) :
    openP x i = tokG { tokZ with kind := 10, n := 10, name := strOfNums w } i (i + 6 + w.length) ∧ (numsOf x.s).drop (i + 6 + w.length).toNat = r := by
  obtain ⟨e1, d1⟩ := openL_none h0 h (by decide) (.inl (by decide))
  have d2 := (byte_drop (by omega) d1).2.2
  have d3 := (byte_drop (by omega) d2).2.2
  have b2 := (byte_drop (by omega) d2).1
  obtain ⟨n1, n2, n3, n4⟩ := name_drop (by omega) d3 hn (by rfl)
  have n5 := (byte_drop (by omega) n3).2.2
  have n6 := (byte_drop (by omega) n5).2.2
  have ok := nameOk_w hb hw hd hl
  refine ⟨?_, by rw [show i + 6 + (w.length : Int) = i + 2 + 1 + 1 + w.length + 1 + 1 by omega]; exact n6⟩
  rw [hw, List.cons_append] at d2
  rw [e1, openRest_cond (by omega) d1, cond_none (by omega) d2 (by decide)]
  unfold condRest
  rw [isP_eq (by omega) d2 (t := bs [60]) rfl, if_pos (.inl rfl), n1, n2, ok, if_neg (by decide)]
  have hcl : condClose x.s (i + 2 + 1) = bs [62] := by unfold condClose; rw [b2, if_neg (by decide)]
  rw [hcl, isP_eq (by omega) n3 (t := bs [62]) rfl]
  unfold condFin
  rw [if_neg (by decide), isP_eq (by omega) n5 (t := bs [41]) rfl, if_neg (by decide), if_neg (fun q => absurd q.1 (by show ¬ (10 : Int) = 9; decide))]
  congr 1
  omega
/-- A condition by a number. -/
theorem condD_drop {x : Text} {i k : Int} {r : List Int} (h0 : 0 ≤ i) (hk : 1 ≤ k ∧ k < 100) (h : (numsOf x.s).drop i.toNat = 40 :: 63 :: 40 :: (dig k ++ 41 :: r)) :
    openP x i = tokG { tokZ with kind := 10, n := 9, mode := k } i (i + 4 + (dig k).length) ∧ (numsOf x.s).drop (i + 4 + (dig k).length).toNat = r := by
  obtain ⟨d, l, hdd, hd0, hd1⟩ := dig_head (k := k) (by omega)
  have h' := h
  rw [hdd, List.cons_append] at h'
  obtain ⟨e1, d1⟩ := openL_none h0 h' (by decide) (.inl (by decide))
  have d2' := (byte_drop (by omega) d1).2.2
  have d2 := d2'
  rw [← List.cons_append, ← hdd] at d2
  have hn := num_dig (by omega) (by omega : 0 ≤ k ∧ k < 100) d2 (digitP_no (by omega))
  have n5 := (byte_drop (by omega) hn.2).2.2
  have hs := signed_abs (by omega) (by omega : 0 ≤ k ∧ k < 100) d2 (digitP_no (by omega))
  have hp := dig_pos (k := k)
  refine ⟨?_, by rw [show i + 4 + ((dig k).length : Int) = i + 2 + 1 + (dig k).length + 1 by omega]; exact n5⟩
  have ne : ∀ (t : ByteArray) (c0 : Int) (l0 : List Int), numsOf t = c0 :: l0 → c0 ≠ d → isP x.s (i + 2 + 1) t = false := fun t c0 l0 q1 q2 => isP_ne (by omega) d2' c0 l0 q1 q2
  have hcd : conditionP x i (i + 2 + 1) = condRest x i (i + 2 + 1) := by
    unfold conditionP
    rw [ne _ 63 [61] rfl (by omega), if_neg (by decide), ne _ 63 [33] rfl (by omega), if_neg (by decide), ne _ 63 [60, 61] rfl (by omega), if_neg (by decide), ne _ 63 [60, 33] rfl (by omega), if_neg (by decide)]
  rw [e1, openRest_cond (by omega) d1, hcd]
  unfold condRest
  rw [ne _ 60 [] rfl (by omega), ne _ 39 [] rfl (by omega), if_neg (by simp), ne _ 68 [69, 70, 73, 78, 69] rfl (by omega), if_neg (by decide), ne _ 82 [38] rfl (by omega), if_neg (by decide), ne _ 82 [] rfl (by omega), if_neg (by decide), hs]
  simp only
  rw [if_neg (by decide), decide_eq_true (by omega)]
  unfold condFin
  rw [if_neg (by decide), isP_eq (by omega) hn.2 (t := bs [41]) rfl, if_neg (by decide), if_neg (by show ¬ ((9 : Int) = 9 ∧ k = 0); omega)]
  congr 1
  omega
end Go.Proofs.Ytnoohgiecnmajaa.VC

/- Texts with references by names: their trees (plain). -/
namespace Go.Proofs.Ytnoohgiecnmajaa.VC
open Go Go.RowKit
set_option linter.unusedVariables false
set_option linter.unusedSimpArgs false
set_option maxHeartbeats 4000000

theorem group_gen {L : List Tok} {tO tA tC : Tok} {i op a : Int} {f : Nat} {l : List Node} {R : List Tok} (h0 : 0 ≤ i) (h : L.drop i.toNat = tO :: tA :: tC :: R) (hO : tO.kind = 10) (hO2 : tO.n ≠ 13) (hA : tA.kind = 1) (hC : tC.kind = 8) (hG : ∀ l p, l.length = 1 → groupP tO l p = p) (hop : op ≠ 40) (hR : NoQ R) :
    seqGo L (f + 8) ⟨i, op, 0, a⟩ l = seqGo L (f + 7) ⟨i + 3, op, 0, a⟩ (l ++ [groupN tO [] [oneN 12 [leafN tA]]]) := by
  obtain ⟨r1, l1, d1⟩ := rdt_drop h0 h
  obtain ⟨r2, l2, d2⟩ := rdt_drop (by omega) d1
  obtain ⟨r3, l3, d3⟩ := rdt_drop (by omega) d2
  have k1 : ∀ op a, kindP L ⟨i, op, 0, a⟩ = 10 := fun op a => (kind_drop h0 h).trans hO
  have k2 : ∀ op a, kindP L ⟨i + 1, op, 0, a⟩ = 1 := fun op a => (kind_drop (by omega) d1).trans hA
  have k3 : ∀ op a, kindP L ⟨i + 1 + 1, op, 0, a⟩ = 8 := fun op a => (kind_drop (by omega) d2).trans hC
  have k4 : ∀ op a, kindP L ⟨i + 1 + 1 + 1, op, 0, a⟩ ≠ 9 := fun op a => kind_noQ (by omega) hR d3
  have sIn : ∀ f op a, seqGo L (f + 3) ⟨i + 1, op, 0, a⟩ [] = (oneN 12 [leafN tA], ⟨i + 1 + 1, op, 0, a⟩) := by
    intro f op a
    have t1 : thingF L (f + 2) ⟨i + 1, op, 0, a⟩ = (leafN tA, ⟨i + 1 + 1, op, 0, a⟩) := by
      rw [thingF]
      simp only
      rw [r2, if_pos (show tA.kind ≠ 10 by omega)]
    have t2 : quantN L (thingF L (f + 2) ⟨i + 1, op, 0, a⟩) = (leafN tA, ⟨i + 1 + 1, op, 0, a⟩) := by
      rw [t1]
      unfold quantN
      simp only
      rw [k3, if_neg (by decide)]
    rw [seqGo, k2, if_neg (by decide), if_neg (by decide), t2]
    simp only [List.nil_append]
    rw [seqGo, k3, if_pos (.inr (.inr rfl))]
  have sAlt : ∀ f op a, altF L (f + 4) ⟨i + 1, op, 0, a⟩ = ([oneN 12 [leafN tA]], ⟨i + 1 + 1, op, 0, a⟩) := by
    intro f op a
    rw [altF, sIn]
    simp only
    rw [altGo, k3, if_neg (by decide)]
  have sGrp : thingF L (f + 7) ⟨i, op, 0, a⟩ = (groupN tO [] [oneN 12 [leafN tA]], ⟨i + 1 + 1 + 1, op, 0, a⟩) := by
    rw [thingF]
    simp only
    rw [r1, if_neg (show ¬ tO.kind ≠ 10 by omega), if_neg hop, if_neg (show ¬ (tO.n = 13 ∧ _) from fun q => hO2 q.1)]
    rw [groupF, sAlt (f + 1)]
    simp only
    rw [k3, if_neg (by decide)]
    rw [hG _ _ rfl, Int.add_sub_cancel]
  have sQ : quantN L (thingF L (f + 7) ⟨i, op, 0, a⟩) = (groupN tO [] [oneN 12 [leafN tA]], ⟨i + 1 + 1 + 1, op, 0, a⟩) := by
    rw [sGrp]
    unfold quantN
    simp only
    rw [if_neg (k4 op a)]
  rw [seqGo, k1, if_neg (by decide), if_neg (by decide), sQ]
  simp only
  rw [show i + 1 + 1 + 1 = i + 3 by omega]
def nw (k : Int) : List Int := 110 :: dig k
def nmPat : Int → Nat → List Int
  | _, 0 => []
  | k, m + 1 => 40 :: 63 :: 60 :: (nw k ++ 62 :: 97 :: 41 :: nmPat (k + 1) m)
def tkN (k a b : Int) : Tok := { tokZ with kind := 10, n := 1, name := strOfNums (nw k), at_ := a, to := b }
def nTok : Int → Int → Nat → List Tok
  | _, _, 0 => []
  | i, k, m + 1 => tkN k i (i + 4 + (nw k).length) :: tkA (i + 4 + (nw k).length) :: tkC (i + 5 + (nw k).length) :: nTok (i + 6 + (nw k).length) (k + 1) m
def nEnd : Int → Int → Nat → Int
  | i, _, 0 => i
  | i, k, m + 1 => nEnd (i + 6 + (nw k).length) (k + 1) m
theorem nw_ch {k : Int} (hk : 0 ≤ k ∧ k < 100) : ∀ y ∈ nw k, nameCh y = true := by
  intro y hy
  unfold nw at hy
  rcases List.mem_cons.1 hy with rfl | h
  · rfl
  · have hd : 48 ≤ y ∧ y ≤ 57 := by
      unfold dig at h
      split at h
      · simp only [List.mem_cons, List.mem_nil_iff, or_false] at h; omega
      · simp only [List.mem_cons, List.mem_nil_iff, or_false] at h; omega
    unfold nameCh
    rw [digitP_yes hd]
    simp
theorem nw_bytes {k : Int} (hk : 0 ≤ k ∧ k < 100) : Bytes (nw k) := by
  intro x hx
  rcases List.mem_cons.1 hx with rfl | h
  · decide
  · exact dig_bytes hk x h
theorem nw_len {k : Int} : 2 ≤ (nw k).length ∧ (nw k).length ≤ 3 := by
  unfold nw dig
  split <;> simp
theorem nm_bytes : ∀ (m : Nat) (k : Int), 0 ≤ k → k + m ≤ 100 → Bytes (nmPat k m)
  | 0, k, _, _ => by intro x hx; rw [nmPat] at hx; cases hx
  | m + 1, k, h0, h1 => by
    rw [nmPat]
    refine Bytes.app (a := [40, 63, 60]) (by intro x hx; simp only [List.mem_cons, List.mem_nil_iff, or_false] at hx; omega) ((nw_bytes ⟨h0, by omega⟩).app ?_)
    exact Bytes.app (a := [62, 97, 41]) (by intro x hx; simp only [List.mem_cons, List.mem_nil_iff, or_false] at hx; omega) (nm_bytes m (k + 1) (by omega) (by omega))
theorem nm_len : ∀ (m : Nat) (k : Int), (nmPat k m).length ≤ 9 * m
  | 0, k => by rw [nmPat]; simp
  | m + 1, k => by
    have := nm_len m (k + 1)
    have := nw_len (k := k)
    rw [nmPat]
    simp only [List.length_cons, List.length_append]
    omega
theorem nTok_len : ∀ (m : Nat) (i k : Int), (nTok i k m).length = 3 * m
  | 0, i, k => rfl
  | m + 1, i, k => by rw [nTok]; simp only [List.length_cons]; rw [nTok_len m]; omega
theorem lex_names {x : Text} (hu : x.utf = false) (hx : x.x = false) : ∀ (m : Nat) (i k : Int) (f : Nat) (out : List Tok) (R : List Int), 0 ≤ i → 0 ≤ k → k + m ≤ 100 → (numsOf x.s).drop i.toNat = nmPat k m ++ R →
    lexGo x (f + 3 * m) i false out = lexGo x f (nEnd i k m) false (out ++ nTok i k m) ∧ (numsOf x.s).drop (nEnd i k m).toNat = R ∧ 0 ≤ nEnd i k m
  | 0, i, k, f, out, R, h0, hk, hkm, h => by
    rw [nTok, List.append_nil, nEnd]
    exact ⟨rfl, h, h0⟩
  | m + 1, i, k, f, out, R, h0, hk, hkm, h => by
    rw [nmPat] at h
    simp only [List.cons_append, List.append_assoc] at h
    obtain ⟨o1, d1⟩ := group_drop (w := nw k) (l := dig k) (d := 110) h0 rfl (by rfl) (by decide) (nw_bytes ⟨hk, by omega⟩) (by have := nw_len (k := k); omega) (nw_ch ⟨hk, by omega⟩) h
    have hw := nw_len (k := k)
    have d2 := (byte_drop (by omega) d1).2.2
    have d3 := (byte_drop (by omega) d2).2.2
    have s1 := lex_open (k := f + 3 * m + 2) (out := out) hu hx h0 h o1
    have s2 := lex_step (k := f + 3 * m + 1) (out := out ++ [tkN k i (i + 4 + (nw k).length)]) hu hx (by omega) d1 (by decide) (t := { tokZ with kind := 1, c := 97 }) (b := i + 4 + (nw k).length + 1) (by unfold tokC; rfl)
    have s3 := lex_step (k := f + 3 * m) (out := out ++ [tkN k i (i + 4 + (nw k).length)] ++ [tkA (i + 4 + (nw k).length)]) hu hx (by omega) d2 (by decide) (t := { tokZ with kind := 8 }) (b := i + 4 + (nw k).length + 1 + 1) (by unfold tokC; rfl)
    have e3 : i + 4 + ((nw k).length : Int) + 1 + 1 = i + 6 + (nw k).length := by omega
    rw [e3] at d3 s3
    have ih := lex_names hu hx m (i + 6 + (nw k).length) (k + 1) f (out ++ [tkN k i (i + 4 + (nw k).length)] ++ [tkA (i + 4 + (nw k).length)] ++ [tkC (i + 5 + (nw k).length)]) R (by omega) (by omega) (by omega) d3
    rw [nEnd, nTok]
    refine ⟨?_, ih.2⟩
    rw [show f + 3 * (m + 1) = f + 3 * m + 2 + 1 by omega]
    refine Eq.trans s1 ?_
    refine Eq.trans s2 ?_
    have t3 : ({ ({ tokZ with kind := 8 } : Tok) with at_ := i + 4 + (nw k).length + 1, to := i + 6 + (nw k).length } : Tok) = tkC (i + 5 + (nw k).length) := by
      unfold tkC
      rw [show i + 4 + ((nw k).length : Int) + 1 = i + 5 + (nw k).length by omega, show i + 5 + ((nw k).length : Int) + 1 = i + 6 + (nw k).length by omega]
    rw [t3] at s3
    refine Eq.trans s3 ?_
    rw [ih.1]
    simp only [List.append_assoc, List.cons_append, List.nil_append]
/-- The node of a group with a name. -/
def capN (i k : Int) : Node := groupN (tkN k i (i + 4 + (nw k).length)) [] [oneN 12 [leafN (tkA (i + 4 + (nw k).length))]]
def capsNm : Int → Int → Nat → List Node
  | _, _, 0 => []
  | i, k, m + 1 => capN i k :: capsNm (i + 6 + (nw k).length) (k + 1) m
theorem gP_one {t : Tok} (h : t.n ≠ 12) : ∀ l p, l.length = 1 → groupP t l p = p := by
  intro l p hl
  unfold groupP
  split
  · rfl
  · have hb : condBad t l = false := by
      unfold condBad
      rw [if_neg (show ¬ (l.length : Int) > 2 by omega), if_neg (show ¬ (l.length : Int) > 1 by omega)]
    rw [hb, if_neg (by decide)]
theorem seq_names {L : List Tok} {op a : Int} (hop : op ≠ 40) : ∀ (m : Nat) (i : Int) (j k : Int) (f : Nat) (l : List Node) (R : List Tok), 0 ≤ i → L.drop i.toNat = nTok j k m ++ R → NoQ R →
    seqGo L (f + 7 + m) ⟨i, op, 0, a⟩ l = seqGo L (f + 7) ⟨i + 3 * m, op, 0, a⟩ (l ++ capsNm j k m) ∧ L.drop (i + 3 * m).toNat = R
  | 0, i, j, k, f, l, R, h0, h, hR => by
    rw [capsNm, List.append_nil]
    rw [show i + 3 * ((0 : Nat) : Int) = i by omega]
    exact ⟨rfl, h⟩
  | m + 1, i, j, k, f, l, R, h0, h, hR => by
    rw [nTok, List.cons_append, List.cons_append, List.cons_append] at h
    have hN : NoQ (nTok (j + 6 + (nw k).length) (k + 1) m ++ R) := by
      cases m with
      | zero => rw [nTok]; exact hR
      | succ m =>
        intro t r e
        rw [nTok] at e
        simp only [List.cons_append, List.cons.injEq] at e
        rw [← e.1]
        show (10 : Int) ≠ 9
        decide
    have hs := group_gen (f := f + m) (l := l) (op := op) (a := a) h0 h rfl (by show (1 : Int) ≠ 13; decide) rfl rfl (gP_one (by show (1 : Int) ≠ 12; decide)) hop hN
    have d3 := (rdt_drop (by omega) (rdt_drop (by omega) (rdt_drop h0 h).2.2).2.2).2.2
    rw [show i + 1 + 1 + 1 = i + 3 by omega] at d3
    have ih := seq_names hop m (i + 3) (j + 6 + (nw k).length) (k + 1) f (l ++ [capN j k]) R (by omega) d3 hR (a := a)
    have ei : i + 3 + 3 * (m : Int) = i + 3 * ((m + 1 : Nat) : Int) := by omega
    rw [ei] at ih
    refine ⟨?_, ih.2⟩
    rw [show f + 7 + (m + 1) = f + m + 8 by omega, hs, show f + m + 7 = f + 7 + m by omega]
    refine Eq.trans ih.1 ?_
    rw [capsNm]
    simp only [List.append_assoc, List.cons_append, List.nil_append]
/-- Groups with names, a reference, a call, and a condition. -/
theorem parse_names (n : Nat) (hn : 1 ≤ n) (t1 t2 t3 t4 t5 : Tok) (e : Int) (h1 : t1.kind = 11) (h2 : t2.kind = 12) (h3 : t3.kind = 10) (h3n : t3.n = 9 ∨ t3.n = 10) (h4 : t4.kind = 1) (h5 : t5.kind = 8) :
    parseP (nTok 0 1 n ++ [t1, t2, t3, t4, t5]) e = ⟨oneN 13 [oneN 12 (capsNm 0 1 n ++ [leafN t1, leafN t2, groupN t3 [] [oneN 12 [leafN t4]]])], 0, 0⟩ := by
  have hl := nTok_len n 0 1
  have hlen : (nTok 0 1 n ++ [t1, t2, t3, t4, t5]).length = 3 * n + 5 := by rw [List.length_append, hl]; rfl
  have hN1 : NoQ [t1, t2, t3, t4, t5] := fun t' r e => by simp only [List.cons.injEq] at e; rw [← e.1]; omega
  have hN2 : NoQ [t2, t3, t4, t5] := fun t' r e => by simp only [List.cons.injEq] at e; rw [← e.1]; omega
  have hN3 : NoQ [t3, t4, t5] := fun t' r e => by simp only [List.cons.injEq] at e; rw [← e.1]; omega
  apply parse_seq
  rw [hlen]
  have h := seq_names (L := nTok 0 1 n ++ [t1, t2, t3, t4, t5]) (op := 0) (a := 0) (by decide) n 0 0 1 (11 * n + 14) [] [t1, t2, t3, t4, t5] (by decide) rfl hN1
  rw [show 4 * (3 * n + 5) + 1 = 11 * n + 14 + 7 + n - 0 by omega, Nat.sub_zero]
  refine Eq.trans h.1 ?_
  have d0 := h.2
  have s1 := leaf_step (op := 0) (a := 0) (f := 11 * n + 19) (l := [] ++ capsNm 0 1 n) (by omega) d0 (.inl h1) hN2
  have d1 := (rdt_drop (by omega) d0).2.2
  have s2 := leaf_step (op := 0) (a := 0) (f := 11 * n + 18) (l := [] ++ capsNm 0 1 n ++ [leafN t1]) (by omega) d1 (.inr h2) hN3
  have d2 := (rdt_drop (by omega) d1).2.2
  have s3 := group_gen (op := 0) (a := 0) (f := 11 * n + 11) (l := [] ++ capsNm 0 1 n ++ [leafN t1] ++ [leafN t2]) (by omega) d2 h3 (by omega) h4 h5 (gP_one (by omega)) (by decide) (fun t r e => by cases e)
  rw [show 11 * n + 14 + 7 = 11 * n + 19 + 2 by omega]
  refine Eq.trans s1 ?_
  rw [show 11 * n + 19 + 1 = 11 * n + 18 + 2 by omega]
  refine Eq.trans s2 ?_
  rw [show 11 * n + 18 + 1 = 11 * n + 11 + 8 by omega]
  refine Eq.trans s3 ?_
  rw [show 11 * n + 11 + 7 = 11 * n + 17 + 1 by omega, seq_end (by rw [hlen]; omega)]
  refine Prod.ext ?_ ?_
  · show oneN 12 _ = oneN 12 _
    congr 1
    simp only [List.append_assoc, List.cons_append, List.nil_append]
  · show (⟨0 + 3 * (n : Int) + 1 + 1 + 3, 0, 0, 0⟩ : Par) = ⟨((3 * n + 5 : Nat) : Int), 0, 0, 0⟩
    rw [show 0 + 3 * (n : Int) + 1 + 1 + 3 = ((3 * n + 5 : Nat) : Int) by omega]
/-- Groups with names, and a reference. -/
theorem parse_name1 (n : Nat) (t : Tok) (e : Int) (ht : t.kind = 11 ∨ t.kind = 12) : parseP (nTok 0 1 n ++ [t]) e = ⟨oneN 13 [oneN 12 (capsNm 0 1 n ++ [leafN t])], 0, 0⟩ := by
  have hl := nTok_len n 0 1
  have hlen : (nTok 0 1 n ++ [t]).length = 3 * n + 1 := by rw [List.length_append, hl]; rfl
  have hN : NoQ [t] := fun t' r e => by simp only [List.cons.injEq] at e; rw [← e.1]; omega
  apply parse_seq
  rw [hlen]
  cases n with
  | zero =>
    have h1 := leaf_step (L := nTok 0 1 0 ++ [t]) (i := 0) (op := 0) (a := 0) (f := 3) (l := []) (t := t) (R := []) (by decide) rfl ht (fun t r e => by cases e)
    refine Eq.trans h1 ?_
    rw [seq_end (by rfl)]
    rfl
  | succ n =>
    have h := seq_names (L := nTok 0 1 (n + 1) ++ [t]) (op := 0) (a := 0) (by decide) (n + 1) 0 0 1 (11 * n + 9) [] [t] (by decide) rfl hN
    rw [show 4 * (3 * (n + 1) + 1) + 1 = 11 * n + 9 + 7 + (n + 1) by omega]
    refine Eq.trans h.1 ?_
    have h1 := leaf_step (L := nTok 0 1 (n + 1) ++ [t]) (i := 0 + 3 * ((n + 1 : Nat) : Int)) (op := 0) (a := 0) (f := 11 * n + 14) (l := [] ++ capsNm 0 1 (n + 1)) (t := t) (R := []) (by omega) h.2 ht (fun t r e => by cases e)
    rw [show 11 * n + 9 + 7 = 11 * n + 14 + 2 by omega]
    refine Eq.trans h1 ?_
    rw [seq_end (by rw [hlen]; omega)]
    refine Prod.ext rfl ?_
    show (⟨0 + 3 * ((n + 1 : Nat) : Int) + 1, 0, 0, 0⟩ : Par) = ⟨((3 * (n + 1) + 1 : Nat) : Int), 0, 0, 0⟩
    rw [show 0 + 3 * ((n + 1 : Nat) : Int) + 1 = ((3 * (n + 1) + 1 : Nat) : Int) by omega]
end Go.Proofs.Ytnoohgiecnmajaa.VC

/- Texts with references by names: all tokens (plain). -/
namespace Go.Proofs.Ytnoohgiecnmajaa.VC
open Go Go.RowKit
set_option linter.unusedVariables false
set_option linter.unusedSimpArgs false
set_option maxHeartbeats 4000000

def tkF (kind c n m mode : Int) (name : ByteArray) (a b : Int) : Tok := { tokZ with kind := kind, c := c, n := n, m := m, mode := mode, name := name, at_ := a, to := b }
theorem drop_nil {s : ByteArray} {i : Int} (h0 : 0 ≤ i) (h : (numsOf s).drop i.toNat = []) : ¬ i < s.size := by
  have := List.drop_eq_nil_iff.1 h
  rw [numsOf_len] at this
  omega
theorem nm_low : ∀ (m : Nat) (k : Int), 8 * m ≤ (nmPat k m).length
  | 0, k => by simp
  | m + 1, k => by
    have := nm_low m (k + 1)
    have := nw_len (k := k)
    rw [nmPat]
    simp only [List.length_cons, List.length_append]
    omega
def tA (k : Int) : List Int := 92 :: 107 :: 60 :: (nw k ++ 62 :: 40 :: 63 :: 38 :: (nw k ++ 41 :: 40 :: 63 :: 40 :: 60 :: (nw k ++ [62, 41, 98, 41])))
def tB (k : Int) : List Int := 92 :: 103 :: 123 :: (dig k ++ 125 :: 40 :: 63 :: (dig k ++ 41 :: 40 :: 63 :: 40 :: (dig k ++ [41, 98, 41])))
def tC : List Int := [92, 107, 60, 109, 62]
theorem tA_bytes {k : Int} (hk : 0 ≤ k ∧ k < 100) : Bytes (tA k) := by
  have hw := nw_bytes hk
  refine Bytes.app (a := [92, 107, 60]) (by unfold Bytes; decide) (hw.app ?_)
  refine Bytes.app (a := [62, 40, 63, 38]) (by unfold Bytes; decide) (hw.app ?_)
  refine Bytes.app (a := [41, 40, 63, 40, 60]) (by unfold Bytes; decide) (hw.app ?_)
  unfold Bytes; decide
theorem tB_bytes {k : Int} (hk : 0 ≤ k ∧ k < 100) : Bytes (tB k) := by
  have hw := dig_bytes hk
  refine Bytes.app (a := [92, 103, 123]) (by unfold Bytes; decide) (hw.app ?_)
  refine Bytes.app (a := [125, 40, 63]) (by unfold Bytes; decide) (hw.app ?_)
  refine Bytes.app (a := [41, 40, 63, 40]) (by unfold Bytes; decide) (hw.app ?_)
  unfold Bytes; decide
/-- The text behind the groups, at its place. -/
theorem lex_at {n : Nat} (hn : n ≤ 60) {T : List Int} (hT : Bytes T) (hT1 : T.length ≤ 60) (hT5 : 5 ≤ T.length) :
    ∃ (x : Text) (f : Nat), x.utf = false ∧ x.x = false ∧ 0 ≤ nEnd 0 1 n ∧ (numsOf x.s).drop (nEnd 0 1 n).toNat = T ∧ lexP (nmPat 1 n ++ T) 0 = lexGo x (f + 6) (nEnd 0 1 n) false (nTok 0 1 n) := by
  have h1 := nm_len n 1
  have h2 := nm_low n 1
  have hb := (nm_bytes n 1 (by omega) (by omega)).app hT
  have hlen : (nmPat 1 n ++ T).length = (nmPat 1 n).length + T.length := List.length_append
  obtain ⟨F, hF⟩ : ∃ F, (nmPat 1 n).length + T.length + 1 = F + 6 + 3 * n := ⟨(nmPat 1 n).length + T.length + 1 - 3 * n - 6, by omega⟩
  refine ⟨⟨strOfNums (nmPat 1 n ++ T), false, false, 255⟩, F, rfl, rfl, ?_⟩
  have h := lex_names (x := ⟨strOfNums (nmPat 1 n ++ T), false, false, 255⟩) rfl rfl n 0 1 (F + 6) [] T (by decide) (by decide) (by omega) (by
    show (numsOf (strOfNums (nmPat 1 n ++ T))).drop 0 = _
    rw [nums_strOf hb]; rfl)
  refine ⟨h.2.2, h.2.1, ?_⟩
  rw [lexP0 (by omega), hlen, hF]
  rw [List.nil_append] at h
  exact h.1
theorem step_to {x : Text} {k f : Nat} {i b : Int} {out : List Tok} {X T : Tok} (hs : lexGo x f i false out = lexGo x k b false (out ++ [X])) (hX : X = T) : lexGo x f i false out = lexGo x k b false (out ++ [T]) := by rw [hs, hX]
attribute [local irreducible] lexGo strOfNums nTok nmPat
/-- A letter, and a bracket, at the end. -/
theorem lex_fin {x : Text} {f : Nat} {i : Int} {out : List Tok} (hu : x.utf = false) (hx : x.x = false) (h0 : 0 ≤ i) (h : (numsOf x.s).drop i.toNat = [98, 41]) :
    lexGo x (f + 3) i false out = ⟨out ++ [tkF 1 98 0 0 0 (bs []) i (i + 1), tkF 8 0 0 0 0 (bs []) (i + 1) (i + 1 + 1)], 0, 0⟩ := by
  have d1 := (byte_drop h0 h).2.2
  have d2 := (byte_drop (by omega) d1).2.2
  have s1 := step_to (T := tkF 1 98 0 0 0 (bs []) i (i + 1)) (lex_step (k := f + 2) (out := out) hu hx h0 h (by decide) (t := { tokZ with kind := 1, c := 98 }) (b := i + 1) (by unfold tokC; rfl)) rfl
  have s2 := step_to (T := tkF 8 0 0 0 0 (bs []) (i + 1) (i + 1 + 1)) (lex_step (k := f + 1) (out := out ++ [tkF 1 98 0 0 0 (bs []) i (i + 1)]) hu hx (by omega) d1 (by decide) (t := { tokZ with kind := 8 }) (b := i + 1 + 1) (by unfold tokC; rfl)) rfl
  rw [show f + 3 = f + 2 + 1 from rfl, s1, show f + 2 = f + 1 + 1 from rfl, s2, lex_end (drop_nil (by omega) d2)]
  simp only [List.append_assoc, List.cons_append, List.nil_append]
theorem nwl (k : Int) (hk : 0 ≤ k ∧ k < 100) : (nw k).length ≤ 32 := by have := nw_len (k := k); omega
theorem lexA (n : Nat) (k : Int) (hn : n ≤ 60) (hk : 1 ≤ k ∧ k < 100) :
    ∃ p1 b1 p2 b2 p3 b3 p4 b4 p5 b5 : Int, lexP (nmPat 1 n ++ tA k) 0 = ⟨nTok 0 1 n ++ [tkF 11 0 0 3 0 (strOfNums (nw k)) p1 b1, tkF 12 0 0 3 0 (strOfNums (nw k)) p2 b2, tkF 10 0 10 0 0 (strOfNums (nw k)) p3 b3, tkF 1 98 0 0 0 (bs []) p4 b4, tkF 8 0 0 0 0 (bs []) p5 b5], 0, 0⟩ := by
  have hk' : 0 ≤ k ∧ k < 100 := by omega
  have hw := nw_len (k := k)
  obtain ⟨x, f, hu, hx, h0, hd, he⟩ := lex_at hn (tA_bytes hk') (by unfold tA; simp only [List.length_cons, List.length_append, List.length_nil]; omega) (by unfold tA; simp only [List.length_cons, List.length_append, List.length_nil]; omega)
  generalize nEnd 0 1 n = P at *
  obtain ⟨o1, d1⟩ := backN_drop (w := nw k) (l := dig k) (d := 110) hu h0 rfl rfl (nw_bytes hk') (nwl k hk') (nw_ch hk') hd
  obtain ⟨o2, d2⟩ := callN_drop (w := nw k) (l := dig k) (d := 110) (by omega) rfl rfl (nw_bytes hk') (nwl k hk') (nw_ch hk') d1
  obtain ⟨o3, d3⟩ := condN_drop (w := nw k) (l := dig k) (d := 110) (by omega) rfl rfl (nw_bytes hk') (nwl k hk') (nw_ch hk') d2
  have s1 := step_to (T := tkF 11 0 0 3 0 (strOfNums (nw k)) P (P + 4 + (nw k).length)) (lex_esc2 (k := f + 5) (out := nTok 0 1 n) hu hx h0 hd (by decide) o1) rfl
  have s2 := step_to (T := tkF 12 0 0 3 0 (strOfNums (nw k)) (P + 4 + (nw k).length) (P + 4 + (nw k).length + 4 + (nw k).length)) (lex_open (k := f + 4) (out := nTok 0 1 n ++ [tkF 11 0 0 3 0 (strOfNums (nw k)) P (P + 4 + (nw k).length)]) hu hx (by omega) d1 o2) rfl
  have s3 := step_to (T := tkF 10 0 10 0 0 (strOfNums (nw k)) (P + 4 + (nw k).length + 4 + (nw k).length) (P + 4 + (nw k).length + 4 + (nw k).length + 6 + (nw k).length)) (lex_open (k := f + 3) (out := nTok 0 1 n ++ [tkF 11 0 0 3 0 (strOfNums (nw k)) P (P + 4 + (nw k).length)] ++ [tkF 12 0 0 3 0 (strOfNums (nw k)) (P + 4 + (nw k).length) (P + 4 + (nw k).length + 4 + (nw k).length)]) hu hx (by omega) d2 o3) rfl
  have s4 := lex_fin (f := f) (out := nTok 0 1 n ++ [tkF 11 0 0 3 0 (strOfNums (nw k)) P (P + 4 + (nw k).length)] ++ [tkF 12 0 0 3 0 (strOfNums (nw k)) (P + 4 + (nw k).length) (P + 4 + (nw k).length + 4 + (nw k).length)] ++ [tkF 10 0 10 0 0 (strOfNums (nw k)) (P + 4 + (nw k).length + 4 + (nw k).length) (P + 4 + (nw k).length + 4 + (nw k).length + 6 + (nw k).length)]) hu hx (by omega) d3
  refine ⟨P, (P + 4 + (nw k).length), (P + 4 + (nw k).length), (P + 4 + (nw k).length + 4 + (nw k).length), (P + 4 + (nw k).length + 4 + (nw k).length), (P + 4 + (nw k).length + 4 + (nw k).length + 6 + (nw k).length), (P + 4 + (nw k).length + 4 + (nw k).length + 6 + (nw k).length), (P + 4 + (nw k).length + 4 + (nw k).length + 6 + (nw k).length) + 1, (P + 4 + (nw k).length + 4 + (nw k).length + 6 + (nw k).length) + 1, (P + 4 + (nw k).length + 4 + (nw k).length + 6 + (nw k).length) + 1 + 1, he.trans ?_⟩
  rw [show f + 6 = f + 5 + 1 from rfl, s1, show f + 5 = f + 4 + 1 from rfl, s2, show f + 4 = f + 3 + 1 from rfl, s3, s4]
  simp only [List.append_assoc, List.cons_append, List.nil_append]
theorem lexB (n : Nat) (k : Int) (hn : n ≤ 60) (hk : 1 ≤ k ∧ k < 100) :
    ∃ p1 b1 p2 b2 p3 b3 p4 b4 p5 b5 : Int, lexP (nmPat 1 n ++ tB k) 0 = ⟨nTok 0 1 n ++ [tkF 11 0 k 0 0 (bs []) p1 b1, tkF 12 0 k 0 0 (bs []) p2 b2, tkF 10 0 9 0 k (bs []) p3 b3, tkF 1 98 0 0 0 (bs []) p4 b4, tkF 8 0 0 0 0 (bs []) p5 b5], 0, 0⟩ := by
  have hk' : 0 ≤ k ∧ k < 100 := by omega
  have hw : 1 ≤ (dig k).length ∧ (dig k).length ≤ 2 := by unfold dig; split <;> simp
  obtain ⟨d, l, hdd, hd0, hd1⟩ := dig_head hk'
  obtain ⟨x, f, hu, hx, h0, hd, he⟩ := lex_at hn (tB_bytes hk') (by unfold tB; simp only [List.length_cons, List.length_append, List.length_nil]; omega) (by unfold tB; simp only [List.length_cons, List.length_append, List.length_nil]; omega)
  generalize nEnd 0 1 n = P at *
  have e1 := (byte_drop h0 hd).2.2
  have e2 := (byte_drop (by omega) e1).2.2
  have e3 := (byte_drop (by omega) e2).2.2
  have hs1 := signed_abs (by omega) hk' e3 (digitP_no (by omega))
  have o1 := refer_drop (a := P) (by omega) hk e2 hs1 hw.1
  have n1 := (num_dig (by omega) hk' e3 (digitP_no (by omega))).2
  have d1 := (byte_drop (by omega) n1).2.2
  have f1 := (byte_drop (by omega) d1).2.2
  have f2 := (byte_drop (by omega) f1).2.2
  have hs2 := signed_abs (by omega) hk' f2 (digitP_no (by omega))
  have n2 := (num_dig (by omega) hk' f2 (digitP_no (by omega))).2
  have d2 := (byte_drop (by omega) n2).2.2
  rw [show P + 1 + 1 + 1 + ((dig k).length : Int) + 1 + 1 + 1 + (dig k).length + 1 = P + 1 + 1 + 1 + (dig k).length + 1 + 2 + (dig k).length + 1 by omega] at d2
  have o2 := call_drop (m := 0) (by omega) hk d1 hdd (.inr ⟨hd0, hd1⟩) (by
    rw [show P + 1 + 1 + 1 + ((dig k).length : Int) + 1 + 2 = P + 1 + 1 + 1 + (dig k).length + 1 + 1 + 1 by omega]
    exact hs2)
  obtain ⟨o3, d3⟩ := condD_drop (by omega) hk d2
  have s1 := step_to (T := tkF 11 0 k 0 0 (bs []) P (P + 1 + 1 + 1 + (dig k).length + 1)) (lex_esc (k := f + 5) (out := nTok 0 1 n) hu hx h0 hd o1) rfl
  have s2 := step_to (T := tkF 12 0 k 0 0 (bs []) (P + 1 + 1 + 1 + (dig k).length + 1) (P + 1 + 1 + 1 + (dig k).length + 1 + 2 + (dig k).length + 1)) (lex_open (k := f + 4) (out := nTok 0 1 n ++ [tkF 11 0 k 0 0 (bs []) P (P + 1 + 1 + 1 + (dig k).length + 1)]) hu hx (by omega) d1 o2) rfl
  have s3 := step_to (T := tkF 10 0 9 0 k (bs []) (P + 1 + 1 + 1 + (dig k).length + 1 + 2 + (dig k).length + 1) (P + 1 + 1 + 1 + (dig k).length + 1 + 2 + (dig k).length + 1 + 4 + (dig k).length)) (lex_open (k := f + 3) (out := nTok 0 1 n ++ [tkF 11 0 k 0 0 (bs []) P (P + 1 + 1 + 1 + (dig k).length + 1)] ++ [tkF 12 0 k 0 0 (bs []) (P + 1 + 1 + 1 + (dig k).length + 1) (P + 1 + 1 + 1 + (dig k).length + 1 + 2 + (dig k).length + 1)]) hu hx (by omega) d2 o3) rfl
  have s4 := lex_fin (f := f) (out := nTok 0 1 n ++ [tkF 11 0 k 0 0 (bs []) P (P + 1 + 1 + 1 + (dig k).length + 1)] ++ [tkF 12 0 k 0 0 (bs []) (P + 1 + 1 + 1 + (dig k).length + 1) (P + 1 + 1 + 1 + (dig k).length + 1 + 2 + (dig k).length + 1)] ++ [tkF 10 0 9 0 k (bs []) (P + 1 + 1 + 1 + (dig k).length + 1 + 2 + (dig k).length + 1) (P + 1 + 1 + 1 + (dig k).length + 1 + 2 + (dig k).length + 1 + 4 + (dig k).length)]) hu hx (by omega) d3
  refine ⟨P, (P + 1 + 1 + 1 + (dig k).length + 1), (P + 1 + 1 + 1 + (dig k).length + 1), (P + 1 + 1 + 1 + (dig k).length + 1 + 2 + (dig k).length + 1), (P + 1 + 1 + 1 + (dig k).length + 1 + 2 + (dig k).length + 1), (P + 1 + 1 + 1 + (dig k).length + 1 + 2 + (dig k).length + 1 + 4 + (dig k).length), (P + 1 + 1 + 1 + (dig k).length + 1 + 2 + (dig k).length + 1 + 4 + (dig k).length), (P + 1 + 1 + 1 + (dig k).length + 1 + 2 + (dig k).length + 1 + 4 + (dig k).length) + 1, (P + 1 + 1 + 1 + (dig k).length + 1 + 2 + (dig k).length + 1 + 4 + (dig k).length) + 1, (P + 1 + 1 + 1 + (dig k).length + 1 + 2 + (dig k).length + 1 + 4 + (dig k).length) + 1 + 1, he.trans ?_⟩
  rw [show f + 6 = f + 5 + 1 from rfl, s1, show f + 5 = f + 4 + 1 from rfl, s2, show f + 4 = f + 3 + 1 from rfl, s3, s4]
  simp only [List.append_assoc, List.cons_append, List.nil_append]
theorem lexC (n : Nat) (hn : n ≤ 60) (hn1 : 1 ≤ n) : ∃ p b : Int, 0 < p ∧ lexP (nmPat 1 n ++ tC) 0 = ⟨nTok 0 1 n ++ [tkF 11 0 0 3 0 (strOfNums [109]) p b], 0, 0⟩ := by
  have hb : Bytes tC := by unfold Bytes; decide
  have hpos : 0 < nEnd 0 1 n := by
    have key : ∀ (m : Nat) (i k : Int), i + 6 * m ≤ nEnd i k m := by
      intro m
      induction m with
      | zero => intro i k; rw [nEnd]; omega
      | succ m ih => intro i k; have := ih (i + 6 + (nw k).length) (k + 1); rw [nEnd]; omega
    have := key n 0 1
    omega
  obtain ⟨x, f, hu, hx, h0, hd, he⟩ := lex_at hn hb (by decide) (by decide)
  generalize nEnd 0 1 n = P at *
  obtain ⟨o1, d1⟩ := backN_drop (w := [109]) (l := []) (d := 109) (r := []) hu h0 rfl rfl (by unfold Bytes; decide) (by decide) (by decide) hd
  have s1 := step_to (T := tkF 11 0 0 3 0 (strOfNums [109]) P (P + 4 + ([109] : List Int).length)) (lex_esc2 (k := f + 5) (out := nTok 0 1 n) hu hx h0 hd (by decide) o1) rfl
  refine ⟨P, P + 4 + ([109] : List Int).length, hpos, he.trans ?_⟩
  rw [show f + 6 = f + 5 + 1 from rfl, s1, lex_end (drop_nil (by omega) d1)]
end Go.Proofs.Ytnoohgiecnmajaa.VC

/- Texts with references by names: what resolving answers (plain). -/
namespace Go.Proofs.Ytnoohgiecnmajaa.VC
open Go Go.RowKit
set_option linter.unusedVariables false
set_option linter.unusedSimpArgs false
set_option maxHeartbeats 4000000

attribute [local irreducible] bAnd setP
def litX (c : Ctx) (g ch i : Int) : Node := setN i (setP c [(ch, ch)] (bAnd g 1 != 0) false)
def fN (i k n : Int) : NodeF := { fZ with kind := 14, at_ := i, name := strOfNums (nw k), n := n }
def capsNR (c : Ctx) (g : Int) : Int → Int → Nat → List Node
  | _, _, 0 => []
  | i, k, m + 1 => .mk (fN i k 0) [litX c g 97 (i + 4 + (nw k).length)] :: capsNR c g (i + 6 + (nw k).length) (k + 1) m
def capsNB (c : Ctx) (g : Int) : Int → Int → Nat → List Node
  | _, _, 0 => []
  | i, k, m + 1 => .mk (fN i k k) [litX c g 97 (i + 4 + (nw k).length)] :: capsNB c g (i + 6 + (nw k).length) (k + 1) m
theorem nodeR_lit (c : Ctx) (g ch a b : Int) : nodeR c (leafN (tkF 1 ch 0 0 0 (bs []) a b)) g = (litX c g ch a, g) := by
  rw [show leafN (tkF 1 ch 0 0 0 (bs []) a b) = .mk ⟨1, a, ch, [], false, 0, 0, 0, bs [], 0, 0⟩ [] from rfl, nodeR]
  unfold nodeS
  simp only
  rw [if_pos trivial]
  rfl
theorem nodeR_one (c : Ctx) (g ch a b : Int) (f : NodeF) (hk : f.kind = 14 ∨ f.kind = 19) : nodeR c (.mk f [leafN (tkF 1 ch 0 0 0 (bs []) a b)]) g = (.mk f [litX c g ch a], g) := by
  rw [nodeR]
  unfold nodeS
  rw [if_neg (by omega), if_neg (by omega), if_neg (by omega), if_neg (by omega), if_neg (by omega), if_neg (by omega), if_neg (by omega), if_neg (by omega), if_neg (by omega), if_neg (by omega)]
  simp only
  rw [rowR, rowR, nodeR_lit]
  have h2 : greedN f g = f := by unfold greedN; rw [if_neg (by omega)]
  rw [h2]
theorem nodeR_leafG (c : Ctx) (g : Int) (f : NodeF) : (f.kind = 7 → nodeR c (.mk f []) g = (.mk { f with on := bAnd g 1 } [], g)) ∧ (f.kind = 8 → nodeR c (.mk f []) g = (.mk f [], g)) := by
  refine ⟨fun h => ?_, fun h => ?_⟩
  · rw [nodeR]
    unfold nodeS
    rw [if_neg (by omega), if_neg (by omega), if_neg (by omega), if_neg (by omega), if_neg (by omega), if_pos h]
  · rw [nodeR]
    unfold nodeS
    rw [if_neg (by omega), if_neg (by omega), if_neg (by omega), if_neg (by omega), if_neg (by omega), if_neg (by omega), if_neg (by omega), if_neg (by omega), if_neg (by omega), if_neg (by omega)]
    simp only
    have h2 : greedN f g = f := by unfold greedN; rw [if_neg (by omega)]
    rw [h2, rowR]
theorem rowR_app (c : Ctx) : ∀ (A B : List Node) (g : Int), rowR c (A ++ B) g = ((rowR c A g).1 ++ (rowR c B (rowR c A g).2).1, (rowR c B (rowR c A g).2).2)
  | [], B, g => by rw [List.nil_append, rowR]; rfl
  | k :: A, B, g => by rw [List.cons_append, rowR, rowR, rowR_app c A B]; rfl
theorem capsNm_row (c : Ctx) (g : Int) : ∀ (m : Nat) (i k : Int), rowR c (capsNm i k m) g = (capsNR c g i k m, g)
  | 0, i, k => by rw [capsNm, rowR, capsNR]
  | m + 1, i, k => by
    have h1 : capN i k = .mk (fN i k 0) [leafN (tkF 1 97 0 0 0 (bs []) (i + 4 + (nw k).length) (i + 4 + (nw k).length + 1))] := rfl
    rw [capsNm, rowR, h1, nodeR_one c g 97 _ _ _ (.inl rfl)]
    simp only
    rw [capsNm_row c g m, capsNR]
theorem listN_of {n : Node} (h : n.f.kind ≠ 12) : listN n = [n] := by
  unfold listN
  rw [if_neg h]
theorem capsNR_list (c : Ctx) (g : Int) : ∀ (m : Nat) (i k : Int), (capsNR c g i k m).flatMap listN = capsNR c g i k m
  | 0, i, k => by rw [capsNR]; rfl
  | m + 1, i, k => by
    rw [capsNR, List.flatMap_cons, capsNR_list c g m, listN_of (by show (14 : Int) ≠ 12; decide)]
    rfl
theorem capsNm_len : ∀ (m : Nat) (i k : Int), (capsNm i k m).length = m
  | 0, i, k => rfl
  | m + 1, i, k => by rw [capsNm, List.length_cons, capsNm_len m]
theorem capsNR_len (c : Ctx) (g : Int) : ∀ (m : Nat) (i k : Int), (capsNR c g i k m).length = m
  | 0, i, k => rfl
  | m + 1, i, k => by rw [capsNR, List.length_cons, capsNR_len c g m]
/-- The flat tree of a row whose things stay apart. -/
theorem flat_row {l : List Int} {n : Nat} {E E' : List Node} (hn : 2 ≤ n + E.length) (hlen : E'.length = E.length) (hp : parseP (lexP l 0).toks l.length = ⟨oneN 13 [oneN 12 (capsNm 0 1 n ++ E)], 0, 0⟩) (he : (lexP l 0).e = 0)
    (hr : rowR (ctxOf 0) E (bAnd 0 23) = (E', bAnd 0 23)) (hl : ∀ x ∈ E', x.f.kind ≠ 12) :
    flatP l 0 = (.mk { fZ with kind := 12 } (capsNR (ctxOf 0) (bAnd 0 23) 0 1 n ++ E'), true) := by
  unfold flatP
  rw [if_neg (by rw [he]; decide), hp]
  simp only
  rw [if_neg (by decide)]
  unfold resolveP
  generalize ctxOf 0 = c at *
  generalize bAnd 0 23 = g at *
  have h1 : oneN 13 [oneN 12 (capsNm 0 1 n ++ E)] = .mk { fZ with kind := 12 } (capsNm 0 1 n ++ E) := by
    show oneN 12 _ = _
    unfold oneN
    rw [if_neg (by rw [List.length_append, capsNm_len]; omega)]
  have h2 : E'.flatMap listN = E' := by
    clear hr hlen hp
    induction E' with
    | nil => rfl
    | cons x E' ih => rw [List.flatMap_cons, ih (fun y hy => hl y (List.mem_cons_of_mem _ hy)), listN_of (hl x (List.mem_cons_self ..))]; rfl
  rw [h1, nodeR]
  unfold nodeS
  simp only
  rw [if_neg (by decide), if_neg (by decide), if_neg (by decide), if_neg (by decide), if_neg (by decide), if_neg (by decide), if_neg (by decide), if_pos (by decide)]
  rw [rowR_app, capsNm_row]
  simp only
  rw [hr, List.flatMap_append, capsNR_list, h2]
  unfold seqN
  rw [if_neg (by rw [List.length_append, capsNR_len]; omega)]
theorem nbL_app : ∀ (A B : List Node) (rs : Bool) (a b : Int), nbL (A ++ B) rs a b = ((nbL A rs a b).1 ++ (nbL B rs a (nbL A rs a b).2).1, (nbL B rs a (nbL A rs a b).2).2)
  | [], B, rs, a, b => by rw [List.nil_append, nbL]; rfl
  | k :: A, B, rs, a, b => by rw [List.cons_append, nbL, nbL, nbL_app A B]; rfl
theorem nbN_litX (c : Ctx) (g ch i a : Int) : nbN (litX c g ch i) a = (litX c g ch i, a) := by
  unfold litX setN
  exact nbN_leaf (by show (2 : Int) ≠ 14; decide)
theorem nbN_one (c : Ctx) (g ch p : Int) (f : NodeF) (a : Int) (hk : f.kind ≠ 14) : nbN (.mk f [litX c g ch p]) a = (.mk f [litX c g ch p], a) := by
  rw [nbN]
  have h1 : nbF f a = f := by unfold nbF; rw [if_neg hk]
  have h2 : nbT f a = a := by unfold nbT; rw [if_neg hk]
  rw [h1, h2, nbL, nbL]
  simp only
  have h3 : (if decide (f.kind = 16) = true then a else a) = a := by split <;> rfl
  rw [h3, nbN_litX]
  simp only
  rw [mxP_self]
theorem nbL_capsN (c : Ctx) (g : Int) : ∀ (m : Nat) (i k a : Int), nbL (capsNR c g i k m) false a (k - 1) = (capsNB c g i k m, k - 1 + m)
  | 0, i, k, a => by rw [capsNR, nbL, capsNB]; simp
  | m + 1, i, k, a => by
    rw [capsNR, nbL, if_neg (by decide)]
    have h1 : nbN (.mk (fN i k 0) [litX c g 97 (i + 4 + (nw k).length)]) (k - 1) = (.mk (fN i k k) [litX c g 97 (i + 4 + (nw k).length)], k) := by
      rw [nbN]
      have h1 : nbF (fN i k 0) (k - 1) = fN i k k := by
        unfold nbF
        rw [if_pos (show (fN i k 0).kind = 14 from rfl)]
        unfold fN
        rw [Int.sub_add_cancel]
      have h2 : nbT (fN i k 0) (k - 1) = k := by unfold nbT; rw [if_pos (show (fN i k 0).kind = 14 from rfl), Int.sub_add_cancel]
      rw [h1, h2, nbL, nbL]
      simp only
      have h3 : (if decide ((fN i k 0).kind = 16) = true then k else k) = k := by split <;> rfl
      rw [h3, nbN_litX]
      simp only
      rw [mxP_self]
    rw [h1]
    simp only
    have h4 : mxP k (k - 1) = k := by unfold mxP; rw [if_pos (by omega)]
    rw [h4]
    have ih := nbL_capsN c g m (i + 6 + (nw k).length) (k + 1) a
    rw [show k + 1 - 1 = k by omega] at ih
    rw [ih, capsNB]
    refine Prod.ext rfl ?_
    show k + (m : Int) = k - 1 + ((m + 1 : Nat) : Int)
    omega
theorem capsN_litX (c : Ctx) (g ch i : Int) : capsN (litX c g ch i) = [] := by
  unfold litX setN
  exact capsN_leaf (by show (2 : Int) ≠ 14; decide)
theorem capsN_one (c : Ctx) (g ch p : Int) (f : NodeF) (hk : f.kind ≠ 14) : capsN (.mk f [litX c g ch p]) = [] := by
  rw [capsN, if_neg hk, capsL, capsL, capsN_litX]; rfl
theorem capsL_capsN (c : Ctx) (g : Int) : ∀ (m : Nat) (i k : Int), capsL (capsNB c g i k m) = capsNB c g i k m
  | 0, i, k => by rw [capsNB, capsL]
  | m + 1, i, k => by
    rw [capsNB, capsL, capsL_capsN c g m, capsN, if_pos (show (fN i k k).kind = 14 from rfl), capsL, capsL, capsN_litX]
    rfl
theorem dig_inj {a b : Int} (ha : 0 ≤ a ∧ a < 100) (hb : 0 ≤ b ∧ b < 100) (h : dig a = dig b) : a = b := by
  unfold dig at h
  split at h
  · split at h
    · simp only [List.cons.injEq, and_true] at h; omega
    · simp only [List.cons.injEq] at h; cases h.2
  · split at h
    · simp only [List.cons.injEq] at h; cases h.2
    · simp only [List.cons.injEq, and_true] at h; omega
theorem nw_inj {a b : Int} (ha : 0 ≤ a ∧ a < 100) (hb : 0 ≤ b ∧ b < 100) (h : strOfNums (nw a) = strOfNums (nw b)) : a = b := by
  have := strOf_inj (nw_bytes ha) (nw_bytes hb) h
  unfold nw at this
  simp only [List.cons.injEq, true_and] at this
  exact dig_inj ha hb this
def nmList : Int → Nat → List (ByteArray × Int)
  | _, 0 => []
  | k, m + 1 => (strOfNums (nw k), k) :: nmList (k + 1) m
def Fresh (A : List (ByteArray × Int)) (k : Int) : Prop := ∀ p ∈ A, ∀ j : Int, k ≤ j → j < 100 → p.1 ≠ strOfNums (nw j)
theorem nam_caps_n (c : Ctx) (g : Int) : ∀ (m : Nat) (i k : Int) (A : List (ByteArray × Int)), 1 ≤ k → k + m ≤ 61 → Fresh A k → namL (capsNB c g i k m) A = ⟨A ++ nmList k m, 0, 0⟩
  | 0, i, k, A, h1, h2, hF => by rw [capsNB, namL_nil, nmList, List.append_nil]
  | m + 1, i, k, A, h1, h2, hF => by
    rw [capsNB, namL_cons]
    have hne : ¬ (fN i k k).name = bs [] := by
      intro e
      have e2 := congrArg ByteArray.size e
      have : (strOfNums (nw k)).size = (bs []).size := e2
      rw [strOf_size] at this
      have hb : (bs []).size = 0 := rfl
      have := nw_len (k := k)
      omega
    have hno : ∀ p ∈ A, p.1 ≠ strOfNums (nw k) := fun p hp => hF p hp k (Int.le_refl _) (by omega)
    have hcl : clashP (fN i k k).name (fN i k k).n A = false := by
      unfold clashP
      rw [List.any_eq_false]
      intro p hp q
      exact hno p hp (of_decide_eq_true q).1
    have hth : thereP (fN i k k).name A = false := by
      unfold thereP
      rw [List.any_eq_false]
      intro p hp q
      exact hno p hp (of_decide_eq_true q)
    rw [if_neg (by show ¬ k > 60; omega), if_neg hne, hcl, if_neg (by decide), hth, if_neg (by decide)]
    have hF' : Fresh (A ++ [((fN i k k).name, (fN i k k).n)]) (k + 1) := by
      intro p hp j hj hj2
      rcases List.mem_append.1 hp with hp | hp
      · exact hF p hp j (by omega) hj2
      · have hp : p = ((fN i k k).name, (fN i k k).n) := by simpa using hp
        subst hp
        intro e
        have := nw_inj (a := k) (b := j) (by omega) (by omega) e
        omega
    rw [nam_caps_n c g m (i + 6 + (nw k).length) (k + 1) _ (by omega) (by omega) hF', nmList, List.append_assoc]
    rfl
theorem find_nm {k : Int} (hk : 1 ≤ k ∧ k < 100) : ∀ (m : Nat) (j : Int), 0 ≤ j → j ≤ k → k < j + m → findS (strOfNums (nw k)) (nmList j m) = some k
  | 0, j, h0, h1, h2 => by omega
  | m + 1, j, h0, h1, h2 => by
    rw [nmList, findS_cons']
    by_cases q : j = k
    · subst q
      rw [if_pos rfl]
    · rw [if_neg (fun e => q (nw_inj (by omega) (by omega) e)), find_nm hk m (j + 1) (by omega) (by omega) (by omega)]
theorem find_m : ∀ (m : Nat) (j : Int), 0 ≤ j → j + m ≤ 100 → findS (strOfNums [109]) (nmList j m) = none
  | 0, j, h0, h1 => by rw [nmList, findS_nil']
  | m + 1, j, h0, h1 => by
    rw [nmList, findS_cons', if_neg, find_m m (j + 1) (by omega) (by omega)]
    intro e
    have := strOf_inj (nw_bytes ⟨h0, by omega⟩) (by unfold Bytes; decide) e
    unfold nw at this
    simp only [List.cons.injEq] at this
    exact absurd this.1 (by decide)
/-- The numbers of a row with names. -/
theorem num_row (n : Nat) (hn : n ≤ 60) (E : List Node) (hE : ∀ b : Int, nbL E false 0 b = (E, b)) (hC : capsL E = []) :
    numR9 (.mk { fZ with kind := 12 } (capsNR (ctxOf 0) (bAnd 0 23) 0 1 n ++ E)) = ⟨.mk { fZ with kind := 12 } (capsNB (ctxOf 0) (bAnd 0 23) 0 1 n ++ E), n, nmList 1 n, 0, 0⟩ := by
  generalize ctxOf 0 = c
  generalize bAnd 0 23 = g
  have hcb := nbL_capsN c g n 0 1 0
  rw [show (1 : Int) - 1 = 0 by decide] at hcb
  have h : nbN (.mk { fZ with kind := 12 } (capsNR c g 0 1 n ++ E)) 0 = (.mk { fZ with kind := 12 } (capsNB c g 0 1 n ++ E), (n : Int)) := by
    rw [nbN, head12.1, head12.2.1, head12.2.2, nbL_app, hcb]
    simp only
    rw [hE, Int.zero_add]
  have hc : capsN (.mk { fZ with kind := 12 } (capsNB c g 0 1 n ++ E)) = capsNB c g 0 1 n := by
    rw [capsN, if_neg (by decide), capsL_app, capsL_capsN, hC, List.append_nil]
  unfold numR9
  rw [h]
  simp only
  rw [hc, nam_caps_n c g n 0 1 [] (by decide) (by omega) (fun p hp => by cases hp), if_neg (show ¬ (0 : Int) ≠ 0 by decide)]
  rfl
section
variable {cnt : Int} {A : List (ByteArray × Int)}
theorem kidsP_app : ∀ (X Y : List Node) (rs : Bool) (a b : Int) (s : Rs), kidsP cnt A (X ++ Y) rs a b s = ((kidsP cnt A X rs a b s).1 ++ (kidsP cnt A Y rs a (kidsP cnt A X rs a b s).2.1 (kidsP cnt A X rs a b s).2.2).1, (kidsP cnt A Y rs a (kidsP cnt A X rs a b s).2.1 (kidsP cnt A X rs a b s).2.2).2)
  | [], Y, rs, a, b, s => by rw [List.nil_append, kidsP]; rfl
  | k :: X, Y, rs, a, b, s => by rw [List.cons_append, kidsP, kidsP, kidsP_app X Y]; rfl
theorem nodeP_litX (c : Ctx) (g ch i : Int) (s : Rs) (h : s.e = 0) : nodeP cnt A (litX c g ch i) s = (litX c g ch i, s) := by
  have := nodeP_lit (cnt := cnt) (A := A) c g (i - 1) s h
  unfold litX setN
  rw [nodeP, if_neg (by simp [h])]
  have hh : ∀ S : List (Int × Int), headP cnt A ({ fZ with kind := 2, at_ := i, set := S } : NodeF) s = ({ fZ with kind := 2, at_ := i, set := S }, s) := by
    intro S
    unfold headP
    rw [if_neg (by show ¬ (2 : Int) = 14; decide), if_neg (by show ¬ (2 : Int) = 7; decide), if_neg (by show ¬ (2 : Int) = 8; decide), if_neg (by show ¬ (2 : Int) = 19; decide)]
  rw [hh, kidsP]
  simp only
  rw [if_neg (by show ¬ (2 : Int) = 16; decide)]
theorem kidsP_capsN (c : Ctx) (g : Int) : ∀ (m : Nat) (i k a z : Int), kidsP cnt A (capsNB c g i k m) false a (k - 1) ⟨k - 1, 0, z⟩ = (capsNB c g i k m, k - 1 + m, ⟨k - 1 + m, 0, z⟩)
  | 0, i, k, a, z => by rw [capsNB, kidsP]; simp
  | m + 1, i, k, a, z => by
    rw [capsNB, kidsP, if_neg (by decide)]
    have h1 : nodeP cnt A (.mk (fN i k k) [litX c g 97 (i + 4 + (nw k).length)]) ⟨k - 1, 0, z⟩ = (.mk (fN i k k) [litX c g 97 (i + 4 + (nw k).length)], ⟨k, 0, z⟩) := by
      rw [nodeP, if_neg (by simp)]
      have hh : headP cnt A (fN i k k) ⟨k - 1, 0, z⟩ = (fN i k k, ⟨k, 0, z⟩) := by
        unfold headP
        rw [if_pos (show (fN i k k).kind = 14 from rfl)]
        rfl
      rw [hh, kidsP, kidsP]
      simp only
      have h3 : (if decide ((fN i k k).kind = 16) = true then (⟨k, 0, z⟩ : Rs) else ⟨k, 0, z⟩) = ⟨k, 0, z⟩ := by split <;> rfl
      rw [h3, nodeP_litX c g 97 _ _ rfl]
      simp only
      rw [if_neg (by show ¬ (14 : Int) = 16; decide)]
    rw [h1]
    simp only
    have h4 : mxP k (k - 1) = k := by unfold mxP; rw [if_pos (by omega)]
    rw [h4]
    have ih := kidsP_capsN c g m (i + 6 + (nw k).length) (k + 1) a z
    rw [show k + 1 - 1 = k by omega] at ih
    rw [ih]
    rw [show k + (m : Int) = k - 1 + ((m + 1 : Nat) : Int) by omega]
end
end Go.Proofs.Ytnoohgiecnmajaa.VC

