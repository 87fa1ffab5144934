/- A part of the ground of the proof. No condition. -/
import Derived.Test.YtnoohgiecnmajaaGHT10

/- Two trees that are one but for the places are the same. -/
namespace Go.Proofs.Ytnoohgiecnmajaa.VC
open Go Go.RowKit
set_option linter.unusedVariables false
set_option linter.unusedSimpArgs false
set_option maxHeartbeats 4000000

mutual
/-- The same but for the places. -/
def Sim : Node → Node → Prop
  | .mk f ks, .mk g ms => g = { f with at_ := g.at_ } ∧ SimL ks ms
def SimL : List Node → List Node → Prop
  | [], [] => True
  | k :: l, m :: r => Sim k m ∧ SimL l r
  | _, _ => False
end
theorem SimL.len : ∀ {l r : List Node}, SimL l r → r.length = l.length
  | [], [], _ => rfl
  | k :: l, m :: r, h => by rw [SimL] at h; simp [SimL.len h.2]
  | [], m :: r, h => by simp [SimL] at h
  | k :: l, [], h => by simp [SimL] at h
theorem SimL.rd : ∀ {l r : List Node}, SimL l r → ∀ (j : Nat), j < l.length → Sim (rdn l j) (rdn r j)
  | [], [], _, j, hj => by simp at hj
  | k :: l, m :: r, h, 0, hj => by rw [SimL] at h; exact h.1
  | k :: l, m :: r, h, j + 1, hj => by
    rw [SimL] at h
    have := SimL.rd h.2 j (by simpa using hj)
    simpa [rdn] using this
  | [], m :: r, h, j, hj => by simp [SimL] at h
  | k :: l, [], h, j, hj => by simp [SimL] at h
theorem SimL.app : ∀ {l r l2 r2 : List Node}, SimL l r → SimL l2 r2 → SimL (l ++ l2) (r ++ r2)
  | [], [], _, _, _, h2 => h2
  | k :: l, m :: r, _, _, h, h2 => by rw [SimL] at h; rw [List.cons_append, List.cons_append, SimL]; exact ⟨h.1, SimL.app h.2 h2⟩
  | [], m :: r, _, _, h, _ => by simp [SimL] at h
  | k :: l, [], _, _, h, _ => by simp [SimL] at h
mutual
theorem Sim.refl : ∀ n : Node, Sim n n
  | .mk f ks => by rw [Sim]; exact ⟨rfl, SimL.refl ks⟩
theorem SimL.refl : ∀ l : List Node, SimL l l
  | [] => by rw [SimL]; trivial
  | k :: l => by rw [SimL]; exact ⟨Sim.refl k, SimL.refl l⟩
end
set_option maxHeartbeats 16000000
def SmD (n m : Node) : Prop := VCalls Try.prog 23 [n.enc, m.enc] (fun r => r = bv true)
theorem same2_step (f : NodeF) (a : Int) (ks ms : List Node) (hset : f.set.length ≤ 4000000000) (hk : ks.length ≤ 1000000) (hms : ms.length = ks.length) (ih : ∀ j : Int, 0 ≤ j → j < ks.length → SmD (rdn ks j) (rdn ms j)) : VCalls Try.prog 23 [(Node.mk f ks).enc, (Node.mk { f with at_ := a } ms).enc] (fun r => r = bv true) := by
  have hn := rowsN_len ks
  have hn2 := rowsN_len ms
  have hs := rows2_len f.set
  refine VCalls.ofr tabOk Try.func23 (by decide) rfl rfl ?_
  refine RWP.seqx tabOk orders ?_
  conv => whnf
  refine RWP.cut (fun st => st = ⟨125, [(2, .ptr 2 0), (3, .ptr 3 0)], [(2, (27, nfe f ks)), (3, (27, nfe { f with at_ := a } ms))], [], []⟩) tabOk orders ?_ ?_
  · repeat' ((conv => whnf); (first
    | (with_reducible first | refine Spl.yes ?_ | refine Spl.no ?_ | refine Spl.dec (fun h => ?_) (fun h => ?_) | refine Spl.eq (fun h => ?_) (fun h => ?_) | refine Spl.ne (fun h => ?_) (fun h => ?_) | refine Spl.seq (fun h => ?_) (fun h => ?_) | refine Spl.not ?_ | refine Spl.any (fun h => ?_) (fun h => ?_))
    | (exfalso; exact absurd rfl (by assumption))
    | ((with_reducible apply And.intro); first | omega | rfl | (dsimp only; omega))))
    all_goals (conv => whnf)
    all_goals first
      | (exfalso; exact absurd rfl (by assumption))
      | (exfalso; omega)
      | (have hb : (f.neg == f.neg) = false := by assumption
         simp at hb)
      | exact ⟨_, Wk.narrow _ [2, 3] [2, 3] [], rfl⟩
  rintro _ rfl
  refine RWP.cutr (fun st => st = ⟨125, [(2, .ptr 2 0), (3, .ptr 3 0)], [(2, (27, nfe f ks)), (3, (27, nfe { f with at_ := a } ms))], [], []⟩) ?_ ?_
  · refine RWP.seqx tabOk orders ?_
    conv => whnf
    refine RWP.block ?_
    refine RWP.loop (fun k st => ∃ (j : Int), st = ⟨125, [(2, .ptr 2 0), (3, .ptr 3 0), (5, .pv (iv j))], [(2, (27, nfe f ks)), (3, (27, nfe { f with at_ := a } ms))], [], []⟩ ∧ 0 ≤ j ∧ j ≤ f.set.length ∧ k = (f.set.length - j).toNat)
      ⟨_, _, Wk.narrow _ [2, 3, 5] [2, 3] [], 0, rfl, by omega, by omega, rfl⟩ ?_
    rintro k st ⟨j, rfl, hj0, hj1, hk⟩
    refine RWP.seqx tabOk orders ?_
    repeat' ((conv => whnf); (first
    | (with_reducible first | refine Spl.yes ?_ | refine Spl.no ?_ | refine Spl.dec (fun h => ?_) (fun h => ?_) | refine Spl.eq (fun h => ?_) (fun h => ?_) | refine Spl.ne (fun h => ?_) (fun h => ?_) | refine Spl.seq (fun h => ?_) (fun h => ?_) | refine Spl.not ?_ | refine Spl.any (fun h => ?_) (fun h => ?_))
    | ((with_reducible apply And.intro); first | omega | rfl | (dsimp only; omega))))
    all_goals (conv => whnf)
    rotate_left
    · exact ⟨_, Wk.narrow _ [2, 3] [2, 3] [], rfl⟩
    refine RWP.of tabOk orders ?_
    repeat' ((conv => whnf); (first
    | (with_reducible first | refine Spl.yes ?_ | refine Spl.no ?_ | refine Spl.dec (fun h => ?_) (fun h => ?_) | refine Spl.eq (fun h => ?_) (fun h => ?_) | refine Spl.ne (fun h => ?_) (fun h => ?_) | refine Spl.seq (fun h => ?_) (fun h => ?_) | refine Spl.not ?_ | refine Spl.any (fun h => ?_) (fun h => ?_))
    | refine drawn_text (by decide +kernel) ?_
    | (rw [rows2_get (l := f.set) (by omega)])
    | (rw [rows2_get (l := ({ f with at_ := a } : NodeF).set) (show j.toNat < f.set.length by omega)])
    | refine And.intro (Nat.le_of_ble_eq_true rfl) ?_
    | refine ⟨_, eqS74 _ _ _ _, ?_⟩
    | ((with_reducible apply And.intro); first | omega | rfl | (dsimp only; omega))))
    all_goals (conv => whnf)
    all_goals first
      | exact ⟨(f.set.length - (j + 1)).toNat, _, by omega, Wk.narrow _ [2, 3, 5] [2, 3] [], j + 1, rfl, by omega, by omega, rfl⟩
      | (have hb : ((rdp f.set j).1 == (rdp f.set j).1 && ((rdp f.set j).2 == (rdp f.set j).2 && true)) = false := by assumption
         simp at hb)
  rintro _ rfl
  refine RWP.seq ?_
  refine RWP.seqx tabOk orders ?_
  conv => whnf
  refine RWP.block ?_
  refine RWP.loop (fun k st => ∃ (j : Int), st = ⟨125, [(2, .ptr 2 0), (3, .ptr 3 0), (6, .pv (iv j))], [(2, (27, nfe f ks)), (3, (27, nfe { f with at_ := a } ms))], [], []⟩ ∧ 0 ≤ j ∧ j ≤ ks.length ∧ k = (ks.length - j).toNat)
    ⟨_, _, Wk.narrow _ [2, 3, 6] [2, 3] [], 0, rfl, by omega, by omega, rfl⟩ ?_
  rintro k st ⟨j, rfl, hj0, hj1, hk⟩
  refine RWP.seqx tabOk orders ?_
  repeat' ((conv => whnf); (first
    | (with_reducible first | refine Spl.yes ?_ | refine Spl.no ?_ | refine Spl.dec (fun h => ?_) (fun h => ?_) | refine Spl.eq (fun h => ?_) (fun h => ?_) | refine Spl.ne (fun h => ?_) (fun h => ?_) | refine Spl.seq (fun h => ?_) (fun h => ?_) | refine Spl.not ?_ | refine Spl.any (fun h => ?_) (fun h => ?_))
    | ((with_reducible apply And.intro); first | omega | rfl | (dsimp only; omega))))
  all_goals (conv => whnf)
  rotate_left
  · refine RWP.of tabOk orders ?_
    conv => whnf
    rfl
  have hc := ih j hj0 (by omega)
  unfold SmD at hc
  obtain ⟨f3, k3, h3⟩ := (rdn ks j).ex
  obtain ⟨f4, k4, h4⟩ := (rdn ms j).ex
  rw [h3, h4] at hc
  refine RWP.of tabOk orders ?_
  repeat' ((conv => whnf); (first
    | (with_reducible first | refine Spl.yes ?_ | refine Spl.no ?_ | refine Spl.dec (fun h => ?_) (fun h => ?_) | refine Spl.eq (fun h => ?_) (fun h => ?_) | refine Spl.ne (fun h => ?_) (fun h => ?_) | refine Spl.seq (fun h => ?_) (fun h => ?_) | refine Spl.not ?_ | refine Spl.any (fun h => ?_) (fun h => ?_))
    | refine drawn_text (by decide +kernel) ?_
    | (rw [rowsN_get (l := ks) (by omega)])
    | (rw [rowsN_get (l := ms) (by omega)])
    | (rw [h3])
    | (rw [h4])
    | (refine VCalls.mono (hc) ?_; rintro _ rfl)
    | refine And.intro (Nat.le_of_ble_eq_true rfl) ?_
    | ((with_reducible apply And.intro); first | omega | rfl | (dsimp only; omega))))
  all_goals (conv => whnf)
  all_goals exact ⟨(ks.length - (j + 1)).toNat, _, by omega, Wk.narrow _ [2, 3, 6] [2, 3] [], j + 1, rfl, by omega, by omega, rfl⟩
theorem same2_c : ∀ (k : Nat) (n m : Node), n.w ≤ k → n.w ≤ 1000000 → n.all SetOk → Sim n m → SmD n m := by
  intro k
  induction k with
  | zero => intro n m h; have := w_pos n; omega
  | succ k ih =>
    intro n m hk hw ha hs
    cases n with
    | mk f ks =>
      cases m with
      | mk g ms =>
        rw [Node.w] at hk hw
        rw [Node.all] at ha
        rw [Sim] at hs
        have hl := wN_len ks
        rw [hs.1]
        refine same2_step f g.at_ ks ms ha.1 (by omega) hs.2.len (fun j h0 h1 => ?_)
        have hm := rdn_mem (l := ks) (j := j) (by omega)
        have hsj := hs.2.rd j.toNat (by omega)
        rw [show ((j.toNat : Nat) : Int) = j by omega] at hsj
        exact ih _ _ (by have := wN_mem hm; omega) (by have := wN_mem hm; omega) (allN_mem ha.2 hm) hsj
end Go.Proofs.Ytnoohgiecnmajaa.VC

/- The numbers of a tree's groups: shifted, after flags are resolved, in alike trees (plain). -/
namespace Go.Proofs.Ytnoohgiecnmajaa.VC
open Go Go.RowKit
set_option linter.unusedVariables false
set_option linter.unusedSimpArgs false
set_option maxHeartbeats 4000000

def capP (n : Node) : ByteArray × Int := (n.f.name, n.f.n)
/-- The groups of a tree, numbered behind so many: their names and numbers; the greatest number. -/
def capD (n : Node) (a : Int) : List (ByteArray × Int) × Int := ((capsN (nbN n a).1).map capP, (nbN n a).2)
def capDL : List Node → Int → List (ByteArray × Int) × Int
  | [], a => ([], a)
  | k :: l, a => ((capD k a).1 ++ (capDL l (capD k a).2).1, (capDL l (capD k a).2).2)
def capDR : List Node → Int → Int → List (ByteArray × Int) × Int
  | [], _, m => ([], m)
  | k :: l, a, m => ((capD k a).1 ++ (capDR l a (mxP (capD k a).2 m)).1, (capDR l a (mxP (capD k a).2 m)).2)
theorem nbL_seq : ∀ (l : List Node) (x a : Int), ((capsL (nbL l false x a).1).map capP, (nbL l false x a).2) = capDL l a
  | [], x, a => by rw [nbL, capDL, capsL]; rfl
  | k :: l, x, a => by
    have h := nbN_le k a
    have hm : mxP (nbN k a).2 a = (nbN k a).2 := by unfold mxP; split <;> omega
    rw [nbL, capDL, ← nbL_seq l x (capD k a).2]
    simp only [Bool.false_eq_true, if_false]
    rw [hm, capsL, List.map_append]
    rfl
theorem nbL_res : ∀ (l : List Node) (a m : Int), ((capsL (nbL l true a m).1).map capP, (nbL l true a m).2) = capDR l a m
  | [], a, m => by rw [nbL, capDR, capsL]; rfl
  | k :: l, a, m => by
    rw [nbL, capDR, ← nbL_res l a (mxP (capD k a).2 m)]
    simp only [if_true]
    rw [capsL, List.map_append]
    rfl
theorem capD_mk (f : NodeF) (ks : List Node) (a : Int) : capD (.mk f ks) a =
    if f.kind = 14 then ((f.name, a + 1) :: (capDL ks (a + 1)).1, (capDL ks (a + 1)).2) else if f.kind = 16 then capDR ks a a else capDL ks a := by
  unfold capD
  rw [nbN]
  by_cases c : f.kind = 14
  · have c16 : decide (f.kind = 16) = false := by rw [c]; rfl
    rw [if_pos c, c16]
    have h := nbL_seq ks (nbT f a) (nbT f a)
    have ht : nbT f a = a + 1 := if_pos c
    have hf : nbF f a = { f with n := a + 1 } := if_pos c
    rw [ht] at h ⊢
    rw [hf, capsN, if_pos (by exact c), ← h]
    rfl
  · have ht : nbT f a = a := if_neg c
    have hf : nbF f a = f := if_neg c
    rw [if_neg c, ht, hf, capsN, if_neg c]
    by_cases d : f.kind = 16
    · rw [if_pos d, decide_eq_true d]
      exact nbL_res ks a a
    · rw [if_neg d, decide_eq_false d]
      exact nbL_seq ks a a
theorem capDL_app : ∀ (l m : List Node) (a : Int), capDL (l ++ m) a = ((capDL l a).1 ++ (capDL m (capDL l a).2).1, (capDL m (capDL l a).2).2)
  | [], m, a => by simp [capDL]
  | k :: l, m, a => by
    rw [List.cons_append, capDL, capDL_app l m, capDL]
    simp
theorem capDL_one (k : Node) (a : Int) : capDL [k] a = capD k a := by
  rw [capDL, capDL]
  simp
def shP (k : Int) (p : ByteArray × Int) : ByteArray × Int := (p.1, p.2 + k)
mutual
theorem capD_shift (k : Int) : ∀ (n : Node) (a : Int), capD n (a + k) = ((capD n a).1.map (shP k), (capD n a).2 + k)
  | .mk f ks, a => by
    rw [capD_mk, capD_mk]
    by_cases c : f.kind = 14
    · rw [if_pos c, if_pos c]
      have h := capDL_shift k ks (a + 1)
      rw [show a + k + 1 = a + 1 + k by omega, h, List.map_cons]
      rfl
    rw [if_neg c, if_neg c]
    by_cases d : f.kind = 16
    · rw [if_pos d, if_pos d]
      exact capDR_shift k ks a a
    · rw [if_neg d, if_neg d]
      exact capDL_shift k ks a
theorem capDL_shift (k : Int) : ∀ (l : List Node) (a : Int), capDL l (a + k) = ((capDL l a).1.map (shP k), (capDL l a).2 + k)
  | [], a => by simp [capDL]
  | n :: l, a => by
    rw [capDL, capDL, capD_shift k n a]
    simp only
    rw [capDL_shift k l]
    simp
theorem capDR_shift (k : Int) : ∀ (l : List Node) (a m : Int), capDR l (a + k) (m + k) = ((capDR l a m).1.map (shP k), (capDR l a m).2 + k)
  | [], a, m => by simp [capDR]
  | n :: l, a, m => by
    rw [capDR, capDR, capD_shift k n a]
    simp only
    have hm : mxP ((capD n a).2 + k) (m + k) = mxP (capD n a).2 m + k := by unfold mxP; split <;> split <;> omega
    rw [hm, capDR_shift k l]
    simp
end
mutual
theorem capD_sim : ∀ {n m : Node}, Sim n m → ∀ a, capD n a = capD m a
  | .mk f ks, .mk g ms, h, a => by
    rw [Sim] at h
    have hk : g.kind = f.kind := by rw [h.1]
    have hn : g.name = f.name := by rw [h.1]
    rw [capD_mk, capD_mk, hk, hn]
    by_cases c : f.kind = 14
    · rw [if_pos c, if_pos c, capDL_sim h.2 (a + 1)]
    rw [if_neg c, if_neg c]
    by_cases d : f.kind = 16
    · rw [if_pos d, if_pos d, capDR_sim h.2 a a]
    · rw [if_neg d, if_neg d, capDL_sim h.2 a]
theorem capDL_sim : ∀ {l r : List Node}, SimL l r → ∀ a, capDL l a = capDL r a
  | [], [], _, a => rfl
  | k :: l, m :: r, h, a => by
    rw [SimL] at h
    rw [capDL, capDL, capD_sim h.1 a, capDL_sim h.2]
  | [], m :: r, h, _ => by simp [SimL] at h
  | k :: l, [], h, _ => by simp [SimL] at h
theorem capDR_sim : ∀ {l r : List Node}, SimL l r → ∀ a b, capDR l a b = capDR r a b
  | [], [], _, a, b => rfl
  | k :: l, m :: r, h, a, b => by
    rw [SimL] at h
    rw [capDR, capDR, capD_sim h.1 a, capDR_sim h.2]
  | [], m :: r, h, _, _ => by simp [SimL] at h
  | k :: l, [], h, _, _ => by simp [SimL] at h
end
theorem capD_leaf {f : NodeF} (h : f.kind ≠ 14) (a : Int) : capD (.mk f []) a = ([], a) := by
  rw [capD_mk, if_neg h]
  by_cases d : f.kind = 16
  · rw [if_pos d]; rfl
  · rw [if_neg d]; rfl
theorem capD_set (at_ : Int) (s : List (Int × Int)) (a : Int) : capD (setN at_ s) a = ([], a) := capD_leaf (show (2 : Int) ≠ 14 by decide) a
theorem capD_flat {f : NodeF} (h : f.kind ≠ 14) (h2 : f.kind ≠ 16) (ks : List Node) (a : Int) : capD (.mk f ks) a = capDL ks a := by
  rw [capD_mk, if_neg h, if_neg h2]
theorem capD_seq (l : List Node) (a : Int) : capD (seqN l) a = capDL l a := by
  unfold seqN
  by_cases c : l.length = 1
  · obtain ⟨x, rfl⟩ := List.length_eq_one_iff.1 c
    rw [if_pos c, capDL_one]
    rfl
  · rw [if_neg c, capD_flat (show (12 : Int) ≠ 14 by decide) (show (12 : Int) ≠ 16 by decide)]
theorem capD_one (k : Int) (hk : k ≠ 14 ∧ k ≠ 16) (l : List Node) (a : Int) : capD (oneN k l) a = capDL l a := by
  unfold oneN
  by_cases c : l.length = 1
  · obtain ⟨x, rfl⟩ := List.length_eq_one_iff.1 c
    rw [if_pos c, capDL_one]
    rfl
  · rw [if_neg c, capD_flat hk.1 hk.2]
theorem capDL_list (n : Node) (a : Int) : capDL (listN n) a = capD n a := by
  unfold listN
  by_cases c : n.f.kind = 12
  · rw [if_pos c]
    cases n with
    | mk f ks =>
      have c : f.kind = 12 := c
      rw [capD_flat (by omega) (by omega)]
      rfl
  · rw [if_neg c, capDL_one]
theorem capDL_flat : ∀ (l : List Node) (a : Int), capDL (l.flatMap listN) a = capDL l a
  | [], a => rfl
  | k :: l, a => by
    rw [List.flatMap_cons, capDL_app, capDL_list, capDL_flat l, capDL]
theorem capD_line (c : Ctx) (at_ a : Int) : capD (lineN c at_) a = ([], a) := by
  unfold lineN
  rw [capD_flat (show (17 : Int) ≠ 14 by decide) (show (17 : Int) ≠ 16 by decide), capDL_one, capD_flat (show (13 : Int) ≠ 14 by decide) (show (13 : Int) ≠ 16 by decide), capDL, capD_seq, capDL, capD_set, capDL_one, capD_set]
  simp only
  rw [capDL_one, capD_set]
  rfl
mutual
/-- When flags are resolved the groups stay. -/
theorem capD_res (c : Ctx) : ∀ (n : Node) (g a : Int), n.all MayP → capD (nodeR c n g).1 a = capD n a
  | .mk f ks, g, a, h => by
    rw [Node.all] at h
    have hm : MayN f ks := h.1
    have hL : ∀ g a, capDL (rowR c ks g).1 a = capDL ks a := fun g a => capDL_res c ks g a h.2
    have hR : ∀ g a b, capDR (rowR c ks g).1 a b = capDR ks a b := fun g a b => capDR_res c ks g a b h.2
    have hnil : f.kind ≤ 11 → ks = [] := by
      intro q
      unfold MayN at hm
      rcases hm with ⟨_, h, _⟩ | ⟨_, h, _⟩ | ⟨_, h⟩ | ⟨_, h, _⟩ | ⟨_, h, _⟩ | ⟨_, h, _⟩ | ⟨_, h, _⟩ | h | h | h | h | h | h | h
      · exact h
      · exact h
      · exact h
      · exact h
      · exact h
      · exact h
      · exact h
      all_goals (exfalso; omega)
    rw [nodeR]
    unfold nodeS
    by_cases k1 : f.kind = 1
    · rw [if_pos k1, hnil (by omega), capD_set, capD_leaf (by omega)]
    rw [if_neg k1]
    by_cases k2 : f.kind = 2
    · rw [if_pos k2, hnil (by omega), capD_set, capD_leaf (by omega)]
    rw [if_neg k2]
    by_cases k3 : f.kind = 3
    · rw [if_pos k3, hnil (by omega), capD_leaf (f := f) (by omega)]
      split
      · exact capD_set _ _ _
      · exact capD_set _ _ _
    rw [if_neg k3]
    by_cases k4 : f.kind = 4
    · rw [if_pos k4, hnil (by omega), capD_leaf (f := f) (by omega), capD_leaf]
      unfold assertN
      split
      · show f.kind ≠ 14; omega
      split
      · show f.kind ≠ 14; omega
      · omega
    rw [if_neg k4]
    by_cases k6 : f.kind = 6
    · rw [if_pos k6, hnil (by omega), capD_leaf (f := f) (by omega)]
      exact capD_line _ _ _
    rw [if_neg k6]
    by_cases k7 : f.kind = 7
    · rw [if_pos k7, hnil (by omega), capD_leaf (f := f) (by omega), capD_leaf (by show f.kind ≠ 14; omega)]
    rw [if_neg k7]
    by_cases k11 : f.kind = 11
    · rw [if_pos k11, hnil (by omega), capD_leaf (f := f) (by omega), capD_leaf (show (12 : Int) ≠ 14 by decide)]
    rw [if_neg k11]
    by_cases k12 : f.kind = 12
    · rw [if_pos k12, capD_flat (f := f) (by omega) (by omega)]
      show capD (seqN ((rowR c ks g).1.flatMap listN)) a = _
      rw [capD_seq, capDL_flat, hL]
    rw [if_neg k12]
    by_cases k13 : f.kind = 13
    · rw [if_pos k13]
      show capD (.mk f (rowR c ks g).1) a = _
      rw [capD_flat (f := f) (by omega) (by omega), capD_flat (f := f) (by omega) (by omega), hL]
    rw [if_neg k13]
    by_cases k15 : f.kind = 15
    · rw [if_pos k15, capD_flat (f := f) (by omega) (by omega)]
      have hl : ks.length = 1 := by
        unfold MayN at hm
        rcases hm with ⟨q, _⟩ | ⟨q, _⟩ | ⟨q, _⟩ | ⟨q, _⟩ | ⟨q, _⟩ | ⟨q, _⟩ | ⟨q, _⟩ | ⟨q, _⟩ | ⟨q, _⟩ | ⟨q, _⟩ | ⟨_, q⟩ | ⟨q, _⟩ | ⟨q, _⟩ | ⟨q, _⟩
        all_goals first | exact q | (exfalso; omega)
      obtain ⟨x, rfl⟩ := List.length_eq_one_iff.1 hl
      have h2 := hL (turnP g f.on f.off) a
      rw [rowR, rowR] at h2
      show capD (rdn (rowR c [x] (turnP g f.on f.off)).1 0) a = _
      rw [rowR, rowR]
      rw [capDL_one] at h2
      exact h2
    rw [if_neg k15]
    have hgk : (greedN f g).kind = f.kind := by
      unfold greedN
      split
      · split
        · rfl
        split
        · rfl
        · rfl
      · rfl
    have hgn : (greedN f g).name = f.name := by
      unfold greedN
      split
      · split
        · rfl
        split
        · rfl
        · rfl
      · rfl
    show capD (.mk (greedN f g) (rowR c ks g).1) a = _
    rw [capD_mk, capD_mk, hgk, hgn]
    by_cases k14 : f.kind = 14
    · rw [if_pos k14, if_pos k14, hL]
    rw [if_neg k14, if_neg k14]
    by_cases k16 : f.kind = 16
    · rw [if_pos k16, if_pos k16, hR]
    · rw [if_neg k16, if_neg k16, hL]
theorem capDL_res (c : Ctx) : ∀ (l : List Node) (g a : Int), allN MayP l → capDL (rowR c l g).1 a = capDL l a
  | [], g, a, h => by rw [rowR]
  | k :: l, g, a, h => by
    rw [allN] at h
    rw [rowR, capDL, capDL, capD_res c k g a h.1, capDL_res c l _ _ h.2]
theorem capDR_res (c : Ctx) : ∀ (l : List Node) (g a b : Int), allN MayP l → capDR (rowR c l g).1 a b = capDR l a b
  | [], g, a, b, h => by rw [rowR]
  | k :: l, g, a, b, h => by
    rw [allN] at h
    rw [rowR, capDR, capDR, capD_res c k g a h.1, capDR_res c l _ _ _ h.2]
end
end Go.Proofs.Ytnoohgiecnmajaa.VC

/- Texts side by side; from one offset to another one (plain). -/
namespace Go.Proofs.Ytnoohgiecnmajaa.VC
open Go Go.RowKit
set_option linter.unusedVariables false
set_option linter.unusedSimpArgs false
set_option maxHeartbeats 4000000

theorem nums_app (a b : ByteArray) : numsOf (a ++ b) = numsOf a ++ numsOf b := by
  unfold numsOf
  rw [ByteArray.data_append, Array.toList_append, List.map_append]
theorem lex_endq {x : Text} {k : Nat} {i : Int} {q : Bool} {out : List Tok} (h : ¬ i < x.s.size) : lexGo x k i q out = ⟨out, 0, 0⟩ := by
  cases k with
  | zero => rw [lexGo]
  | succ k => rw [lexGo, if_neg h]
/-- So often. -/
def rep : Nat → List Int → List Int
  | 0, _ => []
  | k + 1, w => w ++ rep k w
theorem rep_snoc (w : List Int) : ∀ k : Nat, rep (k + 1) w = rep k w ++ w
  | 0 => by simp [rep]
  | k + 1 => by
    have h := rep_snoc w k
    show w ++ rep (k + 1) w = (w ++ rep k w) ++ w
    rw [h, List.append_assoc]
theorem rep_len (w : List Int) : ∀ k : Nat, (rep k w).length = k * w.length
  | 0 => by simp [rep]
  | k + 1 => by rw [rep, List.length_append, rep_len w k, Nat.succ_mul]; omega
theorem drop_add {s : ByteArray} {i : Int} {A r : List Int} (h0 : 0 ≤ i) (h : (numsOf s).drop i.toNat = A ++ r) : (numsOf s).drop (i + A.length).toNat = r := by
  rw [show (i + A.length).toNat = i.toNat + A.length by omega, ← List.drop_drop, h]
  simp
def tq (k n c : Int) (s : List (Int × Int)) (i j : Int) : Tok := ⟨k, i, j, c, s, false, n, 0, 0, bs [], 0, 0⟩
/-- From one offset to another one so many tokens. -/
def LexTo (x : Text) (i j : Int) (T : List Tok) : Prop := ∀ (K : Nat) (out : List Tok), (x.s.size - i).toNat < K → ∃ K' : Nat, (x.s.size - j).toNat < K' ∧ lexGo x K i false out = lexGo x K' j false (out ++ T)
theorem LexTo.trans {x : Text} {i j l : Int} {T U : List Tok} (h : LexTo x i j T) (k : LexTo x j l U) : LexTo x i l (T ++ U) := by
  intro K out hK
  obtain ⟨K1, h1, h2⟩ := h K out hK
  obtain ⟨K2, k1, k2⟩ := k K1 (out ++ T) h1
  exact ⟨K2, k1, by rw [h2, k2, List.append_assoc]⟩
theorem LexTo.nil {x : Text} {i : Int} : LexTo x i i [] := fun K out h => ⟨K, h, by simp⟩
end Go.Proofs.Ytnoohgiecnmajaa.VC

/- A text within another one: what begins at an offset (plain). -/
namespace Go.Proofs.Ytnoohgiecnmajaa.VC
open Go Go.RowKit
set_option linter.unusedVariables false
set_option linter.unusedSimpArgs false
set_option maxHeartbeats 4000000

def shT (d : Int) (t : Tok) : Tok := { t with at_ := t.at_ + d, to := t.to + d }
/-- What is got without an error is got so much further on. -/
def GE (d : Int) (g g' : Got) : Prop := g.e = 0 → g'.e = 0 ∧ g'.some = g.some ∧ g'.to = g.to + d ∧ (g.some = true → g'.t = shT d g.t)
section
variable {x x' : Text} {d : Int} {suf : List Int}
theorem ge_bad {e a : Int} {g' : Got} (he : e ≠ 0) : GE d (badG e a) g' := fun h => absurd h he
theorem ge_end {g' : Got} : GE d (endG x) g' := ge_bad (by decide)
theorem ge_tok {t : Tok} {a b a' b' : Int} (ha : a' = a + d) (hb : b' = b + d) : GE d (tokG t a b) (tokG t a' b') := fun _ => ⟨rfl, rfl, hb, fun _ => by subst ha; subst hb; rfl⟩
theorem ge_skip {b b' : Int} (hb : b' = b + d) : GE d (skipG b) (skipG b') := fun _ => ⟨rfl, rfl, hb, fun h => by cases h⟩
theorem ge_ite {c c' : Prop} [Decidable c] [Decidable c'] {a b a' b' : Got} (hc : c' ↔ c) (h1 : c → GE d a a') (h2 : ¬ c → GE d b b') : GE d (if c then a else b) (if c' then a' else b') := by
  by_cases h : c
  · rw [if_pos h, if_pos (hc.2 h)]; exact h1 h
  · rw [if_neg h, if_neg (fun q => h (hc.1 q))]; exact h2 h
/-- Where the first way is an error. -/
theorem ge_iteB {c c' : Prop} [Decidable c] [Decidable c'] {a b a' b' : Got} (h1 : c → a.e ≠ 0) (hc : ¬ c → ¬ c') (h2 : ¬ c → GE d b b') : GE d (if c then a else b) (if c' then a' else b') := by
  by_cases h : c
  · rw [if_pos h]; exact fun q => absurd q (h1 h)
  · rw [if_neg h, if_neg (hc h)]; exact h2 h
theorem endG_e (x : Text) : (endG x).e ≠ 0 := by unfold endG badG; simp
theorem Ext.shut (E : Ext x x' d suf) {t : Tok} {a a' i i' : Int} {s : ByteArray} {e : Int} (ha : a' = a + d) (hi : i' = i + d) (h0 : 0 ≤ i) (he : e ≠ 0) : GE d (shutP x t a i s e) (shutP x' t a' i' s e) := by
  unfold shutP
  by_cases c : isP x.s i s = true
  · rw [if_pos c, if_pos (E.isT hi h0 c)]
    exact ge_tok ha (by omega)
  · rw [if_neg c]
    split
    · exact ge_end
    · exact ge_bad he
theorem Ext.called (E : Ext x x' d suf) {t : Tok} {a a' i i' : Int} {s : ByteArray} (ha : a' = a + d) (hi : i' = i + d) (h0 : 0 ≤ i) (h1 : i ≤ x.s.size) : GE d (calledP x t a i s) (calledP x' t a' i' s) := by
  have hsz := E.size
  have hr := nameTo_rng x.s i
  unfold calledP
  rw [E.name hi h0 h1, E.nameAt hi h0 h1]
  refine ge_iteB (fun _ => endG_e x) (fun h => by omega) (fun _ => ?_)
  refine ge_ite Iff.rfl (fun _ => ge_bad (by decide)) (fun _ => ?_)
  refine ge_iteB (fun _ => by unfold badG; simp) (fun h => ?_) (fun h => ?_)
  · rw [E.isT (i := nameTo x.s i) rfl (by omega) (by simpa using h)]; simp
  · exact ge_tok ha (by omega)
theorem Ext.flagsL (E : Ext x x' d suf) {a a' : Int} (ha : a' = a + d) : ∀ (k k' : Nat) (i i' : Int) (off : Bool) (p q : Int), i' = i + d → 0 ≤ i → k ≤ k' → GE d (VC.flagsL x a k i off p q) (VC.flagsL x' a' k' i' off p q)
  | 0, k', i, i', off, p, q, hi, h0, hk => ge_end
  | k + 1, k', i, i', off, p, q, hi, h0, hk => by
    have hsz := E.size
    obtain ⟨k', rfl⟩ : ∃ m, k' = m + 1 := ⟨k' - 1, by omega⟩
    unfold VC.flagsL
    refine ge_iteB (fun _ => endG_e x) (fun h => by omega) (fun hl => ?_)
    rw [E.byte hi h0 (by omega)]
    have ih := fun i i' off p q hi h0 => Ext.flagsL E ha k k' i i' off p q hi h0 (by omega)
    refine ge_ite Iff.rfl (fun _ => ge_tok ha (by omega)) (fun _ => ?_)
    refine ge_ite Iff.rfl (fun _ => ge_tok ha (by omega)) (fun _ => ?_)
    refine ge_ite Iff.rfl (fun _ => ?_) (fun _ => ?_)
    · exact ge_ite Iff.rfl (fun _ => ge_bad (by decide)) (fun _ => ih _ _ _ _ _ (by omega) (by omega))
    refine ge_ite Iff.rfl (fun _ => ge_bad (by decide)) (fun _ => ?_)
    exact ge_ite Iff.rfl (fun _ => ih _ _ _ _ _ (by omega) (by omega)) (fun _ => ih _ _ _ _ _ (by omega) (by omega))
theorem Ext.flags (E : Ext x x' d suf) {a a' i i' : Int} (ha : a' = a + d) (hi : i' = i + d) (h0 : 0 ≤ i) : GE d (flagsP x a i) (flagsP x' a' i') := by
  have hsz := E.size
  unfold flagsP
  exact E.flagsL ha _ _ _ _ _ _ _ hi h0 (by omega)
theorem Ext.referK (E : Ext x x' d suf) {i i' : Int} (hi : i' = i + d) (h0 : 0 ≤ i) (h1 : i ≤ x.s.size) : VC.referK x'.s i' = VC.referK x.s i := by
  unfold VC.referK
  simp only
  rw [E.is hi h0 h1 (t := bs [123]) (by decide), E.is hi h0 h1 (t := bs [60]) (by decide), E.is hi h0 h1 (t := bs [39]) (by decide)]
theorem Ext.refer (E : Ext x x' d suf) {a a' i i' : Int} (ha : a' = a + d) (hi : i' = i + d) (h0 : 0 ≤ i) (h1 : i ≤ x.s.size) : GE d (referP x a i) (referP x' a' i') := by
  have hle := referK_le x.s i h1
  have hsz := E.size
  unfold referP
  simp only
  rw [E.referK hi h0 h1]
  generalize VC.referK x.s i = p at *
  obtain ⟨kind, cl⟩ := p
  simp only at *
  have hii : i' + (cl.size : Int) = i + cl.size + d := by omega
  have hq := signedP_range x.s (i + cl.size) (by omega)
  have hr := nameTo_rng x.s (i + cl.size)
  rw [E.signed hii (by omega) (by omega), E.name hii (by omega) (by omega), E.nameAt hii (by omega) (by omega)]
  simp only
  refine ge_ite Iff.rfl (fun _ => ge_bad (by decide)) (fun _ => ?_)
  refine ge_ite (by omega) (fun hg => ?_) (fun _ => ?_)
  · refine ge_iteB (fun _ => by unfold badG; simp) (fun h => ?_) (fun h => ?_)
    · rw [E.isT (i := (signedP x.s (i + cl.size)).2.2.1) rfl (by omega) (by simpa using h)]; simp
    refine ge_ite Iff.rfl (fun _ => ge_bad (by decide)) (fun _ => ge_tok ha (by omega))
  refine ge_ite Iff.rfl (fun _ => ge_bad (by decide)) (fun _ => ?_)
  refine ge_ite Iff.rfl (fun _ => ge_bad (by decide)) (fun _ => ?_)
  refine ge_iteB (fun _ => by unfold badG; simp) (fun h => ?_) (fun h => ?_)
  · rw [E.isT (i := nameTo x.s (i + cl.size)) rfl (by omega) (by simpa using h)]; simp
  · exact ge_tok ha (by omega)
theorem Ext.verb (E : Ext x x' d suf) {a a' : Int} (ha : a' = a + d) (h0 : 0 ≤ a) (h1 : a + 2 ≤ x.s.size) : GE d (verbP x a) (verbP x' a') := by
  have hsz := E.size
  have hr := stopAt_range x.s 41 (a + 2) h1
  unfold verbP
  simp only
  by_cases c : stopAt x.s 41 (a + 2) = x.s.size
  · rw [if_pos c]; exact ge_end
  have hs := E.stop (c := 41) (i := a + 2) (i' := a' + 2) (by omega) (by omega) h1 (by omega)
  rw [hs, E.ex (i := a + 2) (i' := a' + 2) (j := stopAt x.s 41 (a + 2)) (by omega) rfl (by omega) h1 (by omega)]
  refine ge_iteB (fun h => absurd h c) (fun _ => by omega) (fun _ => ?_)
  exact ge_ite Iff.rfl (fun _ => ge_bad (by decide)) (fun _ => ge_tok ha (by omega))
theorem Ext.condFin (E : Ext x x' d suf) {a a' to to' : Int} {t : Tok} {ok : Bool} (ha : a' = a + d) (ht : to' = to + d) (h0 : 0 ≤ to) : GE d (VC.condFin x a t to ok) (VC.condFin x' a' t to' ok) := by
  unfold VC.condFin
  refine ge_ite Iff.rfl (fun _ => ge_bad (by decide)) (fun _ => ?_)
  refine ge_iteB (fun _ => by unfold badG; simp) (fun h => ?_) (fun h => ?_)
  · rw [E.isT ht h0 (by simpa using h)]; simp
  exact ge_ite Iff.rfl (fun _ => ge_bad (by decide)) (fun _ => ge_tok ha (by omega))
theorem Ext.cond (E : Ext x x' d suf) {a a' i i' : Int} (ha : a' = a + d) (hi : i' = i + d) (h0 : 0 ≤ i) (h1 : i ≤ x.s.size) : GE d (conditionP x a i) (conditionP x' a' i') := by
  have hn := nameTo_rng x.s (i + 1)
  have hn2 := nameTo_rng x.s (i + 2)
  have hq := signedP_range x.s i h1
  have hp := numP_range x.s (i + 1)
  have l60 : isP x.s i (bs [60]) = true → i + 1 ≤ x.s.size := fun h => by have := isP_le h; have hb : (bs [60]).size = 1 := rfl; omega
  have l39 : isP x.s i (bs [39]) = true → i + 1 ≤ x.s.size := fun h => by have := isP_le h; have hb : (bs [39]).size = 1 := rfl; omega
  have l82 : isP x.s i (bs [82]) = true → i + 1 ≤ x.s.size := fun h => by have := isP_le h; have hb : (bs [82]).size = 1 := rfl; omega
  have l828 : isP x.s i (bs [82, 38]) = true → i + 2 ≤ x.s.size := fun h => by have := isP_le h; have hb : (bs [82, 38]).size = 2 := rfl; omega
  have hI : ∀ {t : ByteArray}, Plain t → (isP x'.s i' t = true ↔ isP x.s i t = true) := fun ht => by rw [E.is hi h0 h1 ht]
  unfold conditionP
  refine ge_ite (hI (by decide)) (fun _ => ge_tok ha (by omega)) (fun _ => ?_)
  refine ge_ite (hI (by decide)) (fun _ => ge_tok ha (by omega)) (fun _ => ?_)
  refine ge_ite (hI (by decide)) (fun _ => ge_tok ha (by omega)) (fun _ => ?_)
  refine ge_ite (hI (by decide)) (fun _ => ge_tok ha (by omega)) (fun _ => ?_)
  unfold condRest
  refine ge_ite (by rw [hI (t := bs [60]) (by decide), hI (t := bs [39]) (by decide)]) (fun hc => ?_) (fun _ => ?_)
  · have hlt : i + 1 ≤ x.s.size := by rcases hc with h | h; exact l60 h; exact l39 h
    have hi1 : i' + 1 = i + 1 + d := by omega
    have hcl : condClose x'.s i' = condClose x.s i := by unfold condClose; rw [E.byte hi h0 (by omega)]
    rw [E.name hi1 (by omega) hlt, E.nameAt hi1 (by omega) hlt, hcl]
    have hok : (if nameOk (VC.nameAt x.s (i + 1)) = false then false else isP x'.s (nameTo x.s (i + 1) + d) (condClose x.s i)) = (if nameOk (VC.nameAt x.s (i + 1)) = false then false else isP x.s (nameTo x.s (i + 1)) (condClose x.s i)) := by
      rw [E.is (i := nameTo x.s (i + 1)) rfl (by omega) (by omega) (by unfold condClose; split <;> decide)]
    rw [hok]
    exact E.condFin ha (by omega) (by omega)
  refine ge_ite (hI (by decide)) (fun hc => ?_) (fun _ => ?_)
  · exact E.condFin ha (by omega) (by omega)
  refine ge_ite (hI (by decide)) (fun hc => ?_) (fun _ => ?_)
  · have hlt := l828 hc
    have hi2 : i' + 2 = i + 2 + d := by omega
    rw [E.name hi2 (by omega) hlt, E.nameAt hi2 (by omega) hlt]
    exact E.condFin ha (by omega) (by omega)
  refine ge_ite (hI (by decide)) (fun hc => ?_) (fun _ => ?_)
  · have hlt := l82 hc
    have hi1 : i' + 1 = i + 1 + d := by omega
    rw [E.num hi1 (by omega) hlt]
    simp only
    refine ge_ite Iff.rfl (fun _ => ge_bad (by decide)) (fun _ => ?_)
    refine ge_ite (by omega) (fun _ => ?_) (fun _ => ?_)
    · exact E.condFin ha rfl (by omega)
    · exact E.condFin ha rfl (by omega)
  rw [E.signed hi h0 h1]
  simp only
  refine ge_ite Iff.rfl (fun _ => ge_bad (by decide)) (fun _ => ?_)
  have hd : (decide ((signedP x.s i).2.2.1 + d > i')) = decide ((signedP x.s i).2.2.1 > i) := by
    rw [decide_eq_decide]; omega
  rw [hd]
  exact E.condFin ha rfl (by omega)
theorem Ext.openL (E : Ext x x' d suf) {a a' i i' : Int} {g g' : Got} (ha : a' = a + d) (hi : i' = i + d) (h0 : 0 ≤ i) (h1 : i < x.s.size) (hg : GE d g g') : ∀ l : List (ByteArray × Int), (∀ p ∈ l, Plain p.1 ∨ ∃ b, p.1 = bs [b]) → GE d (VC.openL x a i g l) (VC.openL x' a' i' g' l)
  | [], _ => hg
  | p :: l, h => by
    have hp := h p (List.mem_cons_self ..)
    have he : isP x'.s i' p.1 = isP x.s i p.1 := by
      rcases hp with hp | ⟨b, hp⟩
      · exact E.is hi h0 (by omega) hp
      · rw [hp]; exact E.is1 hi h0 h1
    unfold VC.openL
    refine ge_ite (by rw [he]) (fun _ => ge_tok ha (by omega)) (fun _ => ?_)
    exact E.openL ha hi h0 h1 hg l (fun q hq => h q (List.mem_cons_of_mem _ hq))
theorem Ext.openT (E : Ext x x' d suf) {a a' i i' : Int} (ha : a' = a + d) (hi : i' = i + d) (h0 : 0 ≤ i) (h1 : i < x.s.size) : GE d (openTail x a i) (openTail x' a' i') := by
  have hq := signedP_range x.s i (by omega)
  have hsz := E.size
  unfold openTail
  rw [E.byte hi h0 h1, E.signed hi h0 (by omega)]
  simp only
  refine ge_ite ?_ (fun _ => ?_) (fun _ => E.flags ha hi h0)
  · have h3 : (i' + 1 < x'.s.size ∧ digitP (byteAt x'.s (i' + 1)) = true) ↔ (i + 1 < x.s.size ∧ digitP (byteAt x.s (i + 1)) = true) := by
      by_cases c : i + 1 < x.s.size
      · rw [E.byte (i := i + 1) (i' := i' + 1) (by omega) (by omega) c]
        constructor
        · rintro ⟨_, h⟩; exact ⟨c, h⟩
        · rintro ⟨_, h⟩; exact ⟨by omega, h⟩
      · constructor
        · rintro ⟨h2, h3⟩
          exfalso
          obtain ⟨c, r, _, hb, hc⟩ := E.last (i' := i' + 1) (by omega) h2
          rw [hb] at h3
          rcases hc with rfl | rfl | rfl <;> exact absurd h3 (by decide)
        · rintro ⟨h2, _⟩; exact absurd h2 c
    rw [h3]
  refine ge_ite Iff.rfl (fun _ => ge_bad (by decide)) (fun _ => ?_)
  refine ge_iteB (fun _ => by split; exact endG_e x; unfold badG; simp) (fun h => by omega) (fun _ => ?_)
  have hsh := E.shut (t := { tokZ with kind := 12, n := (signedP x.s i).1, m := (signedP x.s i).2.1 }) (a := a) (a' := a') (i := (signedP x.s i).2.2.1) (s := bs [41]) (e := 26) ha rfl (by omega) (by decide)
  generalize shutP x { tokZ with kind := 12, n := (signedP x.s i).1, m := (signedP x.s i).2.1 } a (signedP x.s i).2.2.1 (bs [41]) 26 = g at *
  generalize shutP x' { tokZ with kind := 12, n := (signedP x.s i).1, m := (signedP x.s i).2.1 } a' ((signedP x.s i).2.2.1 + d) (bs [41]) 26 = g' at *
  by_cases c : g.e = 0
  · have c' := (hsh c).1
    refine ge_ite (by rw [c, c']) (fun _ => ge_bad (by decide)) (fun _ => hsh)
  · rw [if_neg (fun h => c h.1)]
    exact fun h => absurd h c
theorem Ext.openR (E : Ext x x' d suf) {a a' i i' : Int} (ha : a' = a + d) (hi : i' = i + d) (h0 : 0 ≤ i) (h1 : i < x.s.size) : GE d (openRest x a i) (openRest x' a' i') := by
  have hsz := E.size
  have hs := stopAt_range x.s 41 i (by omega)
  have hp := numP_range x.s (i + 1)
  have hI : ∀ {t : ByteArray}, Plain t → (isP x'.s i' t = true ↔ isP x.s i t = true) := fun ht => by rw [E.is hi h0 (by omega) ht]
  have hle : ∀ {t : ByteArray} {n : Nat}, t.size = n → isP x.s i t = true → i + n ≤ x.s.size := fun hn h => by have := isP_le h; omega
  unfold openRest
  refine ge_ite (hI (by decide)) (fun _ => ?_) (fun _ => ?_)
  · by_cases c : stopAt x.s 41 i = x.s.size
    · rw [if_pos c]; exact ge_end
    · have hst := E.stop (c := 41) hi h0 (by omega) (by omega)
      rw [hst, if_neg c, if_neg (by omega)]
      exact ge_skip (by omega)
  refine ge_ite (hI (by decide)) (fun h => E.called ha (by omega) (by omega) (hle (n := 2) rfl h)) (fun _ => ?_)
  refine ge_ite (hI (by decide)) (fun h => E.called ha (by omega) (by omega) (hle (n := 1) rfl h)) (fun _ => ?_)
  refine ge_ite (hI (by decide)) (fun h => E.called ha (by omega) (by omega) (hle (n := 1) rfl h)) (fun _ => ?_)
  refine ge_ite (hI (by decide)) (fun h => E.called ha (by omega) (by omega) (hle (n := 2) rfl h)) (fun _ => ?_)
  refine ge_ite (hI (by decide)) (fun h => E.called ha (by omega) (by omega) (hle (n := 2) rfl h)) (fun _ => ?_)
  refine ge_ite (hI (by decide)) (fun h => E.called ha (by omega) (by omega) (hle (n := 1) rfl h)) (fun _ => ?_)
  refine ge_ite (hI (by decide)) (fun h => E.shut ha (by omega) (by omega) (by decide)) (fun _ => ?_)
  refine ge_ite (hI (by decide)) (fun h => ?_) (fun _ => ?_)
  · rw [E.num (i := i + 1) (i' := i' + 1) (by omega) (by omega) (hle (n := 1) rfl h)]
    exact ge_ite Iff.rfl (fun _ => ge_bad (by decide)) (fun _ => E.shut ha rfl (by omega) (by decide))
  refine ge_ite (hI (by decide)) (fun h => E.cond ha (by omega) (by omega) (hle (n := 1) rfl h)) (fun _ => ?_)
  exact E.openT ha hi h0 h1
theorem Ext.opens (E : Ext x x' d suf) {a a' : Int} (ha : a' = a + d) (h0 : 0 ≤ a) (h1 : a < x.s.size) : GE d (openP x a) (openP x' a') := by
  have hsz := E.size
  have hI : ∀ {t : ByteArray}, Plain t → isP x'.s (a' + 1) t = isP x.s (a + 1) t := fun ht => E.is (by omega) (by omega) (by omega) ht
  have hle : ∀ {t : ByteArray} {n : Nat}, t.size = n → isP x.s (a + 1) t = true → a + 1 + n ≤ x.s.size := fun hn h => by have := isP_le h; omega
  unfold openP
  refine ge_ite (by rw [hI (by decide)]) (fun h => E.verb ha h0 (by have := hle (n := 1) rfl h; omega)) (fun _ => ?_)
  refine ge_ite (by rw [hI (by decide)]) (fun _ => ge_tok ha (by omega)) (fun h => ?_)
  have h63 := hle (n := 1) rfl (show isP x.s (a + 1) (bs [63]) = true by simpa using h)
  refine ge_iteB (fun _ => endG_e x) (fun h => by omega) (fun h => ?_)
  refine E.openL ha (by omega) (by omega) (by omega) (E.openR ha (by omega) (by omega) (by omega)) _ ?_
  intro p hp
  simp only [openList, List.mem_cons, List.not_mem_nil, or_false] at hp
  rcases hp with rfl | rfl | rfl | rfl | rfl | rfl | rfl
  · exact .inr ⟨_, rfl⟩
  · exact .inr ⟨_, rfl⟩
  · exact .inr ⟨_, rfl⟩
  · exact .inr ⟨_, rfl⟩
  · exact .inr ⟨_, rfl⟩
  · exact .inl (by decide)
  · exact .inl (by decide)
theorem Ext.quant (E : Ext x x' d suf) {i i' to to' n m : Int} (hi : i' = i + d) (ht : to' = to + d) (h0 : 0 ≤ to) (h1 : to ≤ x.s.size) : GE d (quantP x i to n m) (quantP x' i' to' n m) := by
  unfold quantP
  refine ge_ite (by rw [E.is ht h0 h1 (by decide)]) (fun _ => ge_tok hi (by omega)) (fun _ => ?_)
  refine ge_ite (by rw [E.is ht h0 h1 (by decide)]) (fun _ => ge_tok hi (by omega)) (fun _ => ge_tok hi ht)
theorem Ext.escL (E : Ext x x' d suf) {i i' to to' : Int} (hi : i' = i + d) (ht : to' = to + d) (h0 : 0 ≤ to) (h1 : to ≤ x.s.size) : ∀ l : List (ByteArray × ByteArray), (∀ p ∈ l, Plain p.1 ∧ Plain p.2) → GE d (VC.escL x i to l) (VC.escL x' i' to' l)
  | [], _ => ge_bad (by decide)
  | p :: l, h => by
    have hp := h p (List.mem_cons_self ..)
    have ih := E.escL hi ht h0 h1 l (fun q hq => h q (List.mem_cons_of_mem _ hq))
    have hr := nameTo_rng x.s (to + 1)
    unfold VC.escL
    refine ge_ite (by rw [E.is ht h0 h1 hp.1]) (fun hc => ?_) (fun _ => ih)
    have hle := isP_le hc
    have := hp.1.1
    have ht1 : to' + 1 = to + 1 + d := by omega
    rw [E.nameAt ht1 (by omega) (by omega), E.name ht1 (by omega) (by omega)]
    refine ge_ite Iff.rfl (fun _ => ?_) (fun _ => ih)
    refine ge_ite (by rw [E.is (i := nameTo x.s (to + 1)) rfl (by omega) (by omega) hp.2]) (fun _ => ge_tok hi (by omega)) (fun _ => ih)
/-- Sets that are told, but for an error. -/
def ME (d : Int) (m m' : Many) : Prop := m.e = 0 → m' = { m with to := m.to + d }
theorem Ext.braced (E : Ext x x' d suf) {i i' : Int} (hi : i' = i + d) (h0 : 0 ≤ i) (h : 0 ≤ (bracedP x i).2) : bracedP x' i' = ((bracedP x i).1, (bracedP x i).2 + d) := by
  have hsz := E.size
  unfold bracedP at h ⊢
  by_cases c1 : i ≥ x.s.size
  · rw [if_pos c1] at h; exact absurd h (by decide)
  rw [if_neg c1] at h ⊢
  have hg := charP_gt x i h0 (by omega)
  have hrg := charP_rng x i (by omega)
  have hst := stopAt_range x.s 125 (i + 1) (by omega)
  rw [if_neg (by omega), E.byte hi h0 (by omega)]
  by_cases c2 : byteAt x.s i ≠ 123
  · rw [if_pos c2, if_pos c2, E.char hi h0 (by omega)]
    simp only
    rw [E.ex hi rfl h0 (by omega) hrg.2]
  rw [if_neg c2] at h ⊢
  rw [if_neg c2]
  by_cases c3 : stopAt x.s 125 (i + 1) < x.s.size
  · have hs := E.stop (c := 125) (i := i + 1) (i' := i' + 1) (by omega) (by omega) (by omega) c3
    rw [if_pos c3, hs, if_pos (by omega), E.ex (i := i + 1) (i' := i' + 1) (j := stopAt x.s 125 (i + 1)) (by omega) rfl (by omega) (by omega) (by omega)]
    simp only
    congr 1
    omega
  · rw [if_neg c3] at h; exact absurd h (by decide)
theorem manyQ_ext (hm : x'.most = x.most) {i i' to to' : Int} {neg : Bool} {s : ByteArray} (ht : to' = to + d) : ME d (manyQ x i to neg s) (manyQ x' i' to' neg s) := by
  intro h
  unfold manyQ at h ⊢
  by_cases c : (propP s).2 = false
  · rw [if_pos c] at h; exact absurd h (show ¬ (24 : Int) = 0 by decide)
  · rw [if_neg c, if_neg c, hm, ht]
theorem Ext.manyB (E : Ext x x' d suf) {neg : Bool} {i i' : Int} (hi : i' = i + d) (h0 : 0 ≤ i) : ME d (VC.manyB x neg i (bracedP x i).2 (bracedP x i).1) (VC.manyB x' neg i' (bracedP x' i').2 (bracedP x' i').1) := by
  have hd := E.d0
  intro h
  by_cases c : (bracedP x i).2 < 0
  · unfold VC.manyB at h
    rw [if_pos c] at h
    exact absurd h (show ¬ (24 : Int) = 0 by decide)
  · rw [E.braced hi h0 (by omega)]
    simp only
    unfold VC.manyB at h ⊢
    rw [if_neg c] at h ⊢
    rw [if_neg (by omega)]
    split
    · split
      · rename_i h1 h2
        rw [if_pos h1, if_pos h2] at h
        exact manyQ_ext E.mo rfl h
      · rename_i h1 h2
        rw [if_pos h1, if_neg h2] at h
        exact manyQ_ext E.mo rfl h
    · rename_i h1
      rw [if_neg h1] at h
      exact manyQ_ext E.mo rfl h
theorem Ext.many (E : Ext x x' d suf) {c i i' : Int} (hi : i' = i + d) (h0 : 0 ≤ i) : ME d (manyP x c i) (manyP x' c i') := by
  unfold manyP
  rw [E.mo]
  by_cases c1 : c = 112
  · rw [if_pos c1, if_pos c1]; exact E.manyB hi h0
  rw [if_neg c1, if_neg c1]
  by_cases c2 : c = 80
  · rw [if_pos c2, if_pos c2]; exact E.manyB hi h0
  rw [if_neg c2, if_neg c2, hi]
  by_cases c3 : 65 ≤ c
  · rw [if_pos c3, if_pos c3]
    by_cases c4 : c ≤ 90
    · rw [if_pos c4, if_pos c4]; exact fun _ => rfl
    · rw [if_neg c4, if_neg c4]; exact fun _ => rfl
  · rw [if_neg c3, if_neg c3]; exact fun _ => rfl
theorem Ext.escape (E : Ext x x' d suf) {i i' : Int} (hi : i' = i + d) (h0 : 0 ≤ i) (h1 : i < x.s.size) : GE d (escapeP x i) (escapeP x' i') := by
  have hsz := E.size
  unfold escapeP
  refine ge_iteB (fun _ => endG_e x) (fun h => by omega) (fun hne => ?_)
  have hg := charP_gt x (i + 1) (by omega) (by omega)
  have hr := charP_rng x (i + 1) (by omega)
  rw [E.char (i := i + 1) (i' := i' + 1) (by omega) (by omega) (by omega)]
  simp only
  generalize (charP x (i + 1)).1 = c at *
  generalize (charP x (i + 1)).2 = to at *
  have hn := numP_range x.s (i + 1)
  have hm := E.many (c := c) (i := to) (i' := to + d) rfl (by omega)
  have hT : GE d (escT x i to c (manyP x c to)) (escT x' i' (to + d) c (manyP x' c (to + d))) := by
    generalize manyP x c to = m at *
    generalize manyP x' c (to + d) = m' at *
    by_cases he : m.e = 0
    · have hm := hm he
      subst hm
      unfold escT
      simp only
      refine ge_ite Iff.rfl (fun h => ge_bad h) (fun _ => ?_)
      refine ge_ite Iff.rfl (fun _ => ge_tok hi rfl) (fun _ => ?_)
      refine ge_ite Iff.rfl (fun _ => ge_bad (by decide)) (fun _ => ?_)
      refine ge_ite Iff.rfl (fun _ => ?_) (fun _ => ge_tok hi rfl)
      exact ge_ite Iff.rfl (fun _ => ge_bad (by decide)) (fun _ => ge_tok hi rfl)
    · unfold escT
      rw [if_pos he]
      exact ge_bad he
  have hR : GE d (escR x i to c) (escR x' i' (to + d) c) := by
    unfold escR
    refine ge_ite Iff.rfl (fun _ => E.refer hi rfl (by omega) (by omega)) (fun _ => ?_)
    refine ge_ite Iff.rfl (fun _ => E.escL hi rfl (by omega) (by omega) _ ?_) (fun _ => hT)
    intro p hp
    simp only [List.mem_cons, List.not_mem_nil, or_false] at hp
    rcases hp with rfl | rfl | rfl <;> exact ⟨by decide, by decide⟩
  unfold escQ
  rw [E.hexa (i := to) (i' := to + d) rfl (by omega) (by omega)]
  simp only
  refine ge_ite Iff.rfl (fun _ => ge_tok hi rfl) (fun _ => ?_)
  refine ge_ite Iff.rfl (fun _ => ?_) (fun _ => ?_)
  · exact ge_ite Iff.rfl (fun _ => ge_bad (by decide)) (fun _ => ge_tok hi rfl)
  refine ge_ite Iff.rfl (fun _ => ge_tok hi rfl) (fun _ => ?_)
  refine ge_ite Iff.rfl (fun _ => ge_tok hi rfl) (fun _ => ?_)
  refine ge_ite Iff.rfl (fun _ => ge_tok hi rfl) (fun _ => ?_)
  refine ge_ite Iff.rfl (fun _ => ge_tok hi rfl) (fun _ => ?_)
  refine ge_ite Iff.rfl (fun _ => ge_skip rfl) (fun _ => ?_)
  unfold escD
  rw [E.num (i := i + 1) (i' := i' + 1) (by omega) (by omega) (by omega)]
  simp only
  refine ge_ite Iff.rfl (fun _ => ?_) (fun _ => hR)
  refine ge_ite Iff.rfl (fun _ => ?_) (fun _ => hR)
  exact ge_ite Iff.rfl (fun _ => ge_bad (by decide)) (fun _ => ge_tok hi rfl)
/-- An item of a class, but for an error. -/
def IE (d : Int) (m m' : Item) : Prop := m.e = 0 → m' = { m with to := m.to + d }
theorem ie_bad {l : List (Int × Int)} {s : Bool} {i e a : Int} {m' : Item} (he : e ≠ 0) : IE d ⟨l, s, i, e, a⟩ m' := fun h => absurd h he
theorem ie_ok {l : List (Int × Int)} {s : Bool} {i i' e a : Int} (hi : i' = i + d) : IE d ⟨l, s, i, e, a⟩ ⟨l, s, i', e, a⟩ := fun _ => by rw [hi]
theorem ie_ite {c c' : Prop} [Decidable c] [Decidable c'] {a b a' b' : Item} (hc : c' ↔ c) (h1 : c → IE d a a') (h2 : ¬ c → IE d b b') : IE d (if c then a else b) (if c' then a' else b') := by
  by_cases h : c
  · rw [if_pos h, if_pos (hc.2 h)]; exact h1 h
  · rw [if_neg h, if_neg (fun q => h (hc.1 q))]; exact h2 h
theorem Ext.itemM (E : Ext x x' d suf) {i i' c to to' : Int} {m m' : Many} (hm : ME d m m') (ht : to' = to + d) : IE d (VC.itemM x i c to m) (VC.itemM x' i' c to' m') := by
  by_cases he : m.e = 0
  · have hm := hm he
    subst hm
    unfold VC.itemM
    simp only
    rw [E.mo]
    refine ie_ite Iff.rfl (fun h => ie_bad h) (fun _ => ?_)
    refine ie_ite Iff.rfl (fun _ => ?_) (fun _ => ?_)
    · exact ie_ite Iff.rfl (fun _ => ie_ok rfl) (fun _ => ie_ok rfl)
    refine ie_ite Iff.rfl (fun _ => ?_) (fun _ => ie_ok ht)
    refine ie_ite Iff.rfl (fun _ => ie_bad (by decide)) (fun _ => ?_)
    exact ie_ite Iff.rfl (fun _ => ie_bad (by decide)) (fun _ => ie_ok ht)
  · unfold VC.itemM
    rw [if_pos he]
    exact ie_bad he
theorem Ext.itemQ (E : Ext x x' d suf) {i i' : Int} (hi : i' = i + d) (h0 : 0 ≤ i) (h1 : i < x.s.size) : IE d (VC.itemQ x i) (VC.itemQ x' i') := by
  have hsz := E.size
  have hg := charP_gt x i h0 h1
  have hr := charP_rng x i (by omega)
  unfold VC.itemQ
  rw [E.char hi h0 h1]
  simp only
  refine ie_ite Iff.rfl (fun _ => ie_ok rfl) (fun _ => ?_)
  by_cases c : (charP x i).2 = x.s.size
  · rw [if_pos c]; exact ie_bad (by decide)
  rw [if_neg c, if_neg (by omega), E.char (i := (charP x i).2) rfl (by omega) (by omega)]
  have hg2 := charP_gt x (charP x i).2 (by omega) (by omega)
  have hr2 := charP_rng x (charP x i).2 (by omega)
  simp only
  generalize (charP x (charP x i).2).1 = c at *
  generalize (charP x (charP x i).2).2 = to at *
  unfold itemS
  rw [E.hexa (i := to) (i' := to + d) rfl (by omega) (by omega)]
  simp only
  refine ie_ite Iff.rfl (fun _ => ?_) (fun _ => ?_)
  · exact ie_ite Iff.rfl (fun _ => ie_bad (by decide)) (fun _ => ie_ok rfl)
  refine ie_ite Iff.rfl (fun _ => ie_ok rfl) (fun _ => ?_)
  refine ie_ite Iff.rfl (fun _ => ie_ok rfl) (fun _ => ?_)
  exact E.itemM (E.many rfl (by omega)) rfl
theorem Ext.itemK (E : Ext x x' d suf) {i i' k k' : Int} {neg : Bool} (hi : i' = i + d) (h0 : 0 ≤ i) (h1 : i < x.s.size) (hk : k' = k + d) (k0 : 0 ≤ k) (k1 : k ≤ x.s.size) : IE d (VC.itemK x i k neg) (VC.itemK x' i' k' neg) := by
  have hr := letTo_range x.s k k1
  unfold VC.itemK
  rw [E.letters hk k0 k1, E.mo]
  refine ie_ite (by rw [E.is (i := letTo x.s k) rfl (by omega) (by omega) (by decide)]) (fun _ => ?_) (fun _ => E.itemQ hi h0 h1)
  rw [E.ex (j := letTo x.s k) hk rfl k0 k1 (by omega)]
  refine ie_ite Iff.rfl (fun _ => ie_bad (by decide)) (fun _ => ?_)
  exact ie_ite Iff.rfl (fun _ => ie_ok (by omega)) (fun _ => ie_ok (by omega))
theorem Ext.item (E : Ext x x' d suf) {i i' : Int} (hi : i' = i + d) (h0 : 0 ≤ i) (h1 : i < x.s.size) : IE d (itemP x i) (itemP x' i') := by
  unfold itemP
  refine ie_ite (by rw [E.is hi h0 (by omega) (by decide)]) (fun hc => ?_) (fun _ => E.itemQ hi h0 h1)
  have hle := isP_le hc
  have hb : (bs [91, 58]).size = 2 := rfl
  refine ie_ite (by rw [E.is (i := i + 2) (i' := i' + 2) (by omega) (by omega) (by omega) (by decide)]) (fun hc2 => ?_) (fun _ => ?_)
  · have hle2 := isP_le hc2
    have hb2 : (bs [94]).size = 1 := rfl
    exact E.itemK hi h0 h1 (by omega) (by omega) (by omega)
  · exact E.itemK hi h0 h1 (by omega) (by omega) (by omega)
end
end Go.Proofs.Ytnoohgiecnmajaa.VC

/- A text within another one: classes, tokens, all tokens (plain). -/
namespace Go.Proofs.Ytnoohgiecnmajaa.VC
open Go Go.RowKit
set_option linter.unusedVariables false
set_option linter.unusedSimpArgs false
set_option maxHeartbeats 4000000

section
variable {x x' : Text} {d : Int} {suf : List Int}
theorem class_dash {x : Text} {a first : Int} {neg : Bool} {i : Int} (h0 : 0 ≤ i) (h1 : i + 1 = x.s.size) (hb : isP x.s i (bs [45]) = true) : ∀ (k : Nat) (A : List (Int × Int)), (classL x a first neg k i A).e ≠ 0
  | 0, A => endG_e x
  | k + 1, A => by
    obtain ⟨r, hr⟩ := is_byte h0 hb
    have hr : (numsOf x.s).drop i.toNat = 45 :: r := hr
    obtain ⟨b1, b2, b3⟩ := byte_drop h0 hr
    have hit : itemP x i = ⟨[(45, 45)], true, i + 1, 0, 0⟩ := by
      have h9 : isP x.s i (bs [91, 58]) = false := by rw [isP_pre _ _ _ h0 (by decide), hr]; rfl
      unfold itemP
      rw [h9, if_neg (by decide)]
      unfold itemQ
      rw [charP_ascii h0 hr (by decide), if_pos (show (45 : Int) ≠ 92 by decide)]
    have h45 : isP x.s (i + 1) (bs [45]) = false := by
      by_cases c : isP x.s (i + 1) (bs [45]) = true
      · have := isP_le c
        have hz : (bs [45]).size = 1 := rfl
        omega
      · simpa using c
    unfold classL
    rw [if_neg (by omega), b1, if_neg (by decide), hit]
    unfold classI
    rw [if_neg (by simp), if_pos rfl, if_neg (by simp only; rw [h45]; simp)]
    cases k with
    | zero => exact endG_e x
    | succ k =>
      unfold classL
      rw [if_pos (by simp only; omega)]
      exact endG_e x
theorem Ext.classL (E : Ext x x' d suf) (hx : x.s.size ≤ 1000) {a a' first first' : Int} {neg : Bool} (ha : a' = a + d) (hf : first' = first + d) : ∀ (k k' : Nat) (i i' : Int) (A : List (Int × Int)), i' = i + d → 0 ≤ i → k ≤ k' → GE d (VC.classL x a first neg k i A) (VC.classL x' a' first' neg k' i' A)
  | 0, k', i, i', A, hi, h0, hk => ge_end
  | k + 1, k', i, i', A, hi, h0, hk => by
    have hsz := E.size
    obtain ⟨k', rfl⟩ : ∃ m, k' = m + 1 := ⟨k' - 1, by omega⟩
    unfold VC.classL
    refine ge_iteB (fun _ => endG_e x) (fun h => by omega) (fun hl => ?_)
    have h1 : i < x.s.size := by omega
    have hin : GE d (classI x i (VC.classL x a first neg k) A (itemP x i)) (classI x' i' (VC.classL x' a' first' neg k') A (itemP x' i')) := by
      have hI := itemP_ok x i h0 h1
      have hE := E.item hi h0 h1
      generalize itemP x i = m at *
      generalize itemP x' i' = m' at *
      by_cases he : m.e = 0
      · have hE := hE he
        subst hE
        have hg := hI.go he
        unfold classI
        simp only
        have hnext : GE d (VC.classL x a first neg k m.to (A ++ m.l)) (VC.classL x' a' first' neg k' (m.to + d) (A ++ m.l)) := E.classL hx ha hf k k' _ _ _ rfl (by omega) (by omega)
        refine ge_ite Iff.rfl (fun h => ge_bad h) (fun _ => ?_)
        refine ge_ite Iff.rfl (fun _ => ?_) (fun _ => hnext)
        refine ge_ite (by rw [E.is (i := m.to) rfl (by omega) hg.2.1 (by decide)]) (fun h45 => ?_) (fun _ => hnext)
        by_cases hlt : m.to + 1 < x.s.size
        · rw [if_pos hlt, if_pos (show m.to + d + 1 < x'.s.size by omega), E.byte (i := m.to + 1) (by omega) (by omega) hlt]
          refine ge_ite Iff.rfl (fun _ => ?_) (fun _ => hnext)
          have hE2 := E.item (i := m.to + 1) (i' := m.to + d + 1) (by omega) (by omega) hlt
          have hI2 := itemP_ok x (m.to + 1) (by omega) hlt
          generalize itemP x (m.to + 1) = n at *
          generalize itemP x' (m.to + d + 1) = n' at *
          by_cases hne : n.e = 0
          · have hE2 := hE2 hne
            subst hE2
            have hg2 := hI2.go hne
            unfold classR
            simp only
            refine ge_ite Iff.rfl (fun h => ge_bad h) (fun _ => ?_)
            refine ge_ite Iff.rfl (fun _ => ge_bad (by decide)) (fun _ => ?_)
            refine ge_ite Iff.rfl (fun _ => ge_bad (by decide)) (fun _ => ?_)
            exact E.classL hx ha hf k k' _ _ _ rfl (by omega) (by omega)
          · unfold classR
            rw [if_pos hne]
            exact ge_bad hne
        · rw [if_neg hlt]
          have hle := isP_le h45
          have hz : (bs [45]).size = 1 := rfl
          exact fun h => absurd h (class_dash (by omega) (by omega) h45 k _)
      · unfold classI
        rw [if_pos he]
        exact ge_bad he
    rw [E.byte hi h0 h1, E.mo]
    refine ge_ite Iff.rfl (fun _ => ?_) (fun _ => hin)
    exact ge_ite (by omega) (fun _ => ge_tok ha (by omega)) (fun _ => hin)
theorem Ext.classes (E : Ext x x' d suf) (hx : x.s.size ≤ 1000) {a a' : Int} (ha : a' = a + d) (h0 : 0 ≤ a) (h1 : a < x.s.size) : GE d (classP x a) (classP x' a') := by
  have hsz := E.size
  have hd := E.d0
  have he : isP x'.s (a' + 1) (bs [94]) = isP x.s (a + 1) (bs [94]) := E.is (by omega) (by omega) (by omega) (by decide)
  unfold classP classF
  rw [he]
  by_cases c : isP x.s (a + 1) (bs [94]) = true
  · rw [if_pos c, if_pos c]
    exact E.classL hx ha (by omega) _ _ _ _ _ (by omega) (by omega) (by omega)
  · rw [if_neg c, if_neg c]
    exact E.classL hx ha (by omega) _ _ _ _ _ (by omega) (by omega) (by omega)
theorem Ext.brK (E : Ext x x' d suf) {i i' c to to' n a a' m b b' : Int} {great : Bool} (hi : i' = i + d) (ht : to' = to + d) (ha : a' = a + d) (hb : b' = b + d) (h0 : 0 ≤ b) (h1 : b ≤ x.s.size) : GE d (VC.brK x i c to n a m b great) (VC.brK x' i' c to' n a' m b' great) := by
  have hl : GE d (litG i c to) (litG i' c to') := ge_tok hi ht
  unfold VC.brK
  refine ge_ite (by omega) (fun _ => hl) (fun _ => ?_)
  refine ge_ite (by rw [E.is hb h0 h1 (by decide)]) (fun h => ?_) (fun _ => hl)
  have hle := isP_le h
  have hz : (bs [125]).size = 1 := rfl
  refine ge_ite Iff.rfl (fun _ => ge_bad (by decide)) (fun _ => ?_)
  refine ge_ite Iff.rfl (fun _ => ?_) (fun _ => E.quant hi (by omega) (by omega) (by omega))
  exact ge_ite Iff.rfl (fun _ => ge_bad (by decide)) (fun _ => E.quant hi (by omega) (by omega) (by omega))
theorem Ext.brace (E : Ext x x' d suf) {i i' c to to' : Int} (hi : i' = i + d) (ht : to' = to + d) (h0 : 0 ≤ i) (h1 : i < x.s.size) : GE d (brP x i c to (numP x.s (i + 1))) (brP x' i' c to' (numP x'.s (i' + 1))) := by
  have hn := numP_range x.s (i + 1)
  rw [E.num (i := i + 1) (i' := i' + 1) (by omega) (by omega) (by omega)]
  generalize numP x.s (i + 1) = p at *
  obtain ⟨n, b, g⟩ := p
  simp only at *
  unfold brP
  simp only
  refine ge_ite (by omega) (fun hgt => ?_) (fun _ => E.brK hi ht rfl rfl (by omega) (by omega))
  refine ge_ite (by rw [E.is (i := b) rfl (by omega) (by omega) (by decide)]) (fun h => ?_) (fun _ => E.brK hi ht rfl rfl (by omega) (by omega))
  have hle := isP_le h
  have hz : (bs [44]).size = 1 := rfl
  have hk := numP_range x.s (b + 1)
  rw [E.num (i := b + 1) (i' := b + d + 1) (by omega) (by omega) (by omega)]
  unfold brM
  simp only
  refine ge_ite Iff.rfl (fun _ => ?_) (fun _ => ?_)
  · exact ge_ite (by omega) (fun _ => E.brK hi ht rfl rfl (by omega) (by omega)) (fun _ => E.brK hi ht rfl rfl (by omega) (by omega))
  · exact ge_ite (by omega) (fun _ => E.brK hi ht rfl rfl (by omega) (by omega)) (fun _ => E.brK hi ht rfl rfl (by omega) (by omega))
theorem Ext.tokC (E : Ext x x' d suf) (hx : x.s.size ≤ 1000) {i i' c to to' : Int} (hi : i' = i + d) (ht : to' = to + d) (h0 : 0 ≤ i) (h1 : i < x.s.size) (h2 : 0 ≤ to) (h3 : to ≤ x.s.size) : GE d (VC.tokC x i c to) (VC.tokC x' i' c to') := by
  unfold VC.tokC
  refine ge_ite Iff.rfl (fun _ => E.escape hi h0 h1) (fun _ => ?_)
  refine ge_ite Iff.rfl (fun _ => E.classes hx hi h0 h1) (fun _ => ?_)
  refine ge_ite Iff.rfl (fun _ => E.opens hi h0 h1) (fun _ => ?_)
  refine ge_ite Iff.rfl (fun _ => ge_tok hi ht) (fun _ => ?_)
  refine ge_ite Iff.rfl (fun _ => ge_tok hi ht) (fun _ => ?_)
  refine ge_ite Iff.rfl (fun _ => ge_tok hi ht) (fun _ => ?_)
  refine ge_ite Iff.rfl (fun _ => ge_tok hi ht) (fun _ => ?_)
  refine ge_ite Iff.rfl (fun _ => ge_tok hi ht) (fun _ => ?_)
  refine ge_ite Iff.rfl (fun _ => E.quant hi ht h2 h3) (fun _ => ?_)
  refine ge_ite Iff.rfl (fun _ => E.quant hi ht h2 h3) (fun _ => ?_)
  refine ge_ite Iff.rfl (fun _ => E.quant hi ht h2 h3) (fun _ => ?_)
  exact ge_ite Iff.rfl (fun _ => E.brace hi ht h0 h1) (fun _ => ge_tok hi ht)
/-- A comment to the line's end. -/
theorem Ext.line (E : Ext x x' d suf) (hc : ∀ c r, suf = c :: r → c = 10) {i i' : Int} (hi : i' = i + d) (h0 : 1 ≤ i) (h1 : i ≤ x.s.size) : lineTo x'.s i' = lineTo x.s i + d ∨ (lineTo x.s i = x.s.size ∧ lineTo x'.s i' = x.s.size + d + 1 ∧ ∃ r, suf = 10 :: r) := by
  have hsz := E.size
  have hend : ∀ (k k' : Nat) (i i' : Int), i' = i + d → 1 ≤ i → i = x.s.size → (x'.s.size - i').toNat ≤ k' → lineL x'.s k' i' = lineL x.s k i + d ∨ (lineL x.s k i = x.s.size ∧ lineL x'.s k' i' = x.s.size + d + 1 ∧ ∃ r, suf = 10 :: r) := by
    intro k k' i i' hi h0 hl hk'
    have h1 : lineL x.s k i = i := by
      cases k with
      | zero => rfl
      | succ k => rw [lineL, if_neg (by omega)]
    rw [h1]
    cases k' with
    | zero => left; rw [lineL, hi]
    | succ k' =>
      rw [lineL]
      by_cases c : i' < x'.s.size ∧ byteAt x'.s (i' - 1) ≠ 10
      · rw [if_pos c]
        right
        obtain ⟨c0, r, hs, hb, _⟩ := E.last (i' := i') (by omega) c.1
        have hc10 := hc c0 r hs
        subst hc10
        refine ⟨hl, ?_, r, hs⟩
        have : lineL x'.s k' (i' + 1) = i' + 1 := by
          cases k' with
          | zero => rfl
          | succ k' => rw [lineL, if_neg (by rw [show i' + 1 - 1 = i' by omega, hb]; simp)]
        rw [this]
        omega
      · rw [if_neg c]; left; exact hi
  have key : ∀ (k k' : Nat) (i i' : Int), i' = i + d → 1 ≤ i → i ≤ x.s.size → (x.s.size - i).toNat ≤ k → (x'.s.size - i').toNat ≤ k' → lineL x'.s k' i' = lineL x.s k i + d ∨ (lineL x.s k i = x.s.size ∧ lineL x'.s k' i' = x.s.size + d + 1 ∧ ∃ r, suf = 10 :: r) := by
    intro k
    induction k with
    | zero => intro k' i i' hi h0 h1 hk hk'; exact hend _ _ _ _ hi h0 (by omega) hk'
    | succ k ih =>
      intro k' i i' hi h0 h1 hk hk'
      by_cases hl : i < x.s.size
      · obtain ⟨k', rfl⟩ : ∃ m, k' = m + 1 := ⟨k' - 1, by omega⟩
        rw [lineL, lineL, E.byte (i := i - 1) (i' := i' - 1) (by omega) (by omega) (by omega)]
        by_cases hgd : byteAt x.s (i - 1) ≠ 10
        · rw [if_pos ⟨by omega, hgd⟩, if_pos ⟨hl, hgd⟩]
          exact ih k' (i + 1) (i' + 1) (by omega) (by omega) (by omega) (by omega) (by omega)
        · rw [if_neg (fun h => hgd h.2), if_neg (fun h => hgd h.2)]
          exact .inl hi
      · exact hend _ _ _ _ hi h0 (by omega) hk'
  exact key _ _ _ _ hi h0 h1 (Nat.le_refl _) (Nat.le_refl _)
theorem Ext.token (E : Ext x x' d suf) (hx : x.s.size ≤ 1000) (hc : x.x = true → ∀ c r, suf = c :: r → c = 10) {i i' : Int} (hi : i' = i + d) (h0 : 0 ≤ i) (h1 : i < x.s.size) :
    GE d (tokenP x i) (tokenP x' i') ∨ (x.x = true ∧ tokenP x i = skipG x.s.size ∧ tokenP x' i' = skipG (x.s.size + d + 1) ∧ ∃ r, suf = 10 :: r) := by
  have hg := charP_gt x i h0 h1
  have hr := charP_rng x i (by omega)
  have hC := E.tokC hx (c := (charP x i).1) (to := (charP x i).2) hi rfl h0 h1 (by omega) hr.2
  unfold tokenP
  rw [E.char hi h0 h1, E.xx]
  simp only
  generalize (charP x i).1 = c at *
  generalize (charP x i).2 = to at *
  by_cases hxx : x.x = true
  · rw [if_pos hxx, if_pos hxx]
    have hX : GE d (tokX x i c to) (tokX x' i' c (to + d)) ∨ (tokX x i c to = skipG x.s.size ∧ tokX x' i' c (to + d) = skipG (x.s.size + d + 1) ∧ ∃ r, suf = 10 :: r) := by
      unfold tokX
      by_cases c1 : c = 32
      · rw [if_pos c1, if_pos c1]; exact .inl (ge_skip rfl)
      rw [if_neg c1, if_neg c1]
      by_cases c2 : c = 35
      · rw [if_pos c2, if_pos c2]
        rcases E.line (hc hxx) (i := to) rfl (by omega) hr.2 with h | ⟨h2, h3, h4⟩
        · rw [h]; exact .inl (ge_skip rfl)
        · rw [h2, h3]; exact .inr ⟨rfl, rfl, h4⟩
      · rw [if_neg c2, if_neg c2]; exact .inl hC
    by_cases c1 : c ≥ 9
    · rw [if_pos c1, if_pos c1]
      by_cases c2 : c ≤ 13
      · rw [if_pos c2, if_pos c2]; exact .inl (ge_skip rfl)
      · rw [if_neg c2, if_neg c2]
        rcases hX with h | h
        · exact .inl h
        · exact .inr ⟨hxx, h⟩
    · rw [if_neg c1, if_neg c1]
      rcases hX with h | h
      · exact .inl h
      · exact .inr ⟨hxx, h⟩
  · rw [if_neg hxx, if_neg hxx]; exact .inl hC
/-- All tokens of a text are found within another one, so much further on. -/
theorem Ext.lexGo (E : Ext x x' d suf) (hm : x.most ≤ 1114111) (hx : x.s.size ≤ 1000) (hc : x.x = true → ∀ c r, suf = c :: r → c = 10) : ∀ (k : Nat) (i i' : Int) (q : Bool) (A B : List Tok) (K : Nat), i' = i + d → 0 ≤ i → i ≤ x.s.size → (x.s.size - i).toNat < k → (x'.s.size - i').toNat < K → (VC.lexGo x k i q A).e = 0 →
    ∃ (q' : Bool) (K' : Nat) (j' : Int) (rest : List Tok), (VC.lexGo x k i q A).toks = A ++ rest ∧ VC.lexGo x' K i' q B = VC.lexGo x' K' j' q' (B ++ rest.map (shT d)) ∧ (x'.s.size - j').toNat < K' ∧
      (j' = x.s.size + d ∨ (x.x = true ∧ q' = false ∧ j' = x.s.size + d + 1 ∧ ∃ r, suf = 10 :: r)) ∧ ((∀ j : Int, 0 ≤ j → isP x.s j (bs [92, 81]) = false) → q = false → q' = false)
  | 0, i, i', q, A, B, K, hi, h0, h1, hk, hK, he => by omega
  | k + 1, i, i', q, A, B, K, hi, h0, h1, hk, hK, he => by
    have hsz := E.size
    by_cases hl : i < x.s.size
    · obtain ⟨K, rfl⟩ : ∃ m, K = m + 1 := ⟨K - 1, by omega⟩
      have hg := charP_gt x i h0 hl
      have hr := charP_rng x i (by omega)
      rw [VC.lexGo, if_pos hl] at he
      rw [VC.lexGo, if_pos hl, VC.lexGo, if_pos (show i' < x'.s.size by omega)]
      by_cases hq : q = true
      · rw [if_pos hq] at he
        rw [if_pos hq, if_pos hq, E.is hi h0 h1 (by decide)]
        by_cases hE : isP x.s i (bs [92, 69]) = true
        · rw [if_pos hE] at he
          rw [if_pos hE, if_pos hE]
          have hle := isP_le hE
          have hz : (bs [92, 69]).size = 2 := rfl
          obtain ⟨q', K', j', rest, r1, r2, r3, r4, r5⟩ := E.lexGo hm hx hc k (i + 2) (i' + 2) false A B K (by omega) (by omega) (by omega) (by omega) (by omega) he
          exact ⟨q', K', j', rest, r1, r2, r3, r4, fun h _ => r5 h rfl⟩
        · rw [if_neg hE] at he
          rw [if_neg hE, if_neg hE, E.char hi h0 hl]
          simp only
          obtain ⟨q', K', j', rest, r1, r2, r3, r4, r5⟩ := E.lexGo hm hx hc k (charP x i).2 ((charP x i).2 + d) q _ (B ++ [litT i' ((charP x i).2 + d) (charP x i).1]) K rfl (by omega) hr.2 (by omega) (by omega) he
          refine ⟨q', K', j', litT i (charP x i).2 (charP x i).1 :: rest, ?_, ?_, r3, r4, r5⟩
          · rw [r1]; simp
          · rw [r2]
            have : litT i' ((charP x i).2 + d) (charP x i).1 = shT d (litT i (charP x i).2 (charP x i).1) := by rw [hi]; rfl
            rw [this]
            simp
      rw [if_neg hq] at he
      rw [if_neg hq, if_neg hq, E.is hi h0 h1 (by decide)]
      by_cases hQ : isP x.s i (bs [92, 81]) = true
      · rw [if_pos hQ] at he
        rw [if_pos hQ, if_pos hQ]
        have hle := isP_le hQ
        have hz : (bs [92, 81]).size = 2 := rfl
        obtain ⟨q', K', j', rest, r1, r2, r3, r4, r5⟩ := E.lexGo hm hx hc k (i + 2) (i' + 2) true A B K (by omega) (by omega) (by omega) (by omega) (by omega) he
        exact ⟨q', K', j', rest, r1, r2, r3, r4, fun h _ => by rw [h i h0] at hQ; cases hQ⟩
      rw [if_neg hQ] at he
      rw [if_neg hQ, if_neg hQ]
      by_cases hte : (tokenP x i).e ≠ 0
      · rw [if_pos hte] at he
        exact absurd he hte
      rw [if_neg hte] at he
      rw [if_neg hte]
      have hte : (tokenP x i).e = 0 := by simpa using hte
      have hok := gotOk_token hm hx h0 hl hte
      rcases E.token hx hc hi h0 hl with hge | ⟨x1, x2, x3, x4⟩
      · obtain ⟨g1, g2, g3, g4⟩ := hge hte
        rw [if_neg (show ¬ (tokenP x' i').e ≠ 0 by rw [g1]; simp), g2]
        by_cases hs : (tokenP x i).some = true
        · rw [if_pos hs] at he
          rw [if_pos hs, if_pos hs, g3, g4 hs]
          obtain ⟨q', K', j', rest, r1, r2, r3, r4, r5⟩ := E.lexGo hm hx hc k (tokenP x i).to ((tokenP x i).to + d) q _ (B ++ [shT d (tokenP x i).t]) K rfl (by omega) hok.2.1 (by omega) (by omega) he
          refine ⟨q', K', j', (tokenP x i).t :: rest, ?_, ?_, r3, r4, r5⟩
          · rw [r1]; simp
          · rw [r2]; simp
        · rw [if_neg hs] at he
          rw [if_neg hs, if_neg hs, g3]
          exact E.lexGo hm hx hc k (tokenP x i).to ((tokenP x i).to + d) q _ B K rfl (by omega) hok.2.1 (by omega) (by omega) he
      · rw [x3, x2, if_neg (by unfold skipG; simp), if_neg (by unfold skipG; simp), if_neg (by unfold skipG; simp)]
        obtain ⟨r, hs⟩ := x4
        have hne : (1 : Int) ≤ suf.length := by rw [hs]; simp; omega
        refine ⟨q, K, x.s.size + d + 1, [], ?_, ?_, ?_, .inr ⟨x1, by simpa using hq, rfl, r, hs⟩, fun _ _ => by simpa using hq⟩
        · cases k with
          | zero => simp [VC.lexGo, skipG]
          | succ k => rw [VC.lexGo, if_neg (by show ¬ (x.s.size : Int) < x.s.size; omega)]; simp
        · simp [skipG]
        · rw [x3] at *
          have := hok.1
          have h3 := hok.2.1
          rw [x2] at this
          simp only [skipG] at this
          omega
    · refine ⟨q, K, i', [], ?_, by simp, hK, .inl (by omega), fun _ h => h⟩
      rw [VC.lexGo, if_neg hl]
      simp
end
end Go.Proofs.Ytnoohgiecnmajaa.VC

/- A pattern behind groups of their own and within a group: its tokens, its tree's groups (plain). -/
namespace Go.Proofs.Ytnoohgiecnmajaa.VC
open Go Go.RowKit
set_option linter.unusedVariables false
set_option linter.unusedSimpArgs false
set_option maxHeartbeats 4000000

section
variable {x : Text}
theorem lexTo_oneG {i c b : Int} {r : List Int} {t : Tok} (h0 : 0 ≤ i) (h : (numsOf x.s).drop i.toNat = c :: r) (hc : 33 ≤ c ∧ c < 128 ∧ c ≠ 92 ∧ c ≠ 35) (hb : i < b) (ht : tokC x i c (i + 1) = tokG t i b) : LexTo x i b [{ t with at_ := i, to := b }] := by
  intro K out hK
  obtain ⟨b1, b2, b3⟩ := byte_drop h0 h
  obtain ⟨K, rfl⟩ : ∃ m, K = m + 1 := ⟨K - 1, by omega⟩
  refine ⟨K, by omega, ?_⟩
  have hch := charP_ascii h0 h ⟨by omega, hc.2.1⟩
  have hq := noQ h0 h hc.2.2.1
  have htk : tokenP x i = tokG t i b := by
    unfold tokenP
    rw [hch]
    simp only
    by_cases hx : x.x = true
    · rw [if_pos hx, if_pos (by omega), if_neg (by omega)]
      unfold tokX
      rw [if_neg (by omega), if_neg hc.2.2.2]
      exact ht
    · rw [if_neg hx]
      exact ht
  rw [lexGo, if_pos b2, if_neg (by simp), if_neg (by rw [hq]; simp), htk, if_neg (by unfold tokG; simp), if_pos (by unfold tokG; rfl)]
  rfl
theorem lexTo_closeG {i : Int} {r : List Int} (h0 : 0 ≤ i) (h : (numsOf x.s).drop i.toNat = 41 :: r) : LexTo x i (i + 1) [tq 8 0 0 [] i (i + 1)] := by
  refine lexTo_oneG h0 h (by decide) (by omega) (t := { tokZ with kind := 8 }) ?_
  unfold tokC
  rw [if_neg (by decide), if_neg (by decide), if_neg (by decide), if_neg (by decide), if_neg (by decide), if_neg (by decide), if_neg (by decide), if_pos rfl]
def tokz (i : Int) : List Tok := [tq 10 1 0 [] i (i + 1), tq 1 0 122 [] (i + 1) (i + 1 + 1), tq 8 0 0 [] (i + 1 + 1) (i + 1 + 1 + 1)]
theorem lexTo_z {i : Int} {r : List Int} (h0 : 0 ≤ i) (h : (numsOf x.s).drop i.toNat = 40 :: 122 :: 41 :: r) : LexTo x i (i + 3) (tokz i) := by
  obtain ⟨_, _, b3⟩ := byte_drop h0 h
  obtain ⟨_, _, c3⟩ := byte_drop (by omega) b3
  have s1 : LexTo x i (i + 1) [tq 10 1 0 [] i (i + 1)] := by
    refine lexTo_oneG h0 h (by decide) (by omega) (t := { tokZ with kind := 10, n := 1 }) ?_
    unfold tokC
    rw [if_neg (by decide), if_neg (by decide), if_pos rfl]
    exact open_drop h0 h (by decide) (by decide)
  have s2 : LexTo x (i + 1) (i + 1 + 1) [tq 1 0 122 [] (i + 1) (i + 1 + 1)] := by
    refine lexTo_oneG (by omega) b3 (by decide) (by omega) (t := { tokZ with kind := 1, c := 122 }) ?_
    unfold tokC litG
    rw [if_neg (by decide), if_neg (by decide), if_neg (by decide), if_neg (by decide), if_neg (by decide), if_neg (by decide), if_neg (by decide), if_neg (by decide), if_neg (by decide), if_neg (by decide), if_neg (by decide), if_neg (by decide)]
  have s3 := lexTo_closeG (by omega) c3
  have := s1.trans (s2.trans s3)
  rw [show i + 3 = i + 1 + 1 + 1 by omega]
  exact this
def zToks : Nat → Int → List Tok
  | 0, _ => []
  | k + 1, i => tokz i ++ zToks k (i + 3)
theorem lexTo_zs : ∀ (k : Nat) (i : Int) (R : List Int), 0 ≤ i → (numsOf x.s).drop i.toNat = rep k [40, 122, 41] ++ R → LexTo x i (i + 3 * k) (zToks k i) ∧ (numsOf x.s).drop (i + 3 * k).toNat = R
  | 0, i, R, h0, h => by
    have := LexTo.nil (x := x) (i := i)
    exact ⟨by simpa [zToks] using this, by simpa [rep] using h⟩
  | k + 1, i, R, h0, h => by
    rw [rep, List.append_assoc] at h
    have h3 := drop_add h0 h
    have hl : ([40, 122, 41] : List Int).length = 3 := rfl
    rw [hl] at h3
    obtain ⟨s2, hd⟩ := lexTo_zs k (i + 3) R (by omega) h3
    have s1 := lexTo_z h0 h
    rw [show i + 3 * ((k + 1 : Nat) : Int) = i + 3 + 3 * k by omega]
    exact ⟨s1.trans s2, hd⟩
theorem lexTo_plain {i : Int} {r : List Int} (h0 : 0 ≤ i) (h : (numsOf x.s).drop i.toNat = 40 :: 63 :: 58 :: r) (hr : r ≠ []) : LexTo x i (i + 3) [tq 10 2 0 [] i (i + 3)] := by
  refine lexTo_oneG h0 h (by decide) (by omega) (t := { tokZ with kind := 10, n := 2 }) ?_
  obtain ⟨b1, b2, b3⟩ := byte_drop h0 h
  obtain ⟨c1, c2, c3⟩ := byte_drop (by omega) b3
  rw [show i + 1 + 1 = i + 2 by omega] at c3
  obtain ⟨d1, d2, d3⟩ := byte_drop (by omega) c3
  have e1 : isP x.s (i + 1) (bs [42]) = false := by rw [isP_pre _ _ _ (by omega) (by decide), b3]; rfl
  have e2 : isP x.s (i + 1) (bs [63]) = true := by rw [isP_pre _ _ _ (by omega) (by decide), b3]; rfl
  have e3 : isP x.s (i + 2) (bs [58]) = true := by rw [isP_pre _ _ _ (by omega) (by decide), c3]; rfl
  unfold tokC
  rw [if_neg (by decide), if_neg (by decide), if_pos rfl]
  unfold openP
  rw [if_neg (by rw [e1]; simp), if_neg (by rw [e2]; simp), if_neg (by omega)]
  unfold openList openL
  rw [if_pos e3]
  have hz : (bs [58]).size = 1 := rfl
  rw [hz, show i + 2 + ((1 : Nat) : Int) = i + 3 by omega]
end
def shiftL (k : Nat) (l : List Int) : List Int := rep k [40, 122, 41] ++ ([40, 63, 58] ++ (l ++ [10, 41]))
theorem shiftL_len (k : Nat) (l : List Int) : (shiftL k l).length = 3 * k + l.length + 5 := by
  unfold shiftL
  rw [List.length_append, rep_len, List.length_append, List.length_append]
  simp
  omega
theorem rep_bytes {w : List Int} (h : Bytes w) : ∀ k : Nat, Bytes (rep k w)
  | 0 => by intro x hx; simp [rep] at hx
  | k + 1 => by
    intro x hx
    rw [rep] at hx
    rcases List.mem_append.1 hx with hx | hx
    · exact h x hx
    · exact rep_bytes h k x hx
theorem shiftL_bytes {k : Nat} {l : List Int} (h : Bytes l) : Bytes (shiftL k l) := by
  intro x hx
  unfold shiftL at hx
  rcases List.mem_append.1 hx with hx | hx
  · exact rep_bytes (by unfold Bytes; decide) k x hx
  rcases List.mem_append.1 hx with hx | hx
  · simp at hx; omega
  rcases List.mem_append.1 hx with hx | hx
  · exact h x hx
  · simp at hx; omega
theorem lexP_go {l : List Int} {o : Int} (he : (lexP l o).e = 0) : lexP l o = lexGo (textOf l o) (l.length + 1) 0 false [] := by
  have hsz : (textOf l o).s.size = l.length := strOf_size l
  unfold lexP at he ⊢
  by_cases c1 : o < 0
  · rw [if_pos c1] at he; exact absurd he (by decide)
  rw [if_neg c1] at he ⊢
  by_cases c2 : o > 65535
  · rw [if_pos c2] at he; exact absurd he (by decide)
  rw [if_neg c2] at he ⊢
  by_cases c3 : (l.length : Int) > 1000
  · rw [if_pos c3] at he; exact absurd he (by decide)
  rw [if_neg c3] at he ⊢
  by_cases c4 : bAnd o 32 ≠ 0
  · rw [if_pos c4] at he ⊢
    by_cases c5 : (validP l).2 = false
    · rw [if_pos c5] at he; exact absurd he (show ¬ (13 : Int) = 0 by decide)
    · rw [if_neg c5, hsz]
  · rw [if_neg c4, hsz]
theorem lex_lits {x : Text} {K : Nat} {j : Int} {out : List Tok} (h0 : 0 ≤ j) (h : (numsOf x.s).drop j.toNat = [10, 41]) (hK : (x.s.size - j).toNat < K) : ∃ a b : Tok, lexGo x K j true out = ⟨out ++ [a, b], 0, 0⟩ ∧ a.kind = 1 ∧ b.kind = 1 := by
  obtain ⟨b1, b2, b3⟩ := byte_drop h0 h
  obtain ⟨c1, c2, c3⟩ := byte_drop (by omega) b3
  have hend : ¬ j + 1 + 1 < x.s.size := by
    intro q
    have := congrArg List.length c3
    rw [List.length_drop, numsOf_len] at this
    simp at this
    omega
  obtain ⟨K, rfl⟩ : ∃ m, K = m + 2 := ⟨K - 2, by omega⟩
  have e1 : isP x.s j (bs [92, 69]) = false := by rw [isP_pre _ _ _ h0 (by decide), h]; rfl
  have e2 : isP x.s (j + 1) (bs [92, 69]) = false := by rw [isP_pre _ _ _ (by omega) (by decide), b3]; rfl
  have g1 := charP_ascii h0 h (by decide)
  have g2 := charP_ascii (by omega) b3 (by decide)
  refine ⟨litT j (j + 1) 10, litT (j + 1) (j + 1 + 1) 41, ?_, rfl, rfl⟩
  rw [lexGo, if_pos b2, if_pos rfl, e1, if_neg (by decide), g1]
  simp only
  rw [lexGo, if_pos c2, if_pos rfl, e2, if_neg (by decide), g2]
  simp only
  rw [lex_endq hend]
  simp
/-- The tokens of a pattern behind groups of their own and within a group. -/
theorem lex_shift {l : List Int} {o : Int} {k : Nat} (hb : Bytes l) (hl : l.length ≤ 800) (he : (lexP l o).e = 0) (he2 : (lexP (shiftL k l) o).e = 0) :
    ∃ (d : Int) (t0 : Tok) (E : List Tok), (lexP (shiftL k l) o).toks = zToks k 0 ++ (t0 :: ((lexP l o).toks.map (shT d) ++ E)) ∧ t0.kind = 10 ∧ t0.n = 2 ∧
      ((∃ a b : Tok, E = [a, b] ∧ a.kind = 1 ∧ b.kind = 1) ∨ (∃ (M : List Tok) (c : Tok), E = M ++ [c] ∧ c.kind = 8 ∧ (M = [] ∨ ∃ a : Tok, M = [a] ∧ a.kind = 1))) := by
  have hn : numsOf (textOf l o).s = l := nums_strOf hb
  have hn' : numsOf (textOf (shiftL k l) o).s = shiftL k l := nums_strOf (shiftL_bytes hb)
  have hsz : (textOf l o).s.size = l.length := strOf_size l
  have hsz' : (textOf (shiftL k l) o).s.size = (shiftL k l).length := strOf_size _
  have hlen := shiftL_len k l
  have hm : (textOf l o).most ≤ 1114111 := by unfold textOf; simp only; split <;> omega
  have E : Ext (textOf l o) (textOf (shiftL k l) o) (3 * k + 3) [10, 41] := by
    refine ⟨by omega, by omega, ?_, by intro c r e; injection e with e _; exact .inl e.symm, rfl, rfl, rfl⟩
    rw [hn, hn']
    unfold shiftL
    rw [← List.append_assoc]
    have hp : (rep k [40, 122, 41] ++ [40, 63, 58]).length = 3 * k + 3 := by rw [List.length_append, rep_len]; simp; omega
    rw [show (3 * (k : Int) + 3).toNat = (rep k [40, 122, 41] ++ [40, 63, 58]).length by omega]
    simp
  rw [lexP_go he2, lexP_go he]
  rw [lexP_go he] at he
  clear he2
  generalize textOf (shiftL k l) o = x' at *
  generalize textOf l o = x at *
  have hd0 : (numsOf x'.s).drop (0 : Int).toNat = rep k [40, 122, 41] ++ (40 :: 63 :: 58 :: (l ++ [10, 41])) := by rw [hn']; rfl
  obtain ⟨s1, hd1⟩ := lexTo_zs k 0 _ (by omega) hd0
  have s2 := lexTo_plain (by omega) hd1 (by simp)
  obtain ⟨K1, h1, h2⟩ := (s1.trans s2) ((shiftL k l).length + 1) [] (by omega)
  rw [h2]
  obtain ⟨q', K', j', rest, r1, r2, r3, r4, r5⟩ := E.lexGo (i' := 0 + 3 * k + 3) (B := [] ++ (zToks k 0 ++ [tq 10 2 0 [] (0 + 3 * k) (0 + 3 * k + 3)])) (K := K1) hm (by omega) (by intro _ c r e; injection e with e _; exact e.symm) (l.length + 1) 0 false [] (by omega) (by omega) (by omega) (by omega) h1 he
  rw [r2, r1]
  have hz : (numsOf x.s).drop (x.s.size : Int).toNat = [] := List.drop_eq_nil_of_le (by rw [numsOf_len]; omega)
  have hfin : ∀ (E : List Tok), (⟨[] ++ (zToks k 0 ++ [tq 10 2 0 [] (0 + 3 * k) (0 + 3 * k + 3)]) ++ rest.map (shT (3 * k + 3)) ++ E, 0, 0⟩ : LexR).toks = zToks k 0 ++ (tq 10 2 0 [] (0 + 3 * k) (0 + 3 * k + 3) :: (([] ++ rest).map (shT (3 * k + 3)) ++ E)) := by
    intro E; simp
  have hclose : ∀ (K : Nat) (j : Int) (out : List Tok), 0 ≤ j → (numsOf x'.s).drop j.toNat = [41] → (x'.s.size - j).toNat < K → lexGo x' K j false out = ⟨out ++ [tq 8 0 0 [] j (j + 1)], 0, 0⟩ := by
    intro K j out hj0 hj hK
    obtain ⟨K2, g1, g2⟩ := lexTo_closeG hj0 hj K out hK
    have hend : ¬ j + 1 < x'.s.size := by
      intro q
      have := congrArg List.length hj
      rw [List.length_drop, numsOf_len] at this
      simp at this
      omega
    rw [g2, lex_endq hend]
  rcases r4 with hj | ⟨hx, hq, hj, _⟩
  · have hde := E.drop (i := x.s.size) (i' := j') hj (by omega) (by omega)
    rw [hz, List.nil_append] at hde
    by_cases hq : q' = true
    · subst hq
      obtain ⟨a, b, g1, g2, g3⟩ := lex_lits (by omega) hde r3 (out := [] ++ (zToks k 0 ++ [tq 10 2 0 [] (0 + 3 * k) (0 + 3 * k + 3)]) ++ rest.map (shT (3 * k + 3)))
      rw [g1]
      exact ⟨3 * k + 3, tq 10 2 0 [] (0 + 3 * k) (0 + 3 * k + 3), [a, b], hfin _, rfl, rfl, .inl ⟨a, b, rfl, g2, g3⟩⟩
    have hq : q' = false := by simpa using hq
    subst hq
    obtain ⟨b1, b2, b3⟩ := byte_drop (by omega) hde
    obtain ⟨K', rfl⟩ : ∃ m, K' = m + 1 := ⟨K' - 1, by omega⟩
    have hch := charP_ascii (by omega) hde (by decide)
    have hnq := noQ (by omega) hde (by decide)
    by_cases hx : x'.x = true
    · have htk : tokenP x' j' = skipG (j' + 1) := by
        unfold tokenP
        rw [if_pos hx, hch]
        simp only
        rw [if_pos (by decide), if_pos (by decide)]
      rw [lexGo, if_pos b2, if_neg (by simp), if_neg (by rw [hnq]; simp), htk, if_neg (by unfold skipG; simp), if_neg (by unfold skipG; simp)]
      show ∃ (d : Int) (t0 : Tok) (E : List Tok), (lexGo x' K' (j' + 1) false _).toks = _ ∧ _
      rw [hclose K' (j' + 1) _ (by omega) b3 (by omega)]
      exact ⟨3 * k + 3, tq 10 2 0 [] (0 + 3 * k) (0 + 3 * k + 3), [tq 8 0 0 [] (j' + 1) (j' + 1 + 1)], hfin _, rfl, rfl, .inr ⟨[], _, rfl, rfl, .inl rfl⟩⟩
    · have htk : tokenP x' j' = litG j' 10 (j' + 1) := by
        unfold tokenP
        rw [if_neg hx, hch]
        simp only
        unfold tokC
        rw [if_neg (by decide), if_neg (by decide), if_neg (by decide), if_neg (by decide), if_neg (by decide), if_neg (by decide), if_neg (by decide), if_neg (by decide), if_neg (by decide), if_neg (by decide), if_neg (by decide), if_neg (by decide)]
      rw [lexGo, if_pos b2, if_neg (by simp), if_neg (by rw [hnq]; simp), htk, if_neg (by unfold litG tokG; simp), if_pos (by unfold litG tokG; rfl)]
      show ∃ (d : Int) (t0 : Tok) (E : List Tok), (lexGo x' K' (j' + 1) false _).toks = _ ∧ _
      rw [hclose K' (j' + 1) _ (by omega) b3 (by omega)]
      refine ⟨3 * k + 3, tq 10 2 0 [] (0 + 3 * k) (0 + 3 * k + 3), [(litG j' 10 (j' + 1)).t, tq 8 0 0 [] (j' + 1) (j' + 1 + 1)], ?_, rfl, rfl, .inr ⟨[(litG j' 10 (j' + 1)).t], _, rfl, rfl, .inr ⟨_, rfl, rfl⟩⟩⟩
      have := hfin [(litG j' 10 (j' + 1)).t, tq 8 0 0 [] (j' + 1) (j' + 1 + 1)]
      rw [← this]
      simp
  · subst hq
    have hde := E.drop (i := x.s.size) (i' := j' - 1) (by omega) (by omega) (by omega)
    rw [hz, List.nil_append] at hde
    obtain ⟨b1, b2, b3⟩ := byte_drop (by omega) hde
    rw [show j' - 1 + 1 = j' by omega] at b3
    rw [hclose K' j' _ (by omega) b3 r3]
    exact ⟨3 * k + 3, tq 10 2 0 [] (0 + 3 * k) (0 + 3 * k + 3), [tq 8 0 0 [] j' (j' + 1)], hfin _, rfl, rfl, .inr ⟨[], _, rfl, rfl, .inl rfl⟩⟩
end Go.Proofs.Ytnoohgiecnmajaa.VC

/- parse: tokens within others (plain). -/
namespace Go.Proofs.Ytnoohgiecnmajaa.VC
open Go Go.RowKit
set_option linter.unusedVariables false
set_option linter.unusedSimpArgs false
set_option maxHeartbeats 4000000

mutual
theorem Sim.symm : ∀ {n m : Node}, Sim n m → Sim m n
  | .mk f ks, .mk g ms, h => by
    rw [Sim] at h ⊢
    refine ⟨?_, SimL.symm h.2⟩
    rw [h.1]
theorem SimL.symm : ∀ {l r : List Node}, SimL l r → SimL r l
  | [], [], _ => by rw [SimL]; trivial
  | k :: l, m :: r, h => by rw [SimL] at h ⊢; exact ⟨Sim.symm h.1, SimL.symm h.2⟩
  | [], m :: r, h => by simp [SimL] at h
  | k :: l, [], h => by simp [SimL] at h
end
theorem Sim.f {n m : Node} (h : Sim n m) : m.f = { n.f with at_ := m.f.at_ } := by
  cases n; cases m; rw [Sim] at h; exact h.1
theorem Sim.kids {n m : Node} (h : Sim n m) : SimL n.kids m.kids := by
  cases n; cases m; rw [Sim] at h; exact h.2
theorem Sim.kind {n m : Node} (h : Sim n m) : m.f.kind = n.f.kind := by rw [h.f]
theorem one_sim {k : Int} {l r : List Node} (h : SimL l r) : Sim (oneN k l) (oneN k r) := by
  have hl := h.len
  unfold oneN
  by_cases c : l.length = 1
  · rw [if_pos c, if_pos (by omega)]
    exact h.rd 0 (by omega)
  · rw [if_neg c, if_neg (by omega), Sim]
    exact ⟨rfl, h⟩
/-- The last of several. -/
theorem SimL.snoc : ∀ {l r : List Node}, SimL l r → (l = [] ∧ r = []) ∨ ∃ A x B y, l = A ++ [x] ∧ r = B ++ [y] ∧ SimL A B ∧ Sim x y
  | [], [], _ => .inl ⟨rfl, rfl⟩
  | k :: l, m :: r, h => by
    rw [SimL] at h
    right
    rcases SimL.snoc h.2 with ⟨rfl, rfl⟩ | ⟨A, x, B, y, rfl, rfl, h1, h2⟩
    · exact ⟨[], k, [], m, rfl, rfl, by rw [SimL]; trivial, h.1⟩
    · exact ⟨k :: A, x, m :: B, y, rfl, rfl, by rw [SimL]; exact ⟨h.1, h1⟩, h2⟩
  | [], m :: r, h => by simp [SimL] at h
  | k :: l, [], h => by simp [SimL] at h
theorem SimL.one {n m : Node} (h : Sim n m) : SimL [n] [m] := by rw [SimL, SimL]; exact ⟨h, trivial⟩
/-- Levels that are alike; above the second one's alternatives are others. -/
structure LevR (A : List Node) (v w : Lev) : Prop where
  it : SimL v.items w.items
  al : ∃ m, w.alts = A ++ m ∧ SimL v.alts m
  fx : w.fixed = v.fixed
  k1 : ∀ n ∈ v.items, n.f.kind ≠ 13
  k2 : ∀ n ∈ v.alts, n.f.kind ≠ 13
def LookR : Option Node → Option Node → Prop
  | none, none => True
  | some n, some m => Sim n m
  | _, _ => False
structure OpR (v w : Lev) : Prop where
  op : w.op = { v.op with at_ := w.op.at_, to := w.op.to }
  lk : LookR v.look w.look
def BaseR (o : Tok) (v w : Lev) : Prop := v.op.n ≠ 13 ∧ w.op = o ∧ o.n ≠ 13
def StkR (A : List Node) (o : Tok) : List Lev → List Lev → Prop
  | [v], [w] => LevR A v w ∧ BaseR o v w
  | v :: u :: st, w :: x :: st' => LevR [] v w ∧ OpR v w ∧ StkR A o (u :: st) (x :: st')
  | _, _ => False
theorem StkR.len {A : List Node} {o : Tok} : ∀ {l r : List Lev}, StkR A o l r → r.length = l.length
  | [v], [w], _ => rfl
  | v :: u :: st, w :: x :: st', h => by
    have := StkR.len h.2.2
    simp only [List.length_cons] at this ⊢
    omega
  | [], _, h => by simp [StkR] at h
  | [v], [], h => by simp [StkR] at h
  | [v], w :: x :: st', h => by simp [StkR] at h
  | v :: u :: st, [], h => by simp [StkR] at h
  | v :: u :: st, [w], h => by simp [StkR] at h
/-- The alternatives above of a level: those of a base, or none. -/
def topA (A : List Node) (st : List Lev) : List Node := match st with | [] => A | _ => []
theorem StkR.top {A : List Node} {o : Tok} {v w : Lev} {st st' : List Lev} (h : StkR A o (v :: st) (w :: st')) : LevR (topA A st) v w := by
  cases st with
  | nil => cases st' with
    | nil => exact h.1
    | cons x st' => simp [StkR] at h
  | cons u st => cases st' with
    | nil => simp [StkR] at h
    | cons x st' => exact h.1
theorem StkR.put {A : List Node} {o : Tok} {v w v' w' : Lev} {st st' : List Lev} (h : StkR A o (v :: st) (w :: st')) (h1 : LevR (topA A st) v' w') (e1 : v'.op = v.op) (e2 : w'.op = w.op) (hl : st ≠ [] → LookR v'.look w'.look) : StkR A o (v' :: st) (w' :: st') := by
  cases st with
  | nil => cases st' with
    | nil => exact ⟨h1, by rw [e1]; exact h.2.1, by rw [e2]; exact h.2.2.1, h.2.2.2⟩
    | cons x st' => simp [StkR] at h
  | cons u st => cases st' with
    | nil => simp [StkR] at h
    | cons x st' => exact ⟨h1, ⟨by rw [e1, e2]; exact h.2.1.op, hl (by simp)⟩, h.2.2⟩
theorem StkR.look {A : List Node} {o : Tok} {v w : Lev} {st st' : List Lev} (h : StkR A o (v :: st) (w :: st')) (hs : st ≠ []) : LookR v.look w.look := by
  cases st with
  | nil => exact absurd rfl hs
  | cons u st => cases st' with
    | nil => simp [StkR] at h
    | cons x st' => exact h.2.1.lk
/-- Both wait for what they look at, or neither. -/
theorem StkR.wait {A : List Node} {o : Tok} {v w : Lev} {st st' : List Lev} (h : StkR A o (v :: st) (w :: st')) : (w.op.n = 13 ∧ w.look.isNone = true) ↔ (v.op.n = 13 ∧ v.look.isNone = true) := by
  cases st with
  | nil => cases st' with
    | nil =>
      obtain ⟨_, h1, h2, h3⟩ := h
      rw [h2]
      exact ⟨fun q => absurd q.1 h3, fun q => absurd q.1 h1⟩
    | cons x st' => simp [StkR] at h
  | cons u st => cases st' with
    | nil => simp [StkR] at h
    | cons x st' =>
      have h1 := h.2.1.op
      have h2 := h.2.1.lk
      rw [h1]
      cases hv : v.look <;> cases hw : w.look <;> rw [hv, hw] at h2 <;> simp [LookR] at h2 ⊢
theorem LevR.endL {A : List Node} {v w : Lev} (h : LevR A v w) : LevR A (VC.endL v) (VC.endL w) := by
  obtain ⟨m, hm1, hm2⟩ := h.al
  refine ⟨by show SimL [] []; rw [SimL]; trivial, ⟨m ++ [oneN 12 w.items], ?_, ?_⟩, rfl, by show ∀ n ∈ ([] : List Node), _; simp, ?_⟩
  · show w.alts ++ [oneN 12 w.items] = A ++ (m ++ [oneN 12 w.items])
    rw [hm1, List.append_assoc]
  · show SimL (v.alts ++ [oneN 12 v.items]) _
    exact hm2.app (SimL.one (one_sim h.it))
  · show ∀ n ∈ v.alts ++ [oneN 12 v.items], _
    intro n hn
    rcases List.mem_append.1 hn with hn | hn
    · exact h.k2 n hn
    · simp at hn
      subst hn
      unfold oneN
      split
      · rename_i h1
        exact h.k1 _ (rdn_mem (l := v.items) (j := 0) (by simp [h1]))
      · show (12 : Int) ≠ 13; decide
theorem LevR.add {A : List Node} {v w : Lev} {n m : Node} (h : LevR A v w) (hw : (w.op.n = 13 ∧ w.look.isNone = true) ↔ (v.op.n = 13 ∧ v.look.isNone = true)) (hn : Sim n m) (hk : n.f.kind ≠ 13) : LevR A (addV v n) (addV w m) ∧ (LookR v.look w.look → LookR (addV v n).look (addV w m).look) ∧ (addV v n).op = v.op ∧ (addV w m).op = w.op := by
  unfold addV
  by_cases c : v.op.n = 13 ∧ v.look.isNone = true
  · rw [if_pos c, if_pos (hw.2 c)]
    exact ⟨⟨h.it, h.al, rfl, h.k1, h.k2⟩, fun _ => hn, rfl, rfl⟩
  · rw [if_neg c, if_neg (fun q => c (hw.1 q))]
    refine ⟨⟨h.it.app (SimL.one hn), h.al, ?_, ?_, h.k2⟩, fun q => q, rfl, rfl⟩
    · show fixK m.f.kind = fixK n.f.kind
      rw [hn.kind]
    · show ∀ k ∈ v.items ++ [n], _
      intro k hk2
      rcases List.mem_append.1 hk2 with hk2 | hk2
      · exact h.k1 k hk2
      · simp at hk2; subst hk2; exact hk
theorem rep_sim {t : Tok} {d : Int} {n m : Node} (h : Sim n m) : Sim (repN t n) (repN (shT d t) m) := by
  unfold repN shT
  rw [Sim]
  exact ⟨rfl, SimL.one h⟩
theorem LevR.quant {A : List Node} {v w : Lev} {t : Tok} {d : Int} (h : LevR A v w) : (quantV w (shT d t)).1 = (quantV v t).1 ∧ LevR A (quantV v t).2 (quantV w (shT d t)).2 ∧ (quantV v t).2.op = v.op ∧ (quantV w (shT d t)).2.op = w.op ∧ (quantV v t).2.look = v.look ∧ (quantV w (shT d t)).2.look = w.look := by
  unfold quantV
  rw [h.fx]
  by_cases c : v.fixed = true
  · rw [if_pos c, if_pos c]
    exact ⟨rfl, h, rfl, rfl, rfl, rfl⟩
  rw [if_neg c, if_neg c]
  rcases h.it.snoc with ⟨e1, e2⟩ | ⟨P, x, Q, y, e1, e2, e3, e4⟩
  · rw [e1, e2]
    exact ⟨rfl, h, rfl, rfl, rfl, rfl⟩
  · have l1 : v.items.getLast? = some x := by rw [e1]; simp
    have l2 : w.items.getLast? = some y := by rw [e2]; simp
    rw [l1, l2]
    refine ⟨rfl, ⟨?_, h.al, rfl, ?_, h.k2⟩, rfl, rfl, rfl, rfl⟩
    · show SimL (v.items.dropLast ++ [repN t x]) (w.items.dropLast ++ [repN (shT d t) y])
      rw [e1, e2]
      simp only [List.dropLast_concat]
      exact e3.app (SimL.one (rep_sim e4))
    · show ∀ k ∈ v.items.dropLast ++ [repN t x], _
      intro k hk
      rcases List.mem_append.1 hk with hk | hk
      · exact h.k1 k (List.dropLast_subset _ hk)
      · simp at hk; subst hk; show (20 : Int) ≠ 13; decide
theorem lookL_sim {v w : Lev} (h : LookR v.look w.look) : SimL (lookL v) (lookL w) := by
  unfold lookL
  cases hv : v.look <;> cases hw : w.look <;> rw [hv, hw] at h <;> simp [LookR] at h ⊢
  · rw [SimL]; trivial
  · exact SimL.one h
theorem group_kind (t : Tok) (look l : List Node) : (groupN t look l).f.kind ≠ 13 := by
  unfold groupN
  split
  · show (14 : Int) ≠ 13; decide
  split
  · show (15 : Int) ≠ 13; decide
  split
  · show (17 : Int) ≠ 13; decide
  split
  · show (18 : Int) ≠ 13; decide
  split
  · show (16 : Int) ≠ 13; decide
  · show (19 : Int) ≠ 13; decide
theorem leaf_kind (t : Tok) : (leafN t).f.kind ≠ 13 := by
  show leafK t.kind ≠ 13
  unfold leafK
  repeat' split
  all_goals decide
theorem LevR.made {v w : Lev} (h : LevR [] v w) (ho : OpR v w) : (madeV (VC.endL w)).2 = (madeV (VC.endL v)).2 ∧ Sim (madeV (VC.endL v)).1 (madeV (VC.endL w)).1 := by
  obtain ⟨m, hm1, hm2⟩ := h.endL.al
  rw [List.nil_append] at hm1
  have hlook := lookL_sim ho.lk
  have hop := ho.op
  have e1 : (VC.endL v).op = v.op := rfl
  have e2 : (VC.endL w).op = w.op := rfl
  have e3 : lookL (VC.endL v) = lookL v := rfl
  have e4 : lookL (VC.endL w) = lookL w := rfl
  unfold madeV
  rw [e1, e2, e3, e4, hm1]
  generalize (VC.endL v).alts = l at *
  generalize w.op = t at *
  have hl := hm2.len
  have h1 := one_sim (k := 13) hm2
  refine ⟨?_, ?_⟩
  · simp only
    rw [hop]
    unfold condBad
    rw [hl]
  · simp only
    rw [hop]
    unfold groupN
    simp only
    split
    · rw [Sim]; exact ⟨rfl, SimL.one h1⟩
    split
    · rw [Sim]; exact ⟨rfl, SimL.one h1⟩
    split
    · rw [Sim]; exact ⟨rfl, SimL.one h1⟩
    split
    · rw [Sim]; exact ⟨rfl, SimL.one h1⟩
    split
    · rw [Sim]; exact ⟨rfl, hm2⟩
    · rw [Sim]; exact ⟨rfl, hlook.app hm2⟩
/-- The machine on tokens that stand within others. -/
theorem runS_sim {A : List Node} {o : Tok} {d en en' : Int} {S : List Lev} {R : List Tok} : ∀ (L : List Tok) (v w : Lev) (st st' : List Lev), StkR A o (v :: st) (w :: st') → (runS en L v st).e = 0 →
    ∃ v0 w0, LevR A v0 w0 ∧ BaseR o v0 w0 ∧ runS en L v st = ⟨oneN 13 (VC.endL v0).alts, 0, 0⟩ ∧
      (runS en' (L.map (shT d) ++ R) w (st' ++ S) = runS en' R w0 S ∨ (S ≠ [] ∧ (runS en' (L.map (shT d) ++ R) w (st' ++ S)).e = 11))
  | [], v, w, st, st', hS, he => by
    rw [runS] at he
    by_cases c : st ≠ []
    · rw [if_pos c] at he; exact absurd he (show ¬ (20 : Int) = 0 by decide)
    have c : st = [] := by simpa using c
    subst c
    have hl := hS.len
    have c' : st' = [] := by
      simp at hl
      exact hl
    subst c'
    exact ⟨v, w, hS.1, hS.2, by rw [runS, if_neg (by simp)], .inl rfl⟩
  | t :: r, v, w, st, st', hS, he => by
    have hT := hS.top
    have hlen := hS.len
    simp only [List.length_cons] at hlen
    rw [List.map_cons, List.cons_append]
    rw [runS_cons] at he ⊢
    rw [runS_cons (t := shT d t)]
    have hk : (shT d t).kind = t.kind := rfl
    rw [hk]
    by_cases k7 : t.kind = 7
    · rw [if_pos k7] at he ⊢
      rw [if_pos k7]
      exact runS_sim r (VC.endL v) (VC.endL w) st st' (hS.put hT.endL rfl rfl (fun q => hS.look q)) he
    rw [if_neg k7] at he ⊢
    rw [if_neg k7]
    by_cases k9 : t.kind = 9
    · rw [if_pos k9] at he ⊢
      rw [if_pos k9]
      obtain ⟨q1, q2, q3, q4, q5, q6⟩ := hT.quant (t := t) (d := d)
      rw [q1]
      by_cases c : (quantV v t).1 = true
      · rw [if_pos c] at he ⊢
        rw [if_pos c]
        exact runS_sim r _ _ st st' (hS.put q2 q3 q4 (fun q => by rw [q5, q6]; exact hS.look q)) he
      · rw [if_neg c] at he
        exact absurd he (show ¬ (30 : Int) = 0 by decide)
    rw [if_neg k9] at he ⊢
    rw [if_neg k9]
    by_cases k10 : t.kind = 10
    · rw [if_pos k10] at he ⊢
      rw [if_pos k10]
      by_cases c : (st.length : Int) ≥ 40
      · rw [if_pos c] at he
        exact absurd he (show ¬ (11 : Int) = 0 by decide)
      rw [if_neg c] at he ⊢
      by_cases c' : ((st' ++ S).length : Int) ≥ 40
      · have hne : S ≠ [] := by
          intro e
          subst e
          simp at c'
          omega
        obtain ⟨v0, w0, h1, h2, h3, _⟩ := runS_sim (S := S) (R := R) (en' := en') (d := d) r (levO t) (levO (shT d t)) (v :: st) (w :: st') ⟨⟨by show SimL [] []; rw [SimL]; trivial, ⟨[], rfl, by show SimL [] []; rw [SimL]; trivial⟩, rfl, by show ∀ n ∈ ([] : List Node), _; simp, by show ∀ n ∈ ([] : List Node), _; simp⟩, ⟨rfl, trivial⟩, hS⟩ he
        rw [if_pos c']
        exact ⟨v0, w0, h1, h2, h3, .inr ⟨hne, rfl⟩⟩
      · rw [if_neg c']
        exact runS_sim r (levO t) (levO (shT d t)) (v :: st) (w :: st') ⟨⟨by show SimL [] []; rw [SimL]; trivial, ⟨[], rfl, by show SimL [] []; rw [SimL]; trivial⟩, rfl, by show ∀ n ∈ ([] : List Node), _; simp, by show ∀ n ∈ ([] : List Node), _; simp⟩, ⟨rfl, trivial⟩, hS⟩ he
    rw [if_neg k10] at he ⊢
    rw [if_neg k10]
    by_cases k8 : t.kind = 8
    · rw [if_pos k8] at he ⊢
      rw [if_pos k8]
      cases st with
      | nil => exact absurd he (show ¬ (31 : Int) = 0 by decide)
      | cons u st =>
        cases st' with
        | nil => simp [StkR] at hS
        | cons x st' =>
          obtain ⟨s1, s2, s3⟩ := hS
          obtain ⟨m1, m2⟩ := s1.made s2
          simp only at he ⊢
          rw [List.cons_append]
          simp only
          rw [m1]
          by_cases c : (madeV (VC.endL v)).2 = true
          · rw [if_pos c] at he ⊢
            rw [if_pos c]
            have hk : (madeV (VC.endL v)).1.f.kind ≠ 13 := group_kind _ _ _
            obtain ⟨a1, a2, a3, a4⟩ := s3.top.add s3.wait m2 hk
            exact runS_sim r _ _ st st' (s3.put a1 a3 a4 (fun q => a2 (s3.look q))) he
          · rw [if_neg c] at he
            exact absurd he (show ¬ (32 : Int) = 0 by decide)
    · rw [if_neg k8] at he ⊢
      rw [if_neg k8]
      have hsim : Sim (leafN t) (leafN (shT d t)) := by
        unfold leafN shT
        rw [Sim]
        exact ⟨rfl, by rw [SimL]; trivial⟩
      obtain ⟨a1, a2, a3, a4⟩ := hT.add hS.wait hsim (leaf_kind t)
      exact runS_sim r _ _ st st' (hS.put a1 a3 a4 (fun q => a2 (hS.look q))) he
end Go.Proofs.Ytnoohgiecnmajaa.VC

/- groups: the numbers of a tree that is numbered (plain). -/
namespace Go.Proofs.Ytnoohgiecnmajaa.VC
open Go Go.RowKit
set_option linter.unusedVariables false
set_option linter.unusedSimpArgs false
set_option maxHeartbeats 4000000

def numsC (l : List Node) : List Int := l.map (fun c => c.f.n)
theorem numsC_app (a b : List Node) : numsC (a ++ b) = numsC a ++ numsC b := by unfold numsC; rw [List.map_append]
theorem numsC_cons (f : NodeF) (ks a : List Node) : numsC (.mk f ks :: a) = f.n :: numsC a := rfl
theorem numsC_nil : numsC [] = [] := rfl
theorem capsL_app : ∀ a b : List Node, capsL (a ++ b) = capsL a ++ capsL b
  | [], b => by rw [List.nil_append, capsL]; rfl
  | k :: a, b => by rw [List.cons_append, capsL, capsL, capsL_app a b, List.append_assoc]
mutual
def hasR : Node → Bool
  | .mk f ks => if f.kind = 16 then true else hasRL ks
def hasRL : List Node → Bool
  | [] => false
  | k :: l => hasR k || hasRL l
end
mutual
theorem rise_N : ∀ (n : Node) (a x : Int), (a < x ∧ x ≤ (nbN n a).2) ↔ x ∈ numsC (capsN (nbN n a).1)
  | .mk f ks, a, x => by
    rw [nbN]
    simp only
    rw [capsN]
    have hT : a ≤ nbT f a ∧ nbT f a ≤ a + 1 := by unfold nbT; split <;> omega
    have h := rise_L ks (decide (f.kind = 16)) (nbT f a) (nbT f a) (Int.le_refl _) x
    have hle := nbL_le ks (decide (f.kind = 16)) (nbT f a) (nbT f a) (Int.le_refl _)
    have hk : (nbF f a).kind = f.kind := by unfold nbF; split <;> rfl
    rw [hk]
    by_cases q : f.kind = 14
    · rw [if_pos q, numsC_cons, List.mem_cons, ← (show _ ↔ _ from Iff.intro (fun hh => (h.1 hh).resolve_left (by omega)) (fun hh => h.2 (.inr hh)))]
      have h1 : (nbF f a).n = a + 1 := by unfold nbF; rw [if_pos q]
      have h2 : nbT f a = a + 1 := by unfold nbT; rw [if_pos q]
      rw [h1]
      omega
    · rw [if_neg q, ← (show _ ↔ _ from Iff.intro (fun hh => (h.1 hh).resolve_left (by omega)) (fun hh => h.2 (.inr hh)))]
      have h2 : nbT f a = a := by unfold nbT; rw [if_neg q]
      rw [h2]
theorem rise_L : ∀ (l : List Node) (rs : Bool) (a m : Int), a ≤ m → ∀ x, (a < x ∧ x ≤ (nbL l rs a m).2) ↔ ((a < x ∧ x ≤ m) ∨ x ∈ numsC (capsL (nbL l rs a m).1))
  | [], rs, a, m, h, x => by
    rw [nbL]
    simp only
    rw [capsL, numsC_nil]
    simp
  | k :: l, rs, a, m, h, x => by
    rw [nbL]
    simp only
    rw [capsL, numsC_app, List.mem_append]
    obtain ⟨s, hs⟩ : ∃ s, (if rs = true then a else m) = s := ⟨_, rfl⟩
    rw [hs]
    have hs2 : s = a ∨ s = m := by revert hs; split <;> intro hs <;> simp [hs]
    have h1 := rise_N k s x
    have h2 := nbN_le k s
    generalize nbN k s = r at *
    have hm : mxP r.2 m = r.2 ∧ m ≤ r.2 ∨ mxP r.2 m = m ∧ r.2 ≤ m := by unfold mxP; split <;> omega
    have h3 := rise_L l rs a (mxP r.2 m) (by omega) x
    rw [h3, ← h1]
    constructor
    · rintro (q | q)
      · by_cases q2 : x ≤ m
        · exact .inl (by omega)
        · exact .inr (.inl (by omega))
      · exact .inr (.inr q)
    · rintro (q | q | q)
      · exact .inl (by omega)
      · exact .inl (by omega)
      · exact .inr q
end
/-- All numbers behind one, up to one. -/
def upTo (a b : Int) : List Int := (List.range (b - a).toNat).map (fun i : Nat => a + 1 + (i : Int))
theorem upTo_self (a : Int) : upTo a a = [] := by unfold upTo; simp
theorem upTo_app {a b c : Int} (h1 : a ≤ b) (h2 : b ≤ c) : upTo a b ++ upTo b c = upTo a c := by
  unfold upTo
  apply List.ext_getElem
  · simp; omega
  · intro i hi hj
    simp at hi hj
    rw [List.getElem_append]
    split
    · simp
    · rename_i q
      simp at q ⊢
      omega
theorem upTo_cons {a b : Int} (h : a + 1 ≤ b) : (a + 1) :: upTo (a + 1) b = upTo a b := by
  have : upTo a (a + 1) = [a + 1] := by
    unfold upTo
    have : (a + 1 - a).toNat = 1 := by omega
    rw [this]; simp
  rw [← upTo_app (show a ≤ a + 1 by omega) h, this]; rfl
mutual
theorem line_N : ∀ (n : Node) (a : Int), hasR n = false → numsC (capsN (nbN n a).1) = upTo a (nbN n a).2
  | .mk f ks, a, h => by
    rw [hasR] at h
    by_cases q16 : f.kind = 16
    · rw [if_pos q16] at h; cases h
    rw [if_neg q16] at h
    rw [nbN]
    simp only
    rw [capsN]
    have hk : (nbF f a).kind = f.kind := by unfold nbF; split <;> rfl
    have hl := line_L ks (nbT f a) (nbT f a) (Int.le_refl _) h
    have hle := nbL_le ks (decide (f.kind = 16)) (nbT f a) (nbT f a) (Int.le_refl _)
    rw [decide_eq_false q16] at hle ⊢
    rw [hk]
    by_cases q : f.kind = 14
    · have h1 : (nbF f a).n = a + 1 := by unfold nbF; rw [if_pos q]
      have h2 : nbT f a = a + 1 := by unfold nbT; rw [if_pos q]
      rw [if_pos q, numsC_cons, hl, h1, h2]
      rw [h2] at hle
      exact upTo_cons (by omega)
    · have h2 : nbT f a = a := by unfold nbT; rw [if_neg q]
      rw [if_neg q, hl, h2]
theorem line_L : ∀ (l : List Node) (a m : Int), a ≤ m → hasRL l = false → numsC (capsL (nbL l false a m).1) = upTo m (nbL l false a m).2
  | [], a, m, ham, h => by
    rw [nbL]
    simp only
    rw [capsL, numsC_nil, upTo_self]
  | k :: l, a, m, ham, h => by
    rw [hasRL, Bool.or_eq_false_iff] at h
    rw [nbL]
    simp only
    rw [capsL, numsC_app, if_neg (by simp)]
    have h1 := line_N k m h.1
    have h2 := nbN_le k m
    generalize nbN k m = r at *
    have hm : mxP r.2 m = r.2 := by unfold mxP; split <;> omega
    have h3 := line_L l a r.2 (by omega) h.2
    have h4 := nbL_le l false a r.2 (by omega)
    rw [hm, h1, h3]
    exact upTo_app (by omega) h4.1
end
/-- Each number that is met, once. -/
def addK (A : List Int) (x : Int) : List Int := if x ∈ A then A else A ++ [x]
def metL (l : List Int) : List Int := l.foldl addK []
theorem metL_snoc (l : List Int) (x : Int) : metL (l ++ [x]) = addK (metL l) x := by unfold metL; rw [List.foldl_append]; rfl
theorem addK_mem (A : List Int) (x y : Int) : y ∈ addK A x ↔ (y ∈ A ∨ y = x) := by
  unfold addK
  split
  · rename_i h
    constructor
    · exact .inl
    · rintro (q | rfl)
      · exact q
      · exact h
  · simp
theorem addK_nodup {A : List Int} {x : Int} (h : A.Nodup) : (addK A x).Nodup := by
  unfold addK
  split
  · exact h
  · rename_i hx
    rw [List.nodup_append]
    exact ⟨h, by simp, by intro a ha b hb; simp at hb; subst hb; intro e; subst e; exact hx ha⟩
theorem fold_mem (y : Int) : ∀ (l A : List Int), y ∈ l.foldl addK A ↔ (y ∈ A ∨ y ∈ l)
  | [], A => by simp
  | x :: l, A => by rw [List.foldl_cons, fold_mem y l, addK_mem, List.mem_cons, or_assoc]
theorem fold_nodup : ∀ (l A : List Int), A.Nodup → (l.foldl addK A).Nodup
  | [], A, h => h
  | x :: l, A, h => by rw [List.foldl_cons]; exact fold_nodup l _ (addK_nodup h)
theorem metL_mem (l : List Int) (y : Int) : y ∈ metL l ↔ y ∈ l := by unfold metL; rw [fold_mem]; simp
theorem metL_nodup (l : List Int) : (metL l).Nodup := fold_nodup l [] (by simp)
theorem metL_len (l : List Int) : (metL l).length ≤ l.length := by
  suffices h : ∀ (l A : List Int), (l.foldl addK A).length ≤ A.length + l.length by have := h l []; simpa [metL] using this
  intro l
  induction l with
  | nil => intro A; simp
  | cons x l ih =>
    intro A
    rw [List.foldl_cons]
    have := ih (addK A x)
    have h2 : (addK A x).length ≤ A.length + 1 := by unfold addK; split <;> simp
    simp only [List.length_cons]
    omega
theorem count_to : ∀ (m : Nat) (A : List Int), A.Nodup → (∀ x, x ∈ A ↔ (0 < x ∧ x ≤ (m : Int))) → A.length = m
  | 0, A, hn, h => by
    cases A with
    | nil => rfl
    | cons x A => have := (h x).1 (List.mem_cons_self ..); omega
  | m + 1, A, hn, h => by
    have hm : ((m + 1 : Nat) : Int) ∈ A := (h _).2 (by omega)
    have h1 := count_to m (A.erase ((m + 1 : Nat) : Int)) (hn.erase _) (fun x => by
      rw [hn.mem_erase_iff, h x]
      omega)
    have h2 := List.length_erase_of_mem hm
    have h3 := List.length_pos_of_mem hm
    omega
theorem met_len {n : Node} : ((metL (numsC (capsN (nbN n 0).1))).length : Int) = (nbN n 0).2 := by
  have h0 := nbN_le n 0
  have := count_to (nbN n 0).2.toNat (metL (numsC (capsN (nbN n 0).1))) (metL_nodup _) (fun x => by
    rw [metL_mem, ← rise_N]
    omega)
  omega
end Go.Proofs.Ytnoohgiecnmajaa.VC

/- GroupsShift: the law in plain terms. -/
namespace Go.Proofs.Ytnoohgiecnmajaa.VC
open Go Go.RowKit
set_option linter.unusedVariables false
set_option linter.unusedSimpArgs false
set_option maxHeartbeats 4000000

def capZ (i : Int) : Node := .mk { fZ with kind := 14, at_ := i, name := bs [] } [leafN (tq 1 0 122 [] (i + 1) (i + 1 + 1))]
def capZs : Nat → Int → List Node
  | 0, _ => []
  | k + 1, i => capZ i :: capZs k (i + 3)
/-- The names and numbers of groups of their own. -/
def zcs : Nat → Int → List (ByteArray × Int)
  | 0, _ => []
  | k + 1, a => (bs [], a + 1) :: zcs k (a + 1)
theorem run_op1 {en : Int} {t : Tok} {r : List Tok} {v : Lev} {st : List Lev} (h : t.kind = 10) (hs : st.length < 40) : runS en (t :: r) v st = runS en r (levO t) (v :: st) := by
  rw [runS_cons, if_neg (by omega), if_neg (by omega), if_pos h, if_neg (by omega)]
theorem run_leaf1 {en : Int} {t : Tok} {r : List Tok} {v : Lev} {st : List Lev} (h : t.kind = 1) : runS en (t :: r) v st = runS en r (addV v (leafN t)) st := by
  rw [runS_cons, if_neg (by omega), if_neg (by omega), if_neg (by omega), if_neg (by omega)]
theorem run_close1 {en : Int} {t : Tok} {r : List Tok} {v u : Lev} {st : List Lev} (h : t.kind = 8) : runS en (t :: r) v (u :: st) = if (madeV (VC.endL v)).2 = true then runS en r (addV u (madeV (VC.endL v)).1) st else ⟨nodeZ, 32, v.op.at_⟩ := by
  rw [runS_cons, if_neg (by omega), if_neg (by omega), if_neg (by omega), if_pos h]
theorem run_z {en : Int} {i : Int} {v : Lev} {R : List Tok} (hv : v.op.n ≠ 13) : runS en (tokz i ++ R) v [] = runS en R { v with items := v.items ++ [capZ i], fixed := false } [] := by
  unfold tokz
  rw [List.cons_append, List.cons_append, List.cons_append, List.nil_append]
  rw [run_op1 rfl (by simp), run_leaf1 rfl, run_close1 rfl]
  have e : addV (levO (tq 10 1 0 [] i (i + 1))) (leafN (tq 1 0 122 [] (i + 1) (i + 1 + 1))) = ⟨tq 10 1 0 [] i (i + 1), none, [], [leafN (tq 1 0 122 [] (i + 1) (i + 1 + 1))], false⟩ :=
    addV_rdy (fun h => absurd h.1 (show ¬ (1 : Int) = 13 by decide)) _
  rw [e]
  have hm : madeV (VC.endL ⟨tq 10 1 0 [] i (i + 1), none, [], [leafN (tq 1 0 122 [] (i + 1) (i + 1 + 1))], false⟩) = (capZ i, true) := rfl
  rw [hm, if_pos rfl, addV_rdy (fun h => hv h.1)]
  rfl
theorem run_zs {en : Int} {R : List Tok} : ∀ (k : Nat) (i : Int) (v : Lev), v.op.n ≠ 13 → ∃ fx, runS en (zToks k i ++ R) v [] = runS en R { v with items := v.items ++ capZs k i, fixed := fx } []
  | 0, i, v, hv => ⟨v.fixed, by simp [zToks, capZs]⟩
  | k + 1, i, v, hv => by
    obtain ⟨fx, h⟩ := run_zs (en := en) (R := R) k (i + 3) { v with items := v.items ++ [capZ i], fixed := false } hv
    refine ⟨fx, ?_⟩
    rw [zToks, List.append_assoc, run_z hv, h, capZs]
    simp
theorem capD_z (i a : Int) : capD (capZ i) a = ([(bs [], a + 1)], a + 1) := by
  unfold capZ
  rw [capD_mk, if_pos (show (14 : Int) = 14 by rfl), capDL_one]
  have : capD (leafN (tq 1 0 122 [] (i + 1) (i + 1 + 1))) (a + 1) = ([], a + 1) := capD_leaf (show (1 : Int) ≠ 14 by decide) _
  rw [this]
theorem capDL_zs : ∀ (k : Nat) (i a : Int), capDL (capZs k i) a = (zcs k a, a + k)
  | 0, i, a => by simp [capZs, capDL, zcs]
  | k + 1, i, a => by
    rw [capZs, capDL, capD_z, capDL_zs k]
    simp only [zcs, List.cons_append, List.nil_append]
    rw [show a + 1 + (k : Int) = a + ((k + 1 : Nat) : Int) by omega]
/-- The tree of a pattern behind groups of their own. -/
theorem run_shift {L : List Tok} {en en' d : Int} {k : Nat} {t0 : Tok} {E : List Tok} (he : (runS en L (levO tokZ) []).e = 0) (h0 : t0.kind = 10) (hn : t0.n = 2)
    (hE : (∃ a b : Tok, E = [a, b] ∧ a.kind = 1 ∧ b.kind = 1) ∨ (∃ (M : List Tok) (c : Tok), E = M ++ [c] ∧ c.kind = 8 ∧ (M = [] ∨ ∃ a : Tok, M = [a] ∧ a.kind = 1))) :
    (runS en' (zToks k 0 ++ (t0 :: (L.map (shT d) ++ E))) (levO tokZ) []).e ≠ 0 ∨
      ((runS en' (zToks k 0 ++ (t0 :: (L.map (shT d) ++ E))) (levO tokZ) []).e = 0 ∧ ∀ a : Int, capD (runS en' (zToks k 0 ++ (t0 :: (L.map (shT d) ++ E))) (levO tokZ) []).n a = (zcs k a ++ (capD (runS en L (levO tokZ) []).n (a + k)).1, (capD (runS en L (levO tokZ) []).n (a + k)).2)) := by
  obtain ⟨fx, hz⟩ := run_zs (en := en') (R := t0 :: (L.map (shT d) ++ E)) k 0 (levO tokZ) (by decide)
  rw [hz]
  obtain ⟨u, hu⟩ : ∃ u : Lev, u = { levO tokZ with items := (levO tokZ).items ++ capZs k 0, fixed := fx } := ⟨_, rfl⟩
  rw [← hu]
  have hr : runS en' (t0 :: (L.map (shT d) ++ E)) u [] = runS en' (L.map (shT d) ++ E) (levO t0) ([] ++ [u]) := by
    rw [runS_cons, if_neg (by omega), if_neg (by omega), if_pos h0, if_neg (by simp)]
    rfl
  rw [hr]
  obtain ⟨v0, w0, h1, h2, h3, h4⟩ := runS_sim (A := []) (o := t0) (d := d) (en' := en') (S := [u]) (R := E) L (levO tokZ) (levO t0) [] []
    ⟨⟨by show SimL [] []; rw [SimL]; trivial, ⟨[], rfl, by show SimL [] []; rw [SimL]; trivial⟩, rfl, by show ∀ n ∈ ([] : List Node), _; simp, by show ∀ n ∈ ([] : List Node), _; simp⟩, by decide, rfl, by omega⟩ he
  rw [h3]
  rcases h4 with h4 | ⟨_, h4⟩
  rotate_left
  · left; rw [h4]; decide
  rw [h4]
  have hop : w0.op = t0 := h2.2.1
  rcases hE with ⟨a, b, rfl, ha, hb⟩ | ⟨M, c, rfl, hc, hM⟩
  · left
    rw [runS_cons, if_neg (by omega), if_neg (by omega), if_neg (by omega), if_neg (by omega), runS_cons, if_neg (by omega), if_neg (by omega), if_neg (by omega), if_neg (by omega), runS, if_pos (by simp)]
    show (20 : Int) ≠ 0
    decide
  right
  obtain ⟨w1, hw1, hw2, hw3⟩ : ∃ w1 : Lev, w1.op = t0 ∧ runS en' (M ++ [c]) w0 [u] = runS en' [c] w1 [u] ∧ ∀ a, capDL (VC.endL w1).alts a = capDL (VC.endL v0).alts a := by
    obtain ⟨m, hm1, hm2⟩ := h1.endL.al
    rw [List.nil_append] at hm1
    have hsim : ∀ a, capDL (VC.endL w0).alts a = capDL (VC.endL v0).alts a := fun a => by rw [hm1]; exact (capDL_sim hm2 a).symm
    rcases hM with rfl | ⟨t, rfl, ht⟩
    · exact ⟨w0, hop, rfl, hsim⟩
    · refine ⟨addV w0 (leafN t), ?_, ?_, fun a => ?_⟩
      · unfold addV; split <;> exact hop
      · rw [List.cons_append, List.nil_append, runS_cons, if_neg (by omega), if_neg (by omega), if_neg (by omega), if_neg (by omega)]
      · rw [← hsim a, addV_rdy (fun h => by rw [hop] at h; omega)]
        show capDL (w0.alts ++ [oneN 12 (w0.items ++ [leafN t])]) a = capDL (w0.alts ++ [oneN 12 w0.items]) a
        rw [capDL_app, capDL_app, capDL_one, capDL_one, capD_one 12 (by decide), capD_one 12 (by decide), capDL_app, capDL_one]
        have hlf : ∀ a, capD (leafN t) a = ([], a) := fun a => capD_leaf (show leafK t.kind ≠ 14 by rw [ht]; decide) a
        rw [hlf]
        simp
  have hop1 : (VC.endL w1).op = t0 := hw1
  have hmade : madeV (VC.endL w1) = (.mk { fZ with kind := 15, at_ := t0.at_, on := t0.on, off := t0.off } [oneN 13 (VC.endL w1).alts], true) := by
    unfold madeV
    rw [hop1]
    unfold groupN
    rw [if_neg (by omega), if_pos hn]
    simp [hn]
  have huop : u.op.n ≠ 13 := by rw [hu]; show (0 : Int) ≠ 13; decide
  have hrun : runS en' [c] w1 [u] = ⟨oneN 13 [oneN 12 (capZs k 0 ++ [(madeV (VC.endL w1)).1])], 0, 0⟩ := by
    rw [runS_cons, if_neg (by omega), if_neg (by omega), if_neg (by omega), if_pos hc]
    simp only
    rw [hmade, if_pos rfl, runS, if_neg (by simp), addV_rdy (fun h => huop h.1), hu]
    rfl
  rw [hw2, hrun, hmade]
  refine ⟨rfl, fun a => ?_⟩
  have hplain : ∀ b, capD (.mk { fZ with kind := 15, at_ := t0.at_, on := t0.on, off := t0.off } [oneN 13 (VC.endL w1).alts]) b = capDL (VC.endL v0).alts b := by
    intro b
    rw [capD_flat (show (15 : Int) ≠ 14 by decide) (show (15 : Int) ≠ 16 by decide), capDL_one, capD_one 13 (by decide), hw3]
  show capD (oneN 13 [oneN 12 (capZs k 0 ++ [_])]) a = (zcs k a ++ (capD (oneN 13 (VC.endL v0).alts) (a + k)).1, (capD (oneN 13 (VC.endL v0).alts) (a + k)).2)
  rw [capD_one 13 (by decide), capDL_one, capD_one 12 (by decide), capDL_app, capDL_zs, capDL_one, capD_one 13 (by decide), hplain]
/-- Names by their pairs. -/
def namQ : List (ByteArray × Int) → List (ByteArray × Int) → List (ByteArray × Int) × Int
  | [], A => (A, 0)
  | c :: l, A =>
    if c.2 > 60 then ([], 12)
    else if c.1 = bs [] then namQ l A
    else if clashP c.1 c.2 A = true then ([], 33)
    else if thereP c.1 A = true then namQ l A
    else namQ l (A ++ [c])
theorem namQ_is : ∀ (C : List Node) (A : List (ByteArray × Int)), (namL C A).l = (namQ (C.map capP) A).1 ∧ (namL C A).e = (namQ (C.map capP) A).2
  | [], A => by rw [namL, List.map_nil, namQ]; exact ⟨rfl, rfl⟩
  | c :: l, A => by
    rw [namL, List.map_cons, namQ]
    have e1 : (capP c).2 = c.f.n := rfl
    have e2 : (capP c).1 = c.f.name := rfl
    rw [e1, e2]
    by_cases c1 : c.f.n > 60
    · rw [if_pos c1, if_pos c1]; exact ⟨rfl, rfl⟩
    rw [if_neg c1, if_neg c1]
    by_cases c2 : c.f.name = bs []
    · rw [if_pos c2, if_pos c2]; exact namQ_is l A
    rw [if_neg c2, if_neg c2]
    by_cases c3 : clashP c.f.name c.f.n A = true
    · rw [if_pos c3, if_pos c3]; exact ⟨rfl, rfl⟩
    rw [if_neg c3, if_neg c3]
    by_cases c4 : thereP c.f.name A = true
    · rw [if_pos c4, if_pos c4]; exact namQ_is l A
    · rw [if_neg c4, if_neg c4]; exact namQ_is l (A ++ [(c.f.name, c.f.n)])
theorem namQ_zcs : ∀ (k : Nat) (a : Int) (Q A : List (ByteArray × Int)), a + k ≤ 60 → namQ (zcs k a ++ Q) A = namQ Q A
  | 0, a, Q, A, h => rfl
  | k + 1, a, Q, A, h => by
    rw [zcs, List.cons_append, namQ, if_neg (show ¬ (a + 1 > 60) by omega), if_pos rfl]
    exact namQ_zcs k (a + 1) Q A (by omega)
theorem clash_sh (k : Int) (s : ByteArray) (n : Int) (A : List (ByteArray × Int)) : clashP s (n + k) (A.map (shP k)) = clashP s n A := by
  unfold clashP
  rw [List.any_map]
  congr 1
  funext p
  show decide (p.1 = s ∧ p.2 + k ≠ n + k) = decide (p.1 = s ∧ p.2 ≠ n)
  rw [decide_eq_decide]
  constructor
  · rintro ⟨h1, h2⟩; exact ⟨h1, by omega⟩
  · rintro ⟨h1, h2⟩; exact ⟨h1, by omega⟩
theorem there_sh (k : Int) (s : ByteArray) (A : List (ByteArray × Int)) : thereP s (A.map (shP k)) = thereP s A := by
  unfold thereP
  rw [List.any_map]
  rfl
theorem namQ_sh (k : Int) : ∀ (P A : List (ByteArray × Int)), (namQ P A).2 = 0 → (namQ (P.map (shP k)) (A.map (shP k))).2 = 12 ∨ ((namQ (P.map (shP k)) (A.map (shP k))).2 = 0 ∧ (namQ (P.map (shP k)) (A.map (shP k))).1 = (namQ P A).1.map (shP k))
  | [], A, h => .inr ⟨rfl, rfl⟩
  | c :: l, A, h => by
    rw [namQ] at h
    rw [List.map_cons, namQ, namQ]
    by_cases c1 : c.2 > 60
    · rw [if_pos c1] at h; exact absurd h (by decide)
    rw [if_neg c1] at h ⊢
    have e1 : (shP k c).1 = c.1 := rfl
    have e2 : (shP k c).2 = c.2 + k := rfl
    by_cases d1 : (shP k c).2 > 60
    · rw [if_pos d1]; exact .inl rfl
    rw [if_neg d1, e1, e2, clash_sh, there_sh]
    by_cases c2 : c.1 = bs []
    · rw [if_pos c2] at h ⊢
      rw [if_pos c2]
      exact namQ_sh k l A h
    rw [if_neg c2] at h ⊢
    rw [if_neg c2]
    by_cases c3 : clashP c.1 c.2 A = true
    · rw [if_pos c3] at h; exact absurd h (by decide)
    rw [if_neg c3] at h ⊢
    rw [if_neg c3]
    by_cases c4 : thereP c.1 A = true
    · rw [if_pos c4] at h ⊢
      rw [if_pos c4]
      exact namQ_sh k l A h
    · rw [if_neg c4] at h ⊢
      rw [if_neg c4]
      have := namQ_sh k l (A ++ [c]) h
      rw [List.map_append] at this
      exact this
theorem zcs_len : ∀ (k : Nat) (a : Int), (zcs k a).length = k
  | 0, a => rfl
  | k + 1, a => by rw [zcs, List.length_cons, zcs_len k]
theorem numsC_cap (l : List Node) : numsC l = (l.map capP).map (fun p => p.2) := by
  unfold numsC
  rw [List.map_map]
  rfl
/-- The numbers of two trees, of which the second one has so many groups of their own ahead. -/
theorem num_shift {N M : Node} {k : Nat} (hk : k ≤ 20) (h : capD M 0 = (zcs k 0 ++ (capD N (0 + k)).1, (capD N (0 + k)).2)) (he : (numG N).e = 0) :
    (numG M).e = 12 ∨ ((numG M).e = 0 ∧ (numG M).most = (numG N).most + k ∧ (numG M).names.length = (numG N).names.length ∧
      (numsC (capsN (numG M).n)).length = (numsC (capsN (numG N).n)).length + k ∧ ∀ i : Int, 0 ≤ i → i < (numsC (capsN (numG N).n)).length → rd1 (numsC (capsN (numG M).n)) (i + k) = rd1 (numsC (capsN (numG N).n)) i + k) := by
  rw [capD_shift] at h
  rw [numG_is] at he ⊢
  rw [numG_is]
  have hM1 : (capsN (nbN M 0).1).map capP = zcs k 0 ++ ((capsN (nbN N 0).1).map capP).map (shP k) := congrArg Prod.fst h
  have hM2 : (nbN M 0).2 = (nbN N 0).2 + k := congrArg Prod.snd h
  have qN := namQ_is (capsN (nbN N 0).1) []
  have qM := namQ_is (capsN (nbN M 0).1) []
  rw [hM1, namQ_zcs k 0 _ _ (by omega)] at qM
  unfold numR9 at he ⊢
  by_cases c : (namL (capsN (nbN N 0).1) []).e ≠ 0
  · rw [if_pos c] at he; exact absurd he c
  have c0 : (namL (capsN (nbN N 0).1) []).e = 0 := by simpa using c
  have hsh := namQ_sh k ((capsN (nbN N 0).1).map capP) [] (by rw [← qN.2]; exact c0)
  rw [List.map_nil, ← qM.1, ← qM.2, ← qN.1] at hsh
  rcases hsh with h12 | ⟨h0, hl⟩
  · left
    rw [if_pos (by rw [h12]; decide)]
    exact h12
  · right
    rw [if_neg (by rw [h0]; simp), if_neg c]
    have hy : numsC (capsN (nbN M 0).1) = (zcs k 0).map (fun p => p.2) ++ (numsC (capsN (nbN N 0).1)).map (fun n : Int => n + (k : Int)) := by
      rw [numsC_cap, numsC_cap, hM1, List.map_append]
      simp only [List.map_map]
      rfl
    simp only
    refine ⟨trivial, hM2, by rw [hl, List.length_map], ?_, fun i h0 h1 => ?_⟩
    · rw [hy, List.length_append, List.length_map, List.length_map, zcs_len]
      omega
    · rw [hy]
      unfold rd1
      rw [List.getD_eq_getElem?_getD, List.getD_eq_getElem?_getD, List.getElem?_append_right (by rw [List.length_map, zcs_len]; omega), List.length_map, zcs_len, List.getElem?_map, show (i + k).toNat - k = i.toNat by omega, List.getElem?_eq_getElem (by omega)]
      rfl
end Go.Proofs.Ytnoohgiecnmajaa.VC

/- The laws of groups: the numbers of a tree; a branch reset; a name's number. -/
namespace Go.Proofs.Ytnoohgiecnmajaa.VC
open Go Go.RowKit
set_option linter.unusedVariables false
set_option linter.unusedSimpArgs false
set_option maxHeartbeats 4000000

set_option maxHeartbeats 16000000
attribute [local irreducible] capsN capsL hasR hasRL
theorem rows1_app (a b : List Int) : rows1 a ++ rows1 b = rows1 (a ++ b) := by simp [rows1]
theorem numsC_len (l : List Node) : (numsC l).length = l.length := by unfold numsC; simp
def NumsC (n : Node) : Prop := VCalls Try.prog 26 [n.enc] (fun r => r = is (numsC (capsN n)))
def numH (f : NodeF) : List Int := if f.kind = 14 then [f.n] else []
theorem nums_step (f : NodeF) (ks : List Node) (hw : wN ks ≤ 1000000) (ih : ∀ n ∈ ks, NumsC n) : VCalls Try.prog 26 [(Node.mk f ks).enc] (fun r => r = is (numsC (capsN (.mk f ks)))) := by
  have hn := rowsN_len ks
  have hl := wN_len ks
  have hcl := capsL_len ks
  have hG : numsC (capsN (.mk f ks)) = numH f ++ numsC (capsL ks) := by
    rw [capsN, numH]
    split
    · rw [numsC_cons]; rfl
    · rfl
  rw [hG]
  refine VCalls.ofr tabOk Try.func26 (by decide) rfl rfl ?_
  refine RWP.seqx tabOk orders ?_
  conv => whnf
  refine RWP.seqx tabOk orders ?_
  conv => whnf
  refine RWP.cut (fun st => ∃ v, st = ⟨29, [(1, .ptr 1 0), (3, .own 27)], [(1, (27, nfe f ks))], [(27, ⟨1, 3, v, rows1 (numH f)⟩)], []⟩) tabOk orders ?_ ?_
  · repeat' ((conv => whnf); (first
    | (with_reducible first | refine Spl.yes ?_ | refine Spl.no ?_ | refine Spl.dec (fun h => ?_) (fun h => ?_) | refine Spl.eq (fun h => ?_) (fun h => ?_) | refine Spl.ne (fun h => ?_) (fun h => ?_) | refine Spl.seq (fun h => ?_) (fun h => ?_) | refine Spl.not ?_ | refine Spl.any (fun h => ?_) (fun h => ?_))
    | refine And.intro (Nat.le_of_ble_eq_true rfl) ?_
    | ((with_reducible apply And.intro); first | omega | rfl | (dsimp only; omega))))
    all_goals (conv => whnf)
    all_goals (unfold numH)
    · rw [if_pos (by assumption)]
      exact ⟨_, Wk.trans (Wk.renOwn 3 27 (k := 12) rfl rfl rfl) (Wk.narrow _ [1, 3] [1] [27]), true, rfl⟩
    · rw [if_neg (by assumption)]
      exact ⟨_, Wk.trans (Wk.ownNil (t := 3) (k := 27) (sz := 1) (e := 3) rfl) (Wk.narrow _ [1, 3] [1] [27]), true, rfl⟩
  rintro _ ⟨v, rfl⟩
  have hh : (numH f).length ≤ 1 := by unfold numH; split <;> simp
  generalize numH f = H at *
  refine RWP.seq ?_
  refine RWP.seqx tabOk orders ?_
  conv => whnf
  refine RWP.block ?_
  refine RWP.loop (fun k st => ∃ (j : Int) (v : Bool), st = ⟨29, [(1, .ptr 1 0), (3, .own 27), (4, .pv (iv j))], [(1, (27, nfe f ks))], [(27, ⟨1, 3, v, rows1 (H ++ numsC (capsL (ks.take j.toNat)))⟩)], []⟩ ∧ 0 ≤ j ∧ j ≤ ks.length ∧ k = (ks.length - j).toNat)
    ⟨_, _, Wk.narrow _ [1, 3, 4] [1] [27], 0, v, Eq.trans rfl (congrArg (fun (X : List Int) => (⟨29, [(1, .ptr 1 0), (3, .own 27), (4, .pv (iv 0))], [(1, (27, nfe f ks))], [(27, ⟨1, 3, v, rows1 X⟩)], []⟩ : St)) (by show H = H ++ numsC (capsL []); rw [capsL, numsC_nil]; simp)), by omega, by omega, rfl⟩ ?_
  rintro k st ⟨j, v, rfl, hj0, hj1, hk⟩
  have hwt : wN (ks.take j.toNat) ≤ wN ks := by
    have := wN_app (ks.take j.toNat) (ks.drop j.toNat)
    rw [List.take_append_drop] at this
    omega
  have hct := capsL_len (ks.take j.toNat)
  refine RWP.seqx tabOk orders ?_
  repeat' ((conv => whnf); (first
    | (with_reducible first | refine Spl.yes ?_ | refine Spl.no ?_ | refine Spl.dec (fun h => ?_) (fun h => ?_) | refine Spl.eq (fun h => ?_) (fun h => ?_) | refine Spl.ne (fun h => ?_) (fun h => ?_) | refine Spl.seq (fun h => ?_) (fun h => ?_) | refine Spl.not ?_ | refine Spl.any (fun h => ?_) (fun h => ?_))
    | ((with_reducible apply And.intro); first | omega | rfl | (dsimp only; omega))))
  all_goals (conv => whnf)
  rotate_left
  · have e : j = ks.length := by omega
    subst e
    rw [Int.toNat_natCast, List.take_length]
    refine RWP.of tabOk orders ?_
    conv => whnf
    rfl
  have hsn := capsL_snoc (rdn ks j) (ks.take j.toNat)
  rw [← take_stepN hj0 (by omega)] at hsn
  have hm := rdn_mem (l := ks) (j := j) (by omega)
  have hc := ih (rdn ks j) hm
  have hcn := capsN_len (rdn ks j)
  have hwm := wN_mem hm
  have hr1 := rows1_len (H ++ numsC (capsL (ks.take j.toNat)))
  have hr2 := rows1_len (numsC (capsN (rdn ks j)))
  rw [List.length_append, numsC_len] at hr1
  rw [numsC_len] at hr2
  unfold NumsC at hc
  generalize capsN (rdn ks j) = C at *
  obtain ⟨f3, k3, h3⟩ := (rdn ks j).ex
  rw [h3] at hc
  refine RWP.of tabOk orders ?_
  repeat' ((conv => whnf); (first
    | (with_reducible first | refine Spl.yes ?_ | refine Spl.no ?_ | refine Spl.dec (fun h => ?_) (fun h => ?_) | refine Spl.eq (fun h => ?_) (fun h => ?_) | refine Spl.ne (fun h => ?_) (fun h => ?_) | refine Spl.seq (fun h => ?_) (fun h => ?_) | refine Spl.not ?_ | refine Spl.any (fun h => ?_) (fun h => ?_))
    | (rw [rowsN_get (by omega)])
    | (rw [h3])
    | (refine VCalls.mono (hc) ?_; rintro _ rfl)
    | refine And.intro (Nat.le_of_ble_eq_true rfl) ?_
    | refine And.intro (by show ((rows1 (H ++ numsC (capsL (ks.take j.toNat)))).length + (rows1 (numsC C)).length) * 8 ≤ 140737488355328; omega) ?_
    | ((with_reducible apply And.intro); first | omega | rfl | (dsimp only; omega))))
  all_goals (conv => whnf)
  exact ⟨(ks.length - (j + 1)).toNat, _, by omega, Wk.narrow _ [1, 3, 4] [1] [27], j + 1, v, Eq.trans rfl (congrArg (fun (X : List (List SV)) => (⟨29, [(1, .ptr 1 0), (3, .own 27), (4, .pv (iv (j + 1)))], [(1, (27, nfe f ks))], [(27, ⟨1, 3, v, X⟩)], []⟩ : St)) (show rows1 (H ++ numsC (capsL (ks.take j.toNat))) ++ rows1 (numsC C) = rows1 (H ++ numsC (capsL (ks.take (j + 1).toNat))) by rw [hsn, rows1_app, numsC_app, List.append_assoc])), by omega, by omega, rfl⟩
theorem nums_c : ∀ (k : Nat) (n : Node), n.w ≤ k → n.w ≤ 1000000 → NumsC n := by
  intro k
  induction k with
  | zero => intro n h; have := w_pos n; omega
  | succ k ih =>
    intro n hk hw
    cases n with
    | mk f ks =>
      rw [Node.w] at hk hw
      exact nums_step f ks (by omega) (fun n hn => ih n (by have := wN_mem hn; omega) (by have := wN_mem hn; omega))
theorem hasRL_app : ∀ a b : List Node, hasRL (a ++ b) = (hasRL a || hasRL b)
  | [], b => by rw [List.nil_append, hasRL]; rfl
  | k :: a, b => by rw [List.cons_append, hasRL, hasRL, hasRL_app a b, Bool.or_assoc]
theorem hasRL_mem {k : Node} : ∀ {l : List Node}, k ∈ l → hasR k = true → hasRL l = true
  | x :: l, h, q => by
    rw [hasRL]
    rcases List.mem_cons.1 h with rfl | h
    · rw [q]; rfl
    · rw [hasRL_mem h q]; simp
def FindC (n : Node) : Prop := VCalls Try.prog 27 [n.enc] (fun r => ∃ i : Int, r = .tuple [iv i, bv (hasR n)])
theorem find_step (f : NodeF) (ks : List Node) (hk : ks.length ≤ 1000000) (ih : ∀ n ∈ ks, FindC n) : VCalls Try.prog 27 [(Node.mk f ks).enc] (fun r => ∃ i : Int, r = .tuple [iv i, bv (hasR (.mk f ks))]) := by
  have hn := rowsN_len ks
  have hG : hasR (.mk f ks) = if f.kind = 16 then true else hasRL ks := by rw [hasR]
  rw [hG]
  refine VCalls.ofr tabOk Try.func27 (by decide) rfl rfl ?_
  refine RWP.seqx tabOk orders ?_
  conv => whnf
  refine RWP.seqx tabOk orders ?_
  repeat' ((conv => whnf); (first
    | (with_reducible first | refine Spl.yes ?_ | refine Spl.no ?_ | refine Spl.dec (fun h => ?_) (fun h => ?_) | refine Spl.eq (fun h => ?_) (fun h => ?_) | refine Spl.ne (fun h => ?_) (fun h => ?_) | refine Spl.seq (fun h => ?_) (fun h => ?_) | refine Spl.not ?_ | refine Spl.any (fun h => ?_) (fun h => ?_))
    | ((with_reducible apply And.intro); first | omega | rfl | (dsimp only; omega))))
  all_goals (conv => whnf)
  · rw [if_pos (by assumption)]
    exact ⟨0, rfl⟩
  rw [if_neg (by assumption)]
  refine RWP.weak (Wk.narrow _ [1] [1] []) ?_
  refine RWP.seq ?_
  refine RWP.seqx tabOk orders ?_
  conv => whnf
  refine RWP.block ?_
  refine RWP.loop (fun k st => ∃ (j : Int), st = ⟨28, [(1, .ptr 1 0), (4, .pv (iv j))], [(1, (27, nfe f ks))], [], []⟩ ∧ 0 ≤ j ∧ j ≤ ks.length ∧ k = (ks.length - j).toNat ∧ hasRL (ks.take j.toNat) = false)
    ⟨_, _, Wk.narrow _ [1, 4] [1] [], 0, rfl, by omega, by omega, rfl, by show hasRL [] = false; rw [hasRL]⟩ ?_
  rintro k st ⟨j, rfl, hj0, hj1, hk, hno⟩
  refine RWP.seqx tabOk orders ?_
  repeat' ((conv => whnf); (first
    | (with_reducible first | refine Spl.yes ?_ | refine Spl.no ?_ | refine Spl.dec (fun h => ?_) (fun h => ?_) | refine Spl.eq (fun h => ?_) (fun h => ?_) | refine Spl.ne (fun h => ?_) (fun h => ?_) | refine Spl.seq (fun h => ?_) (fun h => ?_) | refine Spl.not ?_ | refine Spl.any (fun h => ?_) (fun h => ?_))
    | ((with_reducible apply And.intro); first | omega | rfl | (dsimp only; omega))))
  all_goals (conv => whnf)
  rotate_left
  · have e : j = ks.length := by omega
    subst e
    rw [Int.toNat_natCast, List.take_length] at hno
    rw [hno]
    refine RWP.of tabOk orders ?_
    conv => whnf
    exact ⟨0, rfl⟩
  have hm := rdn_mem (l := ks) (j := j) (by omega)
  have hc := ih (rdn ks j) hm
  have hsn : hasRL (ks.take (j + 1).toNat) = (false || (hasR (rdn ks j) || false)) := by
    rw [take_stepN hj0 (by omega), hasRL_app, hno, hasRL, hasRL]
  have hyes := hasRL_mem hm
  unfold FindC at hc
  generalize hasR (rdn ks j) = b at *
  obtain ⟨f3, k3, h3⟩ := (rdn ks j).ex
  rw [h3] at hc
  refine RWP.of tabOk orders ?_
  repeat' ((conv => whnf); (first
    | (with_reducible first | refine Spl.yes ?_ | refine Spl.no ?_ | refine Spl.dec (fun h => ?_) (fun h => ?_) | refine Spl.eq (fun h => ?_) (fun h => ?_) | refine Spl.ne (fun h => ?_) (fun h => ?_) | refine Spl.seq (fun h => ?_) (fun h => ?_) | refine Spl.not ?_ | refine Spl.any (fun h => ?_) (fun h => ?_))
    | (rw [rowsN_get (by omega)])
    | (rw [h3])
    | (refine VCalls.mono hc ?_; rintro _ ⟨i, rfl⟩)
    | refine And.intro (Nat.le_of_ble_eq_true rfl) ?_
    | ((with_reducible apply And.intro); first | omega | rfl | (dsimp only; omega))))
  all_goals (conv => whnf)
  all_goals first
    | (rw [hyes (by assumption)]; exact ⟨j, rfl⟩)
    | (have hb : b = false := by assumption
       subst hb
       exact ⟨(ks.length - (j + 1)).toNat, _, by omega, Wk.narrow _ [1, 4] [1] [], j + 1, rfl, by omega, by omega, rfl, hsn⟩)
theorem find_c : ∀ (k : Nat) (n : Node), n.w ≤ k → n.w ≤ 1000000 → FindC n := by
  intro k
  induction k with
  | zero => intro n h; have := w_pos n; omega
  | succ k ih =>
    intro n hk hw
    cases n with
    | mk f ks =>
      rw [Node.w] at hk hw
      have hl := wN_len ks
      exact find_step f ks (by omega) (fun n hn => ih n (by have := wN_mem hn; omega) (by have := wN_mem hn; omega))
def isX (x : ByteArray × Int) (c : Node) : Bool := decide (c.f.name = x.1) && decide (c.f.n = x.2)
def HasC (n : Node) : Prop := ∀ x : ByteArray × Int, VCalls Try.prog 28 [n.enc, .agg [sv x.1, iv x.2]] (fun r => r = bv ((capsN n).any (isX x)))
theorem has_step (f : NodeF) (ks : List Node) (hk : ks.length ≤ 1000000) (ih : ∀ n ∈ ks, HasC n) : HasC (.mk f ks) := by
  rintro ⟨s, m⟩
  have hn := rowsN_len ks
  have hG : (capsN (.mk f ks)).any (isX (s, m)) = if f.kind = 14 ∧ f.name = s ∧ f.n = m then true else (capsL ks).any (isX (s, m)) := by
    rw [capsN]
    by_cases q : f.kind = 14
    · rw [if_pos q, List.any_cons]
      have : isX (s, m) (.mk f ks) = (decide (f.name = s) && decide (f.n = m)) := rfl
      rw [this]
      by_cases q2 : f.name = s
      · by_cases q3 : f.n = m
        · rw [if_pos ⟨q, q2, q3⟩, decide_eq_true q2, decide_eq_true q3]; rfl
        · rw [if_neg (fun h => q3 h.2.2), decide_eq_false q3]; simp
      · rw [if_neg (fun h => q2 h.2.1), decide_eq_false q2]; simp
    · rw [if_neg q, if_neg (fun h => q h.1)]
  rw [hG]
  simp only
  refine VCalls.ofr tabOk Try.func28 (by decide) rfl rfl ?_
  refine RWP.seqx tabOk orders ?_
  conv => whnf
  refine RWP.cut (fun st => ¬ (f.kind = 14 ∧ f.name = s ∧ f.n = m) ∧ st = ⟨39, [(2, .ptr 2 0), (3, .ptr 3 0)], [(2, (27, nfe f ks)), (3, (45, [.pv (sv s), .pv (iv m)]))], [], []⟩) tabOk orders ?_ ?_
  · repeat' ((conv => whnf); (first
    | (with_reducible first | refine Spl.yes ?_ | refine Spl.no ?_ | refine Spl.dec (fun h => ?_) (fun h => ?_) | refine Spl.eq (fun h => ?_) (fun h => ?_) | refine Spl.ne (fun h => ?_) (fun h => ?_) | refine Spl.seq (fun h => ?_) (fun h => ?_) | refine Spl.not ?_ | refine Spl.any (fun h => ?_) (fun h => ?_))
    | refine drawn_text (by decide +kernel) ?_
    | ((with_reducible apply And.intro); first | omega | rfl | (dsimp only; omega))))
    all_goals (conv => whnf)
    all_goals first
      | (rw [if_pos ⟨by assumption, by assumption, by assumption⟩]; rfl)
      | exact ⟨_, Wk.narrow _ [2, 3] [2, 3] [], (fun h => (show ¬ f.kind = 14 by assumption) h.1), rfl⟩
      | exact ⟨_, Wk.narrow _ [2, 3] [2, 3] [], (fun h => (show ¬ f.name = s by assumption) h.2.1), rfl⟩
      | exact ⟨_, Wk.narrow _ [2, 3] [2, 3] [], (fun h => (show ¬ f.n = m by assumption) h.2.2), rfl⟩
  rintro _ ⟨hno, rfl⟩
  rw [if_neg hno]
  refine RWP.seq ?_
  refine RWP.seqx tabOk orders ?_
  conv => whnf
  refine RWP.block ?_
  refine RWP.loop (fun k st => ∃ (j : Int), st = ⟨39, [(2, .ptr 2 0), (3, .ptr 3 0), (5, .pv (iv j))], [(2, (27, nfe f ks)), (3, (45, [.pv (sv s), .pv (iv m)]))], [], []⟩ ∧ 0 ≤ j ∧ j ≤ ks.length ∧ k = (ks.length - j).toNat ∧ (capsL (ks.take j.toNat)).any (isX (s, m)) = false)
    ⟨_, _, Wk.narrow _ [2, 3, 5] [2, 3] [], 0, rfl, by omega, by omega, rfl, by show (capsL []).any _ = false; rw [capsL]; rfl⟩ ?_
  rintro k st ⟨j, rfl, hj0, hj1, hk, hno⟩
  refine RWP.seqx tabOk orders ?_
  repeat' ((conv => whnf); (first
    | (with_reducible first | refine Spl.yes ?_ | refine Spl.no ?_ | refine Spl.dec (fun h => ?_) (fun h => ?_) | refine Spl.eq (fun h => ?_) (fun h => ?_) | refine Spl.ne (fun h => ?_) (fun h => ?_) | refine Spl.seq (fun h => ?_) (fun h => ?_) | refine Spl.not ?_ | refine Spl.any (fun h => ?_) (fun h => ?_))
    | ((with_reducible apply And.intro); first | omega | rfl | (dsimp only; omega))))
  all_goals (conv => whnf)
  rotate_left
  · have e : j = ks.length := by omega
    subst e
    rw [Int.toNat_natCast, List.take_length] at hno
    rw [hno]
    refine RWP.of tabOk orders ?_
    conv => whnf
    rfl
  have hm := rdn_mem (l := ks) (j := j) (by omega)
  have hc := ih (rdn ks j) hm (s, m)
  have hsn : (capsL (ks.take (j + 1).toNat)).any (isX (s, m)) = (false || (capsN (rdn ks j)).any (isX (s, m))) := by
    rw [take_stepN hj0 (by omega), capsL_snoc, List.any_append, hno]
  have hyes : (capsN (rdn ks j)).any (isX (s, m)) = true → (capsL ks).any (isX (s, m)) = true := by
    intro h
    obtain ⟨c, h1, h2⟩ := List.any_eq_true.1 h
    refine List.any_eq_true.2 ⟨c, ?_, h2⟩
    have h4 := capsL_snoc (rdn ks j) (ks.take j.toNat)
    rw [← take_stepN hj0 (by omega)] at h4
    have h5 : capsL ks = capsL (ks.take (j + 1).toNat) ++ capsL (ks.drop (j + 1).toNat) := by
      rw [← capsL_app, List.take_append_drop]
    rw [h5, h4]
    simp [h1]
  generalize (capsN (rdn ks j)).any (isX (s, m)) = b at *
  obtain ⟨f3, k3, h3⟩ := (rdn ks j).ex
  rw [h3] at hc
  refine RWP.of tabOk orders ?_
  repeat' ((conv => whnf); (first
    | (with_reducible first | refine Spl.yes ?_ | refine Spl.no ?_ | refine Spl.dec (fun h => ?_) (fun h => ?_) | refine Spl.eq (fun h => ?_) (fun h => ?_) | refine Spl.ne (fun h => ?_) (fun h => ?_) | refine Spl.seq (fun h => ?_) (fun h => ?_) | refine Spl.not ?_ | refine Spl.any (fun h => ?_) (fun h => ?_))
    | refine drawn_text (by decide +kernel) ?_
    | (rw [rowsN_get (by omega)])
    | (rw [h3])
    | (refine VCalls.mono (hc) ?_; rintro _ rfl)
    | refine And.intro (Nat.le_of_ble_eq_true rfl) ?_
    | ((with_reducible apply And.intro); first | omega | rfl | (dsimp only; omega))))
  all_goals (conv => whnf)
  all_goals first
    | (rw [hyes (by assumption)]; rfl)
    | (have hb : b = false := by assumption
       subst hb
       exact ⟨(ks.length - (j + 1)).toNat, _, by omega, Wk.narrow _ [2, 3, 5] [2, 3] [], j + 1, rfl, by omega, by omega, rfl, hsn⟩)
theorem has_c : ∀ (k : Nat) (n : Node), n.w ≤ k → n.w ≤ 1000000 → HasC n := by
  intro k
  induction k with
  | zero => intro n h; have := w_pos n; omega
  | succ k ih =>
    intro n hk hw
    cases n with
    | mk f ks =>
      rw [Node.w] at hk hw
      have hl := wN_len ks
      exact has_step f ks (by omega) (fun n hn => ih n (by have := wN_mem hn; omega) (by have := wN_mem hn; omega))
end Go.Proofs.Ytnoohgiecnmajaa.VC

/- groups: a node with numbers, walked. -/
namespace Go.Proofs.Ytnoohgiecnmajaa.VC
open Go Go.RowKit
set_option linter.unusedVariables false
set_option linter.unusedSimpArgs false
set_option maxHeartbeats 4000000

attribute [local irreducible] nodeG kidsG mps findS nameS
set_option maxHeartbeats 16000000
def capSt (c : Cn) (f : NodeF) (ks : List Node) : St :=
  ⟨92, [(0, .ptr 1000000 0), (3, .ptr 3 0), (4, .ptr 4 0)], [(1000000, (69, cnFs c)), (3, (27, nfe f ks)), (4, (27, nzero))], [(1000001, ⟨2, 45, true, rowsM c.names⟩)], [(1000002, mps c.names)]⟩
def kidSt (c1 : Cn) (f : NodeF) (ks : List Node) (v : Bool) (j most : Int) (c : Cn) (o : List (List SV)) : St :=
  ⟨92, [(0, .ptr 1000000 0), (3, .ptr 3 0), (4, .ptr 4 0), (5, .pv (iv c1.last)), (6, .pv (iv most)), (7, .own 73), (55, .pv (nodesE ks)), (56, .pv (iv (rowsN ks).length)), (57, .pv (iv j))], [(1000000, (69, cnFs c)), (3, (27, nfe f ks)), (4, (27, nzero))], [(1000001, ⟨2, 45, true, rowsM c.names⟩), (73, ⟨12, 27, v, o⟩)], [(1000002, mps c.names)]⟩
theorem ng_step (f : NodeF) (ks : List Node) (hset : f.set.length ≤ 4000000000) (hw : wN ks ≤ 1000000) (ih : ∀ n ∈ ks, NgC n) : NgC (.mk f ks) := by
  intro c h0 h1 hnm
  rw [Node.w] at h1 hnm
  have hn := rowsN_len ks
  have hl := wN_len ks
  have hs2 := rows2_len f.set
  obtain ⟨G, hG⟩ : ∃ G, nodeG (.mk f ks) c = G := ⟨_, rfl⟩
  rw [hG]
  rw [nodeG] at hG
  refine HCalls.ofr tabOk Try.func45 (by decide) rfl rfl ?_
  obtain ⟨last, names, e, at_⟩ := c
  simp only at h0 h1 hnm hG
  refine RWP.seqx tabOk orders ?_
  conv => whnf
  refine RWP.seqx tabOk orders ?_
  repeat' ((conv => whnf); (first
    | (with_reducible first | refine Spl.yes ?_ | refine Spl.no ?_ | refine Spl.dec (fun h => ?_) (fun h => ?_) | refine Spl.eq (fun h => ?_) (fun h => ?_) | refine Spl.ne (fun h => ?_) (fun h => ?_) | refine Spl.seq (fun h => ?_) (fun h => ?_) | refine Spl.not ?_ | refine Spl.any (fun h => ?_) (fun h => ?_))
    | refine And.intro (Nat.le_of_ble_eq_true rfl) ?_
    | ((with_reducible apply And.intro); first | omega | rfl | (dsimp only; omega))))
  all_goals (conv => whnf)
  · rw [if_pos (by assumption)] at hG
    subst hG
    refine ⟨_, Wk.narrow _ [4] [1000000, 4] [1000001], .inl ?_⟩
    conv => whnf
    exact ⟨rfl, rfl⟩
  have he : e = 0 := by assumption
  rw [if_neg (by simp [he])] at hG
  have hnam := name_h ⟨last + 1, names, e, at_⟩ (Node.mk { f with n := last + 1 } ks) (by simp only; omega)
  refine RWP.cut (fun st => ¬ (f.kind = 14 ∧ last + 1 > 60) ∧ st = capSt (capC f ⟨last, names, e, at_⟩) (capF f ⟨last, names, e, at_⟩) ks) tabOk orders ?_ ?_
  · repeat' ((conv => whnf); (first
    | (with_reducible first | refine Spl.yes ?_ | refine Spl.no ?_ | refine Spl.dec (fun h => ?_) (fun h => ?_) | refine Spl.eq (fun h => ?_) (fun h => ?_) | refine Spl.ne (fun h => ?_) (fun h => ?_) | refine Spl.seq (fun h => ?_) (fun h => ?_) | refine Spl.not ?_ | refine Spl.any (fun h => ?_) (fun h => ?_))
    | (refine HQ.use (hnam) ⟨id, id, id⟩ ⟨rfl, rfl⟩ rfl rfl (by first | exact ⟨⟨rfl, rfl⟩, trivial⟩ | exact ⟨⟨rfl, rfl⟩, ⟨rfl, rfl⟩, trivial⟩) (by first | exact trivial | exact ⟨⟨rfl, rfl⟩, trivial⟩ | exact ⟨⟨rfl, rfl⟩, ⟨rfl, rfl⟩, trivial⟩ | exact ⟨⟨rfl, rfl⟩, ⟨rfl, rfl⟩, ⟨rfl, rfl⟩, trivial⟩) (by first | exact trivial | exact ⟨⟨rfl, rfl⟩, trivial⟩) ?_; rintro _ _ ⟨rfl, rfl⟩; refine ⟨⟨rfl, rfl, rfl⟩, ?_⟩)
    | refine drawn_plan (.one 0 (.one 1 (.one 2 (.one 4 (.one 5 (.two 3 (.ofList [6, 7, 8, 9]) 6 (.ofList [3, 7, 8, 9]))))))) (by decide +kernel) ?_
    | refine Fork.mk ?_ ?_
    | refine And.intro (Nat.le_of_ble_eq_true rfl) ?_
    | ((with_reducible apply And.intro); first | omega | rfl | (dsimp only; omega))))
    all_goals (conv => whnf)
    all_goals first
      | (
        rw [if_pos ⟨by assumption, by assumption⟩] at hG
        subst hG
        refine ⟨_, Wk.narrow _ [4] [1000000, 4] [1000001], .inl ?_⟩
        conv => whnf
        exact ⟨rfl, rfl⟩)
      | (
        have hk : f.kind = 14 := by assumption
        rw [capC, if_pos hk, capF, if_pos hk]
        exact ⟨_, Wk.narrow _ [0, 3, 4] [1000000, 3, 4] [1000001], fun q => (show ¬ (last + 1 > 60) by assumption) q.2, rfl⟩)
      | (
        have hk : f.kind ≠ 14 := by assumption
        rw [capC, if_neg hk, capF, if_neg hk]
        exact ⟨_, Wk.narrow _ [0, 3, 4] [1000000, 3, 4] [1000001], by omega, rfl⟩)
  rintro _ ⟨hno, rfl⟩
  rw [if_neg hno] at hG
  have hcl := capC_le f ⟨last, names, e, at_⟩
  have hcf : (capF f ⟨last, names, e, at_⟩).kind = f.kind ∧ (capF f ⟨last, names, e, at_⟩).set = f.set := by unfold capF; split <;> exact ⟨rfl, rfl⟩
  generalize capC f ⟨last, names, e, at_⟩ = c1 at *
  generalize capF f ⟨last, names, e, at_⟩ = f1 at *
  simp only at hcl
  obtain ⟨hfk, hfs⟩ := hcf
  rw [← hfs] at hset hs2
  refine RWP.seqx tabOk orders ?_
  repeat' ((conv => whnf); (first
    | (with_reducible first | refine Spl.yes ?_ | refine Spl.no ?_ | refine Spl.dec (fun h => ?_) (fun h => ?_) | refine Spl.eq (fun h => ?_) (fun h => ?_) | refine Spl.ne (fun h => ?_) (fun h => ?_) | refine Spl.seq (fun h => ?_) (fun h => ?_) | refine Spl.not ?_ | refine Spl.any (fun h => ?_) (fun h => ?_))
    | refine drawn_text (by decide +kernel) ?_
    | ((with_reducible apply And.intro); first | omega | rfl | (dsimp only; omega))))
  all_goals (conv => whnf)
  refine RWP.seqx tabOk orders ?_
  conv => whnf
  refine RWP.seq ?_
  refine RWP.seqx tabOk orders ?_
  conv => whnf
  refine RWP.block ?_
  refine RWP.loop (fun k st => ∃ (j : Int) (v : Bool), st = kidSt c1 f1 ks v j (kidsG (ks.take j.toNat) (decide (f.kind = 16)) c1.last c1.last c1).2.1 (kidsG (ks.take j.toNat) (decide (f.kind = 16)) c1.last c1.last c1).2.2 (rowsN (kidsG (ks.take j.toNat) (decide (f.kind = 16)) c1.last c1.last c1).1) ∧ 0 ≤ j ∧ j ≤ ks.length ∧ k = (ks.length - j).toNat)
    ⟨_, _, Wk.trans (Wk.ownNil (t := 7) (k := 73) (sz := 12) (e := 27) rfl) (Wk.narrow _ [0, 3, 4, 5, 6, 7, 55, 56, 57] [1000000, 3, 4] [1000001, 73]), 0, true, Eq.trans (b := kidSt c1 f1 ks true 0 c1.last c1 []) rfl (congrArg (fun (X : List Node × Int × Cn) => kidSt c1 f1 ks true 0 X.2.1 X.2.2 (rowsN X.1)) (kidsG_nil (decide (f.kind = 16)) c1.last c1.last c1).symm), by omega, by omega, rfl⟩ ?_
  rintro k st ⟨j, v, rfl, hj0, hj1, hk⟩
  have hlj := kidsG_len (ks.take j.toNat) (decide (f.kind = 16)) c1.last c1.last c1
  have hle := kidsG_le (ks.take j.toNat) (decide (f.kind = 16)) c1.last c1.last c1 (by omega) (by omega) (by omega) (by omega)
  have hll := rowsN_len (kidsG (ks.take j.toNat) (decide (f.kind = 16)) c1.last c1.last c1).1
  have hwt : wN (ks.take j.toNat) ≤ wN ks := by
    have := wN_app (ks.take j.toNat) (ks.drop j.toNat)
    rw [List.take_append_drop] at this
    omega
  rw [List.length_take] at hlj
  refine RWP.seqx tabOk orders ?_
  conv => whnf
  refine RWP.seqx tabOk orders ?_
  repeat' ((conv => whnf); (first
    | (with_reducible first | refine Spl.yes ?_ | refine Spl.no ?_ | refine Spl.dec (fun h => ?_) (fun h => ?_) | refine Spl.eq (fun h => ?_) (fun h => ?_) | refine Spl.ne (fun h => ?_) (fun h => ?_) | refine Spl.seq (fun h => ?_) (fun h => ?_) | refine Spl.not ?_ | refine Spl.any (fun h => ?_) (fun h => ?_))
    | ((with_reducible apply And.intro); first | omega | rfl | (dsimp only; omega))))
  all_goals (conv => whnf)
  rotate_left
  · have e : j = ks.length := by omega
    subst e
    rw [Int.toNat_natCast, List.take_length] at hle hll hlj ⊢
    generalize kidsG ks (decide (f.kind = 16)) c1.last c1.last c1 = r at *
    obtain ⟨o, most, ⟨last2, names2, e2, at2⟩⟩ := r
    subst hG
    refine RWP.of tabOk orders ?_
    repeat' ((conv => whnf); (first
    | (with_reducible first | refine Spl.yes ?_ | refine Spl.no ?_ | refine Spl.dec (fun h => ?_) (fun h => ?_) | refine Spl.eq (fun h => ?_) (fun h => ?_) | refine Spl.ne (fun h => ?_) (fun h => ?_) | refine Spl.seq (fun h => ?_) (fun h => ?_) | refine Spl.not ?_ | refine Spl.any (fun h => ?_) (fun h => ?_))
    | refine drawn_text (by decide +kernel) ?_
    | refine And.intro (Nat.le_of_ble_eq_true rfl) ?_
    | refine And.intro (by show (rows2 f1.set).length * 16 ≤ 140737488355328; omega) ?_
    | ((with_reducible apply And.intro); first | omega | rfl | (dsimp only; omega))))
    all_goals (conv => whnf)
    all_goals first
      | (refine ⟨_, Wk.trans (Wk.narrow _ [4] [1000000, 4] [1000001]) (Wk.maps _ [1000002]), .inl ?_⟩
         conv => whnf
         exact ⟨rfl, rfl⟩)
  have hsn := kidsG_snoc (rdn ks j) (ks.take j.toNat) (decide (f.kind = 16)) c1.last c1.last c1
  rw [← take_stepN hj0 (by omega)] at hsn
  have hm := rdn_mem (l := ks) (j := j) (by omega)
  have hwk : wN (ks.take j.toNat) + (rdn ks j).w ≤ wN ks := by
    have h1 := wN_app (ks.take (j + 1).toNat) (ks.drop (j + 1).toNat)
    have h2 := wN_app (ks.take j.toNat) [rdn ks j]
    rw [List.take_append_drop] at h1
    rw [← take_stepN hj0 (by omega), wN, wN] at h2
    omega
  have hc := ih (rdn ks j) hm
  generalize kidsG (ks.take j.toNat) (decide (f.kind = 16)) c1.last c1.last c1 = r at *
  obtain ⟨o, most, ⟨last2, names2, e2, at2⟩⟩ := r
  obtain ⟨f3, k3, h3⟩ := (rdn ks j).ex
  rw [h3] at hc hsn hwk
  simp only at hsn hll hlj hle
  by_cases q : f.kind = 16
  · rw [if_pos (by simp [q])] at hsn
    have hc := hc ⟨c1.last, names2, e2, at2⟩ (by simp only; omega) (by simp only; omega) (by simp only; omega)
    generalize nodeG (.mk f3 k3) ⟨c1.last, names2, e2, at2⟩ = r2 at *
    obtain ⟨⟨f4, k4⟩, ⟨last4, names4, e4, at4⟩⟩ := r2
    simp only at hsn hc
    have fin : kidSt c1 f1 ks v (j + 1) (if last4 > most then last4 else most) ⟨last4, names4, e4, at4⟩ (rowsN o ++ [(Node.mk f4 k4).cells]) = kidSt c1 f1 ks v (j + 1) (kidsG (ks.take (j + 1).toNat) (decide (f.kind = 16)) c1.last c1.last c1).2.1 (kidsG (ks.take (j + 1).toNat) (decide (f.kind = 16)) c1.last c1.last c1).2.2 (rowsN (kidsG (ks.take (j + 1).toNat) (decide (f.kind = 16)) c1.last c1.last c1).1) := by
      rw [hsn, rowsN_snoc]; rfl
    refine RWP.of tabOk orders ?_
    repeat' ((conv => whnf); (first
    | (with_reducible first | refine Spl.yes ?_ | refine Spl.no ?_ | refine Spl.dec (fun h => ?_) (fun h => ?_) | refine Spl.eq (fun h => ?_) (fun h => ?_) | refine Spl.ne (fun h => ?_) (fun h => ?_) | refine Spl.seq (fun h => ?_) (fun h => ?_) | refine Spl.not ?_ | refine Spl.any (fun h => ?_) (fun h => ?_))
    | (rw [rowsN_get (by omega)])
    | (rw [h3])
    | (refine HQ.use (hc) ⟨id, id, id⟩ ⟨rfl, rfl⟩ rfl rfl (by first | exact ⟨⟨rfl, rfl⟩, trivial⟩ | exact ⟨⟨rfl, rfl⟩, ⟨rfl, rfl⟩, trivial⟩) (by first | exact trivial | exact ⟨⟨rfl, rfl⟩, trivial⟩ | exact ⟨⟨rfl, rfl⟩, ⟨rfl, rfl⟩, trivial⟩ | exact ⟨⟨rfl, rfl⟩, ⟨rfl, rfl⟩, ⟨rfl, rfl⟩, trivial⟩) (by first | exact trivial | exact ⟨⟨rfl, rfl⟩, trivial⟩) ?_; rintro _ _ ⟨rfl, rfl⟩; refine ⟨⟨rfl, rfl, rfl⟩, ?_⟩)
    | refine And.intro (Nat.le_of_ble_eq_true rfl) ?_
    | refine And.intro (by show ((rowsN o).length + 1) * 136 ≤ 140737488355328; omega) ?_
    | ((with_reducible apply And.intro); first | omega | rfl | (dsimp only; omega))))
    all_goals (conv => whnf)
    all_goals first
      | (exfalso; omega)
      | (exact ⟨(ks.length - (j + 1)).toNat, _, by omega, Wk.narrow _ [0, 3, 4, 5, 6, 7, 55, 56, 57] [1000000, 3, 4] [1000001, 73], j + 1, v, Eq.trans rfl fin, by omega, by omega, rfl⟩)
  · rw [if_neg (by simp [q])] at hsn
    have hc := hc ⟨last2, names2, e2, at2⟩ (by simp only; omega) (by simp only; omega) (by simp only; omega)
    generalize nodeG (.mk f3 k3) ⟨last2, names2, e2, at2⟩ = r2 at *
    obtain ⟨⟨f4, k4⟩, ⟨last4, names4, e4, at4⟩⟩ := r2
    simp only at hsn hc
    have fin : kidSt c1 f1 ks v (j + 1) (if last4 > most then last4 else most) ⟨last4, names4, e4, at4⟩ (rowsN o ++ [(Node.mk f4 k4).cells]) = kidSt c1 f1 ks v (j + 1) (kidsG (ks.take (j + 1).toNat) (decide (f.kind = 16)) c1.last c1.last c1).2.1 (kidsG (ks.take (j + 1).toNat) (decide (f.kind = 16)) c1.last c1.last c1).2.2 (rowsN (kidsG (ks.take (j + 1).toNat) (decide (f.kind = 16)) c1.last c1.last c1).1) := by
      rw [hsn, rowsN_snoc]; rfl
    refine RWP.of tabOk orders ?_
    repeat' ((conv => whnf); (first
    | (with_reducible first | refine Spl.yes ?_ | refine Spl.no ?_ | refine Spl.dec (fun h => ?_) (fun h => ?_) | refine Spl.eq (fun h => ?_) (fun h => ?_) | refine Spl.ne (fun h => ?_) (fun h => ?_) | refine Spl.seq (fun h => ?_) (fun h => ?_) | refine Spl.not ?_ | refine Spl.any (fun h => ?_) (fun h => ?_))
    | (rw [rowsN_get (by omega)])
    | (rw [h3])
    | (refine HQ.use (hc) ⟨id, id, id⟩ ⟨rfl, rfl⟩ rfl rfl (by first | exact ⟨⟨rfl, rfl⟩, trivial⟩ | exact ⟨⟨rfl, rfl⟩, ⟨rfl, rfl⟩, trivial⟩) (by first | exact trivial | exact ⟨⟨rfl, rfl⟩, trivial⟩ | exact ⟨⟨rfl, rfl⟩, ⟨rfl, rfl⟩, trivial⟩ | exact ⟨⟨rfl, rfl⟩, ⟨rfl, rfl⟩, ⟨rfl, rfl⟩, trivial⟩) (by first | exact trivial | exact ⟨⟨rfl, rfl⟩, trivial⟩) ?_; rintro _ _ ⟨rfl, rfl⟩; refine ⟨⟨rfl, rfl, rfl⟩, ?_⟩)
    | refine And.intro (Nat.le_of_ble_eq_true rfl) ?_
    | refine And.intro (by show ((rowsN o).length + 1) * 136 ≤ 140737488355328; omega) ?_
    | ((with_reducible apply And.intro); first | omega | rfl | (dsimp only; omega))))
    all_goals (conv => whnf)
    all_goals first
      | (exfalso; omega)
      | (exact ⟨(ks.length - (j + 1)).toNat, _, by omega, Wk.narrow _ [0, 3, 4, 5, 6, 7, 55, 56, 57] [1000000, 3, 4] [1000001, 73], j + 1, v, Eq.trans rfl fin, by omega, by omega, rfl⟩)
theorem ng_c : ∀ (k : Nat) (n : Node), n.w ≤ k → n.w ≤ 1000000 → n.all SetOk → NgC n := by
  intro k
  induction k with
  | zero => intro n h; have := w_pos n; omega
  | succ k ih =>
    intro n hk hw ha
    cases n with
    | mk f ks =>
      rw [Node.w] at hk hw
      rw [Node.all] at ha
      exact ng_step f ks ha.1 (by omega) (fun n hn => ih n (by have := wN_mem hn; omega) (by have := wN_mem hn; omega) (allN_mem ha.2 hn))
end Go.Proofs.Ytnoohgiecnmajaa.VC

/- groups.Number. -/
namespace Go.Proofs.Ytnoohgiecnmajaa.VC
open Go Go.RowKit
set_option linter.unusedVariables false
set_option linter.unusedSimpArgs false
set_option maxHeartbeats 4000000

attribute [local irreducible] nodeG kidsG
set_option maxHeartbeats 16000000
theorem numG_c (n : Node) (hw : n.w ≤ 1000000) (ha : n.all SetOk) : VCalls Try.prog 21 [n.enc] (fun r => r = numE (numG n)) := by
  have hc := ng_c n.w n (Nat.le_refl _) hw ha ⟨0, [], 0, 0⟩ (by decide) (by show (0 : Int) + n.w ≤ 2000000000; omega) (by show 0 + n.w ≤ 1000000000; omega)
  obtain ⟨G, hG⟩ : ∃ G, numG n = G := ⟨_, rfl⟩
  rw [hG]
  unfold numG at hG
  obtain ⟨f0, k0, h0⟩ := n.ex
  rw [h0] at hc hG ⊢
  generalize nodeG (.mk f0 k0) ⟨0, [], 0, 0⟩ = r at *
  obtain ⟨⟨f, ks⟩, ⟨last, names, e, at_⟩⟩ := r
  simp only at hG hc
  refine VCalls.ofr tabOk Try.func21 (by decide) rfl rfl ?_
  refine RWP.seqx tabOk orders ?_
  conv => whnf
  refine RWP.seq (RWP.counter rfl ⟨rfl, rfl, rfl⟩ ⟨rfl, rfl, rfl⟩ ⟨rfl, rfl, rfl⟩ ⟨rfl, rfl, rfl⟩ rfl ?_)
  conv => whnf
  refine RWP.weak (Wk.trans (Wk.boxNil (s := 11) (i := 1) (k := 90) (sz := 2) (e := 45) (T := 69) (cs := [.pv (iv 0), .pv (.val nilV), .map 9, .pv (iv 0), .pv (iv 0)]) rfl rfl) (Wk.narrow _ [1, 2, 7] [1, 2, 11] [90])) ?_
  refine RWP.seqx tabOk orders ?_
  repeat' ((conv => whnf); (first
    | (with_reducible first | refine Spl.yes ?_ | refine Spl.no ?_ | refine Spl.dec (fun h => ?_) (fun h => ?_) | refine Spl.eq (fun h => ?_) (fun h => ?_) | refine Spl.ne (fun h => ?_) (fun h => ?_) | refine Spl.seq (fun h => ?_) (fun h => ?_) | refine Spl.not ?_ | refine Spl.any (fun h => ?_) (fun h => ?_))
    | (refine HQ.use (hc) ⟨fun _ => 11, fun _ => 90, fun _ => 9⟩ ⟨rfl, rfl⟩ rfl rfl (by first | exact ⟨⟨rfl, rfl⟩, trivial⟩ | exact ⟨⟨rfl, rfl⟩, ⟨rfl, rfl⟩, trivial⟩) (by first | exact trivial | exact ⟨⟨rfl, rfl⟩, trivial⟩ | exact ⟨⟨rfl, rfl⟩, ⟨rfl, rfl⟩, trivial⟩ | exact ⟨⟨rfl, rfl⟩, ⟨rfl, rfl⟩, ⟨rfl, rfl⟩, trivial⟩) (by first | exact trivial | exact ⟨⟨rfl, rfl⟩, trivial⟩) ?_; rintro _ _ ⟨rfl, rfl⟩; refine ⟨⟨rfl, rfl, rfl⟩, ?_⟩)
    | refine And.intro (Nat.le_of_ble_eq_true rfl) ?_
    | ((with_reducible apply And.intro); first | omega | rfl | (dsimp only; omega))))
  all_goals (conv => whnf)
  refine RWP.of tabOk orders ?_
  repeat' ((conv => whnf); (first
    | (with_reducible first | refine Spl.yes ?_ | refine Spl.no ?_ | refine Spl.dec (fun h => ?_) (fun h => ?_) | refine Spl.eq (fun h => ?_) (fun h => ?_) | refine Spl.ne (fun h => ?_) (fun h => ?_) | refine Spl.seq (fun h => ?_) (fun h => ?_) | refine Spl.not ?_ | refine Spl.any (fun h => ?_) (fun h => ?_))
    | refine drawn_plan (.one 0 (.one 1 (.one 2 (.one 3 (.one 5 (.one 6 (.one 7 (.three 4 (.two 8 (.ofList [9, 10, 11, 12, 13]) 9 (.ofList [8, 10, 11, 12, 13])) 8 (.two 4 (.ofList [9, 10, 11, 12, 13]) 9 (.ofList [4, 10, 11, 12, 13])) 9 (.ofList [4, 8, 10, 11, 12, 13]))))))))) (by decide +kernel) ?_
    | refine Fork.mk ?_ ?_
    | refine Fork3.mk ?_ ?_ ?_
    | refine And.intro (Nat.le_of_ble_eq_true rfl) ?_
    | ((with_reducible apply And.intro); first | omega | rfl | (dsimp only; omega))))
  all_goals (conv => whnf)
  all_goals first
    | (rw [if_pos (by assumption)] at hG; subst hG; rfl)
    | (rw [if_neg (fun h => h (by assumption))] at hG; subst hG; rfl)
end Go.Proofs.Ytnoohgiecnmajaa.VC

/- The laws of groups: awake; GroupsSays. -/
namespace Go.Proofs.Ytnoohgiecnmajaa.VC
open Go Go.RowKit
set_option linter.unusedVariables false
set_option linter.unusedSimpArgs false
set_option maxHeartbeats 4000000

def aw1 : List Int := [40, 97, 41, 40, 63, 124, 40, 98, 41, 124, 40, 99, 41, 40, 100, 41, 41, 40, 101, 41]
def aw2 : List Int := [40, 63, 60, 110, 62, 97, 41, 40, 63, 60, 110, 62, 98, 41]
theorem aw1_is : (numG (flatP aw1 0).1).e = 0 ∧ (numG (flatP aw1 0).1).most = 4 ∧ (numG (flatP aw1 0).1).n.kids.length = 3 ∧ (rdn (numG (flatP aw1 0).1).n.kids 2).f.n = 4 := by decide +kernel
theorem aw2_is : (numG (flatP aw2 0).1).e = 33 ∧ (numG (flatP aw2 0).1).at_ = 7 := by decide +kernel
theorem flatP_all (l : List Int) (o : Int) : (flatP l o).1.all SetOk := by
  have h1 := lexP_ok l o
  have hz : nodeZ.all SetOk := by unfold nodeZ; rw [Node.all, allN]; exact ⟨Nat.zero_le _, trivial⟩
  unfold flatP
  split
  · exact hz
  split
  · exact hz
  · rename_i e1 e2
    have h2 := parse_all (fit_ph (h1.2.1 (by simpa using e1)).2.2) l.length (by simpa using e2)
    exact nodeR_all _ _ _ h2.1
theorem numG_w (n : Node) : (numG n).n.w ≤ n.w ∧ (numG n).names.length ≤ n.w ∧ (n.all SetOk → (numG n).n.all SetOk) := by
  have hz : nodeZ.all SetOk := by unfold nodeZ; rw [Node.all, allN]; exact ⟨Nat.zero_le _, trivial⟩
  have hzw : nodeZ.w = 1 := by decide
  have h1 := w_pos n
  have h2 := nodeG_le n ⟨0, [], 0, 0⟩ (by decide)
  have h3 := nbN_le n 0
  have h4 := numG_is n
  refine ⟨?_, ?_, ?_⟩
  · rw [h4]; unfold numR9; split
    · simp only; omega
    · simp only; omega
  · unfold numG; split
    · simp
    · simp only at h2 ⊢; simp at h2; omega
  · intro ha
    rw [h4]; unfold numR9; split
    · exact hz
    · exact nbN_all n 0 ha
attribute [local irreducible] flatP numG
set_option maxHeartbeats 16000000
theorem awake9_c : VCalls Try.prog 19 [] (fun r => r = bv true) := by
  have hf1 := flat_c aw1 0 (by unfold Bytes; decide)
  have hf2 := flat_c aw2 0 (by unfold Bytes; decide)
  have hw1 := flatP_w aw1 0
  have hw2 := flatP_w aw2 0
  have hn1 := numG_c (flatP aw1 0).1 (by omega) (flatP_all aw1 0)
  have hn2 := numG_c (flatP aw2 0).1 (by omega) (flatP_all aw2 0)
  have ha1 := aw1_is
  have ha2 := aw2_is
  generalize flatP aw1 0 = r1 at *
  generalize flatP aw2 0 = r2 at *
  obtain ⟨⟨f1, k1⟩, b1⟩ := r1
  obtain ⟨⟨f2, k2⟩, b2⟩ := r2
  simp only at *
  generalize numG (.mk f1 k1) = q1 at *
  generalize numG (.mk f2 k2) = q2 at *
  obtain ⟨⟨g1, m1⟩, most1, names1, e1, at1⟩ := q1
  obtain ⟨⟨g2, m2⟩, most2, names2, e2, at2⟩ := q2
  simp only [Node.kids] at *
  obtain ⟨rfl, rfl, hk, hn⟩ := ha1
  obtain ⟨rfl, rfl⟩ := ha2
  have hrl := rowsN_len m1
  obtain ⟨f3, k3, h3⟩ := (rdn m1 2).ex
  rw [h3] at hn
  refine VCalls.ofr tabOk Try.func19 (by decide) rfl rfl ?_
  refine RWP.seqx tabOk orders ?_
  conv => whnf
  refine RWP.seq (RWP.konst aw1 rfl ⟨rfl, rfl, rfl⟩ ⟨rfl, rfl, rfl⟩ rfl rfl rfl (fun a => by kernel_rfl) ?_)
  repeat' ((conv => whnf); (first
    | (with_reducible first | refine Spl.yes ?_ | refine Spl.no ?_ | refine Spl.dec (fun h => ?_) (fun h => ?_) | refine Spl.eq (fun h => ?_) (fun h => ?_) | refine Spl.ne (fun h => ?_) (fun h => ?_) | refine Spl.seq (fun h => ?_) (fun h => ?_) | refine Spl.not ?_ | refine Spl.any (fun h => ?_) (fun h => ?_))
    | (refine VCalls.mono (hf1) ?_; rintro _ rfl)
    | refine And.intro (Nat.le_of_ble_eq_true rfl) ?_
    | ((with_reducible apply And.intro); first | omega | rfl | (dsimp only; omega))))
  all_goals (conv => whnf)
  refine RWP.seqx tabOk orders ?_
  repeat' ((conv => whnf); (first
    | (with_reducible first | refine Spl.yes ?_ | refine Spl.no ?_ | refine Spl.dec (fun h => ?_) (fun h => ?_) | refine Spl.eq (fun h => ?_) (fun h => ?_) | refine Spl.ne (fun h => ?_) (fun h => ?_) | refine Spl.seq (fun h => ?_) (fun h => ?_) | refine Spl.not ?_ | refine Spl.any (fun h => ?_) (fun h => ?_))
    | (refine VCalls.mono (hn1) ?_; rintro _ rfl)
    | refine And.intro (Nat.le_of_ble_eq_true rfl) ?_
    | ((with_reducible apply And.intro); first | omega | rfl | (dsimp only; omega))))
  all_goals (conv => whnf)
  refine RWP.seq (RWP.konst aw2 rfl ⟨rfl, rfl, rfl⟩ ⟨rfl, rfl, rfl⟩ rfl rfl rfl (fun a => by kernel_rfl) ?_)
  repeat' ((conv => whnf); (first
    | (with_reducible first | refine Spl.yes ?_ | refine Spl.no ?_ | refine Spl.dec (fun h => ?_) (fun h => ?_) | refine Spl.eq (fun h => ?_) (fun h => ?_) | refine Spl.ne (fun h => ?_) (fun h => ?_) | refine Spl.seq (fun h => ?_) (fun h => ?_) | refine Spl.not ?_ | refine Spl.any (fun h => ?_) (fun h => ?_))
    | (refine VCalls.mono (hf2) ?_; rintro _ rfl)
    | refine And.intro (Nat.le_of_ble_eq_true rfl) ?_
    | ((with_reducible apply And.intro); first | omega | rfl | (dsimp only; omega))))
  all_goals (conv => whnf)
  refine RWP.of tabOk orders ?_
  repeat' ((conv => whnf); (first
    | (with_reducible first | refine Spl.yes ?_ | refine Spl.no ?_ | refine Spl.dec (fun h => ?_) (fun h => ?_) | refine Spl.eq (fun h => ?_) (fun h => ?_) | refine Spl.ne (fun h => ?_) (fun h => ?_) | refine Spl.seq (fun h => ?_) (fun h => ?_) | refine Spl.not ?_ | refine Spl.any (fun h => ?_) (fun h => ?_))
    | (refine VCalls.mono (hn2) ?_; rintro _ rfl)
    | refine drawn_text (by decide +kernel) ?_
    | (rw [rowsN_get (by omega)])
    | (rw [h3])
    | refine And.intro (Nat.le_of_ble_eq_true rfl) ?_
    | ((with_reducible apply And.intro); first | omega | rfl | (dsimp only; omega))))
  all_goals (conv => whnf)
  all_goals first
    | (exfalso; omega)
    | (exfalso; exact absurd (show f3.n = 4 from hn) (by assumption))
    | (exfalso; exact absurd rfl (by assumption))
    | rfl
theorem says9_c (l : List Int) (o : Int) (hb : Bytes l) : VCalls Try.prog 3 [ys l, iv o] (fun r => r = bv true) := by
  have hf := flat_c l o hb
  have hw := flatP_w l o
  have hal := flatP_all l o
  have hn := numG_c (flatP l o).1 (by omega) hal
  have hn9 := number9_c (flatP l o).1 (by omega)
  rw [← numG_is] at hn9
  have hgw := numG_w (flatP l o).1
  have hsm := same_c (numG (flatP l o).1).n.w (numG (flatP l o).1).n (Nat.le_refl _) (by omega) (hgw.2.2 hal)
  have hpl := places_c (numG (flatP l o).1).n.w (numG (flatP l o).1).n (Nat.le_refl _) (by omega)
  have hs9 := same9_c (numG (flatP l o).1).names (numG (flatP l o).1).names (by omega)
  rw [decide_eq_true rfl] at hs9
  unfold SmC at hsm
  unfold PlC at hpl
  generalize flatP l o = r1 at *
  obtain ⟨⟨f1, k1⟩, b1⟩ := r1
  simp only at *
  generalize numG (.mk f1 k1) = q1 at *
  obtain ⟨⟨g1, m1⟩, most1, names1, e1, at1⟩ := q1
  simp only at *
  refine VCalls.ofr tabOk Try.func3 (by decide) rfl rfl ?_
  refine RWP.of tabOk orders ?_
  repeat' ((conv => whnf); (first
    | (with_reducible first | refine Spl.yes ?_ | refine Spl.no ?_ | refine Spl.dec (fun h => ?_) (fun h => ?_) | refine Spl.eq (fun h => ?_) (fun h => ?_) | refine Spl.ne (fun h => ?_) (fun h => ?_) | refine Spl.seq (fun h => ?_) (fun h => ?_) | refine Spl.not ?_ | refine Spl.any (fun h => ?_) (fun h => ?_))
    | (refine VCalls.mono (awake9_c) ?_; rintro _ rfl)
    | (refine VCalls.mono (hf) ?_; rintro _ rfl)
    | (refine VCalls.mono (hn) ?_; rintro _ rfl)
    | (refine VCalls.mono (hn9) ?_; rintro _ rfl)
    | (refine VCalls.mono (hsm) ?_; rintro _ rfl)
    | (refine VCalls.mono (hpl) ?_; rintro _ rfl)
    | (refine VCalls.mono (hs9) ?_; rintro _ rfl)
    | refine And.intro (Nat.le_of_ble_eq_true rfl) ?_
    | ((with_reducible apply And.intro); first | omega | rfl | (dsimp only; omega))))
  all_goals (conv => whnf)
  all_goals first
    | (exfalso; exact absurd rfl (by assumption))
    | rfl
    | (simp only [beq_self_eq_true]; rfl)
end Go.Proofs.Ytnoohgiecnmajaa.VC

/- The laws of groups: GroupsShift. -/
namespace Go.Proofs.Ytnoohgiecnmajaa.VC
open Go Go.RowKit
set_option linter.unusedVariables false
set_option linter.unusedSimpArgs false
set_option maxHeartbeats 4000000

/-- The trees of a pattern alone and behind groups of their own. -/
theorem flat_shift {l : List Int} {o : Int} {k : Nat} (hb : Bytes l) (hl : l.length ≤ 800) (h1 : (flatP l o).2 = true) (h2 : (flatP (shiftL k l) o).2 = true) :
    capD (flatP (shiftL k l) o).1 0 = (zcs k 0 ++ (capD (flatP l o).1 (0 + k)).1, (capD (flatP l o).1 (0 + k)).2) := by
  have ok : ∀ m : List Int, (flatP m o).2 = true → (lexP m o).e = 0 ∧ (parseP (lexP m o).toks m.length).e = 0 ∧ (flatP m o).1 = resolveP (parseP (lexP m o).toks m.length).n o := by
    intro m h
    unfold flatP at h ⊢
    by_cases c1 : (lexP m o).e ≠ 0
    · rw [if_pos c1] at h; cases h
    rw [if_neg c1] at h ⊢
    by_cases c2 : (parseP (lexP m o).toks m.length).e ≠ 0
    · rw [if_pos c2] at h; cases h
    rw [if_neg c2]
    exact ⟨by simpa using c1, by simpa using c2, rfl⟩
  obtain ⟨a1, a2, a3⟩ := ok l h1
  obtain ⟨b1, b2, b3⟩ := ok (shiftL k l) h2
  have m1 := ((parse_may l o a1).1 a2).1
  have m2 := ((parse_may (shiftL k l) o b1).1 b2).1
  rw [a3, b3]
  unfold resolveP
  rw [capD_res _ _ _ _ m1, capD_res _ _ _ _ m2]
  rw [← runS_parse (lexP_tokS l o)] at a2 ⊢
  rw [← runS_parse (lexP_tokS (shiftL k l) o)] at b2 ⊢
  obtain ⟨d, t0, E, e1, e2, e3, e4⟩ := lex_shift hb hl a1 b1
  rw [e1] at b2 ⊢
  rcases run_shift (en' := ((shiftL k l).length : Int)) (d := d) (k := k) a2 e2 e3 e4 with h | h
  · exact absurd b2 h
  · exact h.2 0
set_option maxHeartbeats 16000000
theorem shift9_c (l : List Int) (o k : Int) (hb : Bytes l) : VCalls Try.prog 7 [ys l, iv o, iv k] (fun r => r = bv true) := by
  have hbl := byteRows_len l
  have hnl := nums_strOf hb
  have hsl : (strOfNums l).size = l.length := strOf_size l
  refine VCalls.ofr tabOk Try.func7 (by decide) rfl rfl ?_
  refine RWP.seqx tabOk orders ?_
  conv => whnf
  refine RWP.seqx tabOk orders ?_
  repeat' ((conv => whnf); (first
    | (with_reducible first | refine Spl.yes ?_ | refine Spl.no ?_ | refine Spl.dec (fun h => ?_) (fun h => ?_) | refine Spl.eq (fun h => ?_) (fun h => ?_) | refine Spl.ne (fun h => ?_) (fun h => ?_) | refine Spl.seq (fun h => ?_) (fun h => ?_) | refine Spl.not ?_ | refine Spl.any (fun h => ?_) (fun h => ?_))
    | (refine VCalls.mono (awake9_c) ?_; rintro _ rfl)
    | ((with_reducible apply And.intro); first | omega | rfl | (dsimp only; omega))))
  all_goals (conv => whnf)
  refine RWP.seqx tabOk orders ?_
  repeat' ((conv => whnf); (first
    | (with_reducible first | refine Spl.yes ?_ | refine Spl.no ?_ | refine Spl.dec (fun h => ?_) (fun h => ?_) | refine Spl.eq (fun h => ?_) (fun h => ?_) | refine Spl.ne (fun h => ?_) (fun h => ?_) | refine Spl.seq (fun h => ?_) (fun h => ?_) | refine Spl.not ?_ | refine Spl.any (fun h => ?_) (fun h => ?_))
    | ((with_reducible apply And.intro); first | omega | rfl | (dsimp only; omega))))
  all_goals (conv => whnf)
  refine RWP.seqx tabOk orders ?_
  repeat' ((conv => whnf); (first
    | (with_reducible first | refine Spl.yes ?_ | refine Spl.no ?_ | refine Spl.dec (fun h => ?_) (fun h => ?_) | refine Spl.eq (fun h => ?_) (fun h => ?_) | refine Spl.ne (fun h => ?_) (fun h => ?_) | refine Spl.seq (fun h => ?_) (fun h => ?_) | refine Spl.not ?_ | refine Spl.any (fun h => ?_) (fun h => ?_))
    | ((with_reducible apply And.intro); first | omega | rfl | (dsimp only; omega))))
  all_goals (conv => whnf)
  all_goals (try exact rfl)
  have hll : l.length ≤ 800 := by omega
  have hf := flat_c l o hb
  have hw := flatP_w l o
  have hal := flatP_all l o
  have hn := numG_c (flatP l o).1 (by omega) hal
  have hgw := numG_w (flatP l o).1
  have hnm := nums_c (numG (flatP l o).1).n.w (numG (flatP l o).1).n (Nat.le_refl _) (by omega)
  have hcl := capsN_len (numG (flatP l o).1).n
  have hb0 := nbN_le (flatP l o).1 0
  have hf2 := flat_c (shiftL k.toNat l) o (shiftL_bytes hb)
  have hw2 := flatP_w (shiftL k.toNat l) o
  have hal2 := flatP_all (shiftL k.toNat l) o
  have hn2 := numG_c (flatP (shiftL k.toNat l) o).1 (by omega) hal2
  have hgw2 := numG_w (flatP (shiftL k.toNat l) o).1
  have hnm2 := nums_c (numG (flatP (shiftL k.toNat l) o).1).n.w (numG (flatP (shiftL k.toNat l) o).1).n (Nat.le_refl _) (by omega)
  have hcl2 := capsN_len (numG (flatP (shiftL k.toNat l) o).1).n
  have hsh := fun h1 h2 he => num_shift (N := (flatP l o).1) (M := (flatP (shiftL k.toNat l) o).1) (k := k.toNat) (by omega) (flat_shift hb hll h1 h2) he
  have hmost : (numG (flatP l o).1).most ≤ 20000 ∧ 0 ≤ (numG (flatP l o).1).most := by
    rw [numG_is]
    unfold numR9
    split
    · exact ⟨by show (0 : Int) ≤ 20000; decide, by show (0 : Int) ≤ 0; decide⟩
    · show (nbN (flatP l o).1 0).2 ≤ 20000 ∧ 0 ≤ (nbN (flatP l o).1 0).2
      omega
  have hxr : ∀ x ∈ numsC (capsN (numG (flatP l o).1).n), 0 ≤ x ∧ x ≤ 20000 := by
    intro x hx
    rw [numG_is] at hx
    unfold numR9 at hx
    split at hx
    · exfalso
      have hz : capsN nodeZ = [] := by
        unfold nodeZ
        rw [capsN, if_neg (by decide)]
        rfl
      simp only at hx
      rw [hz] at hx
      simp [numsC] at hx
    · have := (rise_N (flatP l o).1 0 x).2 hx
      omega
  unfold NumsC at hnm hnm2
  clear hal hal2 hb0 hw hw2
  have hw1 : (numG (flatP l o).1).names.length ≤ 20000 ∧ (numG (flatP l o).1).n.w ≤ 20000 := by have := flatP_w l o; omega
  have hw3 : (numG (flatP (shiftL k.toNat l) o).1).names.length ≤ 20000 ∧ (numG (flatP (shiftL k.toNat l) o).1).n.w ≤ 20000 := by have := flatP_w (shiftL k.toNat l) o; omega
  clear hgw hgw2
  generalize flatP l o = r1 at *
  generalize flatP (shiftL k.toNat l) o = r2 at *
  obtain ⟨⟨f1, k1⟩, b1⟩ := r1
  obtain ⟨⟨f2, k2⟩, b2⟩ := r2
  simp only at *
  generalize numG (.mk f1 k1) = q1 at *
  generalize numG (.mk f2 k2) = q2 at *
  obtain ⟨⟨g1, m1⟩, most1, names1, e1, at1⟩ := q1
  obtain ⟨⟨g2, m2⟩, most2, names2, e2, at2⟩ := q2
  simp only at *
  have hx1 : (numsC (capsN (.mk g1 m1))).length ≤ 20000 := by unfold numsC; rw [List.length_map]; omega
  have hx2 : (numsC (capsN (.mk g2 m2))).length ≤ 20000 := by unfold numsC; rw [List.length_map]; omega
  generalize numsC (capsN (.mk g1 m1)) = xs at *
  generalize numsC (capsN (.mk g2 m2)) = zs at *
  have hrl1 := rowsM_len names1
  have hrl2 := rowsM_len names2
  have hxl := rows1_len xs
  have hzl := rows1_len zs
  refine RWP.seqx tabOk orders ?_
  repeat' ((conv => whnf); (first
    | (with_reducible first | refine Spl.yes ?_ | refine Spl.no ?_ | refine Spl.dec (fun h => ?_) (fun h => ?_) | refine Spl.eq (fun h => ?_) (fun h => ?_) | refine Spl.ne (fun h => ?_) (fun h => ?_) | refine Spl.seq (fun h => ?_) (fun h => ?_) | refine Spl.not ?_ | refine Spl.any (fun h => ?_) (fun h => ?_))
    | (refine VCalls.mono (hf) ?_; rintro _ rfl)
    | refine And.intro (Nat.le_of_ble_eq_true rfl) ?_
    | ((with_reducible apply And.intro); first | omega | rfl | (dsimp only; omega))))
  all_goals (conv => whnf)
  refine RWP.seqx tabOk orders ?_
  conv => whnf
  refine RWP.cutr (fun st => ∃ s, st = ⟨152, [(0, .pv (ys l)), (1, .pv (iv o)), (2, .pv (iv k)), (6, .pv (bv false)), (8, .ptr 8 0), (9, .pv (bv b1)), (10, .pv (sv s))], [(8, (27, nfe f1 k1))], [], []⟩ ∧ numsOf s = rep k.toNat [40, 122, 41]) ?_ ?_
  · refine RWP.seqx tabOk orders ?_
    conv => whnf
    refine RWP.block ?_
    refine RWP.loop (fun n st => ∃ (i : Int) (s : ByteArray), st = ⟨152, [(0, .pv (ys l)), (1, .pv (iv o)), (2, .pv (iv k)), (6, .pv (bv false)), (8, .ptr 8 0), (9, .pv (bv b1)), (10, .pv (sv s)), (11, .pv (iv i))], [(8, (27, nfe f1 k1))], [], []⟩ ∧ 0 ≤ i ∧ i ≤ k ∧ n = (k - i).toNat ∧ numsOf s = rep i.toNat [40, 122, 41])
      ⟨_, _, Wk.narrow _ [0, 1, 2, 6, 8, 9, 10, 11] [8] [], 0, bs [], rfl, by omega, by omega, rfl, rfl⟩ ?_
    rintro n st ⟨i, s, rfl, hi0, hi1, hk, hs⟩
    have hls : s.size ≤ 1000 := by
      have h1 := congrArg List.length hs
      rw [numsOf_len, rep_len] at h1
      simp at h1
      omega
    have hsz : s.size + (bs [40, 122, 41]).size ≤ 9223372036854775807 := by show s.size + 3 ≤ _; omega
    refine RWP.seqx tabOk orders ?_
    repeat' ((conv => whnf); (first
    | (with_reducible first | refine Spl.yes ?_ | refine Spl.no ?_ | refine Spl.dec (fun h => ?_) (fun h => ?_) | refine Spl.eq (fun h => ?_) (fun h => ?_) | refine Spl.ne (fun h => ?_) (fun h => ?_) | refine Spl.seq (fun h => ?_) (fun h => ?_) | refine Spl.not ?_ | refine Spl.any (fun h => ?_) (fun h => ?_))
    | ((with_reducible apply And.intro); first | omega | rfl | (dsimp only; omega))))
    all_goals (conv => whnf)
    rotate_left
    · exact ⟨_, Wk.narrow _ [0, 1, 2, 6, 8, 9, 10] [8] [], s, rfl, by rw [hs, show i = k by omega]⟩
    refine RWP.of tabOk orders ?_
    repeat' ((conv => whnf); (first
    | (with_reducible first | refine Spl.yes ?_ | refine Spl.no ?_ | refine Spl.dec (fun h => ?_) (fun h => ?_) | refine Spl.eq (fun h => ?_) (fun h => ?_) | refine Spl.ne (fun h => ?_) (fun h => ?_) | refine Spl.seq (fun h => ?_) (fun h => ?_) | refine Spl.not ?_ | refine Spl.any (fun h => ?_) (fun h => ?_))
    | refine And.intro hsz ?_
    | ((with_reducible apply And.intro); first | omega | rfl | (dsimp only; omega))))
    all_goals (conv => whnf)
    all_goals exact ⟨(k - (i + 1)).toNat, _, by omega, Wk.narrow _ [0, 1, 2, 6, 8, 9, 10, 11] [8] [], i + 1, s ++ bs [40, 122, 41], rfl, by omega, by omega, rfl, by rw [nums_app, hs, show (i + 1).toNat = i.toNat + 1 by omega, rep_snoc]; rfl⟩
  rintro _ ⟨s, rfl, hs⟩
  have hls : s.size ≤ 60 := by
    have h1 := congrArg List.length hs
    rw [numsOf_len, rep_len] at h1
    simp at h1
    omega
  have hbig : numsOf (s ++ bs [40, 63, 58] ++ strOfNums l ++ bs [10, 41]) = shiftL k.toNat l := by
    rw [nums_app, nums_app, nums_app, hs, hnl]
    unfold shiftL
    simp only [List.append_assoc]
    rfl
  rw [← hbig] at hf2
  have sz1 : s.size + (bs [40, 63, 58]).size ≤ 9223372036854775807 := by show s.size + 3 ≤ _; omega
  have sz2 : (s ++ bs [40, 63, 58]).size + (strOfNums l).size ≤ 9223372036854775807 := by
    rw [ByteArray.size_append, hsl]
    show s.size + 3 + l.length ≤ _
    omega
  have sz3 : (s ++ bs [40, 63, 58] ++ strOfNums l).size + (bs [10, 41]).size ≤ 9223372036854775807 := by
    rw [ByteArray.size_append, ByteArray.size_append, hsl]
    show s.size + 3 + l.length + 2 ≤ _
    omega
  refine RWP.seqx tabOk orders ?_
  repeat' ((conv => whnf); (first
    | (with_reducible first | refine Spl.yes ?_ | refine Spl.no ?_ | refine Spl.dec (fun h => ?_) (fun h => ?_) | refine Spl.eq (fun h => ?_) (fun h => ?_) | refine Spl.ne (fun h => ?_) (fun h => ?_) | refine Spl.seq (fun h => ?_) (fun h => ?_) | refine Spl.not ?_ | refine Spl.any (fun h => ?_) (fun h => ?_))
    | (refine VCalls.mono (hf2) ?_; rintro _ rfl)
    | refine ⟨l, rfl, ?_⟩
    | refine And.intro sz1 ?_
    | refine And.intro sz2 ?_
    | refine And.intro sz3 ?_
    | refine And.intro (Nat.le_of_ble_eq_true rfl) ?_
    | ((with_reducible apply And.intro); first | omega | rfl | (dsimp only; omega))))
  all_goals (conv => whnf)
  refine RWP.seqx tabOk orders ?_
  repeat' ((conv => whnf); (first
    | (with_reducible first | refine Spl.yes ?_ | refine Spl.no ?_ | refine Spl.dec (fun h => ?_) (fun h => ?_) | refine Spl.eq (fun h => ?_) (fun h => ?_) | refine Spl.ne (fun h => ?_) (fun h => ?_) | refine Spl.seq (fun h => ?_) (fun h => ?_) | refine Spl.not ?_ | refine Spl.any (fun h => ?_) (fun h => ?_))
    | ((with_reducible apply And.intro); first | omega | rfl | (dsimp only; omega))))
  all_goals (conv => whnf)
  all_goals (try exact rfl)
  have hb1 : b1 = true := by assumption
  have hb2 : b2 = true := by assumption
  have hsh := hsh hb1 hb2
  refine RWP.seqx tabOk orders ?_
  repeat' ((conv => whnf); (first
    | (with_reducible first | refine Spl.yes ?_ | refine Spl.no ?_ | refine Spl.dec (fun h => ?_) (fun h => ?_) | refine Spl.eq (fun h => ?_) (fun h => ?_) | refine Spl.ne (fun h => ?_) (fun h => ?_) | refine Spl.seq (fun h => ?_) (fun h => ?_) | refine Spl.not ?_ | refine Spl.any (fun h => ?_) (fun h => ?_))
    | (refine VCalls.mono (hn) ?_; rintro _ rfl)
    | refine And.intro (Nat.le_of_ble_eq_true rfl) ?_
    | ((with_reducible apply And.intro); first | omega | rfl | (dsimp only; omega))))
  all_goals (conv => whnf)
  refine RWP.seqx tabOk orders ?_
  repeat' ((conv => whnf); (first
    | (with_reducible first | refine Spl.yes ?_ | refine Spl.no ?_ | refine Spl.dec (fun h => ?_) (fun h => ?_) | refine Spl.eq (fun h => ?_) (fun h => ?_) | refine Spl.ne (fun h => ?_) (fun h => ?_) | refine Spl.seq (fun h => ?_) (fun h => ?_) | refine Spl.not ?_ | refine Spl.any (fun h => ?_) (fun h => ?_))
    | (refine VCalls.mono (hn2) ?_; rintro _ rfl)
    | refine And.intro (Nat.le_of_ble_eq_true rfl) ?_
    | ((with_reducible apply And.intro); first | omega | rfl | (dsimp only; omega))))
  all_goals (conv => whnf)
  by_cases he1 : e1 = 0
  rotate_left
  · refine RWP.seqx tabOk orders ?_
    repeat' ((conv => whnf); (first
    | (with_reducible first | refine Spl.yes ?_ | refine Spl.no ?_ | refine Spl.dec (fun h => ?_) (fun h => ?_) | refine Spl.eq (fun h => ?_) (fun h => ?_) | refine Spl.ne (fun h => ?_) (fun h => ?_) | refine Spl.seq (fun h => ?_) (fun h => ?_) | refine Spl.not ?_ | refine Spl.any (fun h => ?_) (fun h => ?_))
    | (exfalso; exact he1 (by assumption))
    | ((with_reducible apply And.intro); first | omega | rfl | (dsimp only; omega))))
    all_goals (conv => whnf)
    all_goals first
      | rfl
      | (exfalso; exact he1 (by assumption))
  rcases hsh he1 with he2 | ⟨he2, hm, hnm0, hzx, hzi⟩
  · refine RWP.seqx tabOk orders ?_
    repeat' ((conv => whnf); (first
    | (with_reducible first | refine Spl.yes ?_ | refine Spl.no ?_ | refine Spl.dec (fun h => ?_) (fun h => ?_) | refine Spl.eq (fun h => ?_) (fun h => ?_) | refine Spl.ne (fun h => ?_) (fun h => ?_) | refine Spl.seq (fun h => ?_) (fun h => ?_) | refine Spl.not ?_ | refine Spl.any (fun h => ?_) (fun h => ?_))
    | ((with_reducible apply And.intro); first | omega | rfl | (dsimp only; omega))))
    all_goals (conv => whnf)
    all_goals first
      | rfl
      | (exfalso; exact absurd he1 (by assumption))
      | (exfalso
         have hh : e2 = 0 := by assumption
         omega)
      | exact congrArg bv (beq_iff_eq.2 he2)
  refine RWP.seqx tabOk orders ?_
  repeat' ((conv => whnf); (first
    | (with_reducible first | refine Spl.yes ?_ | refine Spl.no ?_ | refine Spl.dec (fun h => ?_) (fun h => ?_) | refine Spl.eq (fun h => ?_) (fun h => ?_) | refine Spl.ne (fun h => ?_) (fun h => ?_) | refine Spl.seq (fun h => ?_) (fun h => ?_) | refine Spl.not ?_ | refine Spl.any (fun h => ?_) (fun h => ?_))
    | ((with_reducible apply And.intro); first | omega | rfl | (dsimp only; omega))))
  all_goals (conv => whnf)
  all_goals (try (exfalso; first | exact absurd he1 (by assumption) | exact absurd he2 (by assumption)))
  refine RWP.seqx tabOk orders ?_
  repeat' ((conv => whnf); (first
    | (with_reducible first | refine Spl.yes ?_ | refine Spl.no ?_ | refine Spl.dec (fun h => ?_) (fun h => ?_) | refine Spl.eq (fun h => ?_) (fun h => ?_) | refine Spl.ne (fun h => ?_) (fun h => ?_) | refine Spl.seq (fun h => ?_) (fun h => ?_) | refine Spl.not ?_ | refine Spl.any (fun h => ?_) (fun h => ?_))
    | (refine VCalls.mono (hnm) ?_; rintro _ rfl)
    | refine And.intro (Nat.le_of_ble_eq_true rfl) ?_
    | ((with_reducible apply And.intro); first | omega | rfl | (dsimp only; omega))))
  all_goals (conv => whnf)
  refine RWP.seqx tabOk orders ?_
  repeat' ((conv => whnf); (first
    | (with_reducible first | refine Spl.yes ?_ | refine Spl.no ?_ | refine Spl.dec (fun h => ?_) (fun h => ?_) | refine Spl.eq (fun h => ?_) (fun h => ?_) | refine Spl.ne (fun h => ?_) (fun h => ?_) | refine Spl.seq (fun h => ?_) (fun h => ?_) | refine Spl.not ?_ | refine Spl.any (fun h => ?_) (fun h => ?_))
    | (refine VCalls.mono (hnm2) ?_; rintro _ rfl)
    | refine And.intro (Nat.le_of_ble_eq_true rfl) ?_
    | ((with_reducible apply And.intro); first | omega | rfl | (dsimp only; omega))))
  all_goals (conv => whnf)
  refine RWP.seqx tabOk orders ?_
  repeat' ((conv => whnf); (first
    | (with_reducible first | refine Spl.yes ?_ | refine Spl.no ?_ | refine Spl.dec (fun h => ?_) (fun h => ?_) | refine Spl.eq (fun h => ?_) (fun h => ?_) | refine Spl.ne (fun h => ?_) (fun h => ?_) | refine Spl.seq (fun h => ?_) (fun h => ?_) | refine Spl.not ?_ | refine Spl.any (fun h => ?_) (fun h => ?_))
    | ((with_reducible apply And.intro); first | omega | rfl | (dsimp only; omega))))
  all_goals (conv => whnf)
  · exfalso; omega
  · exfalso
    have hh : most2 ≠ most1 + k := by assumption
    omega
  · exfalso
    have hh : ((rowsM names2).length : Int) ≠ (rowsM names1).length := by assumption
    omega
  have hkk : (k.toNat : Int) = k := by omega
  rw [hkk] at hzi
  refine RWP.weak (Wk.narrow _ [2, 6, 24, 25] [] []) ?_
  refine RWP.seq ?_
  refine RWP.seqx tabOk orders ?_
  conv => whnf
  refine RWP.block ?_
  refine RWP.loop (fun n st => ∃ (j : Int), st = ⟨152, [(2, .pv (iv k)), (6, .pv (bv false)), (24, .pv (is xs)), (25, .pv (is zs)), (26, .pv (iv j))], [], [], []⟩ ∧ 0 ≤ j ∧ j ≤ xs.length ∧ n = (xs.length - j).toNat)
    ⟨_, _, Wk.narrow _ [2, 6, 24, 25, 26] [] [], 0, rfl, by omega, by omega, rfl⟩ ?_
  rintro n st ⟨j, rfl, hj0, hj1, hn9⟩
  refine RWP.seqx tabOk orders ?_
  repeat' ((conv => whnf); (first
    | (with_reducible first | refine Spl.yes ?_ | refine Spl.no ?_ | refine Spl.dec (fun h => ?_) (fun h => ?_) | refine Spl.eq (fun h => ?_) (fun h => ?_) | refine Spl.ne (fun h => ?_) (fun h => ?_) | refine Spl.seq (fun h => ?_) (fun h => ?_) | refine Spl.not ?_ | refine Spl.any (fun h => ?_) (fun h => ?_))
    | ((with_reducible apply And.intro); first | omega | rfl | (dsimp only; omega))))
  all_goals (conv => whnf)
  rotate_left
  · refine RWP.of tabOk orders ?_
    conv => whnf
    rfl
  have hz := hzi j hj0 (by omega)
  have hxj := hxr (rd1 xs j) (by
    unfold rd1
    rw [List.getD_eq_getElem?_getD, List.getElem?_eq_getElem (by omega)]
    exact List.getElem_mem _)
  refine RWP.of tabOk orders ?_
  repeat' ((conv => whnf); (first
    | (with_reducible first | refine Spl.yes ?_ | refine Spl.no ?_ | refine Spl.dec (fun h => ?_) (fun h => ?_) | refine Spl.eq (fun h => ?_) (fun h => ?_) | refine Spl.ne (fun h => ?_) (fun h => ?_) | refine Spl.seq (fun h => ?_) (fun h => ?_) | refine Spl.not ?_ | refine Spl.any (fun h => ?_) (fun h => ?_))
    | refine drawn_text (by decide +kernel) ?_
    | (rw [rows1_get (l := zs) (by omega)])
    | (rw [rows1_get (l := xs) (by omega)])
    | refine And.intro (Nat.le_of_ble_eq_true rfl) ?_
    | ((with_reducible apply And.intro); first | omega | rfl | (dsimp only; omega))))
  all_goals (conv => whnf)
  all_goals first
    | exact ⟨(xs.length - (j + 1)).toNat, _, by omega, Wk.narrow _ [2, 6, 24, 25, 26] [] [], j + 1, rfl, by omega, by omega, rfl⟩
    | exact absurd hz (by assumption)
end Go.Proofs.Ytnoohgiecnmajaa.VC

/- From a contract on bytes and options to the form that a row asks. -/
namespace Go.Proofs.Ytnoohgiecnmajaa.VC
open Go Go.RowKit
set_option linter.unusedVariables false
set_option linter.unusedSimpArgs false
set_option maxHeartbeats 4000000

theorem rows_of_cells {w : World} {b : Nat} : ∀ (l : List Int) (off : Nat), (∀ i, i < l.length → w.cell? ⟨b, off + i, none⟩ = some (.int .u8 (l.getD i 0))) → Rows (fun _ _ => False) w b 1 off (byteRows l)
  | [], off, h => by simp [byteRows, Rows]
  | c :: l, off, h => by
    have h0 := h 0 (by simp)
    simp only [byteRows, List.map_cons, Rows, Cells, and_true]
    refine ⟨rfl, ⟨_, by simpa using h0, fun h => h, rfl, rfl⟩, ?_⟩
    refine rows_of_cells l (off + 1) (fun i hi => ?_)
    have := h (i + 1) (by simp; omega)
    rw [show off + 1 + i = off + (i + 1) by omega, this]
    simp
theorem calls_row {f : FuncId} (h : ∀ l o, Bytes l → VCalls Try.prog f [ys l, iv o] (fun r => r = bv true)) (a : Option Addr) (len cap : Nat) (z : List Int) (o : Int) (W : World)
    (hz : (a = none ∧ len = 0 ∧ cap = 0 ∧ z = []) ∨ ∃ x, a = some x ∧ len ≤ cap ∧ cap ≤ maxLen ∧ z.length = cap ∧ (∀ i, i < z.length → W.cell? (x.add i) = some (.int .u8 (z.getD i 0))) ∧ ∀ n ∈ z, (Lit.int .u8 n).wf = true) :
    Calls Try.prog f #[.slice a len cap, .int .i64 o] W (fun e W' => e = .returned (.bool true) ∧ Below W.heap.size W W') := by
  have hb : Bytes (z.take len) := by
    intro n hn
    have hn := List.mem_of_mem_take hn
    rcases hz with ⟨_, _, _, rfl⟩ | ⟨x, _, _, _, _, _, hw⟩
    · simp at hn
    · have := hw n hn
      simp only [Lit.wf, Bool.and_eq_true, decide_eq_true_eq] at this
      exact ⟨this.1, this.2⟩
  have hlen : (byteRows (z.take len)).length = len := by
    rcases hz with ⟨_, rfl, _, rfl⟩ | ⟨x, _, h1, _, h2, _⟩
    · simp [byteRows]
    · simp [byteRows]; omega
  have hvr : VR (fun _ _ => False) W (ys (z.take len)) (.slice a len cap) := by
    simp only [VR]
    refine ⟨a, cap, by rw [hlen], ?_, ?_⟩
    · rw [hlen]
      rcases hz with ⟨_, rfl, rfl, _⟩ | ⟨x, _, h1, _⟩
      · exact Nat.le_refl _
      · exact h1
    · rcases hz with ⟨rfl, rfl, rfl, rfl⟩ | ⟨x, rfl, h1, h2, h3, h4, h5⟩
      · exact .inl (by simp [byteRows])
      · by_cases e : len = 0
        · exact .inl (by subst e; simp [byteRows])
        · obtain ⟨b, off, spot⟩ := x
          have h40 := h4 0 (by omega)
          have hs : spot = none := by
            cases spot with
            | none => rfl
            | some s =>
              exfalso
              have hn : W.cell? ⟨b, off, some s⟩ = none := by
                unfold World.cell?
                split
                · simp
                · rfl
              have ha : (⟨b, off, some s⟩ : Addr).add 0 = ⟨b, off, some s⟩ := by unfold Addr.add; rw [if_pos rfl]
              rw [ha, hn] at h40
              cases h40
          subst hs
          refine .inr ⟨b, off, rfl, rows_of_cells _ _ (fun i hi => ?_)⟩
          rw [List.length_take] at hi
          have := h4 i (by omega)
          have hadd : (⟨b, off, none⟩ : Addr).add i = ⟨b, off + i, none⟩ := by
            unfold Addr.add
            split
            · rename_i e0; subst e0; rfl
            · rfl
          rw [hadd] at this
          rw [this]
          simp [List.getD_eq_getElem?_getD, List.getElem?_take, show i < len by omega]
  refine ((h (z.take len) o hb).calls (fun _ _ => False) W [.slice a len cap, .int .i64 o] (fun _ _ hf => hf.elim) ?_).mono fun e W' ⟨v, r, k1, k2, k3, k4⟩ => ?_
  · simp only [VRs]
    exact ⟨_, _, rfl, hvr, _, _, rfl, rfl, rfl⟩
  · subst k4
    have k3 : v = .bool true := k3
    subst k3
    exact ⟨k1, k2⟩
end Go.Proofs.Ytnoohgiecnmajaa.VC

/- From contracts on bytes and numbers to the forms that rows ask. -/
namespace Go.Proofs.Ytnoohgiecnmajaa.VC
open Go Go.RowKit
set_option linter.unusedVariables false
set_option linter.unusedSimpArgs false
set_option maxHeartbeats 4000000

theorem bytes_in (a : Option Addr) (len cap : Nat) (z : List Int) (W : World) (hz : ((a = none ∧ len = 0 ∧ cap = 0 ∧ z = []) ∨ ∃ x, a = some x ∧ len ≤ cap ∧ cap ≤ maxLen ∧ z.length = cap ∧ (∀ i, i < z.length → W.cell? (x.add i) = some (.int .u8 (z.getD i 0))) ∧ ∀ n ∈ z, (Lit.int .u8 n).wf = true)) :
    Bytes (z.take len) ∧ VR (fun _ _ => False) W (ys (z.take len)) (.slice a len cap) := by
  have hb : Bytes (z.take len) := by
    intro n hn
    have hn := List.mem_of_mem_take hn
    rcases hz with ⟨_, _, _, rfl⟩ | ⟨x, _, _, _, _, _, hw⟩
    · simp at hn
    · have := hw n hn
      simp only [Lit.wf, Bool.and_eq_true, decide_eq_true_eq] at this
      exact ⟨this.1, this.2⟩
  have hlen : (byteRows (z.take len)).length = len := by
    rcases hz with ⟨_, rfl, _, rfl⟩ | ⟨x, _, h1, _, h2, _⟩
    · simp [byteRows]
    · simp [byteRows]; omega
  have hvr : VR (fun _ _ => False) W (ys (z.take len)) (.slice a len cap) := by
    simp only [VR]
    refine ⟨a, cap, by rw [hlen], ?_, ?_⟩
    · rw [hlen]
      rcases hz with ⟨_, rfl, rfl, _⟩ | ⟨x, _, h1, _⟩
      · exact Nat.le_refl _
      · exact h1
    · rcases hz with ⟨rfl, rfl, rfl, rfl⟩ | ⟨x, rfl, h1, h2, h3, h4, h5⟩
      · exact .inl (by simp [byteRows])
      · by_cases e : len = 0
        · exact .inl (by subst e; simp [byteRows])
        · obtain ⟨b, off, spot⟩ := x
          have h40 := h4 0 (by omega)
          have hs : spot = none := by
            cases spot with
            | none => rfl
            | some s =>
              exfalso
              have hn : W.cell? ⟨b, off, some s⟩ = none := by
                unfold World.cell?
                split
                · simp
                · rfl
              have ha : (⟨b, off, some s⟩ : Addr).add 0 = ⟨b, off, some s⟩ := by unfold Addr.add; rw [if_pos rfl]
              rw [ha, hn] at h40
              cases h40
          subst hs
          refine .inr ⟨b, off, rfl, rows_of_cells _ _ (fun i hi => ?_)⟩
          rw [List.length_take] at hi
          have := h4 i (by omega)
          have hadd : (⟨b, off, none⟩ : Addr).add i = ⟨b, off + i, none⟩ := by
            unfold Addr.add
            split
            · rename_i e0; subst e0; rfl
            · rfl
          rw [hadd] at this
          rw [this]
          simp [List.getD_eq_getElem?_getD, List.getElem?_take, show i < len by omega]
  exact ⟨hb, hvr⟩
theorem rows_of_ints {w : World} {b : Nat} : ∀ (l : List Int) (off : Nat), (∀ i, i < l.length → w.cell? ⟨b, off + i, none⟩ = some (.int .i64 (l.getD i 0))) → Rows (fun _ _ => False) w b 1 off (rows1 l)
  | [], off, h => by simp [rows1, Rows]
  | c :: l, off, h => by
    have h0 := h 0 (by simp)
    simp only [rows1, List.map_cons, Rows, Cells, and_true]
    refine ⟨rfl, ⟨_, by simpa using h0, fun h => h, rfl, rfl⟩, ?_⟩
    refine rows_of_ints l (off + 1) (fun i hi => ?_)
    have := h (i + 1) (by simp; omega)
    rw [show off + 1 + i = off + (i + 1) by omega, this]
    simp
theorem ints_in (a : Option Addr) (len cap : Nat) (z : List Int) (W : World) (hz : ((a = none ∧ len = 0 ∧ cap = 0 ∧ z = []) ∨ ∃ x, a = some x ∧ len ≤ cap ∧ cap ≤ maxLen ∧ z.length = cap ∧ (∀ i, i < z.length → W.cell? (x.add i) = some (.int .i64 (z.getD i 0))) ∧ ∀ n ∈ z, (Lit.int .i64 n).wf = true)) :
    (∀ x ∈ z.take len, -9223372036854775808 ≤ x ∧ x ≤ 9223372036854775807) ∧ VR (fun _ _ => False) W (is (z.take len)) (.slice a len cap) := by
  have hb : ∀ x ∈ z.take len, -9223372036854775808 ≤ x ∧ x ≤ 9223372036854775807 := by
    intro n hn
    have hn := List.mem_of_mem_take hn
    rcases hz with ⟨_, _, _, rfl⟩ | ⟨x, _, _, _, _, _, hw⟩
    · simp at hn
    · have := hw n hn
      simp only [Lit.wf, Bool.and_eq_true, decide_eq_true_eq] at this
      exact ⟨this.1, this.2⟩
  have hlen : (rows1 (z.take len)).length = len := by
    rcases hz with ⟨_, rfl, _, rfl⟩ | ⟨x, _, h1, _, h2, _⟩
    · simp [rows1]
    · simp [rows1]; omega
  have hvr : VR (fun _ _ => False) W (is (z.take len)) (.slice a len cap) := by
    simp only [VR]
    refine ⟨a, cap, by rw [hlen], ?_, ?_⟩
    · rw [hlen]
      rcases hz with ⟨_, rfl, rfl, _⟩ | ⟨x, _, h1, _⟩
      · exact Nat.le_refl _
      · exact h1
    · rcases hz with ⟨rfl, rfl, rfl, rfl⟩ | ⟨x, rfl, h1, h2, h3, h4, h5⟩
      · exact .inl (by simp [rows1])
      · by_cases e : len = 0
        · exact .inl (by subst e; simp [rows1])
        · obtain ⟨b, off, spot⟩ := x
          have h40 := h4 0 (by omega)
          have hs : spot = none := by
            cases spot with
            | none => rfl
            | some s =>
              exfalso
              have hn : W.cell? ⟨b, off, some s⟩ = none := by
                unfold World.cell?
                split
                · simp
                · rfl
              have ha : (⟨b, off, some s⟩ : Addr).add 0 = ⟨b, off, some s⟩ := by unfold Addr.add; rw [if_pos rfl]
              rw [ha, hn] at h40
              cases h40
          subst hs
          refine .inr ⟨b, off, rfl, rows_of_ints _ _ (fun i hi => ?_)⟩
          rw [List.length_take] at hi
          have := h4 i (by omega)
          have hadd : (⟨b, off, none⟩ : Addr).add i = ⟨b, off + i, none⟩ := by
            unfold Addr.add
            split
            · rename_i e0; subst e0; rfl
            · rfl
          rw [hadd] at this
          rw [this]
          simp [List.getD_eq_getElem?_getD, List.getElem?_take, show i < len by omega]
  exact ⟨hb, hvr⟩
theorem calls_rowB {f : FuncId} (h : ∀ l, Bytes l → VCalls Try.prog f [ys l] (fun r => r = bv true)) (a : Option Addr) (len cap : Nat) (z : List Int) (W : World) (hz : ((a = none ∧ len = 0 ∧ cap = 0 ∧ z = []) ∨ ∃ x, a = some x ∧ len ≤ cap ∧ cap ≤ maxLen ∧ z.length = cap ∧ (∀ i, i < z.length → W.cell? (x.add i) = some (.int .u8 (z.getD i 0))) ∧ ∀ n ∈ z, (Lit.int .u8 n).wf = true)) :
    Calls Try.prog f #[.slice a len cap] W (fun e W' => e = .returned (.bool true) ∧ Below W.heap.size W W') := by
  have hb := bytes_in a len cap z W hz
  refine ((h (z.take len) hb.1).calls (fun _ _ => False) W [.slice a len cap] (fun _ _ hf => hf.elim) ?_).mono fun e W' ⟨v, r, k1, k2, k3, k4⟩ => ?_
  · simp only [VRs]
    exact ⟨_, _, rfl, hb.2, rfl⟩
  · subst k4
    have k3 : v = .bool true := k3
    subst k3
    exact ⟨k1, k2⟩
theorem calls_rowBB {f : FuncId} (h : ∀ l m, Bytes l → Bytes m → VCalls Try.prog f [ys l, ys m] (fun r => r = bv true)) (a : Option Addr) (len cap : Nat) (z : List Int) (a2 : Option Addr) (len2 cap2 : Nat) (z2 : List Int) (W : World) (hz : ((a = none ∧ len = 0 ∧ cap = 0 ∧ z = []) ∨ ∃ x, a = some x ∧ len ≤ cap ∧ cap ≤ maxLen ∧ z.length = cap ∧ (∀ i, i < z.length → W.cell? (x.add i) = some (.int .u8 (z.getD i 0))) ∧ ∀ n ∈ z, (Lit.int .u8 n).wf = true)) (hz2 : ((a2 = none ∧ len2 = 0 ∧ cap2 = 0 ∧ z2 = []) ∨ ∃ x, a2 = some x ∧ len2 ≤ cap2 ∧ cap2 ≤ maxLen ∧ z2.length = cap2 ∧ (∀ i, i < z2.length → W.cell? (x.add i) = some (.int .u8 (z2.getD i 0))) ∧ ∀ n ∈ z2, (Lit.int .u8 n).wf = true)) :
    Calls Try.prog f #[.slice a len cap, .slice a2 len2 cap2] W (fun e W' => e = .returned (.bool true) ∧ Below W.heap.size W W') := by
  have hb := bytes_in a len cap z W hz
  have hb2 := bytes_in a2 len2 cap2 z2 W hz2
  refine ((h (z.take len) (z2.take len2) hb.1 hb2.1).calls (fun _ _ => False) W [.slice a len cap, .slice a2 len2 cap2] (fun _ _ hf => hf.elim) ?_).mono fun e W' ⟨v, r, k1, k2, k3, k4⟩ => ?_
  · simp only [VRs]
    exact ⟨_, _, rfl, hb.2, _, _, rfl, hb2.2, rfl⟩
  · subst k4
    have k3 : v = .bool true := k3
    subst k3
    exact ⟨k1, k2⟩
theorem calls_rowL {f : FuncId} (h : ∀ l : List Int, (∀ x ∈ l, -9223372036854775808 ≤ x ∧ x ≤ 9223372036854775807) → l.length ≤ maxLen → VCalls Try.prog f [is l] (fun r => r = bv true)) (a : Option Addr) (len cap : Nat) (z : List Int) (W : World) (hz : ((a = none ∧ len = 0 ∧ cap = 0 ∧ z = []) ∨ ∃ x, a = some x ∧ len ≤ cap ∧ cap ≤ maxLen ∧ z.length = cap ∧ (∀ i, i < z.length → W.cell? (x.add i) = some (.int .i64 (z.getD i 0))) ∧ ∀ n ∈ z, (Lit.int .i64 n).wf = true)) :
    Calls Try.prog f #[.slice a len cap] W (fun e W' => e = .returned (.bool true) ∧ Below W.heap.size W W') := by
  have hb := ints_in a len cap z W hz
  have hl : (z.take len).length ≤ maxLen := by
    rw [List.length_take]
    rcases hz with ⟨_, rfl, _, _⟩ | ⟨x, _, h1, h2, _⟩
    · omega
    · omega
  refine ((h (z.take len) hb.1 hl).calls (fun _ _ => False) W [.slice a len cap] (fun _ _ hf => hf.elim) ?_).mono fun e W' ⟨v, r, k1, k2, k3, k4⟩ => ?_
  · simp only [VRs]
    exact ⟨_, _, rfl, hb.2, rfl⟩
  · subst k4
    have k3 : v = .bool true := k3
    subst k3
    exact ⟨k1, k2⟩
theorem calls_rowBII {f : FuncId} (h : ∀ l o k, Bytes l → VCalls Try.prog f [ys l, iv o, iv k] (fun r => r = bv true)) (a : Option Addr) (len cap : Nat) (z : List Int) (o k : Int) (W : World) (hz : ((a = none ∧ len = 0 ∧ cap = 0 ∧ z = []) ∨ ∃ x, a = some x ∧ len ≤ cap ∧ cap ≤ maxLen ∧ z.length = cap ∧ (∀ i, i < z.length → W.cell? (x.add i) = some (.int .u8 (z.getD i 0))) ∧ ∀ n ∈ z, (Lit.int .u8 n).wf = true)) :
    Calls Try.prog f #[.slice a len cap, .int .i64 o, .int .i64 k] W (fun e W' => e = .returned (.bool true) ∧ Below W.heap.size W W') := by
  have hb := bytes_in a len cap z W hz
  refine ((h (z.take len) o k hb.1).calls (fun _ _ => False) W [.slice a len cap, .int .i64 o, .int .i64 k] (fun _ _ hf => hf.elim) ?_).mono fun e W' ⟨v, r, k1, k2, k3, k4⟩ => ?_
  · simp only [VRs]
    exact ⟨_, _, rfl, hb.2, _, _, rfl, rfl, _, _, rfl, rfl, rfl⟩
  · subst k4
    have k3 : v = .bool true := k3
    subst k3
    exact ⟨k1, k2⟩
end Go.Proofs.Ytnoohgiecnmajaa.VC

