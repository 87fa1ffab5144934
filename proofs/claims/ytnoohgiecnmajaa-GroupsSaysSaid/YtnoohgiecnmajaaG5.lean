/- A part of the ground of the proof. No condition. -/
import Derived.Test.YtnoohgiecnmajaaGE27

/- groups: a name is noted. -/
namespace Go.Proofs.Ytnoohgiecnmajaa.VC
open Go Go.RowKit
set_option linter.unusedVariables false
set_option linter.unusedSimpArgs false
set_option maxHeartbeats 4000000

/-- How far the numbers are. -/
structure Cn where
  last : Int
  names : List (ByteArray × Int)
  e : Int
  at_ : Int
def findS (s : ByteArray) : List (ByteArray × Int) → Option Int
  | [] => none
  | p :: l => if p.1 = s then some p.2 else findS s l
def nameS (c : Cn) (f : NodeF) : Cn :=
  if f.name = bs [] then c
  else if (findS f.name c.names).isSome = true then (if (findS f.name c.names).getD 0 ≠ f.n then { c with e := 33, at_ := f.at_ } else c)
  else { c with names := c.names ++ [(f.name, f.n)] }
def mps (l : List (ByteArray × Int)) : Mp := l.map fun p => (.string p.1, .int .i64 p.2)
def cnFs (c : Cn) : List FE := [.pv (iv c.last), .own 1000001, .map 1000002, .pv (iv c.e), .pv (iv c.at_)]
def HC (c : Cn) : St := ⟨0, [], [(1000000, (69, cnFs c))], [(1000001, ⟨2, 45, true, rowsM c.names⟩)], [(1000002, mps c.names)]⟩
theorem mps_key (l : List (ByteArray × Int)) : ∀ x ∈ mps l, MapKept.IsKey .string x.1 := by
  intro x hx
  obtain ⟨p, _, rfl⟩ := List.mem_map.1 hx
  trivial
theorem findS_none {s : ByteArray} : ∀ {l : List (ByteArray × Int)}, findS s l = none → ∀ x ∈ mps l, x.1 ≠ .string s
  | [], _, x, hx => by simp [mps] at hx
  | p :: l, h, x, hx => by
    unfold findS at h
    split at h
    · cases h
    · rename_i hne
      simp only [mps, List.map_cons, List.mem_cons] at hx
      rcases hx with rfl | hx
      · simp only [ne_eq, Value.string.injEq]; exact hne
      · exact findS_none h x hx
theorem findS_some {s : ByteArray} {v : Int} : ∀ {l : List (ByteArray × Int)}, findS s l = some v → ∃ i, Nth (mps l) (.string s) i (.int .i64 v)
  | [], h => by cases h
  | p :: l, h => by
    unfold findS at h
    split at h
    · rename_i he
      refine ⟨0, ?_, fun j x hj => by omega⟩
      cases h
      simp [mps, he]
    · rename_i hne
      obtain ⟨i, h1, h2⟩ := findS_some h
      refine ⟨i + 1, by simpa [mps] using h1, fun j x hj hx => ?_⟩
      cases j with
      | zero =>
        simp [mps] at hx
        subst hx
        simp only [ne_eq, Value.string.injEq]; exact hne
      | succ j => exact h2 j x (by omega) (by simpa [mps] using hx)
theorem look67 (s : ByteArray) (l : List (ByteArray × Int)) : MLook Try.prog 67 (mps l) (.string s) (.int .i64 ((findS s l).getD 0)) (findS s l).isSome := by
  refine ⟨_, _, mapTy67, trivial, mps_key l, ?_⟩
  cases h : findS s l with
  | none => exact .inl ⟨rfl, rfl, findS_none h⟩
  | some v => exact .inr ⟨rfl, findS_some h⟩
theorem upd67 (s : ByteArray) (v : Int) (l : List (ByteArray × Int)) (h : findS s l = none) : MUpd Try.prog 67 (mps l) (.string s) (.int .i64 v) (mps (l ++ [(s, v)])) := by
  refine ⟨_, _, mapTy67, trivial, mps_key l, .inl ⟨findS_none h, by simp [mps]⟩⟩
attribute [local irreducible] findS mps
set_option maxHeartbeats 16000000
theorem name_h (c : Cn) (n : Node) (hl : c.names.length ≤ 2000000000) : HCalls Try.prog 68 (HC c) [.ptr 1000000 0, .pv n.enc] (fun fe H' => fe = .pv (.tuple []) ∧ H' = HC (nameS c n.f)) := by
  obtain ⟨f, ks⟩ := n
  have hln := rowsM_len c.names
  obtain ⟨last, names, e, at_⟩ := c
  simp only at hl hln
  refine HCalls.ofr tabOk Try.func68 (by decide) rfl rfl ?_
  refine RWP.seqx tabOk orders ?_
  conv => whnf
  refine RWP.seqx tabOk orders ?_
  repeat' ((conv => whnf); (first
    | (with_reducible first | refine Spl.yes ?_ | refine Spl.no ?_ | refine Spl.dec (fun h => ?_) (fun h => ?_) | refine Spl.eq (fun h => ?_) (fun h => ?_) | refine Spl.ne (fun h => ?_) (fun h => ?_) | refine Spl.seq (fun h => ?_) (fun h => ?_) | refine Spl.not ?_ | refine Spl.any (fun h => ?_) (fun h => ?_))
    | ((with_reducible apply And.intro); first | omega | rfl | (dsimp only; omega))))
  all_goals (conv => whnf)
  · refine ⟨_, Wk.narrow _ [0] [1000000] [1000001], .inl ?_⟩
    conv => whnf
    refine ⟨rfl, ?_⟩
    rw [nameS, if_pos (show (Node.mk f ks).f.name = bs [] by assumption)]
    rfl
  have hname : ¬ f.name = bs [] := by assumption
  have hS : nameS ⟨last, names, e, at_⟩ (Node.mk f ks).f = if (findS f.name names).isSome = true then (if (findS f.name names).getD 0 ≠ f.n then ⟨last, names, 33, f.at_⟩ else ⟨last, names, e, at_⟩) else ⟨last, names ++ [(f.name, f.n)], e, at_⟩ := by
    rw [nameS, if_neg (show ¬ (Node.mk f ks).f.name = bs [] by assumption)]; rfl
  rw [hS]
  have hlk := look67 f.name names
  have hup := upd67 f.name f.n names
  cases hfd : findS f.name names with
  | none =>
    rw [hfd] at hlk
    simp only [Option.isSome_none, Option.getD_none] at hlk
    simp only [Option.isSome_none, Bool.false_eq_true, if_false]
    refine RWP.of tabOk orders ?_
    repeat' ((conv => whnf); (first
    | (with_reducible first | refine Spl.yes ?_ | refine Spl.no ?_ | refine Spl.dec (fun h => ?_) (fun h => ?_) | refine Spl.eq (fun h => ?_) (fun h => ?_) | refine Spl.ne (fun h => ?_) (fun h => ?_) | refine Spl.seq (fun h => ?_) (fun h => ?_) | refine Spl.not ?_ | refine Spl.any (fun h => ?_) (fun h => ?_))
    | refine drawn_text (by decide +kernel) ?_
    | refine ⟨_, _, hlk, ?_⟩
    | refine ⟨_, hup hfd, ?_⟩
    | refine And.intro (by show ((rowsM names).length + 1) * 24 ≤ 140737488355328; omega) ?_
    | ((with_reducible apply And.intro); first | omega | rfl | (dsimp only; omega))))
    all_goals (conv => whnf)
    refine ⟨_, Wk.trans (Wk.rn 57 1000001 rfl rfl) (Wk.trans (Wk.narrow _ [0] [1000000] [1000001]) (Wk.maps _ [1000002])), .inl ?_⟩
    conv => whnf
    refine ⟨rfl, Eq.trans rfl (congrArg (fun (X : List (List SV)) => (⟨0, [], [(1000000, (69, cnFs (Cn.mk last (names ++ [(f.name, f.n)]) e at_)))], [(1000001, ⟨2, 45, true, X⟩)], [(1000002, mps (names ++ [(f.name, f.n)]))]⟩ : St)) (rowsM_snoc names (f.name, f.n)))⟩
  | some v =>
    rw [hfd] at hlk
    simp only [Option.isSome_some, Option.getD_some] at hlk
    simp only [Option.isSome_some, if_true, Option.getD_some]
    refine RWP.of tabOk orders ?_
    repeat' ((conv => whnf); (first
    | (with_reducible first | refine Spl.yes ?_ | refine Spl.no ?_ | refine Spl.dec (fun h => ?_) (fun h => ?_) | refine Spl.eq (fun h => ?_) (fun h => ?_) | refine Spl.ne (fun h => ?_) (fun h => ?_) | refine Spl.seq (fun h => ?_) (fun h => ?_) | refine Spl.not ?_ | refine Spl.any (fun h => ?_) (fun h => ?_))
    | refine drawn_text (by decide +kernel) ?_
    | refine drawn_plan (.one 0 (.one 1 (.one 2 (.one 4 (.one 5 (.two 3 (.ofList [6, 7, 8, 9]) 6 (.ofList [3, 7, 8, 9]))))))) (by decide +kernel) ?_
    | refine Fork.mk ?_ ?_
    | refine ⟨_, _, hlk, ?_⟩
    | ((with_reducible apply And.intro); first | omega | rfl | (dsimp only; omega))))
    all_goals (conv => whnf)
    all_goals (refine ⟨_, Wk.narrow _ [0] [1000000] [1000001], .inl ?_⟩)
    all_goals (conv => whnf)
    all_goals (refine ⟨rfl, ?_⟩)
    all_goals first
      | (rw [if_pos (by assumption)]; rfl)
      | (rw [if_neg (by simpa using (show v = f.n by assumption))]; rfl)
end Go.Proofs.Ytnoohgiecnmajaa.VC

/- groups: a node with numbers. -/
namespace Go.Proofs.Ytnoohgiecnmajaa.VC
open Go Go.RowKit
set_option linter.unusedVariables false
set_option linter.unusedSimpArgs false
set_option maxHeartbeats 4000000

def capF (f : NodeF) (c : Cn) : NodeF := if f.kind = 14 then { f with n := c.last + 1 } else f
def capC (f : NodeF) (c : Cn) : Cn := if f.kind = 14 then nameS { c with last := c.last + 1 } { f with n := c.last + 1 } else c
mutual
def nodeG : Node → Cn → Node × Cn
  | .mk f ks, c =>
    if c.e ≠ 0 then (.mk f ks, c)
    else if f.kind = 14 ∧ c.last + 1 > 60 then (.mk { f with n := c.last + 1 } ks, ⟨c.last + 1, c.names, 12, f.at_⟩)
    else (.mk (capF f c) (kidsG ks (decide (f.kind = 16)) (capC f c).last (capC f c).last (capC f c)).1,
      { (kidsG ks (decide (f.kind = 16)) (capC f c).last (capC f c).last (capC f c)).2.2 with last := (kidsG ks (decide (f.kind = 16)) (capC f c).last (capC f c).last (capC f c)).2.1 })
def kidsG : List Node → Bool → Int → Int → Cn → List Node × Int × Cn
  | [], _, _, most, c => ([], most, c)
  | k :: l, rs, first, most, c =>
    ((nodeG k (if rs = true then { c with last := first } else c)).1 ::
      (kidsG l rs first (mxP (nodeG k (if rs = true then { c with last := first } else c)).2.last most) (nodeG k (if rs = true then { c with last := first } else c)).2).1,
     (kidsG l rs first (mxP (nodeG k (if rs = true then { c with last := first } else c)).2.last most) (nodeG k (if rs = true then { c with last := first } else c)).2).2)
end
theorem kidsG_nil (rs : Bool) (a b : Int) (c : Cn) : kidsG [] rs a b c = ([], b, c) := by rw [kidsG]
theorem kidsG_snoc (k : Node) : ∀ (l : List Node) (rs : Bool) (a b : Int) (c : Cn), kidsG (l ++ [k]) rs a b c =
    ((kidsG l rs a b c).1 ++ [(nodeG k (if rs = true then { (kidsG l rs a b c).2.2 with last := a } else (kidsG l rs a b c).2.2)).1],
     mxP (nodeG k (if rs = true then { (kidsG l rs a b c).2.2 with last := a } else (kidsG l rs a b c).2.2)).2.last (kidsG l rs a b c).2.1,
     (nodeG k (if rs = true then { (kidsG l rs a b c).2.2 with last := a } else (kidsG l rs a b c).2.2)).2)
  | [], rs, a, b, c => by rw [List.nil_append, kidsG, kidsG, kidsG]; rfl
  | x :: l, rs, a, b, c => by
    rw [List.cons_append, kidsG, kidsG, kidsG_snoc k l]
    rfl
theorem kidsG_len : ∀ (l : List Node) (rs : Bool) (a b : Int) (c : Cn), (kidsG l rs a b c).1.length = l.length
  | [], rs, a, b, c => by rw [kidsG]
  | k :: l, rs, a, b, c => by rw [kidsG]; simp [kidsG_len l]
theorem nameS_le (c : Cn) (f : NodeF) : (nameS c f).last = c.last ∧ (nameS c f).names.length ≤ c.names.length + 1 := by
  unfold nameS
  repeat' split
  all_goals simp
theorem capC_le (f : NodeF) (c : Cn) : c.last ≤ (capC f c).last ∧ (capC f c).last ≤ c.last + 1 ∧ (capC f c).names.length ≤ c.names.length + 1 := by
  unfold capC
  split
  · have := nameS_le { c with last := c.last + 1 } { f with n := c.last + 1 }
    simp only at this
    omega
  · omega
mutual
theorem nodeG_le : ∀ (n : Node) (c : Cn), 0 ≤ c.last → 0 ≤ (nodeG n c).2.last ∧ (nodeG n c).2.last ≤ c.last + n.w ∧ (nodeG n c).2.names.length ≤ c.names.length + n.w
  | .mk f ks, c, h0 => by
    rw [nodeG, Node.w]
    split
    · simp only; omega
    split
    · simp only; omega
    · have h1 := capC_le f c
      have h2 := kidsG_le ks (decide (f.kind = 16)) (capC f c).last (capC f c).last (capC f c) (by omega) (by omega) (by omega) (by omega)
      simp only
      omega
theorem kidsG_le : ∀ (l : List Node) (rs : Bool) (a b : Int) (c : Cn), 0 ≤ a → a ≤ b → 0 ≤ c.last → c.last ≤ b →
    b ≤ (kidsG l rs a b c).2.1 ∧ (kidsG l rs a b c).2.1 ≤ b + wN l ∧ 0 ≤ (kidsG l rs a b c).2.2.last ∧ (kidsG l rs a b c).2.2.last ≤ (kidsG l rs a b c).2.1 ∧ (kidsG l rs a b c).2.2.names.length ≤ c.names.length + wN l
  | [], rs, a, b, c, h1, h2, h3, h4 => by rw [kidsG, wN]; simp only; omega
  | k :: l, rs, a, b, c, h1, h2, h3, h4 => by
    rw [kidsG, wN]
    have hc : ∃ c1, (if rs = true then { c with last := a } else c) = c1 ∧ 0 ≤ c1.last ∧ c1.last ≤ b ∧ c1.names = c.names := by
      split
      · exact ⟨_, rfl, h1, h2, rfl⟩
      · exact ⟨_, rfl, h3, h4, rfl⟩
    obtain ⟨c1, e, q1, q2, q3⟩ := hc
    rw [e]
    have h5 := nodeG_le k c1 q1
    generalize nodeG k c1 = r at *
    have hm : b ≤ mxP r.2.last b ∧ r.2.last ≤ mxP r.2.last b ∧ mxP r.2.last b ≤ b + k.w := by unfold mxP; split <;> omega
    have h6 := kidsG_le l rs a (mxP r.2.last b) r.2 h1 (by omega) h5.1 hm.2.1
    rw [q3] at h5
    simp only
    omega
end
attribute [local irreducible] nodeG kidsG mps findS
def NgC (n : Node) : Prop := ∀ c : Cn, 0 ≤ c.last → c.last + n.w ≤ 2000000000 → c.names.length + n.w ≤ 1000000000 →
  HCalls Try.prog 45 (HC c) [.ptr 1000000 0, .pv n.enc] (fun fe H' => fe = .pv (nodeG n c).1.enc ∧ H' = HC (nodeG n c).2)
end Go.Proofs.Ytnoohgiecnmajaa.VC

/- groups: the numbers and names are those of the definition (plain). -/
namespace Go.Proofs.Ytnoohgiecnmajaa.VC
open Go Go.RowKit
set_option linter.unusedVariables false
set_option linter.unusedSimpArgs false
set_option maxHeartbeats 4000000

def Uq (A : List (ByteArray × Int)) : Prop := ∀ p ∈ A, findS p.1 A = some p.2
theorem findS_nil (s : ByteArray) : findS s [] = none := by rw [findS]
theorem findS_cons (s : ByteArray) (p : ByteArray × Int) (l : List (ByteArray × Int)) : findS s (p :: l) = if p.1 = s then some p.2 else findS s l := by rw [findS]
theorem findS_snoc (s : ByteArray) (x : ByteArray × Int) : ∀ A : List (ByteArray × Int), findS s (A ++ [x]) = (match findS s A with | some v => some v | none => if x.1 = s then some x.2 else none)
  | [] => by rw [List.nil_append, findS_cons, findS_nil]
  | p :: l => by
    rw [List.cons_append, findS_cons, findS_cons]
    by_cases h : p.1 = s
    · rw [if_pos h, if_pos h]
    · rw [if_neg h, if_neg h, findS_snoc s x l]
theorem there_find (s : ByteArray) : ∀ A : List (ByteArray × Int), thereP s A = (findS s A).isSome
  | [] => by rw [findS_nil]; rfl
  | p :: l => by
    have ih := there_find s l
    unfold thereP at ih ⊢
    rw [findS_cons, List.any_cons, ih]
    by_cases h : p.1 = s
    · rw [if_pos h, decide_eq_true h]; rfl
    · rw [if_neg h, decide_eq_false h]; rfl
theorem findS_mem {s : ByteArray} {v : Int} : ∀ {A : List (ByteArray × Int)}, findS s A = some v → (s, v) ∈ A
  | [], h => by rw [findS_nil] at h; cases h
  | p :: l, h => by
    rw [findS_cons] at h
    by_cases e : p.1 = s
    · rw [if_pos e] at h
      cases h
      subst e
      exact List.mem_cons_self ..
    · rw [if_neg e] at h
      exact List.mem_cons_of_mem _ (findS_mem h)
theorem clash_find {A : List (ByteArray × Int)} (h : Uq A) (s : ByteArray) (n : Int) : clashP s n A = (match findS s A with | some v => decide (v ≠ n) | none => false) := by
  have key : clashP s n A = true ↔ ∃ v, findS s A = some v ∧ v ≠ n := by
    unfold clashP
    rw [List.any_eq_true]
    constructor
    · rintro ⟨p, hp, hd⟩
      have hd := of_decide_eq_true hd
      have := h p hp
      rw [hd.1] at this
      exact ⟨_, this, hd.2⟩
    · rintro ⟨v, hv, hn⟩
      exact ⟨(s, v), findS_mem hv, decide_eq_true ⟨rfl, hn⟩⟩
  cases hf : findS s A with
  | none =>
    simp only
    cases hc : clashP s n A with
    | false => rfl
    | true => obtain ⟨v, hv, _⟩ := key.1 hc; rw [hf] at hv; cases hv
  | some v =>
    simp only
    by_cases hn : v ≠ n
    · rw [decide_eq_true hn]; exact key.2 ⟨v, hf, hn⟩
    · rw [decide_eq_false hn]
      cases hc : clashP s n A with
      | false => rfl
      | true => obtain ⟨u, hu, hun⟩ := key.1 hc; rw [hf] at hu; cases hu; exact absurd hun hn
theorem Uq.snoc {A : List (ByteArray × Int)} (h : Uq A) {s : ByteArray} {n : Int} (hs : findS s A = none) : Uq (A ++ [(s, n)]) := by
  intro p hp
  rw [findS_snoc]
  rcases List.mem_append.1 hp with hp | hp
  · rw [h p hp]
  · have : p = (s, n) := by simpa using hp
    subst this
    rw [hs]
    simp
/-- One group, by its name. -/
def stepN (f : NodeF) (A : List (ByteArray × Int)) : NamR :=
  if f.n > 60 then ⟨[], 12, f.at_⟩ else if f.name = bs [] then ⟨A, 0, 0⟩ else if clashP f.name f.n A = true then ⟨[], 33, f.at_⟩ else if thereP f.name A = true then ⟨A, 0, 0⟩ else ⟨A ++ [(f.name, f.n)], 0, 0⟩
theorem namL_step (f : NodeF) (ks l : List Node) (A : List (ByteArray × Int)) : namL (.mk f ks :: l) A = if (stepN f A).e ≠ 0 then stepN f A else namL l (stepN f A).l := by
  rw [namL_cons]
  unfold stepN
  by_cases q : f.n > 60
  · rw [if_pos q, if_pos q, if_pos (by show (12 : Int) ≠ 0; decide)]
  rw [if_neg q, if_neg q]
  by_cases q : f.name = bs []
  · rw [if_pos q, if_pos q, if_neg (by simp)]
  rw [if_neg q, if_neg q]
  by_cases q : clashP f.name f.n A = true
  · rw [if_pos q, if_pos q, if_pos (by show (33 : Int) ≠ 0; decide)]
  rw [if_neg q, if_neg q]
  by_cases q : thereP f.name A = true
  · rw [if_pos q, if_pos q, if_neg (by simp)]
  · rw [if_neg q, if_neg q, if_neg (by simp)]
theorem namL_nil (A : List (ByteArray × Int)) : namL [] A = ⟨A, 0, 0⟩ := by rw [namL]
theorem namL_app : ∀ (C D : List Node) (A : List (ByteArray × Int)), namL (C ++ D) A = if (namL C A).e ≠ 0 then namL C A else namL D (namL C A).l
  | [], D, A => by rw [List.nil_append, namL_nil, if_neg (by simp)]
  | .mk f ks :: C, D, A => by
    rw [List.cons_append, namL_step, namL_step]
    by_cases q : (stepN f A).e ≠ 0
    · rw [if_pos q, if_pos q, if_pos q]
    · rw [if_neg q, if_neg q, namL_app C D]
theorem stepN_uq {f : NodeF} {A : List (ByteArray × Int)} (h : Uq A) (he : (stepN f A).e = 0) : Uq (stepN f A).l := by
  unfold stepN at he ⊢
  by_cases q : f.n > 60
  · rw [if_pos q] at he; exact absurd he (by show ¬ (12 : Int) = 0; decide)
  rw [if_neg q] at he ⊢
  by_cases q : f.name = bs []
  · rw [if_pos q]; exact h
  rw [if_neg q] at he ⊢
  by_cases q : clashP f.name f.n A = true
  · rw [if_pos q] at he; exact absurd he (by show ¬ (33 : Int) = 0; decide)
  rw [if_neg q] at he ⊢
  by_cases q : thereP f.name A = true
  · rw [if_pos q]; exact h
  · rw [if_neg q]
    rw [there_find] at q
    exact h.snoc (by simpa using q)
theorem namL_uq : ∀ {C : List Node} {A : List (ByteArray × Int)}, Uq A → (namL C A).e = 0 → Uq (namL C A).l
  | [], A, h, he => by rw [namL_nil]; exact h
  | .mk f ks :: C, A, h, he => by
    rw [namL_step] at he ⊢
    by_cases q : (stepN f A).e ≠ 0
    · rw [if_pos q] at he; exact absurd he q
    · rw [if_neg q] at he ⊢
      exact namL_uq (stepN_uq h (by simpa using q)) he
/-- What noting a name tells. -/
theorem nameS_is {c : Cn} {f : NodeF} (h0 : c.e = 0) (hn : ¬ f.n > 60) (hu : Uq c.names) :
    ((stepN f c.names).e = 0 → nameS c f = ⟨c.last, (stepN f c.names).l, 0, c.at_⟩) ∧ ((stepN f c.names).e ≠ 0 → (nameS c f).e = (stepN f c.names).e ∧ (nameS c f).at_ = (stepN f c.names).at_) := by
  obtain ⟨last, names, e, at_⟩ := c
  simp only at h0 hu ⊢
  subst h0
  have hcl := clash_find hu f.name f.n
  have hth := there_find f.name names
  unfold stepN nameS
  simp only
  rw [if_neg hn]
  by_cases q : f.name = bs []
  · rw [if_pos q, if_pos q]
    exact ⟨fun _ => rfl, fun h => absurd rfl h⟩
  rw [if_neg q, if_neg q, hcl, hth]
  cases hf : findS f.name names with
  | none =>
    simp
  | some v =>
    by_cases hv : v ≠ f.n
    · simp [hv]
    · simp [hv]
theorem nodeG_err {n : Node} {c : Cn} (h : c.e ≠ 0) : nodeG n c = (n, c) := by
  cases n with
  | mk f ks => rw [nodeG, if_pos h]
theorem kidsG_err : ∀ {l : List Node} {rs : Bool} {a b : Int} {c : Cn}, c.e ≠ 0 → (kidsG l rs a b c).2.2.e = c.e ∧ (kidsG l rs a b c).2.2.at_ = c.at_
  | [], rs, a, b, c, h => by rw [kidsG]; exact ⟨rfl, rfl⟩
  | k :: l, rs, a, b, c, h => by
    have h1 : (if rs = true then { c with last := a } else c).e = c.e ∧ (if rs = true then { c with last := a } else c).at_ = c.at_ := by split <;> exact ⟨rfl, rfl⟩
    rw [kidsG, nodeG_err (by rw [h1.1]; exact h)]
    have h2 := kidsG_err (l := l) (rs := rs) (a := a) (b := mxP (if rs = true then { c with last := a } else c).last b) (c := (if rs = true then { c with last := a } else c)) (by rw [h1.1]; exact h)
    simp only
    rw [h2.1, h2.2, h1.1, h1.2]
    exact ⟨rfl, rfl⟩
mutual
theorem nodeG_is : ∀ (n : Node) (c : Cn), c.e = 0 → Uq c.names →
    ((namL (capsN (nbN n c.last).1) c.names).e = 0 → nodeG n c = ((nbN n c.last).1, ⟨(nbN n c.last).2, (namL (capsN (nbN n c.last).1) c.names).l, 0, c.at_⟩)) ∧
    ((namL (capsN (nbN n c.last).1) c.names).e ≠ 0 → (nodeG n c).2.e = (namL (capsN (nbN n c.last).1) c.names).e ∧ (nodeG n c).2.at_ = (namL (capsN (nbN n c.last).1) c.names).at_)
  | .mk f ks, c, h0, hu => by
    rw [nbN, nodeG, if_neg (by simp [h0])]
    simp only
    rw [capsN]
    by_cases hk : f.kind = 14
    · have hF : nbF f c.last = { f with n := c.last + 1 } := by rw [nbF, if_pos hk]
      have hT : nbT f c.last = c.last + 1 := by rw [nbT, if_pos hk]
      have hC : capC f c = nameS { c with last := c.last + 1 } { f with n := c.last + 1 } := by rw [capC, if_pos hk]
      have hCF : capF f c = { f with n := c.last + 1 } := by rw [capF, if_pos hk]
      rw [hF, hT, hC, hCF]
      dsimp only
      rw [if_pos hk, namL_step]
      by_cases h60 : c.last + 1 > 60
      · have hs : stepN { f with n := c.last + 1 } c.names = ⟨[], 12, f.at_⟩ := by rw [stepN, if_pos (by exact h60)]
        have hs' : (stepN { f with n := c.last + 1 } c.names).e ≠ 0 := by rw [hs]; show (12 : Int) ≠ 0; decide
        rw [if_pos (show f.kind = 14 ∧ c.last + 1 > 60 from ⟨hk, h60⟩), if_pos hs', hs]
        exact ⟨fun h => absurd h (by show ¬ (12 : Int) = 0; decide), fun _ => ⟨rfl, rfl⟩⟩
      · rw [if_neg (show ¬ (f.kind = 14 ∧ c.last + 1 > 60) from fun q => h60 q.2)]
        have hN := nameS_is (c := { c with last := c.last + 1 }) (f := { f with n := c.last + 1 }) h0 h60 hu
        have hsu := stepN_uq (f := { f with n := c.last + 1 }) hu
        simp only at hN
        generalize stepN { f with n := c.last + 1 } c.names = s at *
        by_cases hs : s.e ≠ 0
        · rw [if_pos hs]
          obtain ⟨h1, h2⟩ := hN.2 hs
          have h3 := kidsG_err (l := ks) (rs := decide (f.kind = 16)) (a := (nameS { c with last := c.last + 1 } { f with n := c.last + 1 }).last) (b := (nameS { c with last := c.last + 1 } { f with n := c.last + 1 }).last) (c := nameS { c with last := c.last + 1 } { f with n := c.last + 1 }) (by rw [h1]; exact hs)
          exact ⟨fun h => absurd h hs, fun _ => ⟨by simp only; rw [h3.1, h1], by simp only; rw [h3.2, h2]⟩⟩
        · have hs : s.e = 0 := Decidable.not_not.1 hs
          rw [if_neg (show ¬ s.e ≠ 0 by simp [hs])]
          rw [hN.1 hs]
          simp only
          have hK := kidsG_is ks (decide (f.kind = 16)) (c.last + 1) (c.last + 1) ⟨c.last + 1, s.l, 0, c.at_⟩ rfl (hsu hs) (Int.le_refl _) (fun _ => rfl)
          simp only at hK
          refine ⟨fun h => ?_, fun h => hK.2 h⟩
          obtain ⟨h1, h2, h3, h4, h5⟩ := hK.1 h
          rw [h1, h2]
          refine Prod.ext rfl ?_
          simp only
          rw [h3, h4, h5]
    · have hF : nbF f c.last = f := by rw [nbF, if_neg hk]
      have hT : nbT f c.last = c.last := by rw [nbT, if_neg hk]
      have hC : capC f c = c := by rw [capC, if_neg hk]
      have hCF : capF f c = f := by rw [capF, if_neg hk]
      rw [hF, hT, hC, hCF, if_neg (show ¬ f.kind = 14 from hk), if_neg (show ¬ (f.kind = 14 ∧ c.last + 1 > 60) from fun q => hk q.1)]
      have hK := kidsG_is ks (decide (f.kind = 16)) c.last c.last c h0 hu (Int.le_refl _) (fun _ => rfl)
      refine ⟨fun h => ?_, fun h => hK.2 h⟩
      obtain ⟨h1, h2, h3, h4, h5⟩ := hK.1 h
      rw [h1, h2]
      refine Prod.ext rfl ?_
      simp only
      rw [h3, h4, h5]
theorem kidsG_is : ∀ (l : List Node) (rs : Bool) (a b : Int) (c : Cn), c.e = 0 → Uq c.names → a ≤ b → (rs = false → c.last = b) →
    ((namL (capsL (nbL l rs a b).1) c.names).e = 0 → (kidsG l rs a b c).1 = (nbL l rs a b).1 ∧ (kidsG l rs a b c).2.1 = (nbL l rs a b).2 ∧ (kidsG l rs a b c).2.2.e = 0 ∧ (kidsG l rs a b c).2.2.names = (namL (capsL (nbL l rs a b).1) c.names).l ∧ (kidsG l rs a b c).2.2.at_ = c.at_) ∧
    ((namL (capsL (nbL l rs a b).1) c.names).e ≠ 0 → (kidsG l rs a b c).2.2.e = (namL (capsL (nbL l rs a b).1) c.names).e ∧ (kidsG l rs a b c).2.2.at_ = (namL (capsL (nbL l rs a b).1) c.names).at_)
  | [], rs, a, b, c, h0, hu, hab, hl => by
    rw [nbL, kidsG]
    simp only
    rw [capsL, namL_nil]
    exact ⟨fun _ => by simp [h0], fun h => absurd rfl h⟩
  | k :: l, rs, a, b, c, h0, hu, hab, hl => by
    rw [nbL, kidsG]
    simp only
    rw [capsL, namL_app]
    have hc : ∃ c1, (if rs = true then { c with last := a } else c) = c1 ∧ c1.last = (if rs = true then a else b) ∧ c1.e = 0 ∧ c1.names = c.names ∧ c1.at_ = c.at_ := by
      cases rs with
      | true => exact ⟨{ c with last := a }, rfl, rfl, h0, rfl, rfl⟩
      | false => exact ⟨c, rfl, hl rfl, h0, rfl, rfl⟩
    obtain ⟨c1, e1, e2, e3, e4, e5⟩ := hc
    rw [e1, ← e2]
    have hN := nodeG_is k c1 e3 (by rw [e4]; exact hu)
    have hle := nbN_le k c1.last
    have hqu : (namL (capsN (nbN k c1.last).1) c1.names).e = 0 → Uq (namL (capsN (nbN k c1.last).1) c1.names).l := namL_uq (by rw [e4]; exact hu)
    rw [← e4]
    generalize hr : nbN k c1.last = r at *
    generalize hq : namL (capsN r.1) c1.names = q at *
    by_cases hqe : q.e ≠ 0
    · rw [if_pos hqe]
      obtain ⟨h1, h2⟩ := hN.2 hqe
      refine ⟨fun h => absurd h hqe, fun _ => ?_⟩
      have h3 := kidsG_err (l := l) (rs := rs) (a := a) (b := mxP (nodeG k c1).2.last b) (c := (nodeG k c1).2) (by rw [h1]; exact hqe)
      rw [h3.1, h3.2, h1, h2]
      exact ⟨rfl, rfl⟩
    · have hqe : q.e = 0 := Decidable.not_not.1 hqe
      rw [if_neg (show ¬ q.e ≠ 0 by simp [hqe])]
      rw [hN.1 hqe]
      simp only
      have hK := kidsG_is l rs a (mxP r.2 b) ⟨r.2, q.l, 0, c1.at_⟩ rfl (hqu hqe) (by unfold mxP; split <;> omega) (fun hrs => by
        have : c1.last = b := by rw [e2, hrs]; rfl
        show r.2 = mxP r.2 b
        unfold mxP
        split <;> omega)
      simp only at hK
      refine ⟨fun h => ?_, fun h => hK.2 h⟩
      obtain ⟨h1, h2, h3, h4, h5⟩ := hK.1 h
      exact ⟨by rw [h1], h2, h3, h4, by rw [h5, e5]⟩
end
/-- What groups.Number answers. -/
def numG (n : Node) : NumR :=
  if (nodeG n ⟨0, [], 0, 0⟩).2.e ≠ 0 then ⟨nodeZ, 0, [], (nodeG n ⟨0, [], 0, 0⟩).2.e, (nodeG n ⟨0, [], 0, 0⟩).2.at_⟩
  else ⟨(nodeG n ⟨0, [], 0, 0⟩).1, (nodeG n ⟨0, [], 0, 0⟩).2.last, (nodeG n ⟨0, [], 0, 0⟩).2.names, 0, 0⟩
theorem numG_is (n : Node) : numG n = numR9 n := by
  have h := nodeG_is n ⟨0, [], 0, 0⟩ rfl (by intro p hp; simp at hp)
  unfold numG numR9
  simp only at h
  by_cases q : (namL (capsN (nbN n 0).1) []).e ≠ 0
  · obtain ⟨h1, h2⟩ := h.2 q
    rw [if_pos q, if_pos (by rw [h1]; exact q), h1, h2]
  · have q : (namL (capsN (nbN n 0).1) []).e = 0 := Decidable.not_not.1 q
    rw [h.1 q, if_neg (show ¬ (0 : Int) ≠ 0 by decide), if_neg (show ¬ (namL (capsN (nbN n 0).1) []).e ≠ 0 from fun h => h q)]
end Go.Proofs.Ytnoohgiecnmajaa.VC

/- Two trees that are one are the same, at the same places. -/
namespace Go.Proofs.Ytnoohgiecnmajaa.VC
open Go Go.RowKit
set_option linter.unusedVariables false
set_option linter.unusedSimpArgs false
set_option maxHeartbeats 4000000

set_option maxHeartbeats 16000000
def PlC (n : Node) : Prop := VCalls Try.prog 24 [n.enc, n.enc] (fun r => r = bv true)
theorem places_step (f : NodeF) (ks : List Node) (hk : ks.length ≤ 1000000) (ih : ∀ n ∈ ks, PlC n) : VCalls Try.prog 24 [(Node.mk f ks).enc, (Node.mk f ks).enc] (fun r => r = bv true) := by
  have hn := rowsN_len ks
  refine VCalls.ofr tabOk Try.func24 (by decide) rfl rfl ?_
  refine RWP.seqx tabOk orders ?_
  conv => whnf
  refine RWP.seqx tabOk orders ?_
  repeat' ((conv => whnf); (first
    | (with_reducible first | refine Spl.yes ?_ | refine Spl.no ?_ | refine Spl.dec (fun h => ?_) (fun h => ?_) | refine Spl.eq (fun h => ?_) (fun h => ?_) | refine Spl.ne (fun h => ?_) (fun h => ?_) | refine Spl.seq (fun h => ?_) (fun h => ?_) | refine Spl.not ?_ | refine Spl.any (fun h => ?_) (fun h => ?_))
    | ((with_reducible apply And.intro); first | omega | rfl | (dsimp only; omega))))
  all_goals (conv => whnf)
  · exact absurd rfl (by assumption)
  · exact absurd rfl (by assumption)
  refine RWP.weak (Wk.narrow _ [2, 3] [2, 3] []) ?_
  refine RWP.seq ?_
  refine RWP.seqx tabOk orders ?_
  conv => whnf
  refine RWP.block ?_
  refine RWP.loop (fun k st => ∃ (j : Int), st = ⟨41, [(2, .ptr 2 0), (3, .ptr 3 0), (5, .pv (iv j))], [(2, (27, nfe f ks)), (3, (27, nfe f ks))], [], []⟩ ∧ 0 ≤ j ∧ j ≤ ks.length ∧ k = (ks.length - j).toNat)
    ⟨_, _, Wk.narrow _ [2, 3, 5] [2, 3] [], 0, rfl, by omega, by omega, rfl⟩ ?_
  rintro k st ⟨j, rfl, hj0, hj1, hk⟩
  refine RWP.seqx tabOk orders ?_
  repeat' ((conv => whnf); (first
    | (with_reducible first | refine Spl.yes ?_ | refine Spl.no ?_ | refine Spl.dec (fun h => ?_) (fun h => ?_) | refine Spl.eq (fun h => ?_) (fun h => ?_) | refine Spl.ne (fun h => ?_) (fun h => ?_) | refine Spl.seq (fun h => ?_) (fun h => ?_) | refine Spl.not ?_ | refine Spl.any (fun h => ?_) (fun h => ?_))
    | ((with_reducible apply And.intro); first | omega | rfl | (dsimp only; omega))))
  all_goals (conv => whnf)
  rotate_left
  · refine RWP.of tabOk orders ?_
    conv => whnf
    rfl
  have hc := ih (rdn ks j) (rdn_mem (by omega))
  unfold PlC at hc
  obtain ⟨f3, k3, h3⟩ := (rdn ks j).ex
  rw [h3] at hc
  refine RWP.of tabOk orders ?_
  repeat' ((conv => whnf); (first
    | (with_reducible first | refine Spl.yes ?_ | refine Spl.no ?_ | refine Spl.dec (fun h => ?_) (fun h => ?_) | refine Spl.eq (fun h => ?_) (fun h => ?_) | refine Spl.ne (fun h => ?_) (fun h => ?_) | refine Spl.seq (fun h => ?_) (fun h => ?_) | refine Spl.not ?_ | refine Spl.any (fun h => ?_) (fun h => ?_))
    | refine drawn_text (by decide +kernel) ?_
    | (rw [rowsN_get (by omega)])
    | (rw [h3])
    | (refine VCalls.mono (hc) ?_; rintro _ rfl)
    | refine And.intro (Nat.le_of_ble_eq_true rfl) ?_
    | ((with_reducible apply And.intro); first | omega | rfl | (dsimp only; omega))))
  all_goals (conv => whnf)
  all_goals exact ⟨(ks.length - (j + 1)).toNat, _, by omega, Wk.narrow _ [2, 3, 5] [2, 3] [], j + 1, rfl, by omega, by omega, rfl⟩
theorem places_c : ∀ (k : Nat) (n : Node), n.w ≤ k → n.w ≤ 1000000 → PlC n := by
  intro k
  induction k with
  | zero => intro n h; have := w_pos n; omega
  | succ k ih =>
    intro n hk hw
    cases n with
    | mk f ks =>
      rw [Node.w] at hk hw
      have hl := wN_len ks
      exact places_step f ks (by omega) (fun n hn => ih n (by have := wN_mem hn; omega) (by have := wN_mem hn; omega))
def SetOk (n : Node) : Prop := n.f.set.length ≤ 4000000000
mutual
theorem fit_set : ∀ n : Node, n.all Fit → n.all SetOk
  | .mk f ks, h => by
    rw [Node.all] at h ⊢
    refine ⟨?_, fit_setL ks h.2⟩
    have : f.set.length ≤ 100000000 := h.1.1
    show f.set.length ≤ 4000000000
    omega
theorem fit_setL : ∀ l : List Node, allN Fit l → allN SetOk l
  | [], h => by rw [allN]; trivial
  | k :: l, h => by rw [allN] at h ⊢; exact ⟨fit_set k h.1, fit_setL l h.2⟩
end
theorem all_of_mem {P : Node → Prop} : ∀ {l : List Node}, (∀ n ∈ l, n.all P) → allN P l
  | [], _ => by rw [allN]; trivial
  | k :: l, h => by rw [allN]; exact ⟨h k (List.mem_cons_self ..), all_of_mem (fun n hn => h n (List.mem_cons_of_mem _ hn))⟩
theorem setN_all {a : Int} {l : List (Int × Int)} (h : l.length ≤ 4000000000) : (setN a l).all SetOk := by
  unfold setN; rw [Node.all, allN]; exact ⟨h, trivial⟩
theorem seqN_all {l : List Node} (h : allN SetOk l) : (seqN l).all SetOk := by
  unfold seqN
  split
  · rename_i h1
    exact allN_mem h (rdn_mem (by simp [h1]))
  · rw [Node.all]; exact ⟨Nat.zero_le _, h⟩
theorem list_all {l : List Node} (h : allN SetOk l) : allN SetOk (l.flatMap listN) := by
  refine all_of_mem (fun n hn => ?_)
  obtain ⟨k, hk, hn⟩ := List.mem_flatMap.1 hn
  have hka := allN_mem h hk
  unfold listN at hn
  split at hn
  · exact allN_mem (Node.all_kids hka) hn
  · have : n = k := by simpa using hn
    subst this; exact hka
theorem lineN_all (c : Ctx) (a : Int) : (lineN c a).all SetOk := by
  have hn := newP_len [(10, 13), (133, 133), (8232, 8233)] c.most
  simp only [List.length_cons, List.length_nil] at hn
  unfold lineN
  rw [Node.all, allN, allN, Node.all, allN, allN, allN]
  refine ⟨Nat.zero_le _, ⟨Nat.zero_le _, seqN_all ?_, setN_all (by omega), trivial⟩, trivial⟩
  rw [allN, allN, allN]
  exact ⟨setN_all (by simp), setN_all (by simp), trivial⟩
mutual
theorem nodeR_all (c : Ctx) : ∀ (n : Node) (g : Int), n.all Fit → (nodeR c n g).1.all SetOk
  | .mk f ks, g, ha => by
    rw [Node.all] at ha
    have h := rowR_all c ks
    have hf : f.set.length ≤ 100000000 := ha.1.1
    have hks : allN SetOk ks := all_of_mem (fun n hn => fit_set n (allN_mem ha.2 hn))
    have hs := fun l cl neg (q : l.length ≤ 100000000) => (show (setP c l cl neg).length ≤ 4000000000 by have := setP_len c l cl neg; omega)
    rw [nodeR]
    unfold nodeS
    by_cases q : f.kind = 1
    · rw [if_pos q]; exact setN_all (hs _ _ _ (by simp))
    rw [if_neg q]; clear q
    by_cases q : f.kind = 2
    · rw [if_pos q]; exact setN_all (hs _ _ _ hf)
    rw [if_neg q]; clear q
    by_cases q : f.kind = 3
    · rw [if_pos q]; split <;> exact setN_all (hs _ _ _ (by simp))
    rw [if_neg q]; clear q
    by_cases q : f.kind = 4
    · rw [if_pos q, Node.all]
      refine ⟨?_, hks⟩
      show (assertN f g).set.length ≤ 4000000000
      unfold assertN; split
      · show f.set.length ≤ _; omega
      split
      · show f.set.length ≤ _; omega
      · omega
    rw [if_neg q]; clear q
    by_cases q : f.kind = 6
    · rw [if_pos q]; exact lineN_all c _
    rw [if_neg q]; clear q
    by_cases q : f.kind = 7
    · rw [if_pos q, Node.all]; exact ⟨by show f.set.length ≤ _; omega, hks⟩
    rw [if_neg q]; clear q
    by_cases q : f.kind = 11
    · rw [if_pos q, Node.all, allN]; exact ⟨Nat.zero_le _, trivial⟩
    rw [if_neg q]; clear q
    by_cases q : f.kind = 12
    · rw [if_pos q]; exact seqN_all (list_all (h g ha.2))
    rw [if_neg q]; clear q
    by_cases q : f.kind = 13
    · rw [if_pos q, Node.all]; exact ⟨by show f.set.length ≤ _; omega, h g ha.2⟩
    rw [if_neg q]; clear q
    by_cases q : f.kind = 15
    · rw [if_pos q]
      simp only
      by_cases q : (0 : Int).toNat < (rowR c ks (turnP g f.on f.off)).1.length
      · exact allN_mem (h _ ha.2) (rdn_mem q)
      · have : rdn (rowR c ks (turnP g f.on f.off)).1 0 = nodeZ := by
          unfold rdn; rw [List.getD_eq_getElem?_getD, List.getElem?_eq_none (by omega)]; rfl
        rw [this]; unfold nodeZ; rw [Node.all, allN]; exact ⟨Nat.zero_le _, trivial⟩
    rw [if_neg q]; clear q
    rw [Node.all]
    refine ⟨?_, h g ha.2⟩
    show (greedN f g).set.length ≤ 4000000000
    unfold greedN; split
    · split
      · show f.set.length ≤ _; omega
      split
      · show f.set.length ≤ _; omega
      · omega
    · omega
theorem rowR_all (c : Ctx) : ∀ (l : List Node) (g : Int), allN Fit l → allN SetOk (rowR c l g).1
  | [], g, ha => by rw [rowR, allN]; trivial
  | k :: l, g, ha => by
    rw [allN] at ha
    rw [rowR]
    simp only
    rw [allN]
    exact ⟨nodeR_all c k g ha.1, rowR_all c l _ ha.2⟩
end
mutual
theorem nbN_all : ∀ (n : Node) (a : Int), n.all SetOk → (nbN n a).1.all SetOk
  | .mk f ks, a, h => by
    rw [Node.all] at h
    rw [nbN]
    simp only
    rw [Node.all]
    refine ⟨?_, nbL_all ks _ _ _ h.2⟩
    show (nbF f a).set.length ≤ _
    unfold nbF
    split <;> exact h.1
theorem nbL_all : ∀ (l : List Node) (rs : Bool) (a b : Int), allN SetOk l → allN SetOk (nbL l rs a b).1
  | [], rs, a, b, h => by rw [nbL, allN]; trivial
  | k :: l, rs, a, b, h => by
    rw [allN] at h
    rw [nbL]
    simp only
    rw [allN]
    exact ⟨nbN_all k _ h.1, nbL_all l _ _ _ h.2⟩
end
def SmC (n : Node) : Prop := VCalls Try.prog 23 [n.enc, n.enc] (fun r => r = bv true)
theorem same_step (f : NodeF) (ks : List Node) (hset : f.set.length ≤ 4000000000) (hk : ks.length ≤ 1000000) (ih : ∀ n ∈ ks, SmC n) : VCalls Try.prog 23 [(Node.mk f ks).enc, (Node.mk f ks).enc] (fun r => r = bv true) := by
  have hn := rowsN_len ks
  have hs := rows2_len f.set
  refine VCalls.ofr tabOk Try.func23 (by decide) rfl rfl ?_
  refine RWP.seqx tabOk orders ?_
  conv => whnf
  refine RWP.cut (fun st => st = ⟨125, [(2, .ptr 2 0), (3, .ptr 3 0)], [(2, (27, nfe f ks)), (3, (27, nfe f ks))], [], []⟩) tabOk orders ?_ ?_
  · repeat' ((conv => whnf); (first
    | (with_reducible first | refine Spl.yes ?_ | refine Spl.no ?_ | refine Spl.dec (fun h => ?_) (fun h => ?_) | refine Spl.eq (fun h => ?_) (fun h => ?_) | refine Spl.ne (fun h => ?_) (fun h => ?_) | refine Spl.seq (fun h => ?_) (fun h => ?_) | refine Spl.not ?_ | refine Spl.any (fun h => ?_) (fun h => ?_))
    | (exfalso; exact absurd rfl (by assumption))
    | ((with_reducible apply And.intro); first | omega | rfl | (dsimp only; omega))))
    all_goals (conv => whnf)
    all_goals first
      | (exfalso; exact absurd rfl (by assumption))
      | (have hb : (f.neg == f.neg) = false := by assumption
         simp at hb)
      | exact ⟨_, Wk.narrow _ [2, 3] [2, 3] [], rfl⟩
  rintro _ rfl
  refine RWP.cutr (fun st => st = ⟨125, [(2, .ptr 2 0), (3, .ptr 3 0)], [(2, (27, nfe f ks)), (3, (27, nfe f ks))], [], []⟩) ?_ ?_
  · refine RWP.seqx tabOk orders ?_
    conv => whnf
    refine RWP.block ?_
    refine RWP.loop (fun k st => ∃ (j : Int), st = ⟨125, [(2, .ptr 2 0), (3, .ptr 3 0), (5, .pv (iv j))], [(2, (27, nfe f ks)), (3, (27, nfe f ks))], [], []⟩ ∧ 0 ≤ j ∧ j ≤ f.set.length ∧ k = (f.set.length - j).toNat)
      ⟨_, _, Wk.narrow _ [2, 3, 5] [2, 3] [], 0, rfl, by omega, by omega, rfl⟩ ?_
    rintro k st ⟨j, rfl, hj0, hj1, hk⟩
    refine RWP.seqx tabOk orders ?_
    repeat' ((conv => whnf); (first
    | (with_reducible first | refine Spl.yes ?_ | refine Spl.no ?_ | refine Spl.dec (fun h => ?_) (fun h => ?_) | refine Spl.eq (fun h => ?_) (fun h => ?_) | refine Spl.ne (fun h => ?_) (fun h => ?_) | refine Spl.seq (fun h => ?_) (fun h => ?_) | refine Spl.not ?_ | refine Spl.any (fun h => ?_) (fun h => ?_))
    | ((with_reducible apply And.intro); first | omega | rfl | (dsimp only; omega))))
    all_goals (conv => whnf)
    rotate_left
    · exact ⟨_, Wk.narrow _ [2, 3] [2, 3] [], rfl⟩
    refine RWP.of tabOk orders ?_
    repeat' ((conv => whnf); (first
    | (with_reducible first | refine Spl.yes ?_ | refine Spl.no ?_ | refine Spl.dec (fun h => ?_) (fun h => ?_) | refine Spl.eq (fun h => ?_) (fun h => ?_) | refine Spl.ne (fun h => ?_) (fun h => ?_) | refine Spl.seq (fun h => ?_) (fun h => ?_) | refine Spl.not ?_ | refine Spl.any (fun h => ?_) (fun h => ?_))
    | refine drawn_text (by decide +kernel) ?_
    | (rw [rows2_get (by omega)])
    | refine And.intro (Nat.le_of_ble_eq_true rfl) ?_
    | refine ⟨_, eqS74 _ _ _ _, ?_⟩
    | ((with_reducible apply And.intro); first | omega | rfl | (dsimp only; omega))))
    all_goals (conv => whnf)
    all_goals first
      | exact ⟨(f.set.length - (j + 1)).toNat, _, by omega, Wk.narrow _ [2, 3, 5] [2, 3] [], j + 1, rfl, by omega, by omega, rfl⟩
      | (have hb : ((rdp f.set j).1 == (rdp f.set j).1 && ((rdp f.set j).2 == (rdp f.set j).2 && true)) = false := by assumption
         simp at hb)
  rintro _ rfl
  refine RWP.seq ?_
  refine RWP.seqx tabOk orders ?_
  conv => whnf
  refine RWP.block ?_
  refine RWP.loop (fun k st => ∃ (j : Int), st = ⟨125, [(2, .ptr 2 0), (3, .ptr 3 0), (6, .pv (iv j))], [(2, (27, nfe f ks)), (3, (27, nfe f ks))], [], []⟩ ∧ 0 ≤ j ∧ j ≤ ks.length ∧ k = (ks.length - j).toNat)
    ⟨_, _, Wk.narrow _ [2, 3, 6] [2, 3] [], 0, rfl, by omega, by omega, rfl⟩ ?_
  rintro k st ⟨j, rfl, hj0, hj1, hk⟩
  refine RWP.seqx tabOk orders ?_
  repeat' ((conv => whnf); (first
    | (with_reducible first | refine Spl.yes ?_ | refine Spl.no ?_ | refine Spl.dec (fun h => ?_) (fun h => ?_) | refine Spl.eq (fun h => ?_) (fun h => ?_) | refine Spl.ne (fun h => ?_) (fun h => ?_) | refine Spl.seq (fun h => ?_) (fun h => ?_) | refine Spl.not ?_ | refine Spl.any (fun h => ?_) (fun h => ?_))
    | ((with_reducible apply And.intro); first | omega | rfl | (dsimp only; omega))))
  all_goals (conv => whnf)
  rotate_left
  · refine RWP.of tabOk orders ?_
    conv => whnf
    rfl
  have hc := ih (rdn ks j) (rdn_mem (by omega))
  unfold SmC at hc
  obtain ⟨f3, k3, h3⟩ := (rdn ks j).ex
  rw [h3] at hc
  refine RWP.of tabOk orders ?_
  repeat' ((conv => whnf); (first
    | (with_reducible first | refine Spl.yes ?_ | refine Spl.no ?_ | refine Spl.dec (fun h => ?_) (fun h => ?_) | refine Spl.eq (fun h => ?_) (fun h => ?_) | refine Spl.ne (fun h => ?_) (fun h => ?_) | refine Spl.seq (fun h => ?_) (fun h => ?_) | refine Spl.not ?_ | refine Spl.any (fun h => ?_) (fun h => ?_))
    | refine drawn_text (by decide +kernel) ?_
    | (rw [rowsN_get (by omega)])
    | (rw [h3])
    | (refine VCalls.mono (hc) ?_; rintro _ rfl)
    | refine And.intro (Nat.le_of_ble_eq_true rfl) ?_
    | ((with_reducible apply And.intro); first | omega | rfl | (dsimp only; omega))))
  all_goals (conv => whnf)
  all_goals exact ⟨(ks.length - (j + 1)).toNat, _, by omega, Wk.narrow _ [2, 3, 6] [2, 3] [], j + 1, rfl, by omega, by omega, rfl⟩
theorem same_c : ∀ (k : Nat) (n : Node), n.w ≤ k → n.w ≤ 1000000 → n.all SetOk → SmC n := by
  intro k
  induction k with
  | zero => intro n h; have := w_pos n; omega
  | succ k ih =>
    intro n hk hw ha
    cases n with
    | mk f ks =>
      rw [Node.w] at hk hw
      rw [Node.all] at ha
      have hl := wN_len ks
      exact same_step f ks ha.1 (by omega) (fun n hn => ih n (by have := wN_mem hn; omega) (by have := wN_mem hn; omega) (allN_mem ha.2 hn))
end Go.Proofs.Ytnoohgiecnmajaa.VC

/- groups: a node with numbers, walked. -/
namespace Go.Proofs.Ytnoohgiecnmajaa.VC
open Go Go.RowKit
set_option linter.unusedVariables false
set_option linter.unusedSimpArgs false
set_option maxHeartbeats 4000000

attribute [local irreducible] nodeG kidsG mps findS nameS
set_option maxHeartbeats 16000000
def capSt (c : Cn) (f : NodeF) (ks : List Node) : St :=
  ⟨92, [(0, .ptr 1000000 0), (3, .ptr 3 0), (4, .ptr 4 0)], [(1000000, (69, cnFs c)), (3, (27, nfe f ks)), (4, (27, nzero))], [(1000001, ⟨2, 45, true, rowsM c.names⟩)], [(1000002, mps c.names)]⟩
def kidSt (c1 : Cn) (f : NodeF) (ks : List Node) (v : Bool) (j most : Int) (c : Cn) (o : List (List SV)) : St :=
  ⟨92, [(0, .ptr 1000000 0), (3, .ptr 3 0), (4, .ptr 4 0), (5, .pv (iv c1.last)), (6, .pv (iv most)), (7, .own 73), (55, .pv (nodesE ks)), (56, .pv (iv (rowsN ks).length)), (57, .pv (iv j))], [(1000000, (69, cnFs c)), (3, (27, nfe f ks)), (4, (27, nzero))], [(1000001, ⟨2, 45, true, rowsM c.names⟩), (73, ⟨12, 27, v, o⟩)], [(1000002, mps c.names)]⟩
theorem ng_step (f : NodeF) (ks : List Node) (hset : f.set.length ≤ 4000000000) (hw : wN ks ≤ 1000000) (ih : ∀ n ∈ ks, NgC n) : NgC (.mk f ks) := by
  intro c h0 h1 hnm
  rw [Node.w] at h1 hnm
  have hn := rowsN_len ks
  have hl := wN_len ks
  have hs2 := rows2_len f.set
  obtain ⟨G, hG⟩ : ∃ G, nodeG (.mk f ks) c = G := ⟨_, rfl⟩
  rw [hG]
  rw [nodeG] at hG
  refine HCalls.ofr tabOk Try.func45 (by decide) rfl rfl ?_
  obtain ⟨last, names, e, at_⟩ := c
  simp only at h0 h1 hnm hG
  refine RWP.seqx tabOk orders ?_
  conv => whnf
  refine RWP.seqx tabOk orders ?_
  repeat' ((conv => whnf); (first
    | (with_reducible first | refine Spl.yes ?_ | refine Spl.no ?_ | refine Spl.dec (fun h => ?_) (fun h => ?_) | refine Spl.eq (fun h => ?_) (fun h => ?_) | refine Spl.ne (fun h => ?_) (fun h => ?_) | refine Spl.seq (fun h => ?_) (fun h => ?_) | refine Spl.not ?_ | refine Spl.any (fun h => ?_) (fun h => ?_))
    | refine And.intro (Nat.le_of_ble_eq_true rfl) ?_
    | ((with_reducible apply And.intro); first | omega | rfl | (dsimp only; omega))))
  all_goals (conv => whnf)
  · rw [if_pos (by assumption)] at hG
    subst hG
    refine ⟨_, Wk.narrow _ [4] [1000000, 4] [1000001], .inl ?_⟩
    conv => whnf
    exact ⟨rfl, rfl⟩
  have he : e = 0 := by assumption
  rw [if_neg (by simp [he])] at hG
  have hnam := name_h ⟨last + 1, names, e, at_⟩ (Node.mk { f with n := last + 1 } ks) (by simp only; omega)
  refine RWP.cut (fun st => ¬ (f.kind = 14 ∧ last + 1 > 60) ∧ st = capSt (capC f ⟨last, names, e, at_⟩) (capF f ⟨last, names, e, at_⟩) ks) tabOk orders ?_ ?_
  · repeat' ((conv => whnf); (first
    | (with_reducible first | refine Spl.yes ?_ | refine Spl.no ?_ | refine Spl.dec (fun h => ?_) (fun h => ?_) | refine Spl.eq (fun h => ?_) (fun h => ?_) | refine Spl.ne (fun h => ?_) (fun h => ?_) | refine Spl.seq (fun h => ?_) (fun h => ?_) | refine Spl.not ?_ | refine Spl.any (fun h => ?_) (fun h => ?_))
    | (refine HQ.use (hnam) ⟨id, id, id⟩ ⟨rfl, rfl⟩ rfl rfl (by first | exact ⟨⟨rfl, rfl⟩, trivial⟩ | exact ⟨⟨rfl, rfl⟩, ⟨rfl, rfl⟩, trivial⟩) (by first | exact trivial | exact ⟨⟨rfl, rfl⟩, trivial⟩ | exact ⟨⟨rfl, rfl⟩, ⟨rfl, rfl⟩, trivial⟩) (by first | exact trivial | exact ⟨⟨rfl, rfl⟩, trivial⟩) ?_; rintro _ _ ⟨rfl, rfl⟩; refine ⟨⟨rfl, rfl, rfl⟩, ?_⟩)
    | refine drawn_plan (.one 0 (.one 1 (.one 2 (.one 4 (.one 5 (.two 3 (.ofList [6, 7, 8, 9]) 6 (.ofList [3, 7, 8, 9]))))))) (by decide +kernel) ?_
    | refine Fork.mk ?_ ?_
    | refine And.intro (Nat.le_of_ble_eq_true rfl) ?_
    | ((with_reducible apply And.intro); first | omega | rfl | (dsimp only; omega))))
    all_goals (conv => whnf)
    all_goals first
      | (
        rw [if_pos ⟨by assumption, by assumption⟩] at hG
        subst hG
        refine ⟨_, Wk.narrow _ [4] [1000000, 4] [1000001], .inl ?_⟩
        conv => whnf
        exact ⟨rfl, rfl⟩)
      | (
        have hk : f.kind = 14 := by assumption
        rw [capC, if_pos hk, capF, if_pos hk]
        exact ⟨_, Wk.narrow _ [0, 3, 4] [1000000, 3, 4] [1000001], fun q => (show ¬ (last + 1 > 60) by assumption) q.2, rfl⟩)
      | (
        have hk : f.kind ≠ 14 := by assumption
        rw [capC, if_neg hk, capF, if_neg hk]
        exact ⟨_, Wk.narrow _ [0, 3, 4] [1000000, 3, 4] [1000001], by omega, rfl⟩)
  rintro _ ⟨hno, rfl⟩
  rw [if_neg hno] at hG
  have hcl := capC_le f ⟨last, names, e, at_⟩
  have hcf : (capF f ⟨last, names, e, at_⟩).kind = f.kind ∧ (capF f ⟨last, names, e, at_⟩).set = f.set := by unfold capF; split <;> exact ⟨rfl, rfl⟩
  generalize capC f ⟨last, names, e, at_⟩ = c1 at *
  generalize capF f ⟨last, names, e, at_⟩ = f1 at *
  simp only at hcl
  obtain ⟨hfk, hfs⟩ := hcf
  rw [← hfs] at hset hs2
  refine RWP.seqx tabOk orders ?_
  repeat' ((conv => whnf); (first
    | (with_reducible first | refine Spl.yes ?_ | refine Spl.no ?_ | refine Spl.dec (fun h => ?_) (fun h => ?_) | refine Spl.eq (fun h => ?_) (fun h => ?_) | refine Spl.ne (fun h => ?_) (fun h => ?_) | refine Spl.seq (fun h => ?_) (fun h => ?_) | refine Spl.not ?_ | refine Spl.any (fun h => ?_) (fun h => ?_))
    | refine drawn_text (by decide +kernel) ?_
    | ((with_reducible apply And.intro); first | omega | rfl | (dsimp only; omega))))
  all_goals (conv => whnf)
  refine RWP.seqx tabOk orders ?_
  conv => whnf
  refine RWP.seq ?_
  refine RWP.seqx tabOk orders ?_
  conv => whnf
  refine RWP.block ?_
  refine RWP.loop (fun k st => ∃ (j : Int) (v : Bool), st = kidSt c1 f1 ks v j (kidsG (ks.take j.toNat) (decide (f.kind = 16)) c1.last c1.last c1).2.1 (kidsG (ks.take j.toNat) (decide (f.kind = 16)) c1.last c1.last c1).2.2 (rowsN (kidsG (ks.take j.toNat) (decide (f.kind = 16)) c1.last c1.last c1).1) ∧ 0 ≤ j ∧ j ≤ ks.length ∧ k = (ks.length - j).toNat)
    ⟨_, _, Wk.trans (Wk.ownNil (t := 7) (k := 73) (sz := 12) (e := 27) rfl) (Wk.narrow _ [0, 3, 4, 5, 6, 7, 55, 56, 57] [1000000, 3, 4] [1000001, 73]), 0, true, Eq.trans (b := kidSt c1 f1 ks true 0 c1.last c1 []) rfl (congrArg (fun (X : List Node × Int × Cn) => kidSt c1 f1 ks true 0 X.2.1 X.2.2 (rowsN X.1)) (kidsG_nil (decide (f.kind = 16)) c1.last c1.last c1).symm), by omega, by omega, rfl⟩ ?_
  rintro k st ⟨j, v, rfl, hj0, hj1, hk⟩
  have hlj := kidsG_len (ks.take j.toNat) (decide (f.kind = 16)) c1.last c1.last c1
  have hle := kidsG_le (ks.take j.toNat) (decide (f.kind = 16)) c1.last c1.last c1 (by omega) (by omega) (by omega) (by omega)
  have hll := rowsN_len (kidsG (ks.take j.toNat) (decide (f.kind = 16)) c1.last c1.last c1).1
  have hwt : wN (ks.take j.toNat) ≤ wN ks := by
    have := wN_app (ks.take j.toNat) (ks.drop j.toNat)
    rw [List.take_append_drop] at this
    omega
  rw [List.length_take] at hlj
  refine RWP.seqx tabOk orders ?_
  conv => whnf
  refine RWP.seqx tabOk orders ?_
  repeat' ((conv => whnf); (first
    | (with_reducible first | refine Spl.yes ?_ | refine Spl.no ?_ | refine Spl.dec (fun h => ?_) (fun h => ?_) | refine Spl.eq (fun h => ?_) (fun h => ?_) | refine Spl.ne (fun h => ?_) (fun h => ?_) | refine Spl.seq (fun h => ?_) (fun h => ?_) | refine Spl.not ?_ | refine Spl.any (fun h => ?_) (fun h => ?_))
    | ((with_reducible apply And.intro); first | omega | rfl | (dsimp only; omega))))
  all_goals (conv => whnf)
  rotate_left
  · have e : j = ks.length := by omega
    subst e
    rw [Int.toNat_natCast, List.take_length] at hle hll hlj ⊢
    generalize kidsG ks (decide (f.kind = 16)) c1.last c1.last c1 = r at *
    obtain ⟨o, most, ⟨last2, names2, e2, at2⟩⟩ := r
    subst hG
    refine RWP.of tabOk orders ?_
    repeat' ((conv => whnf); (first
    | (with_reducible first | refine Spl.yes ?_ | refine Spl.no ?_ | refine Spl.dec (fun h => ?_) (fun h => ?_) | refine Spl.eq (fun h => ?_) (fun h => ?_) | refine Spl.ne (fun h => ?_) (fun h => ?_) | refine Spl.seq (fun h => ?_) (fun h => ?_) | refine Spl.not ?_ | refine Spl.any (fun h => ?_) (fun h => ?_))
    | refine drawn_text (by decide +kernel) ?_
    | refine And.intro (Nat.le_of_ble_eq_true rfl) ?_
    | refine And.intro (by show (rows2 f1.set).length * 16 ≤ 140737488355328; omega) ?_
    | ((with_reducible apply And.intro); first | omega | rfl | (dsimp only; omega))))
    all_goals (conv => whnf)
    all_goals first
      | (refine ⟨_, Wk.trans (Wk.narrow _ [4] [1000000, 4] [1000001]) (Wk.maps _ [1000002]), .inl ?_⟩
         conv => whnf
         exact ⟨rfl, rfl⟩)
  have hsn := kidsG_snoc (rdn ks j) (ks.take j.toNat) (decide (f.kind = 16)) c1.last c1.last c1
  rw [← take_stepN hj0 (by omega)] at hsn
  have hm := rdn_mem (l := ks) (j := j) (by omega)
  have hwk : wN (ks.take j.toNat) + (rdn ks j).w ≤ wN ks := by
    have h1 := wN_app (ks.take (j + 1).toNat) (ks.drop (j + 1).toNat)
    have h2 := wN_app (ks.take j.toNat) [rdn ks j]
    rw [List.take_append_drop] at h1
    rw [← take_stepN hj0 (by omega), wN, wN] at h2
    omega
  have hc := ih (rdn ks j) hm
  generalize kidsG (ks.take j.toNat) (decide (f.kind = 16)) c1.last c1.last c1 = r at *
  obtain ⟨o, most, ⟨last2, names2, e2, at2⟩⟩ := r
  obtain ⟨f3, k3, h3⟩ := (rdn ks j).ex
  rw [h3] at hc hsn hwk
  simp only at hsn hll hlj hle
  by_cases q : f.kind = 16
  · rw [if_pos (by simp [q])] at hsn
    have hc := hc ⟨c1.last, names2, e2, at2⟩ (by simp only; omega) (by simp only; omega) (by simp only; omega)
    generalize nodeG (.mk f3 k3) ⟨c1.last, names2, e2, at2⟩ = r2 at *
    obtain ⟨⟨f4, k4⟩, ⟨last4, names4, e4, at4⟩⟩ := r2
    simp only at hsn hc
    have fin : kidSt c1 f1 ks v (j + 1) (if last4 > most then last4 else most) ⟨last4, names4, e4, at4⟩ (rowsN o ++ [(Node.mk f4 k4).cells]) = kidSt c1 f1 ks v (j + 1) (kidsG (ks.take (j + 1).toNat) (decide (f.kind = 16)) c1.last c1.last c1).2.1 (kidsG (ks.take (j + 1).toNat) (decide (f.kind = 16)) c1.last c1.last c1).2.2 (rowsN (kidsG (ks.take (j + 1).toNat) (decide (f.kind = 16)) c1.last c1.last c1).1) := by
      rw [hsn, rowsN_snoc]; rfl
    refine RWP.of tabOk orders ?_
    repeat' ((conv => whnf); (first
    | (with_reducible first | refine Spl.yes ?_ | refine Spl.no ?_ | refine Spl.dec (fun h => ?_) (fun h => ?_) | refine Spl.eq (fun h => ?_) (fun h => ?_) | refine Spl.ne (fun h => ?_) (fun h => ?_) | refine Spl.seq (fun h => ?_) (fun h => ?_) | refine Spl.not ?_ | refine Spl.any (fun h => ?_) (fun h => ?_))
    | (rw [rowsN_get (by omega)])
    | (rw [h3])
    | (refine HQ.use (hc) ⟨id, id, id⟩ ⟨rfl, rfl⟩ rfl rfl (by first | exact ⟨⟨rfl, rfl⟩, trivial⟩ | exact ⟨⟨rfl, rfl⟩, ⟨rfl, rfl⟩, trivial⟩) (by first | exact trivial | exact ⟨⟨rfl, rfl⟩, trivial⟩ | exact ⟨⟨rfl, rfl⟩, ⟨rfl, rfl⟩, trivial⟩) (by first | exact trivial | exact ⟨⟨rfl, rfl⟩, trivial⟩) ?_; rintro _ _ ⟨rfl, rfl⟩; refine ⟨⟨rfl, rfl, rfl⟩, ?_⟩)
    | refine And.intro (Nat.le_of_ble_eq_true rfl) ?_
    | refine And.intro (by show ((rowsN o).length + 1) * 136 ≤ 140737488355328; omega) ?_
    | ((with_reducible apply And.intro); first | omega | rfl | (dsimp only; omega))))
    all_goals (conv => whnf)
    all_goals first
      | (exfalso; omega)
      | (exact ⟨(ks.length - (j + 1)).toNat, _, by omega, Wk.narrow _ [0, 3, 4, 5, 6, 7, 55, 56, 57] [1000000, 3, 4] [1000001, 73], j + 1, v, Eq.trans rfl fin, by omega, by omega, rfl⟩)
  · rw [if_neg (by simp [q])] at hsn
    have hc := hc ⟨last2, names2, e2, at2⟩ (by simp only; omega) (by simp only; omega) (by simp only; omega)
    generalize nodeG (.mk f3 k3) ⟨last2, names2, e2, at2⟩ = r2 at *
    obtain ⟨⟨f4, k4⟩, ⟨last4, names4, e4, at4⟩⟩ := r2
    simp only at hsn hc
    have fin : kidSt c1 f1 ks v (j + 1) (if last4 > most then last4 else most) ⟨last4, names4, e4, at4⟩ (rowsN o ++ [(Node.mk f4 k4).cells]) = kidSt c1 f1 ks v (j + 1) (kidsG (ks.take (j + 1).toNat) (decide (f.kind = 16)) c1.last c1.last c1).2.1 (kidsG (ks.take (j + 1).toNat) (decide (f.kind = 16)) c1.last c1.last c1).2.2 (rowsN (kidsG (ks.take (j + 1).toNat) (decide (f.kind = 16)) c1.last c1.last c1).1) := by
      rw [hsn, rowsN_snoc]; rfl
    refine RWP.of tabOk orders ?_
    repeat' ((conv => whnf); (first
    | (with_reducible first | refine Spl.yes ?_ | refine Spl.no ?_ | refine Spl.dec (fun h => ?_) (fun h => ?_) | refine Spl.eq (fun h => ?_) (fun h => ?_) | refine Spl.ne (fun h => ?_) (fun h => ?_) | refine Spl.seq (fun h => ?_) (fun h => ?_) | refine Spl.not ?_ | refine Spl.any (fun h => ?_) (fun h => ?_))
    | (rw [rowsN_get (by omega)])
    | (rw [h3])
    | (refine HQ.use (hc) ⟨id, id, id⟩ ⟨rfl, rfl⟩ rfl rfl (by first | exact ⟨⟨rfl, rfl⟩, trivial⟩ | exact ⟨⟨rfl, rfl⟩, ⟨rfl, rfl⟩, trivial⟩) (by first | exact trivial | exact ⟨⟨rfl, rfl⟩, trivial⟩ | exact ⟨⟨rfl, rfl⟩, ⟨rfl, rfl⟩, trivial⟩) (by first | exact trivial | exact ⟨⟨rfl, rfl⟩, trivial⟩) ?_; rintro _ _ ⟨rfl, rfl⟩; refine ⟨⟨rfl, rfl, rfl⟩, ?_⟩)
    | refine And.intro (Nat.le_of_ble_eq_true rfl) ?_
    | refine And.intro (by show ((rowsN o).length + 1) * 136 ≤ 140737488355328; omega) ?_
    | ((with_reducible apply And.intro); first | omega | rfl | (dsimp only; omega))))
    all_goals (conv => whnf)
    all_goals first
      | (exfalso; omega)
      | (exact ⟨(ks.length - (j + 1)).toNat, _, by omega, Wk.narrow _ [0, 3, 4, 5, 6, 7, 55, 56, 57] [1000000, 3, 4] [1000001, 73], j + 1, v, Eq.trans rfl fin, by omega, by omega, rfl⟩)
theorem ng_c : ∀ (k : Nat) (n : Node), n.w ≤ k → n.w ≤ 1000000 → n.all SetOk → NgC n := by
  intro k
  induction k with
  | zero => intro n h; have := w_pos n; omega
  | succ k ih =>
    intro n hk hw ha
    cases n with
    | mk f ks =>
      rw [Node.w] at hk hw
      rw [Node.all] at ha
      exact ng_step f ks ha.1 (by omega) (fun n hn => ih n (by have := wN_mem hn; omega) (by have := wN_mem hn; omega) (allN_mem ha.2 hn))
end Go.Proofs.Ytnoohgiecnmajaa.VC

/- groups.Number. -/
namespace Go.Proofs.Ytnoohgiecnmajaa.VC
open Go Go.RowKit
set_option linter.unusedVariables false
set_option linter.unusedSimpArgs false
set_option maxHeartbeats 4000000

attribute [local irreducible] nodeG kidsG
set_option maxHeartbeats 16000000
theorem numG_c (n : Node) (hw : n.w ≤ 1000000) (ha : n.all SetOk) : VCalls Try.prog 21 [n.enc] (fun r => r = numE (numG n)) := by
  have hc := ng_c n.w n (Nat.le_refl _) hw ha ⟨0, [], 0, 0⟩ (by decide) (by show (0 : Int) + n.w ≤ 2000000000; omega) (by show 0 + n.w ≤ 1000000000; omega)
  obtain ⟨G, hG⟩ : ∃ G, numG n = G := ⟨_, rfl⟩
  rw [hG]
  unfold numG at hG
  obtain ⟨f0, k0, h0⟩ := n.ex
  rw [h0] at hc hG ⊢
  generalize nodeG (.mk f0 k0) ⟨0, [], 0, 0⟩ = r at *
  obtain ⟨⟨f, ks⟩, ⟨last, names, e, at_⟩⟩ := r
  simp only at hG hc
  refine VCalls.ofr tabOk Try.func21 (by decide) rfl rfl ?_
  refine RWP.seqx tabOk orders ?_
  conv => whnf
  refine RWP.seq (RWP.counter rfl ⟨rfl, rfl, rfl⟩ ⟨rfl, rfl, rfl⟩ ⟨rfl, rfl, rfl⟩ ⟨rfl, rfl, rfl⟩ rfl ?_)
  conv => whnf
  refine RWP.weak (Wk.trans (Wk.boxNil (s := 11) (i := 1) (k := 90) (sz := 2) (e := 45) (T := 69) (cs := [.pv (iv 0), .pv (.val nilV), .map 9, .pv (iv 0), .pv (iv 0)]) rfl rfl) (Wk.narrow _ [1, 2, 7] [1, 2, 11] [90])) ?_
  refine RWP.seqx tabOk orders ?_
  repeat' ((conv => whnf); (first
    | (with_reducible first | refine Spl.yes ?_ | refine Spl.no ?_ | refine Spl.dec (fun h => ?_) (fun h => ?_) | refine Spl.eq (fun h => ?_) (fun h => ?_) | refine Spl.ne (fun h => ?_) (fun h => ?_) | refine Spl.seq (fun h => ?_) (fun h => ?_) | refine Spl.not ?_ | refine Spl.any (fun h => ?_) (fun h => ?_))
    | (refine HQ.use (hc) ⟨fun _ => 11, fun _ => 90, fun _ => 9⟩ ⟨rfl, rfl⟩ rfl rfl (by first | exact ⟨⟨rfl, rfl⟩, trivial⟩ | exact ⟨⟨rfl, rfl⟩, ⟨rfl, rfl⟩, trivial⟩) (by first | exact trivial | exact ⟨⟨rfl, rfl⟩, trivial⟩ | exact ⟨⟨rfl, rfl⟩, ⟨rfl, rfl⟩, trivial⟩) (by first | exact trivial | exact ⟨⟨rfl, rfl⟩, trivial⟩) ?_; rintro _ _ ⟨rfl, rfl⟩; refine ⟨⟨rfl, rfl, rfl⟩, ?_⟩)
    | refine And.intro (Nat.le_of_ble_eq_true rfl) ?_
    | ((with_reducible apply And.intro); first | omega | rfl | (dsimp only; omega))))
  all_goals (conv => whnf)
  refine RWP.of tabOk orders ?_
  repeat' ((conv => whnf); (first
    | (with_reducible first | refine Spl.yes ?_ | refine Spl.no ?_ | refine Spl.dec (fun h => ?_) (fun h => ?_) | refine Spl.eq (fun h => ?_) (fun h => ?_) | refine Spl.ne (fun h => ?_) (fun h => ?_) | refine Spl.seq (fun h => ?_) (fun h => ?_) | refine Spl.not ?_ | refine Spl.any (fun h => ?_) (fun h => ?_))
    | refine drawn_plan (.one 0 (.one 1 (.one 2 (.one 3 (.one 5 (.one 6 (.one 7 (.three 4 (.two 8 (.ofList [9, 10, 11, 12, 13]) 9 (.ofList [8, 10, 11, 12, 13])) 8 (.two 4 (.ofList [9, 10, 11, 12, 13]) 9 (.ofList [4, 10, 11, 12, 13])) 9 (.ofList [4, 8, 10, 11, 12, 13]))))))))) (by decide +kernel) ?_
    | refine Fork.mk ?_ ?_
    | refine Fork3.mk ?_ ?_ ?_
    | refine And.intro (Nat.le_of_ble_eq_true rfl) ?_
    | ((with_reducible apply And.intro); first | omega | rfl | (dsimp only; omega))))
  all_goals (conv => whnf)
  all_goals first
    | (rw [if_pos (by assumption)] at hG; subst hG; rfl)
    | (rw [if_neg (fun h => h (by assumption))] at hG; subst hG; rfl)
end Go.Proofs.Ytnoohgiecnmajaa.VC

