/- A part of the ground of the proof. No condition. -/
import Derived.Test.YtnoohgiecnmajaaGA1

/- From a contract on numbers to the form that a row asks. -/
namespace Go.Proofs.Ytnoohgiecnmajaa.VC
open Go Go.RowKit
set_option linter.unusedVariables false
set_option linter.unusedSimpArgs false
set_option maxHeartbeats 4000000

theorem calls_row1 {f : FuncId} (h : ∀ n, VCalls Try.prog f [iv n] (fun r => r = bv true)) (n : Int) (W : World) :
    Calls Try.prog f #[.int .i64 n] W (fun e W' => e = .returned (.bool true) ∧ Below W.heap.size W W') := by
  refine ((h n).calls (fun _ _ => False) W [.int .i64 n] (fun _ _ hf => hf.elim) ?_).mono fun e W' ⟨v, r, k1, k2, k3, k4⟩ => ?_
  · simp only [VRs]
    exact ⟨_, _, rfl, rfl, rfl⟩
  · subst k4
    have k3 : v = .bool true := k3
    subst k3
    exact ⟨k1, k2⟩
theorem calls_row2 {f : FuncId} (h : ∀ n k, VCalls Try.prog f [iv n, iv k] (fun r => r = bv true)) (n k : Int) (W : World) :
    Calls Try.prog f #[.int .i64 n, .int .i64 k] W (fun e W' => e = .returned (.bool true) ∧ Below W.heap.size W W') := by
  refine ((h n k).calls (fun _ _ => False) W [.int .i64 n, .int .i64 k] (fun _ _ hf => hf.elim) ?_).mono fun e W' ⟨v, r, k1, k2, k3, k4⟩ => ?_
  · simp only [VRs]
    exact ⟨_, _, rfl, rfl, _, _, rfl, rfl, rfl⟩
  · subst k4
    have k3 : v = .bool true := k3
    subst k3
    exact ⟨k1, k2⟩
theorem calls_row2w {f : FuncId} (h : ∀ n k : Int, (-9223372036854775808 ≤ k ∧ k ≤ 9223372036854775807) → VCalls Try.prog f [iv n, iv k] (fun r => r = bv true)) (n k : Int) (W : World) (hk : (Lit.int .i64 k).wf = true) :
    Calls Try.prog f #[.int .i64 n, .int .i64 k] W (fun e W' => e = .returned (.bool true) ∧ Below W.heap.size W W') := by
  simp only [Lit.wf, Bool.and_eq_true, decide_eq_true_eq] at hk
  refine ((h n k ⟨hk.1, hk.2⟩).calls (fun _ _ => False) W [.int .i64 n, .int .i64 k] (fun _ _ hf => hf.elim) ?_).mono fun e W' ⟨v, r, k1, k2, k3, k4⟩ => ?_
  · simp only [VRs]
    exact ⟨_, _, rfl, rfl, _, _, rfl, rfl, rfl⟩
  · subst k4
    have k3 : v = .bool true := k3
    subst k3
    exact ⟨k1, k2⟩
end Go.Proofs.Ytnoohgiecnmajaa.VC

/- groups: the numbers and names are those of the definition (plain). -/
namespace Go.Proofs.Ytnoohgiecnmajaa.VC
open Go Go.RowKit
set_option linter.unusedVariables false
set_option linter.unusedSimpArgs false
set_option maxHeartbeats 4000000

def Uq (A : List (ByteArray × Int)) : Prop := ∀ p ∈ A, findS p.1 A = some p.2
theorem findS_nil (s : ByteArray) : findS s [] = none := by rw [findS]
theorem findS_cons (s : ByteArray) (p : ByteArray × Int) (l : List (ByteArray × Int)) : findS s (p :: l) = if p.1 = s then some p.2 else findS s l := by rw [findS]
theorem findS_snoc (s : ByteArray) (x : ByteArray × Int) : ∀ A : List (ByteArray × Int), findS s (A ++ [x]) = (match findS s A with | some v => some v | none => if x.1 = s then some x.2 else none)
  | [] => by rw [List.nil_append, findS_cons, findS_nil]
  | p :: l => by
    rw [List.cons_append, findS_cons, findS_cons]
    by_cases h : p.1 = s
    · rw [if_pos h, if_pos h]
    · rw [if_neg h, if_neg h, findS_snoc s x l]
theorem there_find (s : ByteArray) : ∀ A : List (ByteArray × Int), thereP s A = (findS s A).isSome
  | [] => by rw [findS_nil]; rfl
  | p :: l => by
    have ih := there_find s l
    unfold thereP at ih ⊢
    rw [findS_cons, List.any_cons, ih]
    by_cases h : p.1 = s
    · rw [if_pos h, decide_eq_true h]; rfl
    · rw [if_neg h, decide_eq_false h]; rfl
theorem findS_mem {s : ByteArray} {v : Int} : ∀ {A : List (ByteArray × Int)}, findS s A = some v → (s, v) ∈ A
  | [], h => by rw [findS_nil] at h; cases h
  | p :: l, h => by
    rw [findS_cons] at h
    by_cases e : p.1 = s
    · rw [if_pos e] at h
      cases h
      subst e
      exact List.mem_cons_self ..
    · rw [if_neg e] at h
      exact List.mem_cons_of_mem _ (findS_mem h)
theorem clash_find {A : List (ByteArray × Int)} (h : Uq A) (s : ByteArray) (n : Int) : clashP s n A = (match findS s A with | some v => decide (v ≠ n) | none => false) := by
  have key : clashP s n A = true ↔ ∃ v, findS s A = some v ∧ v ≠ n := by
    unfold clashP
    rw [List.any_eq_true]
    constructor
    · rintro ⟨p, hp, hd⟩
      have hd := of_decide_eq_true hd
      have := h p hp
      rw [hd.1] at this
      exact ⟨_, this, hd.2⟩
    · rintro ⟨v, hv, hn⟩
      exact ⟨(s, v), findS_mem hv, decide_eq_true ⟨rfl, hn⟩⟩
  cases hf : findS s A with
  | none =>
    simp only
    cases hc : clashP s n A with
    | false => rfl
    | true => obtain ⟨v, hv, _⟩ := key.1 hc; rw [hf] at hv; cases hv
  | some v =>
    simp only
    by_cases hn : v ≠ n
    · rw [decide_eq_true hn]; exact key.2 ⟨v, hf, hn⟩
    · rw [decide_eq_false hn]
      cases hc : clashP s n A with
      | false => rfl
      | true => obtain ⟨u, hu, hun⟩ := key.1 hc; rw [hf] at hu; cases hu; exact absurd hun hn
theorem Uq.snoc {A : List (ByteArray × Int)} (h : Uq A) {s : ByteArray} {n : Int} (hs : findS s A = none) : Uq (A ++ [(s, n)]) := by
  intro p hp
  rw [findS_snoc]
  rcases List.mem_append.1 hp with hp | hp
  · rw [h p hp]
  · have : p = (s, n) := by simpa using hp
    subst this
    rw [hs]
    simp
/-- One group, by its name. -/
def stepN (f : NodeF) (A : List (ByteArray × Int)) : NamR :=
  if f.n > 60 then ⟨[], 12, f.at_⟩ else if f.name = bs [] then ⟨A, 0, 0⟩ else if clashP f.name f.n A = true then ⟨[], 33, f.at_⟩ else if thereP f.name A = true then ⟨A, 0, 0⟩ else ⟨A ++ [(f.name, f.n)], 0, 0⟩
theorem namL_step (f : NodeF) (ks l : List Node) (A : List (ByteArray × Int)) : namL (.mk f ks :: l) A = if (stepN f A).e ≠ 0 then stepN f A else namL l (stepN f A).l := by
  rw [namL_cons]
  unfold stepN
  by_cases q : f.n > 60
  · rw [if_pos q, if_pos q, if_pos (by show (12 : Int) ≠ 0; decide)]
  rw [if_neg q, if_neg q]
  by_cases q : f.name = bs []
  · rw [if_pos q, if_pos q, if_neg (by simp)]
  rw [if_neg q, if_neg q]
  by_cases q : clashP f.name f.n A = true
  · rw [if_pos q, if_pos q, if_pos (by show (33 : Int) ≠ 0; decide)]
  rw [if_neg q, if_neg q]
  by_cases q : thereP f.name A = true
  · rw [if_pos q, if_pos q, if_neg (by simp)]
  · rw [if_neg q, if_neg q, if_neg (by simp)]
theorem namL_nil (A : List (ByteArray × Int)) : namL [] A = ⟨A, 0, 0⟩ := by rw [namL]
theorem namL_app : ∀ (C D : List Node) (A : List (ByteArray × Int)), namL (C ++ D) A = if (namL C A).e ≠ 0 then namL C A else namL D (namL C A).l
  | [], D, A => by rw [List.nil_append, namL_nil, if_neg (by simp)]
  | .mk f ks :: C, D, A => by
    rw [List.cons_append, namL_step, namL_step]
    by_cases q : (stepN f A).e ≠ 0
    · rw [if_pos q, if_pos q, if_pos q]
    · rw [if_neg q, if_neg q, namL_app C D]
theorem stepN_uq {f : NodeF} {A : List (ByteArray × Int)} (h : Uq A) (he : (stepN f A).e = 0) : Uq (stepN f A).l := by
  unfold stepN at he ⊢
  by_cases q : f.n > 60
  · rw [if_pos q] at he; exact absurd he (by show ¬ (12 : Int) = 0; decide)
  rw [if_neg q] at he ⊢
  by_cases q : f.name = bs []
  · rw [if_pos q]; exact h
  rw [if_neg q] at he ⊢
  by_cases q : clashP f.name f.n A = true
  · rw [if_pos q] at he; exact absurd he (by show ¬ (33 : Int) = 0; decide)
  rw [if_neg q] at he ⊢
  by_cases q : thereP f.name A = true
  · rw [if_pos q]; exact h
  · rw [if_neg q]
    rw [there_find] at q
    exact h.snoc (by simpa using q)
theorem namL_uq : ∀ {C : List Node} {A : List (ByteArray × Int)}, Uq A → (namL C A).e = 0 → Uq (namL C A).l
  | [], A, h, he => by rw [namL_nil]; exact h
  | .mk f ks :: C, A, h, he => by
    rw [namL_step] at he ⊢
    by_cases q : (stepN f A).e ≠ 0
    · rw [if_pos q] at he; exact absurd he q
    · rw [if_neg q] at he ⊢
      exact namL_uq (stepN_uq h (by simpa using q)) he
/-- What noting a name tells. -/
theorem nameS_is {c : Cn} {f : NodeF} (h0 : c.e = 0) (hn : ¬ f.n > 60) (hu : Uq c.names) :
    ((stepN f c.names).e = 0 → nameS c f = ⟨c.last, (stepN f c.names).l, 0, c.at_⟩) ∧ ((stepN f c.names).e ≠ 0 → (nameS c f).e = (stepN f c.names).e ∧ (nameS c f).at_ = (stepN f c.names).at_) := by
  obtain ⟨last, names, e, at_⟩ := c
  simp only at h0 hu ⊢
  subst h0
  have hcl := clash_find hu f.name f.n
  have hth := there_find f.name names
  unfold stepN nameS
  simp only
  rw [if_neg hn]
  by_cases q : f.name = bs []
  · rw [if_pos q, if_pos q]
    exact ⟨fun _ => rfl, fun h => absurd rfl h⟩
  rw [if_neg q, if_neg q, hcl, hth]
  cases hf : findS f.name names with
  | none =>
    simp
  | some v =>
    by_cases hv : v ≠ f.n
    · simp [hv]
    · simp [hv]
theorem nodeG_err {n : Node} {c : Cn} (h : c.e ≠ 0) : nodeG n c = (n, c) := by
  cases n with
  | mk f ks => rw [nodeG, if_pos h]
theorem kidsG_err : ∀ {l : List Node} {rs : Bool} {a b : Int} {c : Cn}, c.e ≠ 0 → (kidsG l rs a b c).2.2.e = c.e ∧ (kidsG l rs a b c).2.2.at_ = c.at_
  | [], rs, a, b, c, h => by rw [kidsG]; exact ⟨rfl, rfl⟩
  | k :: l, rs, a, b, c, h => by
    have h1 : (if rs = true then { c with last := a } else c).e = c.e ∧ (if rs = true then { c with last := a } else c).at_ = c.at_ := by split <;> exact ⟨rfl, rfl⟩
    rw [kidsG, nodeG_err (by rw [h1.1]; exact h)]
    have h2 := kidsG_err (l := l) (rs := rs) (a := a) (b := mxP (if rs = true then { c with last := a } else c).last b) (c := (if rs = true then { c with last := a } else c)) (by rw [h1.1]; exact h)
    simp only
    rw [h2.1, h2.2, h1.1, h1.2]
    exact ⟨rfl, rfl⟩
mutual
theorem nodeG_is : ∀ (n : Node) (c : Cn), c.e = 0 → Uq c.names →
    ((namL (capsN (nbN n c.last).1) c.names).e = 0 → nodeG n c = ((nbN n c.last).1, ⟨(nbN n c.last).2, (namL (capsN (nbN n c.last).1) c.names).l, 0, c.at_⟩)) ∧
    ((namL (capsN (nbN n c.last).1) c.names).e ≠ 0 → (nodeG n c).2.e = (namL (capsN (nbN n c.last).1) c.names).e ∧ (nodeG n c).2.at_ = (namL (capsN (nbN n c.last).1) c.names).at_)
  | .mk f ks, c, h0, hu => by
    rw [nbN, nodeG, if_neg (by simp [h0])]
    simp only
    rw [capsN]
    by_cases hk : f.kind = 14
    · have hF : nbF f c.last = { f with n := c.last + 1 } := by rw [nbF, if_pos hk]
      have hT : nbT f c.last = c.last + 1 := by rw [nbT, if_pos hk]
      have hC : capC f c = nameS { c with last := c.last + 1 } { f with n := c.last + 1 } := by rw [capC, if_pos hk]
      have hCF : capF f c = { f with n := c.last + 1 } := by rw [capF, if_pos hk]
      rw [hF, hT, hC, hCF]
      dsimp only
      rw [if_pos hk, namL_step]
      by_cases h60 : c.last + 1 > 60
      · have hs : stepN { f with n := c.last + 1 } c.names = ⟨[], 12, f.at_⟩ := by rw [stepN, if_pos (by exact h60)]
        have hs' : (stepN { f with n := c.last + 1 } c.names).e ≠ 0 := by rw [hs]; show (12 : Int) ≠ 0; decide
        rw [if_pos (show f.kind = 14 ∧ c.last + 1 > 60 from ⟨hk, h60⟩), if_pos hs', hs]
        exact ⟨fun h => absurd h (by show ¬ (12 : Int) = 0; decide), fun _ => ⟨rfl, rfl⟩⟩
      · rw [if_neg (show ¬ (f.kind = 14 ∧ c.last + 1 > 60) from fun q => h60 q.2)]
        have hN := nameS_is (c := { c with last := c.last + 1 }) (f := { f with n := c.last + 1 }) h0 h60 hu
        have hsu := stepN_uq (f := { f with n := c.last + 1 }) hu
        simp only at hN
        generalize stepN { f with n := c.last + 1 } c.names = s at *
        by_cases hs : s.e ≠ 0
        · rw [if_pos hs]
          obtain ⟨h1, h2⟩ := hN.2 hs
          have h3 := kidsG_err (l := ks) (rs := decide (f.kind = 16)) (a := (nameS { c with last := c.last + 1 } { f with n := c.last + 1 }).last) (b := (nameS { c with last := c.last + 1 } { f with n := c.last + 1 }).last) (c := nameS { c with last := c.last + 1 } { f with n := c.last + 1 }) (by rw [h1]; exact hs)
          exact ⟨fun h => absurd h hs, fun _ => ⟨by simp only; rw [h3.1, h1], by simp only; rw [h3.2, h2]⟩⟩
        · have hs : s.e = 0 := Decidable.not_not.1 hs
          rw [if_neg (show ¬ s.e ≠ 0 by simp [hs])]
          rw [hN.1 hs]
          simp only
          have hK := kidsG_is ks (decide (f.kind = 16)) (c.last + 1) (c.last + 1) ⟨c.last + 1, s.l, 0, c.at_⟩ rfl (hsu hs) (Int.le_refl _) (fun _ => rfl)
          simp only at hK
          refine ⟨fun h => ?_, fun h => hK.2 h⟩
          obtain ⟨h1, h2, h3, h4, h5⟩ := hK.1 h
          rw [h1, h2]
          refine Prod.ext rfl ?_
          simp only
          rw [h3, h4, h5]
    · have hF : nbF f c.last = f := by rw [nbF, if_neg hk]
      have hT : nbT f c.last = c.last := by rw [nbT, if_neg hk]
      have hC : capC f c = c := by rw [capC, if_neg hk]
      have hCF : capF f c = f := by rw [capF, if_neg hk]
      rw [hF, hT, hC, hCF, if_neg (show ¬ f.kind = 14 from hk), if_neg (show ¬ (f.kind = 14 ∧ c.last + 1 > 60) from fun q => hk q.1)]
      have hK := kidsG_is ks (decide (f.kind = 16)) c.last c.last c h0 hu (Int.le_refl _) (fun _ => rfl)
      refine ⟨fun h => ?_, fun h => hK.2 h⟩
      obtain ⟨h1, h2, h3, h4, h5⟩ := hK.1 h
      rw [h1, h2]
      refine Prod.ext rfl ?_
      simp only
      rw [h3, h4, h5]
theorem kidsG_is : ∀ (l : List Node) (rs : Bool) (a b : Int) (c : Cn), c.e = 0 → Uq c.names → a ≤ b → (rs = false → c.last = b) →
    ((namL (capsL (nbL l rs a b).1) c.names).e = 0 → (kidsG l rs a b c).1 = (nbL l rs a b).1 ∧ (kidsG l rs a b c).2.1 = (nbL l rs a b).2 ∧ (kidsG l rs a b c).2.2.e = 0 ∧ (kidsG l rs a b c).2.2.names = (namL (capsL (nbL l rs a b).1) c.names).l ∧ (kidsG l rs a b c).2.2.at_ = c.at_) ∧
    ((namL (capsL (nbL l rs a b).1) c.names).e ≠ 0 → (kidsG l rs a b c).2.2.e = (namL (capsL (nbL l rs a b).1) c.names).e ∧ (kidsG l rs a b c).2.2.at_ = (namL (capsL (nbL l rs a b).1) c.names).at_)
  | [], rs, a, b, c, h0, hu, hab, hl => by
    rw [nbL, kidsG]
    simp only
    rw [capsL, namL_nil]
    exact ⟨fun _ => by simp [h0], fun h => absurd rfl h⟩
  | k :: l, rs, a, b, c, h0, hu, hab, hl => by
    rw [nbL, kidsG]
    simp only
    rw [capsL, namL_app]
    have hc : ∃ c1, (if rs = true then { c with last := a } else c) = c1 ∧ c1.last = (if rs = true then a else b) ∧ c1.e = 0 ∧ c1.names = c.names ∧ c1.at_ = c.at_ := by
      cases rs with
      | true => exact ⟨{ c with last := a }, rfl, rfl, h0, rfl, rfl⟩
      | false => exact ⟨c, rfl, hl rfl, h0, rfl, rfl⟩
    obtain ⟨c1, e1, e2, e3, e4, e5⟩ := hc
    rw [e1, ← e2]
    have hN := nodeG_is k c1 e3 (by rw [e4]; exact hu)
    have hle := nbN_le k c1.last
    have hqu : (namL (capsN (nbN k c1.last).1) c1.names).e = 0 → Uq (namL (capsN (nbN k c1.last).1) c1.names).l := namL_uq (by rw [e4]; exact hu)
    rw [← e4]
    generalize hr : nbN k c1.last = r at *
    generalize hq : namL (capsN r.1) c1.names = q at *
    by_cases hqe : q.e ≠ 0
    · rw [if_pos hqe]
      obtain ⟨h1, h2⟩ := hN.2 hqe
      refine ⟨fun h => absurd h hqe, fun _ => ?_⟩
      have h3 := kidsG_err (l := l) (rs := rs) (a := a) (b := mxP (nodeG k c1).2.last b) (c := (nodeG k c1).2) (by rw [h1]; exact hqe)
      rw [h3.1, h3.2, h1, h2]
      exact ⟨rfl, rfl⟩
    · have hqe : q.e = 0 := Decidable.not_not.1 hqe
      rw [if_neg (show ¬ q.e ≠ 0 by simp [hqe])]
      rw [hN.1 hqe]
      simp only
      have hK := kidsG_is l rs a (mxP r.2 b) ⟨r.2, q.l, 0, c1.at_⟩ rfl (hqu hqe) (by unfold mxP; split <;> omega) (fun hrs => by
        have : c1.last = b := by rw [e2, hrs]; rfl
        show r.2 = mxP r.2 b
        unfold mxP
        split <;> omega)
      simp only at hK
      refine ⟨fun h => ?_, fun h => hK.2 h⟩
      obtain ⟨h1, h2, h3, h4, h5⟩ := hK.1 h
      exact ⟨by rw [h1], h2, h3, h4, by rw [h5, e5]⟩
end
/-- What groups.Number answers. -/
def numG (n : Node) : NumR :=
  if (nodeG n ⟨0, [], 0, 0⟩).2.e ≠ 0 then ⟨nodeZ, 0, [], (nodeG n ⟨0, [], 0, 0⟩).2.e, (nodeG n ⟨0, [], 0, 0⟩).2.at_⟩
  else ⟨(nodeG n ⟨0, [], 0, 0⟩).1, (nodeG n ⟨0, [], 0, 0⟩).2.last, (nodeG n ⟨0, [], 0, 0⟩).2.names, 0, 0⟩
theorem numG_is (n : Node) : numG n = numR9 n := by
  have h := nodeG_is n ⟨0, [], 0, 0⟩ rfl (by intro p hp; simp at hp)
  unfold numG numR9
  simp only at h
  by_cases q : (namL (capsN (nbN n 0).1) []).e ≠ 0
  · obtain ⟨h1, h2⟩ := h.2 q
    rw [if_pos q, if_pos (by rw [h1]; exact q), h1, h2]
  · have q : (namL (capsN (nbN n 0).1) []).e = 0 := Decidable.not_not.1 q
    rw [h.1 q, if_neg (show ¬ (0 : Int) ≠ 0 by decide), if_neg (show ¬ (namL (capsN (nbN n 0).1) []).e ≠ 0 from fun h => h q)]
end Go.Proofs.Ytnoohgiecnmajaa.VC

/- groups: a node with numbers, walked. -/
namespace Go.Proofs.Ytnoohgiecnmajaa.VC
open Go Go.RowKit
set_option linter.unusedVariables false
set_option linter.unusedSimpArgs false
set_option maxHeartbeats 4000000

attribute [local irreducible] nodeG kidsG mps findS nameS
set_option maxHeartbeats 16000000
def capSt (c : Cn) (f : NodeF) (ks : List Node) : St :=
  ⟨92, [(0, .ptr 1000000 0), (3, .ptr 3 0), (4, .ptr 4 0)], [(1000000, (69, cnFs c)), (3, (27, nfe f ks)), (4, (27, nzero))], [(1000001, ⟨2, 45, true, rowsM c.names⟩)], [(1000002, mps c.names)]⟩
def kidSt (c1 : Cn) (f : NodeF) (ks : List Node) (v : Bool) (j most : Int) (c : Cn) (o : List (List SV)) : St :=
  ⟨92, [(0, .ptr 1000000 0), (3, .ptr 3 0), (4, .ptr 4 0), (5, .pv (iv c1.last)), (6, .pv (iv most)), (7, .own 73), (55, .pv (nodesE ks)), (56, .pv (iv (rowsN ks).length)), (57, .pv (iv j))], [(1000000, (69, cnFs c)), (3, (27, nfe f ks)), (4, (27, nzero))], [(1000001, ⟨2, 45, true, rowsM c.names⟩), (73, ⟨12, 27, v, o⟩)], [(1000002, mps c.names)]⟩
theorem ng_step (f : NodeF) (ks : List Node) (hset : f.set.length ≤ 4000000000) (hw : wN ks ≤ 1000000) (ih : ∀ n ∈ ks, NgC n) : NgC (.mk f ks) := by
  intro c h0 h1 hnm
  rw [Node.w] at h1 hnm
  have hn := rowsN_len ks
  have hl := wN_len ks
  have hs2 := rows2_len f.set
  obtain ⟨G, hG⟩ : ∃ G, nodeG (.mk f ks) c = G := ⟨_, rfl⟩
  rw [hG]
  rw [nodeG] at hG
  refine HCalls.ofr tabOk Try.func45 (by decide) rfl rfl ?_
  obtain ⟨last, names, e, at_⟩ := c
  simp only at h0 h1 hnm hG
  refine RWP.seqx tabOk orders ?_
  conv => whnf
  refine RWP.seqx tabOk orders ?_
  repeat' ((conv => whnf); (first
    | (with_reducible first | refine Spl.yes ?_ | refine Spl.no ?_ | refine Spl.dec (fun h => ?_) (fun h => ?_) | refine Spl.eq (fun h => ?_) (fun h => ?_) | refine Spl.ne (fun h => ?_) (fun h => ?_) | refine Spl.seq (fun h => ?_) (fun h => ?_) | refine Spl.not ?_ | refine Spl.any (fun h => ?_) (fun h => ?_))
    | refine And.intro (Nat.le_of_ble_eq_true rfl) ?_
    | ((with_reducible apply And.intro); first | omega | rfl | (dsimp only; omega))))
  all_goals (conv => whnf)
  · rw [if_pos (by assumption)] at hG
    subst hG
    refine ⟨_, Wk.narrow _ [4] [1000000, 4] [1000001], .inl ?_⟩
    conv => whnf
    exact ⟨rfl, rfl⟩
  have he : e = 0 := by assumption
  rw [if_neg (by simp [he])] at hG
  have hnam := name_h ⟨last + 1, names, e, at_⟩ (Node.mk { f with n := last + 1 } ks) (by simp only; omega)
  refine RWP.cut (fun st => ¬ (f.kind = 14 ∧ last + 1 > 60) ∧ st = capSt (capC f ⟨last, names, e, at_⟩) (capF f ⟨last, names, e, at_⟩) ks) tabOk orders ?_ ?_
  · repeat' ((conv => whnf); (first
    | (with_reducible first | refine Spl.yes ?_ | refine Spl.no ?_ | refine Spl.dec (fun h => ?_) (fun h => ?_) | refine Spl.eq (fun h => ?_) (fun h => ?_) | refine Spl.ne (fun h => ?_) (fun h => ?_) | refine Spl.seq (fun h => ?_) (fun h => ?_) | refine Spl.not ?_ | refine Spl.any (fun h => ?_) (fun h => ?_))
    | (refine HQ.use (hnam) ⟨id, id, id⟩ ⟨rfl, rfl⟩ rfl rfl (by first | exact ⟨⟨rfl, rfl⟩, trivial⟩ | exact ⟨⟨rfl, rfl⟩, ⟨rfl, rfl⟩, trivial⟩) (by first | exact trivial | exact ⟨⟨rfl, rfl⟩, trivial⟩ | exact ⟨⟨rfl, rfl⟩, ⟨rfl, rfl⟩, trivial⟩) (by first | exact trivial | exact ⟨⟨rfl, rfl⟩, trivial⟩) ?_; rintro _ _ ⟨rfl, rfl⟩; refine ⟨⟨rfl, rfl, rfl⟩, ?_⟩)
    | refine drawn_plan (.one 0 (.one 1 (.one 2 (.one 4 (.one 5 (.two 3 (.ofList [6, 7, 8, 9]) 6 (.ofList [3, 7, 8, 9]))))))) (by decide +kernel) ?_
    | refine Fork.mk ?_ ?_
    | refine And.intro (Nat.le_of_ble_eq_true rfl) ?_
    | ((with_reducible apply And.intro); first | omega | rfl | (dsimp only; omega))))
    all_goals (conv => whnf)
    all_goals first
      | (
        rw [if_pos ⟨by assumption, by assumption⟩] at hG
        subst hG
        refine ⟨_, Wk.narrow _ [4] [1000000, 4] [1000001], .inl ?_⟩
        conv => whnf
        exact ⟨rfl, rfl⟩)
      | (
        have hk : f.kind = 14 := by assumption
        rw [capC, if_pos hk, capF, if_pos hk]
        exact ⟨_, Wk.narrow _ [0, 3, 4] [1000000, 3, 4] [1000001], fun q => (show ¬ (last + 1 > 60) by assumption) q.2, rfl⟩)
      | (
        have hk : f.kind ≠ 14 := by assumption
        rw [capC, if_neg hk, capF, if_neg hk]
        exact ⟨_, Wk.narrow _ [0, 3, 4] [1000000, 3, 4] [1000001], by omega, rfl⟩)
  rintro _ ⟨hno, rfl⟩
  rw [if_neg hno] at hG
  have hcl := capC_le f ⟨last, names, e, at_⟩
  have hcf : (capF f ⟨last, names, e, at_⟩).kind = f.kind ∧ (capF f ⟨last, names, e, at_⟩).set = f.set := by unfold capF; split <;> exact ⟨rfl, rfl⟩
  generalize capC f ⟨last, names, e, at_⟩ = c1 at *
  generalize capF f ⟨last, names, e, at_⟩ = f1 at *
  simp only at hcl
  obtain ⟨hfk, hfs⟩ := hcf
  rw [← hfs] at hset hs2
  refine RWP.seqx tabOk orders ?_
  repeat' ((conv => whnf); (first
    | (with_reducible first | refine Spl.yes ?_ | refine Spl.no ?_ | refine Spl.dec (fun h => ?_) (fun h => ?_) | refine Spl.eq (fun h => ?_) (fun h => ?_) | refine Spl.ne (fun h => ?_) (fun h => ?_) | refine Spl.seq (fun h => ?_) (fun h => ?_) | refine Spl.not ?_ | refine Spl.any (fun h => ?_) (fun h => ?_))
    | refine drawn_text (by decide +kernel) ?_
    | ((with_reducible apply And.intro); first | omega | rfl | (dsimp only; omega))))
  all_goals (conv => whnf)
  refine RWP.seqx tabOk orders ?_
  conv => whnf
  refine RWP.seq ?_
  refine RWP.seqx tabOk orders ?_
  conv => whnf
  refine RWP.block ?_
  refine RWP.loop (fun k st => ∃ (j : Int) (v : Bool), st = kidSt c1 f1 ks v j (kidsG (ks.take j.toNat) (decide (f.kind = 16)) c1.last c1.last c1).2.1 (kidsG (ks.take j.toNat) (decide (f.kind = 16)) c1.last c1.last c1).2.2 (rowsN (kidsG (ks.take j.toNat) (decide (f.kind = 16)) c1.last c1.last c1).1) ∧ 0 ≤ j ∧ j ≤ ks.length ∧ k = (ks.length - j).toNat)
    ⟨_, _, Wk.trans (Wk.ownNil (t := 7) (k := 73) (sz := 12) (e := 27) rfl) (Wk.narrow _ [0, 3, 4, 5, 6, 7, 55, 56, 57] [1000000, 3, 4] [1000001, 73]), 0, true, Eq.trans (b := kidSt c1 f1 ks true 0 c1.last c1 []) rfl (congrArg (fun (X : List Node × Int × Cn) => kidSt c1 f1 ks true 0 X.2.1 X.2.2 (rowsN X.1)) (kidsG_nil (decide (f.kind = 16)) c1.last c1.last c1).symm), by omega, by omega, rfl⟩ ?_
  rintro k st ⟨j, v, rfl, hj0, hj1, hk⟩
  have hlj := kidsG_len (ks.take j.toNat) (decide (f.kind = 16)) c1.last c1.last c1
  have hle := kidsG_le (ks.take j.toNat) (decide (f.kind = 16)) c1.last c1.last c1 (by omega) (by omega) (by omega) (by omega)
  have hll := rowsN_len (kidsG (ks.take j.toNat) (decide (f.kind = 16)) c1.last c1.last c1).1
  have hwt : wN (ks.take j.toNat) ≤ wN ks := by
    have := wN_app (ks.take j.toNat) (ks.drop j.toNat)
    rw [List.take_append_drop] at this
    omega
  rw [List.length_take] at hlj
  refine RWP.seqx tabOk orders ?_
  conv => whnf
  refine RWP.seqx tabOk orders ?_
  repeat' ((conv => whnf); (first
    | (with_reducible first | refine Spl.yes ?_ | refine Spl.no ?_ | refine Spl.dec (fun h => ?_) (fun h => ?_) | refine Spl.eq (fun h => ?_) (fun h => ?_) | refine Spl.ne (fun h => ?_) (fun h => ?_) | refine Spl.seq (fun h => ?_) (fun h => ?_) | refine Spl.not ?_ | refine Spl.any (fun h => ?_) (fun h => ?_))
    | ((with_reducible apply And.intro); first | omega | rfl | (dsimp only; omega))))
  all_goals (conv => whnf)
  rotate_left
  · have e : j = ks.length := by omega
    subst e
    rw [Int.toNat_natCast, List.take_length] at hle hll hlj ⊢
    generalize kidsG ks (decide (f.kind = 16)) c1.last c1.last c1 = r at *
    obtain ⟨o, most, ⟨last2, names2, e2, at2⟩⟩ := r
    subst hG
    refine RWP.of tabOk orders ?_
    repeat' ((conv => whnf); (first
    | (with_reducible first | refine Spl.yes ?_ | refine Spl.no ?_ | refine Spl.dec (fun h => ?_) (fun h => ?_) | refine Spl.eq (fun h => ?_) (fun h => ?_) | refine Spl.ne (fun h => ?_) (fun h => ?_) | refine Spl.seq (fun h => ?_) (fun h => ?_) | refine Spl.not ?_ | refine Spl.any (fun h => ?_) (fun h => ?_))
    | refine drawn_text (by decide +kernel) ?_
    | refine And.intro (Nat.le_of_ble_eq_true rfl) ?_
    | refine And.intro (by show (rows2 f1.set).length * 16 ≤ 140737488355328; omega) ?_
    | ((with_reducible apply And.intro); first | omega | rfl | (dsimp only; omega))))
    all_goals (conv => whnf)
    all_goals first
      | (refine ⟨_, Wk.trans (Wk.narrow _ [4] [1000000, 4] [1000001]) (Wk.maps _ [1000002]), .inl ?_⟩
         conv => whnf
         exact ⟨rfl, rfl⟩)
  have hsn := kidsG_snoc (rdn ks j) (ks.take j.toNat) (decide (f.kind = 16)) c1.last c1.last c1
  rw [← take_stepN hj0 (by omega)] at hsn
  have hm := rdn_mem (l := ks) (j := j) (by omega)
  have hwk : wN (ks.take j.toNat) + (rdn ks j).w ≤ wN ks := by
    have h1 := wN_app (ks.take (j + 1).toNat) (ks.drop (j + 1).toNat)
    have h2 := wN_app (ks.take j.toNat) [rdn ks j]
    rw [List.take_append_drop] at h1
    rw [← take_stepN hj0 (by omega), wN, wN] at h2
    omega
  have hc := ih (rdn ks j) hm
  generalize kidsG (ks.take j.toNat) (decide (f.kind = 16)) c1.last c1.last c1 = r at *
  obtain ⟨o, most, ⟨last2, names2, e2, at2⟩⟩ := r
  obtain ⟨f3, k3, h3⟩ := (rdn ks j).ex
  rw [h3] at hc hsn hwk
  simp only at hsn hll hlj hle
  by_cases q : f.kind = 16
  · rw [if_pos (by simp [q])] at hsn
    have hc := hc ⟨c1.last, names2, e2, at2⟩ (by simp only; omega) (by simp only; omega) (by simp only; omega)
    generalize nodeG (.mk f3 k3) ⟨c1.last, names2, e2, at2⟩ = r2 at *
    obtain ⟨⟨f4, k4⟩, ⟨last4, names4, e4, at4⟩⟩ := r2
    simp only at hsn hc
    have fin : kidSt c1 f1 ks v (j + 1) (if last4 > most then last4 else most) ⟨last4, names4, e4, at4⟩ (rowsN o ++ [(Node.mk f4 k4).cells]) = kidSt c1 f1 ks v (j + 1) (kidsG (ks.take (j + 1).toNat) (decide (f.kind = 16)) c1.last c1.last c1).2.1 (kidsG (ks.take (j + 1).toNat) (decide (f.kind = 16)) c1.last c1.last c1).2.2 (rowsN (kidsG (ks.take (j + 1).toNat) (decide (f.kind = 16)) c1.last c1.last c1).1) := by
      rw [hsn, rowsN_snoc]; rfl
    refine RWP.of tabOk orders ?_
    repeat' ((conv => whnf); (first
    | (with_reducible first | refine Spl.yes ?_ | refine Spl.no ?_ | refine Spl.dec (fun h => ?_) (fun h => ?_) | refine Spl.eq (fun h => ?_) (fun h => ?_) | refine Spl.ne (fun h => ?_) (fun h => ?_) | refine Spl.seq (fun h => ?_) (fun h => ?_) | refine Spl.not ?_ | refine Spl.any (fun h => ?_) (fun h => ?_))
    | (rw [rowsN_get (by omega)])
    | (rw [h3])
    | (refine HQ.use (hc) ⟨id, id, id⟩ ⟨rfl, rfl⟩ rfl rfl (by first | exact ⟨⟨rfl, rfl⟩, trivial⟩ | exact ⟨⟨rfl, rfl⟩, ⟨rfl, rfl⟩, trivial⟩) (by first | exact trivial | exact ⟨⟨rfl, rfl⟩, trivial⟩ | exact ⟨⟨rfl, rfl⟩, ⟨rfl, rfl⟩, trivial⟩) (by first | exact trivial | exact ⟨⟨rfl, rfl⟩, trivial⟩) ?_; rintro _ _ ⟨rfl, rfl⟩; refine ⟨⟨rfl, rfl, rfl⟩, ?_⟩)
    | refine And.intro (Nat.le_of_ble_eq_true rfl) ?_
    | refine And.intro (by show ((rowsN o).length + 1) * 136 ≤ 140737488355328; omega) ?_
    | ((with_reducible apply And.intro); first | omega | rfl | (dsimp only; omega))))
    all_goals (conv => whnf)
    all_goals first
      | (exfalso; omega)
      | (exact ⟨(ks.length - (j + 1)).toNat, _, by omega, Wk.narrow _ [0, 3, 4, 5, 6, 7, 55, 56, 57] [1000000, 3, 4] [1000001, 73], j + 1, v, Eq.trans rfl fin, by omega, by omega, rfl⟩)
  · rw [if_neg (by simp [q])] at hsn
    have hc := hc ⟨last2, names2, e2, at2⟩ (by simp only; omega) (by simp only; omega) (by simp only; omega)
    generalize nodeG (.mk f3 k3) ⟨last2, names2, e2, at2⟩ = r2 at *
    obtain ⟨⟨f4, k4⟩, ⟨last4, names4, e4, at4⟩⟩ := r2
    simp only at hsn hc
    have fin : kidSt c1 f1 ks v (j + 1) (if last4 > most then last4 else most) ⟨last4, names4, e4, at4⟩ (rowsN o ++ [(Node.mk f4 k4).cells]) = kidSt c1 f1 ks v (j + 1) (kidsG (ks.take (j + 1).toNat) (decide (f.kind = 16)) c1.last c1.last c1).2.1 (kidsG (ks.take (j + 1).toNat) (decide (f.kind = 16)) c1.last c1.last c1).2.2 (rowsN (kidsG (ks.take (j + 1).toNat) (decide (f.kind = 16)) c1.last c1.last c1).1) := by
      rw [hsn, rowsN_snoc]; rfl
    refine RWP.of tabOk orders ?_
    repeat' ((conv => whnf); (first
    | (with_reducible first | refine Spl.yes ?_ | refine Spl.no ?_ | refine Spl.dec (fun h => ?_) (fun h => ?_) | refine Spl.eq (fun h => ?_) (fun h => ?_) | refine Spl.ne (fun h => ?_) (fun h => ?_) | refine Spl.seq (fun h => ?_) (fun h => ?_) | refine Spl.not ?_ | refine Spl.any (fun h => ?_) (fun h => ?_))
    | (rw [rowsN_get (by omega)])
    | (rw [h3])
    | (refine HQ.use (hc) ⟨id, id, id⟩ ⟨rfl, rfl⟩ rfl rfl (by first | exact ⟨⟨rfl, rfl⟩, trivial⟩ | exact ⟨⟨rfl, rfl⟩, ⟨rfl, rfl⟩, trivial⟩) (by first | exact trivial | exact ⟨⟨rfl, rfl⟩, trivial⟩ | exact ⟨⟨rfl, rfl⟩, ⟨rfl, rfl⟩, trivial⟩) (by first | exact trivial | exact ⟨⟨rfl, rfl⟩, trivial⟩) ?_; rintro _ _ ⟨rfl, rfl⟩; refine ⟨⟨rfl, rfl, rfl⟩, ?_⟩)
    | refine And.intro (Nat.le_of_ble_eq_true rfl) ?_
    | refine And.intro (by show ((rowsN o).length + 1) * 136 ≤ 140737488355328; omega) ?_
    | ((with_reducible apply And.intro); first | omega | rfl | (dsimp only; omega))))
    all_goals (conv => whnf)
    all_goals first
      | (exfalso; omega)
      | (exact ⟨(ks.length - (j + 1)).toNat, _, by omega, Wk.narrow _ [0, 3, 4, 5, 6, 7, 55, 56, 57] [1000000, 3, 4] [1000001, 73], j + 1, v, Eq.trans rfl fin, by omega, by omega, rfl⟩)
theorem ng_c : ∀ (k : Nat) (n : Node), n.w ≤ k → n.w ≤ 1000000 → n.all SetOk → NgC n := by
  intro k
  induction k with
  | zero => intro n h; have := w_pos n; omega
  | succ k ih =>
    intro n hk hw ha
    cases n with
    | mk f ks =>
      rw [Node.w] at hk hw
      rw [Node.all] at ha
      exact ng_step f ks ha.1 (by omega) (fun n hn => ih n (by have := wN_mem hn; omega) (by have := wN_mem hn; omega) (allN_mem ha.2 hn))
end Go.Proofs.Ytnoohgiecnmajaa.VC

/- groups.Number. -/
namespace Go.Proofs.Ytnoohgiecnmajaa.VC
open Go Go.RowKit
set_option linter.unusedVariables false
set_option linter.unusedSimpArgs false
set_option maxHeartbeats 4000000

attribute [local irreducible] nodeG kidsG
set_option maxHeartbeats 16000000
theorem numG_c (n : Node) (hw : n.w ≤ 1000000) (ha : n.all SetOk) : VCalls Try.prog 21 [n.enc] (fun r => r = numE (numG n)) := by
  have hc := ng_c n.w n (Nat.le_refl _) hw ha ⟨0, [], 0, 0⟩ (by decide) (by show (0 : Int) + n.w ≤ 2000000000; omega) (by show 0 + n.w ≤ 1000000000; omega)
  obtain ⟨G, hG⟩ : ∃ G, numG n = G := ⟨_, rfl⟩
  rw [hG]
  unfold numG at hG
  obtain ⟨f0, k0, h0⟩ := n.ex
  rw [h0] at hc hG ⊢
  generalize nodeG (.mk f0 k0) ⟨0, [], 0, 0⟩ = r at *
  obtain ⟨⟨f, ks⟩, ⟨last, names, e, at_⟩⟩ := r
  simp only at hG hc
  refine VCalls.ofr tabOk Try.func21 (by decide) rfl rfl ?_
  refine RWP.seqx tabOk orders ?_
  conv => whnf
  refine RWP.seq (RWP.counter rfl ⟨rfl, rfl, rfl⟩ ⟨rfl, rfl, rfl⟩ ⟨rfl, rfl, rfl⟩ ⟨rfl, rfl, rfl⟩ rfl ?_)
  conv => whnf
  refine RWP.weak (Wk.trans (Wk.boxNil (s := 11) (i := 1) (k := 90) (sz := 2) (e := 45) (T := 69) (cs := [.pv (iv 0), .pv (.val nilV), .map 9, .pv (iv 0), .pv (iv 0)]) rfl rfl) (Wk.narrow _ [1, 2, 7] [1, 2, 11] [90])) ?_
  refine RWP.seqx tabOk orders ?_
  repeat' ((conv => whnf); (first
    | (with_reducible first | refine Spl.yes ?_ | refine Spl.no ?_ | refine Spl.dec (fun h => ?_) (fun h => ?_) | refine Spl.eq (fun h => ?_) (fun h => ?_) | refine Spl.ne (fun h => ?_) (fun h => ?_) | refine Spl.seq (fun h => ?_) (fun h => ?_) | refine Spl.not ?_ | refine Spl.any (fun h => ?_) (fun h => ?_))
    | (refine HQ.use (hc) ⟨fun _ => 11, fun _ => 90, fun _ => 9⟩ ⟨rfl, rfl⟩ rfl rfl (by first | exact ⟨⟨rfl, rfl⟩, trivial⟩ | exact ⟨⟨rfl, rfl⟩, ⟨rfl, rfl⟩, trivial⟩) (by first | exact trivial | exact ⟨⟨rfl, rfl⟩, trivial⟩ | exact ⟨⟨rfl, rfl⟩, ⟨rfl, rfl⟩, trivial⟩) (by first | exact trivial | exact ⟨⟨rfl, rfl⟩, trivial⟩) ?_; rintro _ _ ⟨rfl, rfl⟩; refine ⟨⟨rfl, rfl, rfl⟩, ?_⟩)
    | refine And.intro (Nat.le_of_ble_eq_true rfl) ?_
    | ((with_reducible apply And.intro); first | omega | rfl | (dsimp only; omega))))
  all_goals (conv => whnf)
  refine RWP.of tabOk orders ?_
  repeat' ((conv => whnf); (first
    | (with_reducible first | refine Spl.yes ?_ | refine Spl.no ?_ | refine Spl.dec (fun h => ?_) (fun h => ?_) | refine Spl.eq (fun h => ?_) (fun h => ?_) | refine Spl.ne (fun h => ?_) (fun h => ?_) | refine Spl.seq (fun h => ?_) (fun h => ?_) | refine Spl.not ?_ | refine Spl.any (fun h => ?_) (fun h => ?_))
    | refine drawn_plan (.one 0 (.one 1 (.one 2 (.one 3 (.one 5 (.one 6 (.one 7 (.three 4 (.two 8 (.ofList [9, 10, 11, 12, 13]) 9 (.ofList [8, 10, 11, 12, 13])) 8 (.two 4 (.ofList [9, 10, 11, 12, 13]) 9 (.ofList [4, 10, 11, 12, 13])) 9 (.ofList [4, 8, 10, 11, 12, 13]))))))))) (by decide +kernel) ?_
    | refine Fork.mk ?_ ?_
    | refine Fork3.mk ?_ ?_ ?_
    | refine And.intro (Nat.le_of_ble_eq_true rfl) ?_
    | ((with_reducible apply And.intro); first | omega | rfl | (dsimp only; omega))))
  all_goals (conv => whnf)
  all_goals first
    | (rw [if_pos (by assumption)] at hG; subst hG; rfl)
    | (rw [if_neg (fun h => h (by assumption))] at hG; subst hG; rfl)
end Go.Proofs.Ytnoohgiecnmajaa.VC

/- The laws of groups: awake; GroupsSays. -/
namespace Go.Proofs.Ytnoohgiecnmajaa.VC
open Go Go.RowKit
set_option linter.unusedVariables false
set_option linter.unusedSimpArgs false
set_option maxHeartbeats 4000000

def aw1 : List Int := [40, 97, 41, 40, 63, 124, 40, 98, 41, 124, 40, 99, 41, 40, 100, 41, 41, 40, 101, 41]
def aw2 : List Int := [40, 63, 60, 110, 62, 97, 41, 40, 63, 60, 110, 62, 98, 41]
theorem aw1_is : (numG (flatP aw1 0).1).e = 0 ∧ (numG (flatP aw1 0).1).most = 4 ∧ (numG (flatP aw1 0).1).n.kids.length = 3 ∧ (rdn (numG (flatP aw1 0).1).n.kids 2).f.n = 4 := by decide +kernel
theorem aw2_is : (numG (flatP aw2 0).1).e = 33 ∧ (numG (flatP aw2 0).1).at_ = 7 := by decide +kernel
theorem flatP_all (l : List Int) (o : Int) : (flatP l o).1.all SetOk := by
  have h1 := lexP_ok l o
  have hz : nodeZ.all SetOk := by unfold nodeZ; rw [Node.all, allN]; exact ⟨Nat.zero_le _, trivial⟩
  unfold flatP
  split
  · exact hz
  split
  · exact hz
  · rename_i e1 e2
    have h2 := parse_all (fit_ph (h1.2.1 (by simpa using e1)).2.2) l.length (by simpa using e2)
    exact nodeR_all _ _ _ h2.1
theorem numG_w (n : Node) : (numG n).n.w ≤ n.w ∧ (numG n).names.length ≤ n.w ∧ (n.all SetOk → (numG n).n.all SetOk) := by
  have hz : nodeZ.all SetOk := by unfold nodeZ; rw [Node.all, allN]; exact ⟨Nat.zero_le _, trivial⟩
  have hzw : nodeZ.w = 1 := by decide
  have h1 := w_pos n
  have h2 := nodeG_le n ⟨0, [], 0, 0⟩ (by decide)
  have h3 := nbN_le n 0
  have h4 := numG_is n
  refine ⟨?_, ?_, ?_⟩
  · rw [h4]; unfold numR9; split
    · simp only; omega
    · simp only; omega
  · unfold numG; split
    · simp
    · simp only at h2 ⊢; simp at h2; omega
  · intro ha
    rw [h4]; unfold numR9; split
    · exact hz
    · exact nbN_all n 0 ha
attribute [local irreducible] flatP numG
set_option maxHeartbeats 16000000
theorem awake9_c : VCalls Try.prog 19 [] (fun r => r = bv true) := by
  have hf1 := flat_c aw1 0 (by unfold Bytes; decide)
  have hf2 := flat_c aw2 0 (by unfold Bytes; decide)
  have hw1 := flatP_w aw1 0
  have hw2 := flatP_w aw2 0
  have hn1 := numG_c (flatP aw1 0).1 (by omega) (flatP_all aw1 0)
  have hn2 := numG_c (flatP aw2 0).1 (by omega) (flatP_all aw2 0)
  have ha1 := aw1_is
  have ha2 := aw2_is
  generalize flatP aw1 0 = r1 at *
  generalize flatP aw2 0 = r2 at *
  obtain ⟨⟨f1, k1⟩, b1⟩ := r1
  obtain ⟨⟨f2, k2⟩, b2⟩ := r2
  simp only at *
  generalize numG (.mk f1 k1) = q1 at *
  generalize numG (.mk f2 k2) = q2 at *
  obtain ⟨⟨g1, m1⟩, most1, names1, e1, at1⟩ := q1
  obtain ⟨⟨g2, m2⟩, most2, names2, e2, at2⟩ := q2
  simp only [Node.kids] at *
  obtain ⟨rfl, rfl, hk, hn⟩ := ha1
  obtain ⟨rfl, rfl⟩ := ha2
  have hrl := rowsN_len m1
  obtain ⟨f3, k3, h3⟩ := (rdn m1 2).ex
  rw [h3] at hn
  refine VCalls.ofr tabOk Try.func19 (by decide) rfl rfl ?_
  refine RWP.seqx tabOk orders ?_
  conv => whnf
  refine RWP.seq (RWP.konst aw1 rfl ⟨rfl, rfl, rfl⟩ ⟨rfl, rfl, rfl⟩ rfl rfl rfl (fun a => by kernel_rfl) ?_)
  repeat' ((conv => whnf); (first
    | (with_reducible first | refine Spl.yes ?_ | refine Spl.no ?_ | refine Spl.dec (fun h => ?_) (fun h => ?_) | refine Spl.eq (fun h => ?_) (fun h => ?_) | refine Spl.ne (fun h => ?_) (fun h => ?_) | refine Spl.seq (fun h => ?_) (fun h => ?_) | refine Spl.not ?_ | refine Spl.any (fun h => ?_) (fun h => ?_))
    | (refine VCalls.mono (hf1) ?_; rintro _ rfl)
    | refine And.intro (Nat.le_of_ble_eq_true rfl) ?_
    | ((with_reducible apply And.intro); first | omega | rfl | (dsimp only; omega))))
  all_goals (conv => whnf)
  refine RWP.seqx tabOk orders ?_
  repeat' ((conv => whnf); (first
    | (with_reducible first | refine Spl.yes ?_ | refine Spl.no ?_ | refine Spl.dec (fun h => ?_) (fun h => ?_) | refine Spl.eq (fun h => ?_) (fun h => ?_) | refine Spl.ne (fun h => ?_) (fun h => ?_) | refine Spl.seq (fun h => ?_) (fun h => ?_) | refine Spl.not ?_ | refine Spl.any (fun h => ?_) (fun h => ?_))
    | (refine VCalls.mono (hn1) ?_; rintro _ rfl)
    | refine And.intro (Nat.le_of_ble_eq_true rfl) ?_
    | ((with_reducible apply And.intro); first | omega | rfl | (dsimp only; omega))))
  all_goals (conv => whnf)
  refine RWP.seq (RWP.konst aw2 rfl ⟨rfl, rfl, rfl⟩ ⟨rfl, rfl, rfl⟩ rfl rfl rfl (fun a => by kernel_rfl) ?_)
  repeat' ((conv => whnf); (first
    | (with_reducible first | refine Spl.yes ?_ | refine Spl.no ?_ | refine Spl.dec (fun h => ?_) (fun h => ?_) | refine Spl.eq (fun h => ?_) (fun h => ?_) | refine Spl.ne (fun h => ?_) (fun h => ?_) | refine Spl.seq (fun h => ?_) (fun h => ?_) | refine Spl.not ?_ | refine Spl.any (fun h => ?_) (fun h => ?_))
    | (refine VCalls.mono (hf2) ?_; rintro _ rfl)
    | refine And.intro (Nat.le_of_ble_eq_true rfl) ?_
    | ((with_reducible apply And.intro); first | omega | rfl | (dsimp only; omega))))
  all_goals (conv => whnf)
  refine RWP.of tabOk orders ?_
  repeat' ((conv => whnf); (first
    | (with_reducible first | refine Spl.yes ?_ | refine Spl.no ?_ | refine Spl.dec (fun h => ?_) (fun h => ?_) | refine Spl.eq (fun h => ?_) (fun h => ?_) | refine Spl.ne (fun h => ?_) (fun h => ?_) | refine Spl.seq (fun h => ?_) (fun h => ?_) | refine Spl.not ?_ | refine Spl.any (fun h => ?_) (fun h => ?_))
    | (refine VCalls.mono (hn2) ?_; rintro _ rfl)
    | refine drawn_text (by decide +kernel) ?_
    | (rw [rowsN_get (by omega)])
    | (rw [h3])
    | refine And.intro (Nat.le_of_ble_eq_true rfl) ?_
    | ((with_reducible apply And.intro); first | omega | rfl | (dsimp only; omega))))
  all_goals (conv => whnf)
  all_goals first
    | (exfalso; omega)
    | (exfalso; exact absurd (show f3.n = 4 from hn) (by assumption))
    | (exfalso; exact absurd rfl (by assumption))
    | rfl
theorem says9_c (l : List Int) (o : Int) (hb : Bytes l) : VCalls Try.prog 3 [ys l, iv o] (fun r => r = bv true) := by
  have hf := flat_c l o hb
  have hw := flatP_w l o
  have hal := flatP_all l o
  have hn := numG_c (flatP l o).1 (by omega) hal
  have hn9 := number9_c (flatP l o).1 (by omega)
  rw [← numG_is] at hn9
  have hgw := numG_w (flatP l o).1
  have hsm := same_c (numG (flatP l o).1).n.w (numG (flatP l o).1).n (Nat.le_refl _) (by omega) (hgw.2.2 hal)
  have hpl := places_c (numG (flatP l o).1).n.w (numG (flatP l o).1).n (Nat.le_refl _) (by omega)
  have hs9 := same9_c (numG (flatP l o).1).names (numG (flatP l o).1).names (by omega)
  rw [decide_eq_true rfl] at hs9
  unfold SmC at hsm
  unfold PlC at hpl
  generalize flatP l o = r1 at *
  obtain ⟨⟨f1, k1⟩, b1⟩ := r1
  simp only at *
  generalize numG (.mk f1 k1) = q1 at *
  obtain ⟨⟨g1, m1⟩, most1, names1, e1, at1⟩ := q1
  simp only at *
  refine VCalls.ofr tabOk Try.func3 (by decide) rfl rfl ?_
  refine RWP.of tabOk orders ?_
  repeat' ((conv => whnf); (first
    | (with_reducible first | refine Spl.yes ?_ | refine Spl.no ?_ | refine Spl.dec (fun h => ?_) (fun h => ?_) | refine Spl.eq (fun h => ?_) (fun h => ?_) | refine Spl.ne (fun h => ?_) (fun h => ?_) | refine Spl.seq (fun h => ?_) (fun h => ?_) | refine Spl.not ?_ | refine Spl.any (fun h => ?_) (fun h => ?_))
    | (refine VCalls.mono (awake9_c) ?_; rintro _ rfl)
    | (refine VCalls.mono (hf) ?_; rintro _ rfl)
    | (refine VCalls.mono (hn) ?_; rintro _ rfl)
    | (refine VCalls.mono (hn9) ?_; rintro _ rfl)
    | (refine VCalls.mono (hsm) ?_; rintro _ rfl)
    | (refine VCalls.mono (hpl) ?_; rintro _ rfl)
    | (refine VCalls.mono (hs9) ?_; rintro _ rfl)
    | refine And.intro (Nat.le_of_ble_eq_true rfl) ?_
    | ((with_reducible apply And.intro); first | omega | rfl | (dsimp only; omega))))
  all_goals (conv => whnf)
  all_goals first
    | (exfalso; exact absurd rfl (by assumption))
    | rfl
    | (simp only [beq_self_eq_true]; rfl)
end Go.Proofs.Ytnoohgiecnmajaa.VC

/- groups: the numbers of a tree that is numbered (plain). -/
namespace Go.Proofs.Ytnoohgiecnmajaa.VC
open Go Go.RowKit
set_option linter.unusedVariables false
set_option linter.unusedSimpArgs false
set_option maxHeartbeats 4000000

def numsC (l : List Node) : List Int := l.map (fun c => c.f.n)
theorem numsC_app (a b : List Node) : numsC (a ++ b) = numsC a ++ numsC b := by unfold numsC; rw [List.map_append]
theorem numsC_cons (f : NodeF) (ks a : List Node) : numsC (.mk f ks :: a) = f.n :: numsC a := rfl
theorem numsC_nil : numsC [] = [] := rfl
theorem capsL_app : ∀ a b : List Node, capsL (a ++ b) = capsL a ++ capsL b
  | [], b => by rw [List.nil_append, capsL]; rfl
  | k :: a, b => by rw [List.cons_append, capsL, capsL, capsL_app a b, List.append_assoc]
mutual
def hasR : Node → Bool
  | .mk f ks => if f.kind = 16 then true else hasRL ks
def hasRL : List Node → Bool
  | [] => false
  | k :: l => hasR k || hasRL l
end
mutual
theorem rise_N : ∀ (n : Node) (a x : Int), (a < x ∧ x ≤ (nbN n a).2) ↔ x ∈ numsC (capsN (nbN n a).1)
  | .mk f ks, a, x => by
    rw [nbN]
    simp only
    rw [capsN]
    have hT : a ≤ nbT f a ∧ nbT f a ≤ a + 1 := by unfold nbT; split <;> omega
    have h := rise_L ks (decide (f.kind = 16)) (nbT f a) (nbT f a) (Int.le_refl _) x
    have hle := nbL_le ks (decide (f.kind = 16)) (nbT f a) (nbT f a) (Int.le_refl _)
    have hk : (nbF f a).kind = f.kind := by unfold nbF; split <;> rfl
    rw [hk]
    by_cases q : f.kind = 14
    · rw [if_pos q, numsC_cons, List.mem_cons, ← (show _ ↔ _ from Iff.intro (fun hh => (h.1 hh).resolve_left (by omega)) (fun hh => h.2 (.inr hh)))]
      have h1 : (nbF f a).n = a + 1 := by unfold nbF; rw [if_pos q]
      have h2 : nbT f a = a + 1 := by unfold nbT; rw [if_pos q]
      rw [h1]
      omega
    · rw [if_neg q, ← (show _ ↔ _ from Iff.intro (fun hh => (h.1 hh).resolve_left (by omega)) (fun hh => h.2 (.inr hh)))]
      have h2 : nbT f a = a := by unfold nbT; rw [if_neg q]
      rw [h2]
theorem rise_L : ∀ (l : List Node) (rs : Bool) (a m : Int), a ≤ m → ∀ x, (a < x ∧ x ≤ (nbL l rs a m).2) ↔ ((a < x ∧ x ≤ m) ∨ x ∈ numsC (capsL (nbL l rs a m).1))
  | [], rs, a, m, h, x => by
    rw [nbL]
    simp only
    rw [capsL, numsC_nil]
    simp
  | k :: l, rs, a, m, h, x => by
    rw [nbL]
    simp only
    rw [capsL, numsC_app, List.mem_append]
    obtain ⟨s, hs⟩ : ∃ s, (if rs = true then a else m) = s := ⟨_, rfl⟩
    rw [hs]
    have hs2 : s = a ∨ s = m := by revert hs; split <;> intro hs <;> simp [hs]
    have h1 := rise_N k s x
    have h2 := nbN_le k s
    generalize nbN k s = r at *
    have hm : mxP r.2 m = r.2 ∧ m ≤ r.2 ∨ mxP r.2 m = m ∧ r.2 ≤ m := by unfold mxP; split <;> omega
    have h3 := rise_L l rs a (mxP r.2 m) (by omega) x
    rw [h3, ← h1]
    constructor
    · rintro (q | q)
      · by_cases q2 : x ≤ m
        · exact .inl (by omega)
        · exact .inr (.inl (by omega))
      · exact .inr (.inr q)
    · rintro (q | q | q)
      · exact .inl (by omega)
      · exact .inl (by omega)
      · exact .inr q
end
/-- All numbers behind one, up to one. -/
def upTo (a b : Int) : List Int := (List.range (b - a).toNat).map (fun i : Nat => a + 1 + (i : Int))
theorem upTo_self (a : Int) : upTo a a = [] := by unfold upTo; simp
theorem upTo_app {a b c : Int} (h1 : a ≤ b) (h2 : b ≤ c) : upTo a b ++ upTo b c = upTo a c := by
  unfold upTo
  apply List.ext_getElem
  · simp; omega
  · intro i hi hj
    simp at hi hj
    rw [List.getElem_append]
    split
    · simp
    · rename_i q
      simp at q ⊢
      omega
theorem upTo_cons {a b : Int} (h : a + 1 ≤ b) : (a + 1) :: upTo (a + 1) b = upTo a b := by
  have : upTo a (a + 1) = [a + 1] := by
    unfold upTo
    have : (a + 1 - a).toNat = 1 := by omega
    rw [this]; simp
  rw [← upTo_app (show a ≤ a + 1 by omega) h, this]; rfl
mutual
theorem line_N : ∀ (n : Node) (a : Int), hasR n = false → numsC (capsN (nbN n a).1) = upTo a (nbN n a).2
  | .mk f ks, a, h => by
    rw [hasR] at h
    by_cases q16 : f.kind = 16
    · rw [if_pos q16] at h; cases h
    rw [if_neg q16] at h
    rw [nbN]
    simp only
    rw [capsN]
    have hk : (nbF f a).kind = f.kind := by unfold nbF; split <;> rfl
    have hl := line_L ks (nbT f a) (nbT f a) (Int.le_refl _) h
    have hle := nbL_le ks (decide (f.kind = 16)) (nbT f a) (nbT f a) (Int.le_refl _)
    rw [decide_eq_false q16] at hle ⊢
    rw [hk]
    by_cases q : f.kind = 14
    · have h1 : (nbF f a).n = a + 1 := by unfold nbF; rw [if_pos q]
      have h2 : nbT f a = a + 1 := by unfold nbT; rw [if_pos q]
      rw [if_pos q, numsC_cons, hl, h1, h2]
      rw [h2] at hle
      exact upTo_cons (by omega)
    · have h2 : nbT f a = a := by unfold nbT; rw [if_neg q]
      rw [if_neg q, hl, h2]
theorem line_L : ∀ (l : List Node) (a m : Int), a ≤ m → hasRL l = false → numsC (capsL (nbL l false a m).1) = upTo m (nbL l false a m).2
  | [], a, m, ham, h => by
    rw [nbL]
    simp only
    rw [capsL, numsC_nil, upTo_self]
  | k :: l, a, m, ham, h => by
    rw [hasRL, Bool.or_eq_false_iff] at h
    rw [nbL]
    simp only
    rw [capsL, numsC_app, if_neg (by simp)]
    have h1 := line_N k m h.1
    have h2 := nbN_le k m
    generalize nbN k m = r at *
    have hm : mxP r.2 m = r.2 := by unfold mxP; split <;> omega
    have h3 := line_L l a r.2 (by omega) h.2
    have h4 := nbL_le l false a r.2 (by omega)
    rw [hm, h1, h3]
    exact upTo_app (by omega) h4.1
end
/-- Each number that is met, once. -/
def addK (A : List Int) (x : Int) : List Int := if x ∈ A then A else A ++ [x]
def metL (l : List Int) : List Int := l.foldl addK []
theorem metL_snoc (l : List Int) (x : Int) : metL (l ++ [x]) = addK (metL l) x := by unfold metL; rw [List.foldl_append]; rfl
theorem addK_mem (A : List Int) (x y : Int) : y ∈ addK A x ↔ (y ∈ A ∨ y = x) := by
  unfold addK
  split
  · rename_i h
    constructor
    · exact .inl
    · rintro (q | rfl)
      · exact q
      · exact h
  · simp
theorem addK_nodup {A : List Int} {x : Int} (h : A.Nodup) : (addK A x).Nodup := by
  unfold addK
  split
  · exact h
  · rename_i hx
    rw [List.nodup_append]
    exact ⟨h, by simp, by intro a ha b hb; simp at hb; subst hb; intro e; subst e; exact hx ha⟩
theorem fold_mem (y : Int) : ∀ (l A : List Int), y ∈ l.foldl addK A ↔ (y ∈ A ∨ y ∈ l)
  | [], A => by simp
  | x :: l, A => by rw [List.foldl_cons, fold_mem y l, addK_mem, List.mem_cons, or_assoc]
theorem fold_nodup : ∀ (l A : List Int), A.Nodup → (l.foldl addK A).Nodup
  | [], A, h => h
  | x :: l, A, h => by rw [List.foldl_cons]; exact fold_nodup l _ (addK_nodup h)
theorem metL_mem (l : List Int) (y : Int) : y ∈ metL l ↔ y ∈ l := by unfold metL; rw [fold_mem]; simp
theorem metL_nodup (l : List Int) : (metL l).Nodup := fold_nodup l [] (by simp)
theorem metL_len (l : List Int) : (metL l).length ≤ l.length := by
  suffices h : ∀ (l A : List Int), (l.foldl addK A).length ≤ A.length + l.length by have := h l []; simpa [metL] using this
  intro l
  induction l with
  | nil => intro A; simp
  | cons x l ih =>
    intro A
    rw [List.foldl_cons]
    have := ih (addK A x)
    have h2 : (addK A x).length ≤ A.length + 1 := by unfold addK; split <;> simp
    simp only [List.length_cons]
    omega
theorem count_to : ∀ (m : Nat) (A : List Int), A.Nodup → (∀ x, x ∈ A ↔ (0 < x ∧ x ≤ (m : Int))) → A.length = m
  | 0, A, hn, h => by
    cases A with
    | nil => rfl
    | cons x A => have := (h x).1 (List.mem_cons_self ..); omega
  | m + 1, A, hn, h => by
    have hm : ((m + 1 : Nat) : Int) ∈ A := (h _).2 (by omega)
    have h1 := count_to m (A.erase ((m + 1 : Nat) : Int)) (hn.erase _) (fun x => by
      rw [hn.mem_erase_iff, h x]
      omega)
    have h2 := List.length_erase_of_mem hm
    have h3 := List.length_pos_of_mem hm
    omega
theorem met_len {n : Node} : ((metL (numsC (capsN (nbN n 0).1))).length : Int) = (nbN n 0).2 := by
  have h0 := nbN_le n 0
  have := count_to (nbN n 0).2.toNat (metL (numsC (capsN (nbN n 0).1))) (metL_nodup _) (fun x => by
    rw [metL_mem, ← rise_N]
    omega)
  omega
end Go.Proofs.Ytnoohgiecnmajaa.VC

/- The laws of groups: the numbers of a tree; a branch reset; a name's number. -/
namespace Go.Proofs.Ytnoohgiecnmajaa.VC
open Go Go.RowKit
set_option linter.unusedVariables false
set_option linter.unusedSimpArgs false
set_option maxHeartbeats 4000000

set_option maxHeartbeats 16000000
attribute [local irreducible] capsN capsL hasR hasRL
theorem rows1_app (a b : List Int) : rows1 a ++ rows1 b = rows1 (a ++ b) := by simp [rows1]
theorem numsC_len (l : List Node) : (numsC l).length = l.length := by unfold numsC; simp
def NumsC (n : Node) : Prop := VCalls Try.prog 26 [n.enc] (fun r => r = is (numsC (capsN n)))
def numH (f : NodeF) : List Int := if f.kind = 14 then [f.n] else []
theorem nums_step (f : NodeF) (ks : List Node) (hw : wN ks ≤ 1000000) (ih : ∀ n ∈ ks, NumsC n) : VCalls Try.prog 26 [(Node.mk f ks).enc] (fun r => r = is (numsC (capsN (.mk f ks)))) := by
  have hn := rowsN_len ks
  have hl := wN_len ks
  have hcl := capsL_len ks
  have hG : numsC (capsN (.mk f ks)) = numH f ++ numsC (capsL ks) := by
    rw [capsN, numH]
    split
    · rw [numsC_cons]; rfl
    · rfl
  rw [hG]
  refine VCalls.ofr tabOk Try.func26 (by decide) rfl rfl ?_
  refine RWP.seqx tabOk orders ?_
  conv => whnf
  refine RWP.seqx tabOk orders ?_
  conv => whnf
  refine RWP.cut (fun st => ∃ v, st = ⟨29, [(1, .ptr 1 0), (3, .own 27)], [(1, (27, nfe f ks))], [(27, ⟨1, 3, v, rows1 (numH f)⟩)], []⟩) tabOk orders ?_ ?_
  · repeat' ((conv => whnf); (first
    | (with_reducible first | refine Spl.yes ?_ | refine Spl.no ?_ | refine Spl.dec (fun h => ?_) (fun h => ?_) | refine Spl.eq (fun h => ?_) (fun h => ?_) | refine Spl.ne (fun h => ?_) (fun h => ?_) | refine Spl.seq (fun h => ?_) (fun h => ?_) | refine Spl.not ?_ | refine Spl.any (fun h => ?_) (fun h => ?_))
    | refine And.intro (Nat.le_of_ble_eq_true rfl) ?_
    | ((with_reducible apply And.intro); first | omega | rfl | (dsimp only; omega))))
    all_goals (conv => whnf)
    all_goals (unfold numH)
    · rw [if_pos (by assumption)]
      exact ⟨_, Wk.trans (Wk.renOwn 3 27 (k := 12) rfl rfl rfl) (Wk.narrow _ [1, 3] [1] [27]), true, rfl⟩
    · rw [if_neg (by assumption)]
      exact ⟨_, Wk.trans (Wk.ownNil (t := 3) (k := 27) (sz := 1) (e := 3) rfl) (Wk.narrow _ [1, 3] [1] [27]), true, rfl⟩
  rintro _ ⟨v, rfl⟩
  have hh : (numH f).length ≤ 1 := by unfold numH; split <;> simp
  generalize numH f = H at *
  refine RWP.seq ?_
  refine RWP.seqx tabOk orders ?_
  conv => whnf
  refine RWP.block ?_
  refine RWP.loop (fun k st => ∃ (j : Int) (v : Bool), st = ⟨29, [(1, .ptr 1 0), (3, .own 27), (4, .pv (iv j))], [(1, (27, nfe f ks))], [(27, ⟨1, 3, v, rows1 (H ++ numsC (capsL (ks.take j.toNat)))⟩)], []⟩ ∧ 0 ≤ j ∧ j ≤ ks.length ∧ k = (ks.length - j).toNat)
    ⟨_, _, Wk.narrow _ [1, 3, 4] [1] [27], 0, v, Eq.trans rfl (congrArg (fun (X : List Int) => (⟨29, [(1, .ptr 1 0), (3, .own 27), (4, .pv (iv 0))], [(1, (27, nfe f ks))], [(27, ⟨1, 3, v, rows1 X⟩)], []⟩ : St)) (by show H = H ++ numsC (capsL []); rw [capsL, numsC_nil]; simp)), by omega, by omega, rfl⟩ ?_
  rintro k st ⟨j, v, rfl, hj0, hj1, hk⟩
  have hwt : wN (ks.take j.toNat) ≤ wN ks := by
    have := wN_app (ks.take j.toNat) (ks.drop j.toNat)
    rw [List.take_append_drop] at this
    omega
  have hct := capsL_len (ks.take j.toNat)
  refine RWP.seqx tabOk orders ?_
  repeat' ((conv => whnf); (first
    | (with_reducible first | refine Spl.yes ?_ | refine Spl.no ?_ | refine Spl.dec (fun h => ?_) (fun h => ?_) | refine Spl.eq (fun h => ?_) (fun h => ?_) | refine Spl.ne (fun h => ?_) (fun h => ?_) | refine Spl.seq (fun h => ?_) (fun h => ?_) | refine Spl.not ?_ | refine Spl.any (fun h => ?_) (fun h => ?_))
    | ((with_reducible apply And.intro); first | omega | rfl | (dsimp only; omega))))
  all_goals (conv => whnf)
  rotate_left
  · have e : j = ks.length := by omega
    subst e
    rw [Int.toNat_natCast, List.take_length]
    refine RWP.of tabOk orders ?_
    conv => whnf
    rfl
  have hsn := capsL_snoc (rdn ks j) (ks.take j.toNat)
  rw [← take_stepN hj0 (by omega)] at hsn
  have hm := rdn_mem (l := ks) (j := j) (by omega)
  have hc := ih (rdn ks j) hm
  have hcn := capsN_len (rdn ks j)
  have hwm := wN_mem hm
  have hr1 := rows1_len (H ++ numsC (capsL (ks.take j.toNat)))
  have hr2 := rows1_len (numsC (capsN (rdn ks j)))
  rw [List.length_append, numsC_len] at hr1
  rw [numsC_len] at hr2
  unfold NumsC at hc
  generalize capsN (rdn ks j) = C at *
  obtain ⟨f3, k3, h3⟩ := (rdn ks j).ex
  rw [h3] at hc
  refine RWP.of tabOk orders ?_
  repeat' ((conv => whnf); (first
    | (with_reducible first | refine Spl.yes ?_ | refine Spl.no ?_ | refine Spl.dec (fun h => ?_) (fun h => ?_) | refine Spl.eq (fun h => ?_) (fun h => ?_) | refine Spl.ne (fun h => ?_) (fun h => ?_) | refine Spl.seq (fun h => ?_) (fun h => ?_) | refine Spl.not ?_ | refine Spl.any (fun h => ?_) (fun h => ?_))
    | (rw [rowsN_get (by omega)])
    | (rw [h3])
    | (refine VCalls.mono (hc) ?_; rintro _ rfl)
    | refine And.intro (Nat.le_of_ble_eq_true rfl) ?_
    | refine And.intro (by show ((rows1 (H ++ numsC (capsL (ks.take j.toNat)))).length + (rows1 (numsC C)).length) * 8 ≤ 140737488355328; omega) ?_
    | ((with_reducible apply And.intro); first | omega | rfl | (dsimp only; omega))))
  all_goals (conv => whnf)
  exact ⟨(ks.length - (j + 1)).toNat, _, by omega, Wk.narrow _ [1, 3, 4] [1] [27], j + 1, v, Eq.trans rfl (congrArg (fun (X : List (List SV)) => (⟨29, [(1, .ptr 1 0), (3, .own 27), (4, .pv (iv (j + 1)))], [(1, (27, nfe f ks))], [(27, ⟨1, 3, v, X⟩)], []⟩ : St)) (show rows1 (H ++ numsC (capsL (ks.take j.toNat))) ++ rows1 (numsC C) = rows1 (H ++ numsC (capsL (ks.take (j + 1).toNat))) by rw [hsn, rows1_app, numsC_app, List.append_assoc])), by omega, by omega, rfl⟩
theorem nums_c : ∀ (k : Nat) (n : Node), n.w ≤ k → n.w ≤ 1000000 → NumsC n := by
  intro k
  induction k with
  | zero => intro n h; have := w_pos n; omega
  | succ k ih =>
    intro n hk hw
    cases n with
    | mk f ks =>
      rw [Node.w] at hk hw
      exact nums_step f ks (by omega) (fun n hn => ih n (by have := wN_mem hn; omega) (by have := wN_mem hn; omega))
theorem hasRL_app : ∀ a b : List Node, hasRL (a ++ b) = (hasRL a || hasRL b)
  | [], b => by rw [List.nil_append, hasRL]; rfl
  | k :: a, b => by rw [List.cons_append, hasRL, hasRL, hasRL_app a b, Bool.or_assoc]
theorem hasRL_mem {k : Node} : ∀ {l : List Node}, k ∈ l → hasR k = true → hasRL l = true
  | x :: l, h, q => by
    rw [hasRL]
    rcases List.mem_cons.1 h with rfl | h
    · rw [q]; rfl
    · rw [hasRL_mem h q]; simp
def FindC (n : Node) : Prop := VCalls Try.prog 27 [n.enc] (fun r => ∃ i : Int, r = .tuple [iv i, bv (hasR n)])
theorem find_step (f : NodeF) (ks : List Node) (hk : ks.length ≤ 1000000) (ih : ∀ n ∈ ks, FindC n) : VCalls Try.prog 27 [(Node.mk f ks).enc] (fun r => ∃ i : Int, r = .tuple [iv i, bv (hasR (.mk f ks))]) := by
  have hn := rowsN_len ks
  have hG : hasR (.mk f ks) = if f.kind = 16 then true else hasRL ks := by rw [hasR]
  rw [hG]
  refine VCalls.ofr tabOk Try.func27 (by decide) rfl rfl ?_
  refine RWP.seqx tabOk orders ?_
  conv => whnf
  refine RWP.seqx tabOk orders ?_
  repeat' ((conv => whnf); (first
    | (with_reducible first | refine Spl.yes ?_ | refine Spl.no ?_ | refine Spl.dec (fun h => ?_) (fun h => ?_) | refine Spl.eq (fun h => ?_) (fun h => ?_) | refine Spl.ne (fun h => ?_) (fun h => ?_) | refine Spl.seq (fun h => ?_) (fun h => ?_) | refine Spl.not ?_ | refine Spl.any (fun h => ?_) (fun h => ?_))
    | ((with_reducible apply And.intro); first | omega | rfl | (dsimp only; omega))))
  all_goals (conv => whnf)
  · rw [if_pos (by assumption)]
    exact ⟨0, rfl⟩
  rw [if_neg (by assumption)]
  refine RWP.weak (Wk.narrow _ [1] [1] []) ?_
  refine RWP.seq ?_
  refine RWP.seqx tabOk orders ?_
  conv => whnf
  refine RWP.block ?_
  refine RWP.loop (fun k st => ∃ (j : Int), st = ⟨28, [(1, .ptr 1 0), (4, .pv (iv j))], [(1, (27, nfe f ks))], [], []⟩ ∧ 0 ≤ j ∧ j ≤ ks.length ∧ k = (ks.length - j).toNat ∧ hasRL (ks.take j.toNat) = false)
    ⟨_, _, Wk.narrow _ [1, 4] [1] [], 0, rfl, by omega, by omega, rfl, by show hasRL [] = false; rw [hasRL]⟩ ?_
  rintro k st ⟨j, rfl, hj0, hj1, hk, hno⟩
  refine RWP.seqx tabOk orders ?_
  repeat' ((conv => whnf); (first
    | (with_reducible first | refine Spl.yes ?_ | refine Spl.no ?_ | refine Spl.dec (fun h => ?_) (fun h => ?_) | refine Spl.eq (fun h => ?_) (fun h => ?_) | refine Spl.ne (fun h => ?_) (fun h => ?_) | refine Spl.seq (fun h => ?_) (fun h => ?_) | refine Spl.not ?_ | refine Spl.any (fun h => ?_) (fun h => ?_))
    | ((with_reducible apply And.intro); first | omega | rfl | (dsimp only; omega))))
  all_goals (conv => whnf)
  rotate_left
  · have e : j = ks.length := by omega
    subst e
    rw [Int.toNat_natCast, List.take_length] at hno
    rw [hno]
    refine RWP.of tabOk orders ?_
    conv => whnf
    exact ⟨0, rfl⟩
  have hm := rdn_mem (l := ks) (j := j) (by omega)
  have hc := ih (rdn ks j) hm
  have hsn : hasRL (ks.take (j + 1).toNat) = (false || (hasR (rdn ks j) || false)) := by
    rw [take_stepN hj0 (by omega), hasRL_app, hno, hasRL, hasRL]
  have hyes := hasRL_mem hm
  unfold FindC at hc
  generalize hasR (rdn ks j) = b at *
  obtain ⟨f3, k3, h3⟩ := (rdn ks j).ex
  rw [h3] at hc
  refine RWP.of tabOk orders ?_
  repeat' ((conv => whnf); (first
    | (with_reducible first | refine Spl.yes ?_ | refine Spl.no ?_ | refine Spl.dec (fun h => ?_) (fun h => ?_) | refine Spl.eq (fun h => ?_) (fun h => ?_) | refine Spl.ne (fun h => ?_) (fun h => ?_) | refine Spl.seq (fun h => ?_) (fun h => ?_) | refine Spl.not ?_ | refine Spl.any (fun h => ?_) (fun h => ?_))
    | (rw [rowsN_get (by omega)])
    | (rw [h3])
    | (refine VCalls.mono hc ?_; rintro _ ⟨i, rfl⟩)
    | refine And.intro (Nat.le_of_ble_eq_true rfl) ?_
    | ((with_reducible apply And.intro); first | omega | rfl | (dsimp only; omega))))
  all_goals (conv => whnf)
  all_goals first
    | (rw [hyes (by assumption)]; exact ⟨j, rfl⟩)
    | (have hb : b = false := by assumption
       subst hb
       exact ⟨(ks.length - (j + 1)).toNat, _, by omega, Wk.narrow _ [1, 4] [1] [], j + 1, rfl, by omega, by omega, rfl, hsn⟩)
theorem find_c : ∀ (k : Nat) (n : Node), n.w ≤ k → n.w ≤ 1000000 → FindC n := by
  intro k
  induction k with
  | zero => intro n h; have := w_pos n; omega
  | succ k ih =>
    intro n hk hw
    cases n with
    | mk f ks =>
      rw [Node.w] at hk hw
      have hl := wN_len ks
      exact find_step f ks (by omega) (fun n hn => ih n (by have := wN_mem hn; omega) (by have := wN_mem hn; omega))
def isX (x : ByteArray × Int) (c : Node) : Bool := decide (c.f.name = x.1) && decide (c.f.n = x.2)
def HasC (n : Node) : Prop := ∀ x : ByteArray × Int, VCalls Try.prog 28 [n.enc, .agg [sv x.1, iv x.2]] (fun r => r = bv ((capsN n).any (isX x)))
theorem has_step (f : NodeF) (ks : List Node) (hk : ks.length ≤ 1000000) (ih : ∀ n ∈ ks, HasC n) : HasC (.mk f ks) := by
  rintro ⟨s, m⟩
  have hn := rowsN_len ks
  have hG : (capsN (.mk f ks)).any (isX (s, m)) = if f.kind = 14 ∧ f.name = s ∧ f.n = m then true else (capsL ks).any (isX (s, m)) := by
    rw [capsN]
    by_cases q : f.kind = 14
    · rw [if_pos q, List.any_cons]
      have : isX (s, m) (.mk f ks) = (decide (f.name = s) && decide (f.n = m)) := rfl
      rw [this]
      by_cases q2 : f.name = s
      · by_cases q3 : f.n = m
        · rw [if_pos ⟨q, q2, q3⟩, decide_eq_true q2, decide_eq_true q3]; rfl
        · rw [if_neg (fun h => q3 h.2.2), decide_eq_false q3]; simp
      · rw [if_neg (fun h => q2 h.2.1), decide_eq_false q2]; simp
    · rw [if_neg q, if_neg (fun h => q h.1)]
  rw [hG]
  simp only
  refine VCalls.ofr tabOk Try.func28 (by decide) rfl rfl ?_
  refine RWP.seqx tabOk orders ?_
  conv => whnf
  refine RWP.cut (fun st => ¬ (f.kind = 14 ∧ f.name = s ∧ f.n = m) ∧ st = ⟨39, [(2, .ptr 2 0), (3, .ptr 3 0)], [(2, (27, nfe f ks)), (3, (45, [.pv (sv s), .pv (iv m)]))], [], []⟩) tabOk orders ?_ ?_
  · repeat' ((conv => whnf); (first
    | (with_reducible first | refine Spl.yes ?_ | refine Spl.no ?_ | refine Spl.dec (fun h => ?_) (fun h => ?_) | refine Spl.eq (fun h => ?_) (fun h => ?_) | refine Spl.ne (fun h => ?_) (fun h => ?_) | refine Spl.seq (fun h => ?_) (fun h => ?_) | refine Spl.not ?_ | refine Spl.any (fun h => ?_) (fun h => ?_))
    | refine drawn_text (by decide +kernel) ?_
    | ((with_reducible apply And.intro); first | omega | rfl | (dsimp only; omega))))
    all_goals (conv => whnf)
    all_goals first
      | (rw [if_pos ⟨by assumption, by assumption, by assumption⟩]; rfl)
      | exact ⟨_, Wk.narrow _ [2, 3] [2, 3] [], (fun h => (show ¬ f.kind = 14 by assumption) h.1), rfl⟩
      | exact ⟨_, Wk.narrow _ [2, 3] [2, 3] [], (fun h => (show ¬ f.name = s by assumption) h.2.1), rfl⟩
      | exact ⟨_, Wk.narrow _ [2, 3] [2, 3] [], (fun h => (show ¬ f.n = m by assumption) h.2.2), rfl⟩
  rintro _ ⟨hno, rfl⟩
  rw [if_neg hno]
  refine RWP.seq ?_
  refine RWP.seqx tabOk orders ?_
  conv => whnf
  refine RWP.block ?_
  refine RWP.loop (fun k st => ∃ (j : Int), st = ⟨39, [(2, .ptr 2 0), (3, .ptr 3 0), (5, .pv (iv j))], [(2, (27, nfe f ks)), (3, (45, [.pv (sv s), .pv (iv m)]))], [], []⟩ ∧ 0 ≤ j ∧ j ≤ ks.length ∧ k = (ks.length - j).toNat ∧ (capsL (ks.take j.toNat)).any (isX (s, m)) = false)
    ⟨_, _, Wk.narrow _ [2, 3, 5] [2, 3] [], 0, rfl, by omega, by omega, rfl, by show (capsL []).any _ = false; rw [capsL]; rfl⟩ ?_
  rintro k st ⟨j, rfl, hj0, hj1, hk, hno⟩
  refine RWP.seqx tabOk orders ?_
  repeat' ((conv => whnf); (first
    | (with_reducible first | refine Spl.yes ?_ | refine Spl.no ?_ | refine Spl.dec (fun h => ?_) (fun h => ?_) | refine Spl.eq (fun h => ?_) (fun h => ?_) | refine Spl.ne (fun h => ?_) (fun h => ?_) | refine Spl.seq (fun h => ?_) (fun h => ?_) | refine Spl.not ?_ | refine Spl.any (fun h => ?_) (fun h => ?_))
    | ((with_reducible apply And.intro); first | omega | rfl | (dsimp only; omega))))
  all_goals (conv => whnf)
  rotate_left
  · have e : j = ks.length := by omega
    subst e
    rw [Int.toNat_natCast, List.take_length] at hno
    rw [hno]
    refine RWP.of tabOk orders ?_
    conv => whnf
    rfl
  have hm := rdn_mem (l := ks) (j := j) (by omega)
  have hc := ih (rdn ks j) hm (s, m)
  have hsn : (capsL (ks.take (j + 1).toNat)).any (isX (s, m)) = (false || (capsN (rdn ks j)).any (isX (s, m))) := by
    rw [take_stepN hj0 (by omega), capsL_snoc, List.any_append, hno]
  have hyes : (capsN (rdn ks j)).any (isX (s, m)) = true → (capsL ks).any (isX (s, m)) = true := by
    intro h
    obtain ⟨c, h1, h2⟩ := List.any_eq_true.1 h
    refine List.any_eq_true.2 ⟨c, ?_, h2⟩
    have h4 := capsL_snoc (rdn ks j) (ks.take j.toNat)
    rw [← take_stepN hj0 (by omega)] at h4
    have h5 : capsL ks = capsL (ks.take (j + 1).toNat) ++ capsL (ks.drop (j + 1).toNat) := by
      rw [← capsL_app, List.take_append_drop]
    rw [h5, h4]
    simp [h1]
  generalize (capsN (rdn ks j)).any (isX (s, m)) = b at *
  obtain ⟨f3, k3, h3⟩ := (rdn ks j).ex
  rw [h3] at hc
  refine RWP.of tabOk orders ?_
  repeat' ((conv => whnf); (first
    | (with_reducible first | refine Spl.yes ?_ | refine Spl.no ?_ | refine Spl.dec (fun h => ?_) (fun h => ?_) | refine Spl.eq (fun h => ?_) (fun h => ?_) | refine Spl.ne (fun h => ?_) (fun h => ?_) | refine Spl.seq (fun h => ?_) (fun h => ?_) | refine Spl.not ?_ | refine Spl.any (fun h => ?_) (fun h => ?_))
    | refine drawn_text (by decide +kernel) ?_
    | (rw [rowsN_get (by omega)])
    | (rw [h3])
    | (refine VCalls.mono (hc) ?_; rintro _ rfl)
    | refine And.intro (Nat.le_of_ble_eq_true rfl) ?_
    | ((with_reducible apply And.intro); first | omega | rfl | (dsimp only; omega))))
  all_goals (conv => whnf)
  all_goals first
    | (rw [hyes (by assumption)]; rfl)
    | (have hb : b = false := by assumption
       subst hb
       exact ⟨(ks.length - (j + 1)).toNat, _, by omega, Wk.narrow _ [2, 3, 5] [2, 3] [], j + 1, rfl, by omega, by omega, rfl, hsn⟩)
theorem has_c : ∀ (k : Nat) (n : Node), n.w ≤ k → n.w ≤ 1000000 → HasC n := by
  intro k
  induction k with
  | zero => intro n h; have := w_pos n; omega
  | succ k ih =>
    intro n hk hw
    cases n with
    | mk f ks =>
      rw [Node.w] at hk hw
      have hl := wN_len ks
      exact has_step f ks (by omega) (fun n hn => ih n (by have := wN_mem hn; omega) (by have := wN_mem hn; omega))
end Go.Proofs.Ytnoohgiecnmajaa.VC

/- The laws of groups: GroupsRise. -/
namespace Go.Proofs.Ytnoohgiecnmajaa.VC
open Go Go.RowKit
set_option linter.unusedVariables false
set_option linter.unusedSimpArgs false
set_option maxHeartbeats 4000000

def mpsI (A : List Int) : Mp := A.map fun x => (.int .i64 x, .int .i64 1)
theorem mpsI_key (A : List Int) : ∀ x ∈ mpsI A, MapKept.IsKey (.int .i64) x.1 := by
  intro x hx
  obtain ⟨p, _, rfl⟩ := List.mem_map.1 hx
  exact rfl
theorem mpsI_none {x : Int} {A : List Int} (h : x ∉ A) : ∀ y ∈ mpsI A, y.1 ≠ .int .i64 x := by
  intro y hy e
  obtain ⟨p, hp, rfl⟩ := List.mem_map.1 hy
  simp only [Value.int.injEq, true_and] at e
  subst e
  exact h hp
theorem mpsI_some {x : Int} : ∀ {A : List Int}, x ∈ A → ∃ i, Nth (mpsI A) (.int .i64 x) i (.int .i64 1) ∧ (mpsI A).set i (.int .i64 x, .int .i64 1) = mpsI A
  | y :: A, h => by
    by_cases q : y = x
    · subst q
      exact ⟨0, ⟨by simp [mpsI], fun j z hj => by omega⟩, by simp [mpsI]⟩
    · have h' : x ∈ A := by
        rcases List.mem_cons.1 h with rfl | h
        · exact absurd rfl q
        · exact h
      obtain ⟨i, ⟨h1, h2⟩, h3⟩ := mpsI_some h'
      refine ⟨i + 1, ⟨by simpa [mpsI] using h1, fun j z hj hz => ?_⟩, by simpa [mpsI] using h3⟩
      cases j with
      | zero =>
        simp [mpsI] at hz
        subst hz
        simp only [ne_eq, Value.int.injEq, true_and]; exact q
      | succ j => exact h2 j z (by omega) (by simpa [mpsI] using hz)
theorem look39 (x : Int) (A : List Int) (h : x ∈ A) : MLook Try.prog 39 (mpsI A) (.int .i64 x) (.int .i64 1) true := by
  obtain ⟨i, h1, _⟩ := mpsI_some h
  exact ⟨_, _, mapTy39, rfl, mpsI_key A, .inr ⟨rfl, i, h1⟩⟩
theorem upd39 (x : Int) (A : List Int) : MUpd Try.prog 39 (mpsI A) (.int .i64 x) (.int .i64 1) (mpsI (addK A x)) := by
  refine ⟨_, _, mapTy39, rfl, mpsI_key A, ?_⟩
  unfold addK
  by_cases q : x ∈ A
  · rw [if_pos q]
    obtain ⟨i, h1, h2⟩ := mpsI_some q
    exact .inr ⟨i, _, h1, h2.symm⟩
  · rw [if_neg q]
    exact .inl ⟨mpsI_none q, by simp [mpsI]⟩
theorem mpsI_len (A : List Int) : (mpsI A).length = A.length := by simp [mpsI]
theorem rd1_upTo {b j : Int} (h0 : 0 ≤ j) (h : j < b) : rd1 (upTo 0 b) j = j + 1 := by
  unfold rd1 upTo
  rw [List.getD_eq_getElem?_getD, List.getElem?_map, List.getElem?_range (by omega)]
  simp; omega
theorem hasR_nb : True := trivial
attribute [local irreducible] flatP numG numsC capsN hasR metL mpsI
set_option maxHeartbeats 16000000
theorem rise9_c (l : List Int) (o : Int) (hb : Bytes l) : VCalls Try.prog 4 [ys l, iv o] (fun r => r = bv true) := by
  have hf := flat_c l o hb
  have hw := flatP_w l o
  have hal := flatP_all l o
  have hn := numG_c (flatP l o).1 (by omega) hal
  have hgw := numG_w (flatP l o).1
  have hnm := nums_c (numG (flatP l o).1).n.w (numG (flatP l o).1).n (Nat.le_refl _) (by omega)
  have hfd := find_c (flatP l o).1.w (flatP l o).1 (Nat.le_refl _) (by omega)
  have hE : (numG (flatP l o).1).e ≠ 0 → (numG (flatP l o).1).most = 0 := by
    intro h
    rw [numG_is] at h ⊢
    unfold numR9 at h ⊢
    split
    · rfl
    · rename_i q; rw [if_neg q] at h; exact absurd rfl h
  have hO : (numG (flatP l o).1).e = 0 → (numG (flatP l o).1).n = (nbN (flatP l o).1 0).1 ∧ (numG (flatP l o).1).most = (nbN (flatP l o).1 0).2 := by
    intro h
    rw [numG_is] at h ⊢
    unfold numR9 at h ⊢
    split
    · rename_i q; rw [if_pos q] at h; exact absurd h q
    · exact ⟨rfl, rfl⟩
  have hset := fun x => rise_N (flatP l o).1 0 x
  have hline := line_N (flatP l o).1 0
  have hlen := met_len (n := (flatP l o).1)
  have hcl := capsN_len (numG (flatP l o).1).n
  have hb0 := nbN_le (flatP l o).1 0
  unfold NumsC at hnm
  unfold FindC at hfd
  generalize flatP l o = r1 at *
  obtain ⟨⟨f1, k1⟩, b1⟩ := r1
  simp only at *
  generalize numG (.mk f1 k1) = q1 at *
  obtain ⟨⟨g1, m1⟩, most1, names1, e1, at1⟩ := q1
  simp only at *
  generalize hasR (.mk f1 k1) = hr at *
  refine VCalls.ofr tabOk Try.func4 (by decide) rfl rfl ?_
  refine RWP.seqx tabOk orders ?_
  conv => whnf
  refine RWP.seqx tabOk orders ?_
  repeat' ((conv => whnf); (first
    | (with_reducible first | refine Spl.yes ?_ | refine Spl.no ?_ | refine Spl.dec (fun h => ?_) (fun h => ?_) | refine Spl.eq (fun h => ?_) (fun h => ?_) | refine Spl.ne (fun h => ?_) (fun h => ?_) | refine Spl.seq (fun h => ?_) (fun h => ?_) | refine Spl.not ?_ | refine Spl.any (fun h => ?_) (fun h => ?_))
    | (refine VCalls.mono (awake9_c) ?_; rintro _ rfl)
    | ((with_reducible apply And.intro); first | omega | rfl | (dsimp only; omega))))
  all_goals (conv => whnf)
  refine RWP.seqx tabOk orders ?_
  repeat' ((conv => whnf); (first
    | (with_reducible first | refine Spl.yes ?_ | refine Spl.no ?_ | refine Spl.dec (fun h => ?_) (fun h => ?_) | refine Spl.eq (fun h => ?_) (fun h => ?_) | refine Spl.ne (fun h => ?_) (fun h => ?_) | refine Spl.seq (fun h => ?_) (fun h => ?_) | refine Spl.not ?_ | refine Spl.any (fun h => ?_) (fun h => ?_))
    | ((with_reducible apply And.intro); first | omega | rfl | (dsimp only; omega))))
  all_goals (conv => whnf)
  refine RWP.seqx tabOk orders ?_
  repeat' ((conv => whnf); (first
    | (with_reducible first | refine Spl.yes ?_ | refine Spl.no ?_ | refine Spl.dec (fun h => ?_) (fun h => ?_) | refine Spl.eq (fun h => ?_) (fun h => ?_) | refine Spl.ne (fun h => ?_) (fun h => ?_) | refine Spl.seq (fun h => ?_) (fun h => ?_) | refine Spl.not ?_ | refine Spl.any (fun h => ?_) (fun h => ?_))
    | (refine VCalls.mono (hf) ?_; rintro _ rfl)
    | refine And.intro (Nat.le_of_ble_eq_true rfl) ?_
    | ((with_reducible apply And.intro); first | omega | rfl | (dsimp only; omega))))
  all_goals (conv => whnf)
  refine RWP.seqx tabOk orders ?_
  repeat' ((conv => whnf); (first
    | (with_reducible first | refine Spl.yes ?_ | refine Spl.no ?_ | refine Spl.dec (fun h => ?_) (fun h => ?_) | refine Spl.eq (fun h => ?_) (fun h => ?_) | refine Spl.ne (fun h => ?_) (fun h => ?_) | refine Spl.seq (fun h => ?_) (fun h => ?_) | refine Spl.not ?_ | refine Spl.any (fun h => ?_) (fun h => ?_))
    | ((with_reducible apply And.intro); first | omega | rfl | (dsimp only; omega))))
  all_goals (conv => whnf)
  rotate_left
  · rfl
  refine RWP.seqx tabOk orders ?_
  repeat' ((conv => whnf); (first
    | (with_reducible first | refine Spl.yes ?_ | refine Spl.no ?_ | refine Spl.dec (fun h => ?_) (fun h => ?_) | refine Spl.eq (fun h => ?_) (fun h => ?_) | refine Spl.ne (fun h => ?_) (fun h => ?_) | refine Spl.seq (fun h => ?_) (fun h => ?_) | refine Spl.not ?_ | refine Spl.any (fun h => ?_) (fun h => ?_))
    | (refine VCalls.mono (hn) ?_; rintro _ rfl)
    | refine And.intro (Nat.le_of_ble_eq_true rfl) ?_
    | ((with_reducible apply And.intro); first | omega | rfl | (dsimp only; omega))))
  all_goals (conv => whnf)
  refine RWP.seqx tabOk orders ?_
  repeat' ((conv => whnf); (first
    | (with_reducible first | refine Spl.yes ?_ | refine Spl.no ?_ | refine Spl.dec (fun h => ?_) (fun h => ?_) | refine Spl.eq (fun h => ?_) (fun h => ?_) | refine Spl.ne (fun h => ?_) (fun h => ?_) | refine Spl.seq (fun h => ?_) (fun h => ?_) | refine Spl.not ?_ | refine Spl.any (fun h => ?_) (fun h => ?_))
    | ((with_reducible apply And.intro); first | omega | rfl | (dsimp only; omega))))
  all_goals (conv => whnf)
  · have hm := hE (by assumption)
    subst hm
    rfl
  have he : e1 = 0 := by assumption
  obtain ⟨hO1, hO2⟩ := hO he
  rw [← hO1] at hset hline hlen
  rw [← hO2] at hset hline hlen hb0
  have hml : ∀ i : Int, 0 ≤ i → i < most1 → i + 1 ∈ numsC (capsN (.mk g1 m1)) := fun i h0 h1 => (hset (i + 1)).1 (by omega)
  have hnl := numsC_len (capsN (.mk g1 m1))
  have hr1 := rows1_len (numsC (capsN (.mk g1 m1)))
  have hlr : hr = false → ∀ i : Int, 0 ≤ i → i < (numsC (capsN (.mk g1 m1))).length → rd1 (numsC (capsN (.mk g1 m1))) i = i + 1 := by
    intro h i h0 h1
    rw [hline h] at h1 ⊢
    refine rd1_upTo h0 ?_
    unfold upTo at h1
    simp at h1
    omega
  generalize hL : numsC (capsN (.mk g1 m1)) = L at *
  refine RWP.seqx tabOk orders ?_
  repeat' ((conv => whnf); (first
    | (with_reducible first | refine Spl.yes ?_ | refine Spl.no ?_ | refine Spl.dec (fun h => ?_) (fun h => ?_) | refine Spl.eq (fun h => ?_) (fun h => ?_) | refine Spl.ne (fun h => ?_) (fun h => ?_) | refine Spl.seq (fun h => ?_) (fun h => ?_) | refine Spl.not ?_ | refine Spl.any (fun h => ?_) (fun h => ?_))
    | (refine VCalls.mono (hnm) ?_; rintro _ rfl)
    | refine And.intro (Nat.le_of_ble_eq_true rfl) ?_
    | ((with_reducible apply And.intro); first | omega | rfl | (dsimp only; omega))))
  all_goals (conv => whnf)
  refine RWP.seqx tabOk orders ?_
  conv => whnf
  refine RWP.seq ?_
  refine RWP.seqx tabOk orders ?_
  conv => whnf
  refine RWP.block ?_
  refine RWP.loop (fun k st => ∃ (j : Int), st = ⟨90, [(6, .ptr 6 0), (9, .pv (iv most1)), (13, .pv (is L)), (14, .map 45), (15, .pv (iv j))], [(6, (27, nfe f1 k1))], [], [(45, mpsI (metL (L.take j.toNat)))]⟩ ∧ 0 ≤ j ∧ j ≤ L.length ∧ k = (L.length - j).toNat)
    ⟨_, _, Wk.narrow _ [6, 9, 13, 14, 15] [6] [], 0, Eq.trans rfl (congrArg (fun (X : Mp) => (⟨90, [(6, .ptr 6 0), (9, .pv (iv most1)), (13, .pv (is L)), (14, .map 45), (15, .pv (iv 0))], [(6, (27, nfe f1 k1))], [], [(45, X)]⟩ : St)) (show [] = mpsI (metL []) by unfold mpsI metL; rfl)), by omega, by omega, rfl⟩ ?_
  rintro k st ⟨j, rfl, hj0, hj1, hk⟩
  have hmt := metL_len (L.take j.toNat)
  rw [List.length_take] at hmt
  refine RWP.seqx tabOk orders ?_
  repeat' ((conv => whnf); (first
    | (with_reducible first | refine Spl.yes ?_ | refine Spl.no ?_ | refine Spl.dec (fun h => ?_) (fun h => ?_) | refine Spl.eq (fun h => ?_) (fun h => ?_) | refine Spl.ne (fun h => ?_) (fun h => ?_) | refine Spl.seq (fun h => ?_) (fun h => ?_) | refine Spl.not ?_ | refine Spl.any (fun h => ?_) (fun h => ?_))
    | ((with_reducible apply And.intro); first | omega | rfl | (dsimp only; omega))))
  all_goals (conv => whnf)
  rotate_left
  · have e : j = L.length := by omega
    subst e
    rw [Int.toNat_natCast, List.take_length]
    refine RWP.weak (Wk.narrow _ [6, 9, 13, 14] [6] []) ?_
    refine RWP.seq ?_
    refine RWP.seqx tabOk orders ?_
    conv => whnf
    refine RWP.block ?_
    refine RWP.loop (fun k st => ∃ (i : Int), st = ⟨90, [(6, .ptr 6 0), (9, .pv (iv most1)), (13, .pv (is L)), (14, .map 45), (16, .pv (iv i))], [(6, (27, nfe f1 k1))], [], [(45, mpsI (metL L))]⟩ ∧ 1 ≤ i ∧ i ≤ most1 + 1 ∧ k = (most1 + 1 - i).toNat)
      ⟨_, _, Wk.narrow _ [6, 9, 13, 14, 16] [6] [], 1, rfl, by omega, by omega, rfl⟩ ?_
    rintro k st ⟨i, rfl, hi0, hi1, hk⟩
    refine RWP.seqx tabOk orders ?_
    repeat' ((conv => whnf); (first
    | (with_reducible first | refine Spl.yes ?_ | refine Spl.no ?_ | refine Spl.dec (fun h => ?_) (fun h => ?_) | refine Spl.eq (fun h => ?_) (fun h => ?_) | refine Spl.ne (fun h => ?_) (fun h => ?_) | refine Spl.seq (fun h => ?_) (fun h => ?_) | refine Spl.not ?_ | refine Spl.any (fun h => ?_) (fun h => ?_))
    | ((with_reducible apply And.intro); first | omega | rfl | (dsimp only; omega))))
    all_goals (conv => whnf)
    · have hi : i ≤ most1 := by assumption
      have hmem : i ∈ metL L := by
        rw [metL_mem]
        have := hml (i - 1) (by omega) (by omega)
        rw [Int.sub_add_cancel] at this
        exact this
      have hlk := look39 i (metL L) hmem
      refine RWP.of tabOk orders ?_
      repeat' ((conv => whnf); (first
    | (with_reducible first | refine Spl.yes ?_ | refine Spl.no ?_ | refine Spl.dec (fun h => ?_) (fun h => ?_) | refine Spl.eq (fun h => ?_) (fun h => ?_) | refine Spl.ne (fun h => ?_) (fun h => ?_) | refine Spl.seq (fun h => ?_) (fun h => ?_) | refine Spl.not ?_ | refine Spl.any (fun h => ?_) (fun h => ?_))
    | refine ⟨_, _, hlk, ?_⟩
    | ((with_reducible apply And.intro); first | omega | rfl | (dsimp only; omega))))
      all_goals (conv => whnf)
      all_goals first
        | (exfalso; exact absurd rfl (by assumption))
        | (exact ⟨(most1 + 1 - (i + 1)).toNat, _, by omega, Wk.narrow _ [6, 9, 13, 14, 16] [6] [], i + 1, rfl, by omega, by omega, rfl⟩)
    · have hi : ¬ i ≤ most1 := by assumption
      refine RWP.weak (Wk.narrow _ [6, 9, 13, 14] [6] []) ?_
      refine RWP.seqx tabOk orders ?_
      repeat' ((conv => whnf); (first
    | (with_reducible first | refine Spl.yes ?_ | refine Spl.no ?_ | refine Spl.dec (fun h => ?_) (fun h => ?_) | refine Spl.eq (fun h => ?_) (fun h => ?_) | refine Spl.ne (fun h => ?_) (fun h => ?_) | refine Spl.seq (fun h => ?_) (fun h => ?_) | refine Spl.not ?_ | refine Spl.any (fun h => ?_) (fun h => ?_))
    | (refine VCalls.mono hfd ?_; rintro _ ⟨i, rfl⟩)
    | refine And.intro (Nat.le_of_ble_eq_true rfl) ?_
    | ((with_reducible apply And.intro); first | omega | rfl | (dsimp only; omega))))
      all_goals (conv => whnf)
      refine RWP.cutr (fun st => st = ⟨90, [(9, .pv (iv most1)), (14, .map 45)], [], [], [(45, mpsI (metL L))]⟩) ?_ ?_
      rotate_left
      · rintro _ rfl
        have hlm := mpsI_len (metL L)
        refine RWP.of tabOk orders ?_
        repeat' ((conv => whnf); (first
    | (with_reducible first | refine Spl.yes ?_ | refine Spl.no ?_ | refine Spl.dec (fun h => ?_) (fun h => ?_) | refine Spl.eq (fun h => ?_) (fun h => ?_) | refine Spl.ne (fun h => ?_) (fun h => ?_) | refine Spl.seq (fun h => ?_) (fun h => ?_) | refine Spl.not ?_ | refine Spl.any (fun h => ?_) (fun h => ?_))
    | refine And.intro ⟨_, _, mapTy39⟩ ?_
    | ((with_reducible apply And.intro); first | omega | rfl | (dsimp only; omega))))
        all_goals (conv => whnf)
        simp only [hlm, hlen, beq_self_eq_true]
        rfl
      · refine RWP.seqx tabOk orders ?_
        conv => whnf
        refine RWP.cond ?_
        conv => whnf
        (with_reducible first | refine Spl.yes ?_ | refine Spl.no ?_ | refine Spl.dec (fun h => ?_) (fun h => ?_) | refine Spl.eq (fun h => ?_) (fun h => ?_) | refine Spl.ne (fun h => ?_) (fun h => ?_) | refine Spl.seq (fun h => ?_) (fun h => ?_) | refine Spl.not ?_ | refine Spl.any (fun h => ?_) (fun h => ?_))
        (with_reducible first | refine Spl.yes ?_ | refine Spl.no ?_ | refine Spl.dec (fun h => ?_) (fun h => ?_) | refine Spl.eq (fun h => ?_) (fun h => ?_) | refine Spl.ne (fun h => ?_) (fun h => ?_) | refine Spl.seq (fun h => ?_) (fun h => ?_) | refine Spl.not ?_ | refine Spl.any (fun h => ?_) (fun h => ?_))
        · refine RWP.of tabOk orders ?_
          conv => whnf
          exact ⟨_, Wk.narrow _ [9, 14] [] [], rfl⟩
        · have hrf : hr = false := by assumption
          have hlr := hlr hrf
          refine RWP.seqx tabOk orders ?_
          conv => whnf
          refine RWP.block ?_
          refine RWP.loop (fun k st => ∃ (i : Int), st = ⟨90, [(9, .pv (iv most1)), (13, .pv (is L)), (14, .map 45), (19, .pv (iv i))], [], [], [(45, mpsI (metL L))]⟩ ∧ 0 ≤ i ∧ i ≤ L.length ∧ k = (L.length - i).toNat)
            ⟨_, _, Wk.narrow _ [9, 13, 14, 19] [] [], 0, rfl, by omega, by omega, rfl⟩ ?_
          rintro k st ⟨i, rfl, hi0, hi1, hk⟩
          refine RWP.seqx tabOk orders ?_
          repeat' ((conv => whnf); (first
    | (with_reducible first | refine Spl.yes ?_ | refine Spl.no ?_ | refine Spl.dec (fun h => ?_) (fun h => ?_) | refine Spl.eq (fun h => ?_) (fun h => ?_) | refine Spl.ne (fun h => ?_) (fun h => ?_) | refine Spl.seq (fun h => ?_) (fun h => ?_) | refine Spl.not ?_ | refine Spl.any (fun h => ?_) (fun h => ?_))
    | ((with_reducible apply And.intro); first | omega | rfl | (dsimp only; omega))))
          all_goals (conv => whnf)
          · have hi : i < ((rows1 L).length : Int) := by assumption
            have hv := hlr i hi0 (by omega)
            generalize hx : rd1 L i = x at *
            subst hv
            refine RWP.of tabOk orders ?_
            repeat' ((conv => whnf); (first
    | (with_reducible first | refine Spl.yes ?_ | refine Spl.no ?_ | refine Spl.dec (fun h => ?_) (fun h => ?_) | refine Spl.eq (fun h => ?_) (fun h => ?_) | refine Spl.ne (fun h => ?_) (fun h => ?_) | refine Spl.seq (fun h => ?_) (fun h => ?_) | refine Spl.not ?_ | refine Spl.any (fun h => ?_) (fun h => ?_))
    | (rw [rows1_get (by omega)])
    | (rw [hx])
    | refine And.intro (Nat.le_of_ble_eq_true rfl) ?_
    | ((with_reducible apply And.intro); first | omega | rfl | (dsimp only; omega))))
            all_goals (conv => whnf)
            all_goals first
              | (exfalso; exact absurd rfl (by assumption))
              | (exfalso; omega)
              | (exact ⟨(L.length - (i + 1)).toNat, _, by omega, Wk.narrow _ [9, 13, 14, 19] [] [], i + 1, rfl, by omega, by omega, rfl⟩)
          · exact ⟨_, Wk.narrow _ [9, 14] [] [], rfl⟩
  have hst : metL (L.take (j + 1).toNat) = addK (metL (L.take j.toNat)) (rd1 L j) := by
    rw [take_step1 hj0 (by omega), metL_snoc]
  have hup := upd39 (rd1 L j) (metL (L.take j.toNat))
  rw [← hst] at hup
  generalize hx : rd1 L j = x at *
  refine RWP.of tabOk orders ?_
  repeat' ((conv => whnf); (first
    | (with_reducible first | refine Spl.yes ?_ | refine Spl.no ?_ | refine Spl.dec (fun h => ?_) (fun h => ?_) | refine Spl.eq (fun h => ?_) (fun h => ?_) | refine Spl.ne (fun h => ?_) (fun h => ?_) | refine Spl.seq (fun h => ?_) (fun h => ?_) | refine Spl.not ?_ | refine Spl.any (fun h => ?_) (fun h => ?_))
    | (rw [rows1_get (by omega)])
    | (rw [hx])
    | refine ⟨_, hup, ?_⟩
    | refine And.intro (Nat.le_of_ble_eq_true rfl) ?_
    | ((with_reducible apply And.intro); first | omega | rfl | (dsimp only; omega))))
  all_goals (conv => whnf)
  exact ⟨(L.length - (j + 1)).toNat, _, by omega, Wk.trans (Wk.narrow _ [6, 9, 13, 14, 15] [6] []) (Wk.maps _ [45]), j + 1, rfl, by omega, by omega, rfl⟩
end Go.Proofs.Ytnoohgiecnmajaa.VC

/- The laws of groups: GroupsNames. -/
namespace Go.Proofs.Ytnoohgiecnmajaa.VC
open Go Go.RowKit
set_option linter.unusedVariables false
set_option linter.unusedSimpArgs false
set_option maxHeartbeats 4000000

def Dn (A : List (ByteArray × Int)) : Prop := A.Pairwise (fun p q => p.1 ≠ q.1)
theorem stepN_from {f : NodeF} {A : List (ByteArray × Int)} (he : (stepN f A).e = 0) : ∀ p ∈ (stepN f A).l, p ∈ A ∨ p = (f.name, f.n) := by
  unfold stepN at he ⊢
  by_cases q : f.n > 60
  · rw [if_pos q] at he; exact absurd he (by show ¬ (12 : Int) = 0; decide)
  rw [if_neg q] at he ⊢
  by_cases q : f.name = bs []
  · rw [if_pos q]; exact fun p h => .inl h
  rw [if_neg q] at he ⊢
  by_cases q : clashP f.name f.n A = true
  · rw [if_pos q] at he; exact absurd he (by show ¬ (33 : Int) = 0; decide)
  rw [if_neg q] at he ⊢
  by_cases q : thereP f.name A = true
  · rw [if_pos q]; exact fun p h => .inl h
  · rw [if_neg q]
    intro p h
    rcases List.mem_append.1 h with h | h
    · exact .inl h
    · exact .inr (by simpa using h)
theorem stepN_dn {f : NodeF} {A : List (ByteArray × Int)} (h : Dn A) (he : (stepN f A).e = 0) : Dn (stepN f A).l := by
  unfold stepN at he ⊢
  by_cases q : f.n > 60
  · rw [if_pos q] at he; exact absurd he (by show ¬ (12 : Int) = 0; decide)
  rw [if_neg q] at he ⊢
  by_cases q : f.name = bs []
  · rw [if_pos q]; exact h
  rw [if_neg q] at he ⊢
  by_cases q : clashP f.name f.n A = true
  · rw [if_pos q] at he; exact absurd he (by show ¬ (33 : Int) = 0; decide)
  rw [if_neg q] at he ⊢
  by_cases q : thereP f.name A = true
  · rw [if_pos q]; exact h
  · rw [if_neg q]
    unfold Dn
    refine List.pairwise_append.2 ⟨h, by simp, ?_⟩
    intro a ha b hb
    have hb : b = (f.name, f.n) := by simpa using hb
    subst hb
    intro e
    apply q
    unfold thereP
    rw [List.any_eq_true]
    exact ⟨a, ha, decide_eq_true e⟩
theorem namL_from : ∀ {C : List Node} {A : List (ByteArray × Int)}, (namL C A).e = 0 → ∀ p ∈ (namL C A).l, p ∈ A ∨ ∃ c ∈ C, isX p c = true
  | [], A, he => by rw [namL_nil]; exact fun p h => .inl h
  | .mk f ks :: C, A, he => by
    rw [namL_step] at he ⊢
    by_cases q : (stepN f A).e ≠ 0
    · rw [if_pos q] at he; exact absurd he q
    · rw [if_neg q] at he ⊢
      intro p hp
      rcases namL_from he p hp with h | ⟨c, h1, h2⟩
      · rcases stepN_from (Decidable.not_not.1 q) p h with h | rfl
        · exact .inl h
        · refine .inr ⟨.mk f ks, List.mem_cons_self .., ?_⟩
          show (decide (f.name = f.name) && decide (f.n = f.n)) = true
          simp
      · exact .inr ⟨c, List.mem_cons_of_mem _ h1, h2⟩
theorem namL_dn : ∀ {C : List Node} {A : List (ByteArray × Int)}, Dn A → (namL C A).e = 0 → Dn (namL C A).l
  | [], A, h, he => by rw [namL_nil]; exact h
  | .mk f ks :: C, A, h, he => by
    rw [namL_step] at he ⊢
    by_cases q : (stepN f A).e ≠ 0
    · rw [if_pos q] at he; exact absurd he q
    · rw [if_neg q] at he ⊢
      exact namL_dn (stepN_dn h (Decidable.not_not.1 q)) he
theorem rdm_dn {A : List (ByteArray × Int)} (h : Dn A) {i j : Int} (h0 : 0 ≤ j) (h1 : j < i) (h2 : i < A.length) : (rdm A j).1 ≠ (rdm A i).1 := by
  have := List.pairwise_iff_getElem.1 h j.toNat i.toNat (by omega) (by omega) (by omega)
  simpa [rdm, List.getD_eq_getElem?_getD, List.getElem?_eq_getElem (show j.toNat < A.length by omega), List.getElem?_eq_getElem (show i.toNat < A.length by omega)] using this
theorem rdm_mem {A : List (ByteArray × Int)} {i : Int} (h0 : 0 ≤ i) (h2 : i < A.length) : rdm A i ∈ A := by
  have : rdm A i = A[i.toNat] := by simp [rdm, List.getD_eq_getElem?_getD, List.getElem?_eq_getElem (show i.toNat < A.length by omega)]
  rw [this]; exact List.getElem_mem ..
theorem names_say (n : Node) (he : (numG n).e = 0) : Dn (numG n).names ∧ ∀ p ∈ (numG n).names, (capsN (numG n).n).any (isX p) = true := by
  rw [numG_is] at he ⊢
  unfold numR9 at he ⊢
  by_cases q : (namL (capsN (nbN n 0).1) []).e ≠ 0
  · rw [if_pos q] at he; exact absurd he q
  · rw [if_neg q]
    have q := Decidable.not_not.1 q
    refine ⟨namL_dn List.Pairwise.nil q, fun p hp => ?_⟩
    rcases namL_from q p hp with h | ⟨c, h1, h2⟩
    · simp at h
    · exact List.any_eq_true.2 ⟨c, h1, h2⟩
attribute [local irreducible] flatP numG capsN
set_option maxHeartbeats 16000000
theorem names9_c (l : List Int) (o : Int) (hb : Bytes l) : VCalls Try.prog 6 [ys l, iv o] (fun r => r = bv true) := by
  have hf := flat_c l o hb
  have hw := flatP_w l o
  have hal := flatP_all l o
  have hn := numG_c (flatP l o).1 (by omega) hal
  have hgw := numG_w (flatP l o).1
  have hhas := has_c (numG (flatP l o).1).n.w (numG (flatP l o).1).n (Nat.le_refl _) (by omega)
  have hE : (numG (flatP l o).1).e ≠ 0 → (numG (flatP l o).1).names = [] := by
    intro h
    rw [numG_is] at h ⊢
    unfold numR9 at h ⊢
    split
    · rfl
    · rename_i q; rw [if_neg q] at h; exact absurd rfl h
  have hsay := names_say (flatP l o).1
  unfold HasC at hhas
  generalize flatP l o = r1 at *
  obtain ⟨⟨f1, k1⟩, b1⟩ := r1
  simp only at *
  generalize numG (.mk f1 k1) = q1 at *
  obtain ⟨⟨g1, m1⟩, most1, names1, e1, at1⟩ := q1
  simp only at *
  have hrl := rowsM_len names1
  refine VCalls.ofr tabOk Try.func6 (by decide) rfl rfl ?_
  refine RWP.seqx tabOk orders ?_
  conv => whnf
  refine RWP.seqx tabOk orders ?_
  repeat' ((conv => whnf); (first
    | (with_reducible first | refine Spl.yes ?_ | refine Spl.no ?_ | refine Spl.dec (fun h => ?_) (fun h => ?_) | refine Spl.eq (fun h => ?_) (fun h => ?_) | refine Spl.ne (fun h => ?_) (fun h => ?_) | refine Spl.seq (fun h => ?_) (fun h => ?_) | refine Spl.not ?_ | refine Spl.any (fun h => ?_) (fun h => ?_))
    | (refine VCalls.mono (awake9_c) ?_; rintro _ rfl)
    | ((with_reducible apply And.intro); first | omega | rfl | (dsimp only; omega))))
  all_goals (conv => whnf)
  refine RWP.seqx tabOk orders ?_
  repeat' ((conv => whnf); (first
    | (with_reducible first | refine Spl.yes ?_ | refine Spl.no ?_ | refine Spl.dec (fun h => ?_) (fun h => ?_) | refine Spl.eq (fun h => ?_) (fun h => ?_) | refine Spl.ne (fun h => ?_) (fun h => ?_) | refine Spl.seq (fun h => ?_) (fun h => ?_) | refine Spl.not ?_ | refine Spl.any (fun h => ?_) (fun h => ?_))
    | ((with_reducible apply And.intro); first | omega | rfl | (dsimp only; omega))))
  all_goals (conv => whnf)
  refine RWP.seqx tabOk orders ?_
  repeat' ((conv => whnf); (first
    | (with_reducible first | refine Spl.yes ?_ | refine Spl.no ?_ | refine Spl.dec (fun h => ?_) (fun h => ?_) | refine Spl.eq (fun h => ?_) (fun h => ?_) | refine Spl.ne (fun h => ?_) (fun h => ?_) | refine Spl.seq (fun h => ?_) (fun h => ?_) | refine Spl.not ?_ | refine Spl.any (fun h => ?_) (fun h => ?_))
    | (refine VCalls.mono (hf) ?_; rintro _ rfl)
    | refine And.intro (Nat.le_of_ble_eq_true rfl) ?_
    | ((with_reducible apply And.intro); first | omega | rfl | (dsimp only; omega))))
  all_goals (conv => whnf)
  refine RWP.seqx tabOk orders ?_
  repeat' ((conv => whnf); (first
    | (with_reducible first | refine Spl.yes ?_ | refine Spl.no ?_ | refine Spl.dec (fun h => ?_) (fun h => ?_) | refine Spl.eq (fun h => ?_) (fun h => ?_) | refine Spl.ne (fun h => ?_) (fun h => ?_) | refine Spl.seq (fun h => ?_) (fun h => ?_) | refine Spl.not ?_ | refine Spl.any (fun h => ?_) (fun h => ?_))
    | ((with_reducible apply And.intro); first | omega | rfl | (dsimp only; omega))))
  all_goals (conv => whnf)
  rotate_left
  · rfl
  refine RWP.seqx tabOk orders ?_
  repeat' ((conv => whnf); (first
    | (with_reducible first | refine Spl.yes ?_ | refine Spl.no ?_ | refine Spl.dec (fun h => ?_) (fun h => ?_) | refine Spl.eq (fun h => ?_) (fun h => ?_) | refine Spl.ne (fun h => ?_) (fun h => ?_) | refine Spl.seq (fun h => ?_) (fun h => ?_) | refine Spl.not ?_ | refine Spl.any (fun h => ?_) (fun h => ?_))
    | (refine VCalls.mono (hn) ?_; rintro _ rfl)
    | refine And.intro (Nat.le_of_ble_eq_true rfl) ?_
    | ((with_reducible apply And.intro); first | omega | rfl | (dsimp only; omega))))
  all_goals (conv => whnf)
  refine RWP.seqx tabOk orders ?_
  repeat' ((conv => whnf); (first
    | (with_reducible first | refine Spl.yes ?_ | refine Spl.no ?_ | refine Spl.dec (fun h => ?_) (fun h => ?_) | refine Spl.eq (fun h => ?_) (fun h => ?_) | refine Spl.ne (fun h => ?_) (fun h => ?_) | refine Spl.seq (fun h => ?_) (fun h => ?_) | refine Spl.not ?_ | refine Spl.any (fun h => ?_) (fun h => ?_))
    | ((with_reducible apply And.intro); first | omega | rfl | (dsimp only; omega))))
  all_goals (conv => whnf)
  · have hm := hE (by assumption)
    subst hm
    rfl
  have he : e1 = 0 := by assumption
  obtain ⟨hd, hall⟩ := hsay he
  refine RWP.weak (Wk.narrow _ [8, 10] [8] []) ?_
  refine RWP.seq ?_
  refine RWP.seqx tabOk orders ?_
  conv => whnf
  refine RWP.block ?_
  refine RWP.loop (fun k st => ∃ (j : Int), st = ⟨68, [(8, .ptr 8 0), (10, .pv (ms names1)), (13, .pv (iv j))], [(8, (27, nfe g1 m1))], [], []⟩ ∧ 0 ≤ j ∧ j ≤ names1.length ∧ k = (names1.length - j).toNat)
    ⟨_, _, Wk.narrow _ [8, 10, 13] [8] [], 0, rfl, by omega, by omega, rfl⟩ ?_
  rintro k st ⟨j, rfl, hj0, hj1, hk⟩
  refine RWP.seqx tabOk orders ?_
  repeat' ((conv => whnf); (first
    | (with_reducible first | refine Spl.yes ?_ | refine Spl.no ?_ | refine Spl.dec (fun h => ?_) (fun h => ?_) | refine Spl.eq (fun h => ?_) (fun h => ?_) | refine Spl.ne (fun h => ?_) (fun h => ?_) | refine Spl.seq (fun h => ?_) (fun h => ?_) | refine Spl.not ?_ | refine Spl.any (fun h => ?_) (fun h => ?_))
    | ((with_reducible apply And.intro); first | omega | rfl | (dsimp only; omega))))
  all_goals (conv => whnf)
  rotate_left
  · refine RWP.of tabOk orders ?_
    repeat' ((conv => whnf); (first
    | (with_reducible first | refine Spl.yes ?_ | refine Spl.no ?_ | refine Spl.dec (fun h => ?_) (fun h => ?_) | refine Spl.eq (fun h => ?_) (fun h => ?_) | refine Spl.ne (fun h => ?_) (fun h => ?_) | refine Spl.seq (fun h => ?_) (fun h => ?_) | refine Spl.not ?_ | refine Spl.any (fun h => ?_) (fun h => ?_))
    | ((with_reducible apply And.intro); first | omega | rfl | (dsimp only; omega))))
    all_goals (conv => whnf)
    rfl
  have hh := hall _ (rdm_mem hj0 (by omega))
  have hdj := fun i h0 h1 => rdm_dn hd (i := j) (j := i) h0 h1 (by omega)
  have hcall := hhas (rdm names1 j)
  rw [hh] at hcall
  generalize hx : rdm names1 j = x at *
  obtain ⟨xs, xn⟩ := x
  refine RWP.seq ?_
  refine RWP.block ?_
  refine RWP.seqx tabOk orders ?_
  repeat' ((conv => whnf); (first
    | (with_reducible first | refine Spl.yes ?_ | refine Spl.no ?_ | refine Spl.dec (fun h => ?_) (fun h => ?_) | refine Spl.eq (fun h => ?_) (fun h => ?_) | refine Spl.ne (fun h => ?_) (fun h => ?_) | refine Spl.seq (fun h => ?_) (fun h => ?_) | refine Spl.not ?_ | refine Spl.any (fun h => ?_) (fun h => ?_))
    | (refine VCalls.mono (hcall) ?_; rintro _ rfl)
    | refine drawn_text (by decide +kernel) ?_
    | (rw [rowsM_get (by omega)])
    | (rw [hx])
    | refine And.intro (Nat.le_of_ble_eq_true rfl) ?_
    | ((with_reducible apply And.intro); first | omega | rfl | (dsimp only; omega))))
  all_goals (conv => whnf)
  refine RWP.seqx tabOk orders ?_
  conv => whnf
  refine RWP.block ?_
  refine RWP.loop (fun k st => ∃ (i : Int), st = ⟨68, [(8, .ptr 8 0), (10, .pv (ms names1)), (13, .pv (iv j)), (14, .pv (iv i))], [(8, (27, nfe g1 m1))], [], []⟩ ∧ 0 ≤ i ∧ i ≤ j ∧ k = (j - i).toNat)
    ⟨_, _, Wk.narrow _ [8, 10, 13, 14] [8] [], 0, rfl, by omega, by omega, rfl⟩ ?_
  rintro k st ⟨i, rfl, hi0, hi1, hk⟩
  refine RWP.seqx tabOk orders ?_
  repeat' ((conv => whnf); (first
    | (with_reducible first | refine Spl.yes ?_ | refine Spl.no ?_ | refine Spl.dec (fun h => ?_) (fun h => ?_) | refine Spl.eq (fun h => ?_) (fun h => ?_) | refine Spl.ne (fun h => ?_) (fun h => ?_) | refine Spl.seq (fun h => ?_) (fun h => ?_) | refine Spl.not ?_ | refine Spl.any (fun h => ?_) (fun h => ?_))
    | ((with_reducible apply And.intro); first | omega | rfl | (dsimp only; omega))))
  all_goals (conv => whnf)
  · have hi : i < j := by assumption
    have hne := hdj i hi0 hi
    generalize hy : rdm names1 i = y at *
    obtain ⟨ys, yn⟩ := y
    refine RWP.of tabOk orders ?_
    repeat' ((conv => whnf); (first
    | (with_reducible first | refine Spl.yes ?_ | refine Spl.no ?_ | refine Spl.dec (fun h => ?_) (fun h => ?_) | refine Spl.eq (fun h => ?_) (fun h => ?_) | refine Spl.ne (fun h => ?_) (fun h => ?_) | refine Spl.seq (fun h => ?_) (fun h => ?_) | refine Spl.not ?_ | refine Spl.any (fun h => ?_) (fun h => ?_))
    | refine drawn_text (by decide +kernel) ?_
    | (rw [rowsM_get (show i.toNat < names1.length by omega)])
    | (rw [rowsM_get (show j.toNat < names1.length by omega)])
    | (rw [hy])
    | (rw [hx])
    | refine And.intro (Nat.le_of_ble_eq_true rfl) ?_
    | ((with_reducible apply And.intro); first | omega | rfl | (dsimp only; omega))))
    all_goals (conv => whnf)
    all_goals first
      | (exfalso; exact hne (by assumption))
      | (exact ⟨(j - (i + 1)).toNat, _, by omega, Wk.narrow _ [8, 10, 13, 14] [8] [], i + 1, rfl, by omega, by omega, rfl⟩)
  · refine RWP.of tabOk orders ?_
    repeat' ((conv => whnf); (first
    | (with_reducible first | refine Spl.yes ?_ | refine Spl.no ?_ | refine Spl.dec (fun h => ?_) (fun h => ?_) | refine Spl.eq (fun h => ?_) (fun h => ?_) | refine Spl.ne (fun h => ?_) (fun h => ?_) | refine Spl.seq (fun h => ?_) (fun h => ?_) | refine Spl.not ?_ | refine Spl.any (fun h => ?_) (fun h => ?_))
    | ((with_reducible apply And.intro); first | omega | rfl | (dsimp only; omega))))
    all_goals (conv => whnf)
    all_goals first
      | (exact ⟨(names1.length - (j + 1)).toNat, _, by omega, Wk.narrow _ [8, 10, 13] [8] [], j + 1, rfl, by omega, by omega, rfl⟩)
end Go.Proofs.Ytnoohgiecnmajaa.VC

/- Texts as lists of numbers: what stands where (plain). -/
namespace Go.Proofs.Ytnoohgiecnmajaa.VC
open Go Go.RowKit
set_option linter.unusedVariables false
set_option linter.unusedSimpArgs false
set_option maxHeartbeats 4000000

theorem byteAt_nums (s : ByteArray) (i : Int) : byteAt s i = (numsOf s).getD i.toNat 0 := by
  unfold byteAt numsOf
  rw [List.getD_eq_getElem?_getD, List.getD_eq_getElem?_getD, List.getElem?_map]
  cases s.data.toList[i.toNat]? <;> rfl
theorem nums_strOf {l : List Int} (h : Bytes l) : numsOf (strOfNums l) = l := by
  unfold numsOf strOfNums
  simp only [List.map_map]
  have : ∀ l : List Int, Bytes l → l.map ((fun b : UInt8 => (b.toNat : Int)) ∘ fun n : Int => UInt8.ofNat n.toNat) = l := by
    intro l
    induction l with
    | nil => intro _; rfl
    | cons a l ih =>
      intro h
      rw [List.map_cons, ih (fun x hx => h x (List.mem_cons_of_mem _ hx))]
      have := h a (List.mem_cons_self ..)
      simp only [Function.comp_apply, List.cons.injEq, and_true]
      rw [UInt8.toNat_ofNat', Nat.mod_eq_of_lt (by omega)]
      omega
  exact this l h
theorem byte_drop {s : ByteArray} {i c : Int} {r : List Int} (h0 : 0 ≤ i) (h : (numsOf s).drop i.toNat = c :: r) : byteAt s i = c ∧ i < s.size ∧ (numsOf s).drop (i + 1).toNat = r := by
  have hl : i.toNat < (numsOf s).length := by
    by_cases q : i.toNat < (numsOf s).length
    · exact q
    · rw [List.drop_eq_nil_of_le (by omega)] at h; cases h
  have h1 := List.drop_eq_getElem_cons hl
  rw [h1] at h
  simp only [List.cons.injEq] at h
  refine ⟨?_, ?_, ?_⟩
  · rw [byteAt_nums, List.getD_eq_getElem?_getD, List.getElem?_eq_getElem hl]
    exact h.1
  · rw [numsOf_len] at hl; omega
  · rw [show (i + 1).toNat = i.toNat + 1 by omega]; exact h.2
theorem isP_pre (s : ByteArray) (i : Int) (t : ByteArray) (h0 : 0 ≤ i) (ht : t.size ≠ 0) : isP s i t = (numsOf t).isPrefixOf ((numsOf s).drop i.toNat) := by
  have hinj : ∀ a b : UInt8, ((a.toNat : Int)) = (b.toNat : Int) → a = b := fun a b h => UInt8.toNat_inj.1 (by omega)
  have hmi : ∀ a b : List UInt8, a.map (fun b : UInt8 => (b.toNat : Int)) = b.map (fun b : UInt8 => (b.toNat : Int)) → a = b := by
    intro a
    induction a with
    | nil => intro b h; cases b with
      | nil => rfl
      | cons _ _ => cases h
    | cons x a ih => intro b h; cases b with
      | nil => cases h
      | cons y b =>
        simp only [List.map_cons, List.cons.injEq] at h
        rw [hinj x y h.1, ih b h.2]
  rw [Bool.eq_iff_iff, List.isPrefixOf_iff_prefix, List.prefix_iff_eq_take]
  unfold isP
  have hts : t.size = t.data.toList.length := by rw [Array.length_toList]; rfl
  have hss : s.size = s.data.toList.length := by rw [Array.length_toList]; rfl
  have hnl : (numsOf t).length = t.size := numsOf_len t
  rw [hnl]
  have hex : (s.extract i.toNat (i + t.size).toNat).toList = (s.data.toList.drop i.toNat).take t.size := by
    rw [ByteArray.toList_eq, ByteArray.data_extract, Array.toList_extract]
    simp only [List.extract_eq_take_drop]
    congr 1
    omega
  by_cases q : i + t.size ≤ s.size
  · rw [if_pos q, hex, ByteArray.toList_eq, beq_iff_eq]
    unfold numsOf
    rw [← List.map_drop, ← List.map_take]
    constructor
    · intro h; rw [h]
    · intro h; exact (hmi _ _ h).symm
  · rw [if_neg q]
    constructor
    · intro h; cases h
    · intro h
      exfalso
      have := congrArg List.length h
      rw [hnl, List.length_take, List.length_drop, numsOf_len] at this
      omega
theorem charP_drop {x : Text} {i c : Int} {r : List Int} (hu : x.utf = false) (h0 : 0 ≤ i) (h : (numsOf x.s).drop i.toNat = c :: r) : charP x i = (c, i + 1) := by
  obtain ⟨h1, h2, h3⟩ := byte_drop h0 h
  have hl := numsOf_len x.s
  unfold charP nextP
  rw [if_neg (by omega), if_neg (by rw [hu]; simp)]
  have : rdI (numsOf x.s) i = byteAt x.s i := by
    rw [byteAt_nums]
    unfold rdI
    rfl
  rw [this, h1]
/-- A group opens: a bracket, and neither a star nor a question mark behind it. -/
theorem open_drop {x : Text} {i c : Int} {r : List Int} (h0 : 0 ≤ i) (h : (numsOf x.s).drop i.toNat = 40 :: c :: r) (h42 : c ≠ 42) (h63 : c ≠ 63) : openP x i = tokG { tokZ with kind := 10, n := 1 } i (i + 1) := by
  obtain ⟨h1, h2, h3⟩ := byte_drop h0 h
  have p1 : isP x.s (i + 1) (bs [42]) = false := by
    rw [isP_pre _ _ _ (by omega) (by decide), h3]
    show (List.isPrefixOf [42] (c :: r)) = false
    simp [List.isPrefixOf]
    exact fun q => h42 q.symm
  have p2 : isP x.s (i + 1) (bs [63]) = false := by
    rw [isP_pre _ _ _ (by omega) (by decide), h3]
    show (List.isPrefixOf [63] (c :: r)) = false
    simp [List.isPrefixOf]
    exact fun q => h63 q.symm
  unfold openP
  rw [p1, p2, if_neg (by simp), if_pos rfl]
theorem noQ {x : Text} {i c : Int} {r : List Int} (h0 : 0 ≤ i) (h : (numsOf x.s).drop i.toNat = c :: r) (hc : c ≠ 92) : isP x.s i (bs [92, 81]) = false := by
  rw [isP_pre _ _ _ h0 (by decide), h]
  show (List.isPrefixOf [92, 81] (c :: r)) = false
  simp [List.isPrefixOf]
  exact fun q => absurd q.symm hc
/-- A step of the lexer that finds a token. -/
theorem lex_step {x : Text} {k : Nat} {i c : Int} {r : List Int} {out : List Tok} {t : Tok} {b : Int} (hu : x.utf = false) (hx : x.x = false) (h0 : 0 ≤ i) (h : (numsOf x.s).drop i.toNat = c :: r) (hc : c ≠ 92) (ht : tokC x i c (i + 1) = tokG t i b) :
    lexGo x (k + 1) i false out = lexGo x k b false (out ++ [{ t with at_ := i, to := b }]) := by
  obtain ⟨h1, h2, h3⟩ := byte_drop h0 h
  have hch := charP_drop hu h0 h
  have hq := noQ h0 h hc
  have htk : tokenP x i = tokG t i b := by
    unfold tokenP
    rw [if_neg (by rw [hx]; simp), hch]
    exact ht
  rw [lexGo, if_pos h2, if_neg (by simp), if_neg (by rw [hq]; simp), htk, if_neg (by unfold tokG; simp), if_pos (by unfold tokG; rfl)]
  rfl
theorem lex_end {x : Text} {k : Nat} {i : Int} {out : List Tok} (h : ¬ i < x.s.size) : lexGo x k i false out = ⟨out, 0, 0⟩ := by
  cases k with
  | zero => rw [lexGo]
  | succ k => rw [lexGo, if_neg h]
end Go.Proofs.Ytnoohgiecnmajaa.VC

/- Groups one behind the other: their tokens, their tree (plain). -/
namespace Go.Proofs.Ytnoohgiecnmajaa.VC
open Go Go.RowKit
set_option linter.unusedVariables false
set_option linter.unusedSimpArgs false
set_option maxHeartbeats 4000000

def fullPat : Nat → List Int
  | 0 => []
  | n + 1 => 40 :: 97 :: 41 :: fullPat n
def tkO (i : Int) : Tok := { tokZ with kind := 10, n := 1, at_ := i, to := i + 1 }
def tkA (i : Int) : Tok := { tokZ with kind := 1, c := 97, at_ := i, to := i + 1 }
def tkC (i : Int) : Tok := { tokZ with kind := 8, at_ := i, to := i + 1 }
def gToks : Int → Nat → List Tok
  | _, 0 => []
  | i, m + 1 => tkO i :: tkA (i + 1) :: tkC (i + 2) :: gToks (i + 3) m
theorem gToks_len (i : Int) (m : Nat) : (gToks i m).length = 3 * m := by
  induction m generalizing i with
  | zero => rfl
  | succ m ih => rw [gToks]; simp only [List.length_cons]; rw [ih]; omega
theorem full_len (n : Nat) : (fullPat n).length = 3 * n := by
  induction n with
  | zero => rfl
  | succ n ih => rw [fullPat]; simp only [List.length_cons]; omega
theorem full_bytes (n : Nat) : Bytes (fullPat n) := by
  induction n with
  | zero => intro x hx; simp [fullPat] at hx
  | succ n ih =>
    intro x hx
    rw [fullPat] at hx
    simp only [List.mem_cons] at hx
    rcases hx with rfl | rfl | rfl | hx
    · decide
    · decide
    · decide
    · exact ih x hx
theorem lex_groups {x : Text} (hu : x.utf = false) (hx : x.x = false) : ∀ (m : Nat) (i : Int) (k : Nat) (out : List Tok) (R : List Int), 0 ≤ i → (numsOf x.s).drop i.toNat = fullPat m ++ R →
    lexGo x (k + 3 * m) i false out = lexGo x k (i + 3 * m) false (out ++ gToks i m) ∧ (numsOf x.s).drop (i + 3 * m).toNat = R
  | 0, i, k, out, R, h0, h => by
    rw [gToks, List.append_nil]
    rw [show i + 3 * ((0 : Nat) : Int) = i by omega]
    exact ⟨rfl, h⟩
  | m + 1, i, k, out, R, h0, h => by
    rw [fullPat, List.cons_append, List.cons_append, List.cons_append] at h
    have d1 := (byte_drop h0 h).2.2
    have d2 := (byte_drop (by omega) d1).2.2
    have d3 := (byte_drop (by omega) d2).2.2
    have s1 := lex_step (k := k + 3 * m + 2) (out := out) hu hx h0 h (by decide) (t := { tokZ with kind := 10, n := 1 }) (b := i + 1) (by
      unfold tokC
      rw [if_neg (by decide), if_neg (by decide), if_pos rfl]
      exact open_drop h0 h (by decide) (by decide))
    have s2 := lex_step (k := k + 3 * m + 1) (out := out ++ [tkO i]) hu hx (by omega) d1 (by decide) (t := { tokZ with kind := 1, c := 97 }) (b := i + 1 + 1) (by unfold tokC; rfl)
    have s3 := lex_step (k := k + 3 * m) (out := out ++ [tkO i] ++ [tkA (i + 1)]) hu hx (by omega) d2 (by decide) (t := { tokZ with kind := 8 }) (b := i + 1 + 1 + 1) (by unfold tokC; rfl)
    have e3 : i + 1 + 1 + 1 = i + 3 := by omega
    rw [e3] at d3 s3
    have ih := lex_groups hu hx m (i + 3) k (out ++ [tkO i] ++ [tkA (i + 1)] ++ [tkC (i + 2)]) R (by omega) d3
    have ei : i + 3 + 3 * (m : Int) = i + 3 * ((m + 1 : Nat) : Int) := by omega
    rw [ei] at ih
    refine ⟨?_, ih.2⟩
    have hk : k + 3 * (m + 1) = k + 3 * m + 2 + 1 := by omega
    rw [hk, s1]
    refine Eq.trans s2 ?_
    have t3 : ({ ({ tokZ with kind := 8 } : Tok) with at_ := i + 1 + 1, to := i + 3 } : Tok) = tkC (i + 2) := by
      unfold tkC
      rw [show i + 1 + 1 = i + 2 by omega, show i + 2 + 1 = i + 3 by omega]
    rw [t3] at s3
    refine Eq.trans s3 ?_
    rw [ih.1, gToks]
    simp only [List.append_assoc, List.cons_append, List.nil_append]
theorem rdt_drop {L : List Tok} {i : Int} {t : Tok} {r : List Tok} (h0 : 0 ≤ i) (h : L.drop i.toNat = t :: r) : rdt L i = t ∧ i < L.length ∧ L.drop (i + 1).toNat = r := by
  have hl : i.toNat < L.length := by
    by_cases q : i.toNat < L.length
    · exact q
    · rw [List.drop_eq_nil_of_le (by omega)] at h; cases h
  have h1 := List.drop_eq_getElem_cons hl
  rw [h1] at h
  simp only [List.cons.injEq] at h
  refine ⟨?_, by omega, ?_⟩
  · unfold rdt
    rw [List.getD_eq_getElem?_getD, List.getElem?_eq_getElem hl]
    exact h.1
  · rw [show (i + 1).toNat = i.toNat + 1 by omega]; exact h.2
theorem kind_drop {L : List Tok} {i op a : Int} {t : Tok} {r : List Tok} (h0 : 0 ≤ i) (h : L.drop i.toNat = t :: r) : kindP L ⟨i, op, 0, a⟩ = t.kind := by
  obtain ⟨h1, h2, _⟩ := rdt_drop h0 h
  unfold kindP
  rw [if_neg (show ¬ i ≥ L.length by omega), if_neg (show ¬ (0 : Int) ≠ 0 by decide)]
  rw [h1]
def capG (i : Int) : Node := groupN (tkO i) [] [oneN 12 [leafN (tkA (i + 1))]]
/-- What does not begin with a quantifier. -/
def NoQ (R : List Tok) : Prop := ∀ t r, R = t :: r → t.kind ≠ 9
theorem kind_noQ {L : List Tok} {i op a : Int} {R : List Tok} (h0 : 0 ≤ i) (hR : NoQ R) (h : L.drop i.toNat = R) : kindP L ⟨i, op, 0, a⟩ ≠ 9 := by
  cases R with
  | nil =>
    have : L.length ≤ i.toNat := by
      by_cases q : L.length ≤ i.toNat
      · exact q
      · rw [List.drop_eq_getElem_cons (by omega)] at h; cases h
    unfold kindP
    rw [if_pos (show i ≥ L.length by omega)]
    decide
  | cons t r => rw [kind_drop h0 h]; exact hR t r rfl
theorem group_step {L : List Tok} {i j op a : Int} {f : Nat} {l : List Node} {R : List Tok} (h0 : 0 ≤ i) (h : L.drop i.toNat = tkO j :: tkA (j + 1) :: tkC (j + 2) :: R) (hop : op ≠ 40) (hR : NoQ R) :
    seqGo L (f + 8) ⟨i, op, 0, a⟩ l = seqGo L (f + 7) ⟨i + 3, op, 0, a⟩ (l ++ [capG j]) := by
  obtain ⟨r1, l1, d1⟩ := rdt_drop h0 h
  obtain ⟨r2, l2, d2⟩ := rdt_drop (by omega) d1
  obtain ⟨r3, l3, d3⟩ := rdt_drop (by omega) d2
  have k1 : ∀ op a, kindP L ⟨i, op, 0, a⟩ = 10 := fun op a => kind_drop h0 h
  have k2 : ∀ op a, kindP L ⟨i + 1, op, 0, a⟩ = 1 := fun op a => kind_drop (by omega) d1
  have k3 : ∀ op a, kindP L ⟨i + 1 + 1, op, 0, a⟩ = 8 := fun op a => kind_drop (by omega) d2
  have k4 : ∀ op a, kindP L ⟨i + 1 + 1 + 1, op, 0, a⟩ ≠ 9 := fun op a => kind_noQ (by omega) hR d3
  have sIn : ∀ f op a, seqGo L (f + 3) ⟨i + 1, op, 0, a⟩ [] = (oneN 12 [leafN (tkA (j + 1))], ⟨i + 1 + 1, op, 0, a⟩) := by
    intro f op a
    have t1 : thingF L (f + 2) ⟨i + 1, op, 0, a⟩ = (leafN (tkA (j + 1)), ⟨i + 1 + 1, op, 0, a⟩) := by
      rw [thingF]
      simp only
      rw [r2, if_pos (show (tkA (j + 1)).kind ≠ 10 by show (1 : Int) ≠ 10; decide)]
    have t2 : quantN L (thingF L (f + 2) ⟨i + 1, op, 0, a⟩) = (leafN (tkA (j + 1)), ⟨i + 1 + 1, op, 0, a⟩) := by
      rw [t1]
      unfold quantN
      simp only
      rw [k3, if_neg (by decide)]
    rw [seqGo, k2, if_neg (by decide), if_neg (by decide), t2]
    simp only [List.nil_append]
    rw [seqGo, k3, if_pos (.inr (.inr rfl))]
  have sAlt : ∀ f op a, altF L (f + 4) ⟨i + 1, op, 0, a⟩ = ([oneN 12 [leafN (tkA (j + 1))]], ⟨i + 1 + 1, op, 0, a⟩) := by
    intro f op a
    rw [altF, sIn]
    simp only
    rw [altGo, k3, if_neg (by decide)]
  have sGrp : thingF L (f + 7) ⟨i, op, 0, a⟩ = (capG j, ⟨i + 1 + 1 + 1, op, 0, a⟩) := by
    rw [thingF]
    simp only
    rw [r1, if_neg (show ¬ (tkO j).kind ≠ 10 by show ¬ (10 : Int) ≠ 10; decide), if_neg hop, if_neg (show ¬ ((tkO j).n = 13 ∧ _) from fun q => absurd q.1 (by show ¬ (1 : Int) = 13; decide))]
    rw [groupF, sAlt (f + 1)]
    simp only
    rw [k3, if_neg (by decide)]
    unfold groupP
    rw [if_pos (show 1 ≤ (tkO j).n ∧ (tkO j).n ≤ 8 from ⟨by show (1 : Int) ≤ 1; decide, by show (1 : Int) ≤ 8; decide⟩)]
    rw [Int.add_sub_cancel]
    rfl
  have sQ : quantN L (thingF L (f + 7) ⟨i, op, 0, a⟩) = (capG j, ⟨i + 1 + 1 + 1, op, 0, a⟩) := by
    rw [sGrp]
    unfold quantN
    simp only
    rw [if_neg (k4 op a)]
  rw [seqGo, k1, if_neg (by decide), if_neg (by decide), sQ]
  simp only
  rw [show i + 1 + 1 + 1 = i + 3 by omega]
def capsG : Int → Nat → List Node
  | _, 0 => []
  | i, m + 1 => capG i :: capsG (i + 3) m
theorem seq_groups {L : List Tok} {op a : Int} (hop : op ≠ 40) : ∀ (m : Nat) (i j : Int) (f : Nat) (l : List Node) (R : List Tok), 0 ≤ i → L.drop i.toNat = gToks j m ++ R → NoQ R →
    seqGo L (f + 7 + m) ⟨i, op, 0, a⟩ l = seqGo L (f + 7) ⟨i + 3 * m, op, 0, a⟩ (l ++ capsG j m) ∧ L.drop (i + 3 * m).toNat = R
  | 0, i, j, f, l, R, h0, h, hR => by
    rw [capsG, List.append_nil]
    rw [show i + 3 * ((0 : Nat) : Int) = i by omega]
    exact ⟨rfl, h⟩
  | m + 1, i, j, f, l, R, h0, h, hR => by
    rw [gToks, List.cons_append, List.cons_append, List.cons_append] at h
    have hN : NoQ (gToks (j + 3) m ++ R) := by
      cases m with
      | zero => rw [gToks]; exact hR
      | succ m =>
        intro t r e
        rw [gToks] at e
        simp only [List.cons_append, List.cons.injEq] at e
        rw [← e.1]
        show (10 : Int) ≠ 9
        decide
    have hs := group_step (f := f + m) (l := l) (op := op) (a := a) h0 h hop hN
    have d3 := (rdt_drop (by omega) (rdt_drop (by omega) (rdt_drop h0 h).2.2).2.2).2.2
    rw [show i + 1 + 1 + 1 = i + 3 by omega] at d3
    have ih := seq_groups hop m (i + 3) (j + 3) f (l ++ [capG j]) R (by omega) d3 hR (a := a)
    have ei : i + 3 + 3 * (m : Int) = i + 3 * ((m + 1 : Nat) : Int) := by omega
    rw [ei] at ih
    refine ⟨?_, ih.2⟩
    rw [show f + 7 + (m + 1) = f + m + 8 by omega, hs, show f + m + 7 = f + 7 + m by omega, ih.1, capsG]
    simp only [List.append_assoc, List.cons_append, List.nil_append]
theorem lex_full (n : Nat) (hn : n ≤ 333) : lexP (fullPat n) 0 = ⟨gToks 0 n, 0, 0⟩ := by
  have hl := full_len n
  have hb := full_bytes n
  have ht : textOf (fullPat n) 0 = ⟨strOfNums (fullPat n), false, false, 255⟩ := by
    unfold textOf
    rw [show bAnd 0 32 = 0 by decide, show bAnd 0 8 = 0 by decide]
    rfl
  unfold lexP
  rw [if_neg (by decide), if_neg (by decide), if_neg (by omega), show bAnd 0 32 = 0 by decide, if_neg (by decide), ht]
  simp only
  have hsz := strOf_size (fullPat n)
  rw [hsz, hl]
  have h := lex_groups (x := ⟨strOfNums (fullPat n), false, false, 255⟩) rfl rfl n 0 1 [] [] (by decide) (by
    show (numsOf (strOfNums (fullPat n))).drop 0 = fullPat n ++ []
    rw [nums_strOf hb, List.append_nil]; rfl)
  rw [show 3 * n + 1 = 1 + 3 * n by omega]
  refine Eq.trans h.1 ?_
  rw [lex_end (by show ¬ (0 + 3 * (n : Int) < ((strOfNums (fullPat n)).size : Int)); rw [hsz, hl]; omega)]
  rfl
theorem parse_full : ∀ n : Nat, parseP (gToks 0 n) (3 * n) = ⟨oneN 13 [oneN 12 (capsG 0 n)], 0, 0⟩
  | 0 => rfl
  | n + 1 => by
    have hl := gToks_len 0 (n + 1)
    have h := seq_groups (L := gToks 0 (n + 1)) (op := 0) (a := 0) (by decide) (n + 1) 0 0 (11 * n + 5) [] [] (by decide) (by show (gToks 0 (n + 1)).drop 0 = _; rw [List.append_nil]; rfl) (fun t r e => by cases e)
    have hend : kindP (gToks 0 (n + 1)) ⟨0 + 3 * ((n + 1 : Nat) : Int), 0, 0, 0⟩ = 0 := by
      unfold kindP
      rw [if_pos (by show (0 + 3 * ((n + 1 : Nat) : Int)) ≥ _; rw [hl]; omega)]
    have hs : seqGo (gToks 0 (n + 1)) (4 * (gToks 0 (n + 1)).length + 1) par0 [] = (oneN 12 (capsG 0 (n + 1)), ⟨0 + 3 * ((n + 1 : Nat) : Int), 0, 0, 0⟩) := by
      rw [hl, show 4 * (3 * (n + 1)) + 1 = 11 * n + 5 + 7 + (n + 1) by omega]
      refine Eq.trans h.1 ?_
      rw [show 11 * n + 5 + 7 = 11 * n + 11 + 1 by omega, seqGo, hend, if_pos (.inl rfl)]
      rfl
    have ha : altF (gToks 0 (n + 1)) (parFuel (gToks 0 (n + 1))) par0 = ([oneN 12 (capsG 0 (n + 1))], ⟨0 + 3 * ((n + 1 : Nat) : Int), 0, 0, 0⟩) := by
      unfold parFuel
      rw [altF, hs]
      simp only
      rw [altGo, hend, if_neg (by decide)]
    have hd : parDone (gToks 0 (n + 1)) ⟨0 + 3 * ((n + 1 : Nat) : Int), 0, 0, 0⟩ = ⟨0 + 3 * ((n + 1 : Nat) : Int), 0, 0, 0⟩ := by
      unfold parDone
      rw [if_neg]
      rintro ⟨_, q⟩
      have q : 0 + 3 * ((n + 1 : Nat) : Int) < (gToks 0 (n + 1)).length := q
      rw [hl] at q
      omega
    unfold parseP
    rw [ha]
    simp only
    rw [hd, if_neg (show ¬ (0 : Int) = 20 by decide), if_neg (show ¬ (0 : Int) ≠ 0 by decide)]
end Go.Proofs.Ytnoohgiecnmajaa.VC

/- Groups one behind the other: their numbers (plain). -/
namespace Go.Proofs.Ytnoohgiecnmajaa.VC
open Go Go.RowKit
set_option linter.unusedVariables false
set_option linter.unusedSimpArgs false
set_option maxHeartbeats 4000000

theorem capG_is (i : Int) : capG i = .mk { fZ with kind := 14, at_ := i } [leafN (tkA (i + 1))] := rfl
def litR (c : Ctx) (g i : Int) : Node := setN (i + 1) (setP c [(97, 97)] (bAnd g 1 != 0) false)
def capR (c : Ctx) (g i : Int) : Node := .mk { fZ with kind := 14, at_ := i } [litR c g i]
def capsR (c : Ctx) (g : Int) : Int → Nat → List Node
  | _, 0 => []
  | i, m + 1 => capR c g i :: capsR c g (i + 3) m
def capB (c : Ctx) (g i b : Int) : Node := .mk { fZ with kind := 14, at_ := i, n := b + 1 } [litR c g i]
def capsB (c : Ctx) (g : Int) : Int → Int → Nat → List Node
  | _, _, 0 => []
  | i, b, m + 1 => capB c g i b :: capsB c g (i + 3) (b + 1) m
theorem capG_len (i : Int) (m : Nat) : (capsG i m).length = m := by
  induction m generalizing i with
  | zero => rfl
  | succ m ih => rw [capsG]; simp [ih]
theorem capR_len (c : Ctx) (g i : Int) (m : Nat) : (capsR c g i m).length = m := by
  induction m generalizing i with
  | zero => rfl
  | succ m ih => rw [capsR]; simp [ih]
attribute [local irreducible] bAnd setP
theorem nodeR_cap (c : Ctx) (g i : Int) : nodeR c (capG i) g = (capR c g i, g) := by
  rw [capG_is, nodeR]
  unfold nodeS
  simp only
  rw [if_neg (by decide), if_neg (by decide), if_neg (by decide), if_neg (by decide), if_neg (by decide), if_neg (by decide), if_neg (by decide), if_neg (by decide), if_neg (by decide), if_neg (by decide)]
  rw [rowR, rowR]
  simp only
  have h1 : nodeR c (leafN (tkA (i + 1))) g = (litR c g i, g) := by
    rw [show leafN (tkA (i + 1)) = .mk ⟨1, i + 1, 97, [], false, 0, 0, 0, bs [], 0, 0⟩ [] from rfl, nodeR]
    unfold nodeS
    simp only
    rw [if_pos trivial]
    rfl
  rw [h1]
  simp only
  have h2 : greedN ({ fZ with kind := 14, at_ := i } : NodeF) g = { fZ with kind := 14, at_ := i } := by unfold greedN; rw [if_neg (by show ¬ (14 : Int) = 20; decide)]
  rw [h2]
  rfl
theorem rowR_caps (c : Ctx) (g : Int) : ∀ (m : Nat) (i : Int), rowR c (capsG i m) g = (capsR c g i m, g)
  | 0, i => by rw [capsG, rowR, capsR]
  | m + 1, i => by
    rw [capsG, rowR, nodeR_cap]
    simp only
    rw [rowR_caps c g m, capsR]
theorem list_caps (c : Ctx) (g : Int) : ∀ (m : Nat) (i : Int), (capsR c g i m).flatMap listN = capsR c g i m
  | 0, i => by rw [capsR]; rfl
  | m + 1, i => by
    rw [capsR, List.flatMap_cons, list_caps c g m]
    rfl
theorem nodeR_full (c : Ctx) (g : Int) (n : Nat) : nodeR c (oneN 13 [oneN 12 (capsG 0 n)]) g = (seqN (capsR c g 0 n), g) := by
  have h1 : oneN 13 [oneN 12 (capsG 0 n)] = oneN 12 (capsG 0 n) := rfl
  rw [h1]
  unfold oneN
  rw [capG_len]
  by_cases q : n = 1
  · subst q
    rw [if_pos rfl]
    have h2 : rdn (capsG 0 1) 0 = capG 0 := rfl
    rw [h2, nodeR_cap]
    rfl
  · rw [if_neg q, nodeR]
    unfold nodeS
    simp only
    rw [if_neg (by decide), if_neg (by decide), if_neg (by decide), if_neg (by decide), if_neg (by decide), if_neg (by decide), if_neg (by decide), if_pos (by decide)]
    rw [rowR_caps]
    simp only
    rw [list_caps]
theorem nbN_lit (c : Ctx) (g i a : Int) : nbN (litR c g i) a = (litR c g i, a) := by
  unfold litR setN
  rw [nbN]
  have h1 : ∀ s : List (Int × Int), nbF ({ fZ with kind := 2, at_ := i + 1, set := s } : NodeF) a = { fZ with kind := 2, at_ := i + 1, set := s } := fun s => by unfold nbF; rw [if_neg (by show ¬ (2 : Int) = 14; decide)]
  have h2 : ∀ s : List (Int × Int), nbT ({ fZ with kind := 2, at_ := i + 1, set := s } : NodeF) a = a := fun s => by unfold nbT; rw [if_neg (by show ¬ (2 : Int) = 14; decide)]
  rw [h1, h2, nbL]
theorem nbN_cap (c : Ctx) (g i a : Int) : nbN (capR c g i) a = (capB c g i a, a + 1) := by
  unfold capR capB
  rw [nbN]
  have h1 : nbF ({ fZ with kind := 14, at_ := i } : NodeF) a = { fZ with kind := 14, at_ := i, n := a + 1 } := by unfold nbF; rw [if_pos rfl]
  have h2 : nbT ({ fZ with kind := 14, at_ := i } : NodeF) a = a + 1 := by unfold nbT; rw [if_pos rfl]
  rw [h1, h2, nbL, nbL]
  simp only
  have h3 : (if decide (({ fZ with kind := 14, at_ := i } : NodeF).kind = 16) = true then a + 1 else a + 1) = a + 1 := by split <;> rfl
  rw [h3, nbN_lit]
  simp only
  have h4 : mxP (a + 1) (a + 1) = a + 1 := by unfold mxP; split <;> rfl
  rw [h4]
theorem nbL_caps (c : Ctx) (g : Int) : ∀ (m : Nat) (i a b : Int), nbL (capsR c g i m) false a b = (capsB c g i b m, b + m)
  | 0, i, a, b => by rw [capsR, nbL, capsB]; simp
  | m + 1, i, a, b => by
    rw [capsR, nbL]
    rw [if_neg (by decide), nbN_cap]
    try dsimp only
    have h4 : mxP (b + 1) b = b + 1 := by unfold mxP; rw [if_pos (by omega)]
    rw [h4, nbL_caps c g m, capsB]
    refine Prod.ext rfl ?_
    show b + 1 + (m : Int) = b + ((m + 1 : Nat) : Int)
    omega
theorem capsL_caps (c : Ctx) (g : Int) : ∀ (m : Nat) (i b : Int), capsL (capsB c g i b m) = capsB c g i b m
  | 0, i, b => by rw [capsB, capsL]
  | m + 1, i, b => by
    rw [capsB, capsL, capsL_caps c g m]
    have : capsN (capB c g i b) = [capB c g i b] := by
      unfold capB
      rw [capsN, if_pos rfl, capsL, capsL]
      unfold litR setN
      rw [capsN, if_neg (by show ¬ (2 : Int) = 14; decide), capsL]
      rfl
    rw [this]
    rfl
theorem num_full (c : Ctx) (g : Int) (n : Nat) : capsN (nbN (seqN (capsR c g 0 n)) 0).1 = capsB c g 0 0 n ∧ (nbN (seqN (capsR c g 0 n)) 0).2 = n := by
  unfold seqN
  rw [capR_len]
  by_cases q : n = 1
  · subst q
    rw [if_pos rfl]
    have h2 : rdn (capsR c g 0 1) 0 = capR c g 0 := rfl
    rw [h2, nbN_cap]
    refine ⟨?_, rfl⟩
    have := capsL_caps c g 1 0 0
    rw [capsB, capsB, capsL, capsL, List.append_nil] at this
    rw [capsB, capsB]
    exact this
  · rw [if_neg q, nbN]
    have h1 : nbF ({ fZ with kind := 12 } : NodeF) 0 = { fZ with kind := 12 } := by unfold nbF; rw [if_neg (by decide)]
    have h2 : nbT ({ fZ with kind := 12 } : NodeF) 0 = 0 := by unfold nbT; rw [if_neg (by decide)]
    have h3 : decide (({ fZ with kind := 12 } : NodeF).kind = 16) = false := by decide
    rw [h1, h2, h3, nbL_caps]
    simp only
    rw [capsN, if_neg (by decide), capsL_caps]
    exact ⟨rfl, by omega⟩
theorem nam_caps (c : Ctx) (g : Int) : ∀ (m : Nat) (i b : Int) (A : List (ByteArray × Int)), b ≤ 60 →
    (b + m ≤ 60 → (namL (capsB c g i b m) A).e = 0) ∧ (b + m > 60 → (namL (capsB c g i b m) A).e = 12 ∧ (namL (capsB c g i b m) A).at_ = i + 3 * (60 - b))
  | 0, i, b, A, hb => by rw [capsB, namL_nil]; exact ⟨fun _ => rfl, fun h => by omega⟩
  | m + 1, i, b, A, hb => by
    rw [capsB]
    unfold capB
    rw [namL_cons]
    by_cases q : b + 1 > 60
    · rw [if_pos q]
      refine ⟨fun h => by omega, fun _ => ⟨rfl, ?_⟩⟩
      show i = i + 3 * (60 - b)
      omega
    · rw [if_neg q, if_pos (by rfl)]
      have ih := nam_caps c g m (i + 3) (b + 1) A (by omega)
      refine ⟨fun h => ih.1 (by omega), fun h => ?_⟩
      have := ih.2 (by omega)
      exact ⟨this.1, by rw [this.2]; omega⟩
theorem full_is (n : Nat) (hn : n ≤ 333) : (flatP (fullPat n) 0).2 = true ∧ (n ≤ 60 → (numR9 (flatP (fullPat n) 0).1).e = 0 ∧ (numR9 (flatP (fullPat n) 0).1).most = n) ∧
    (n > 60 → (numR9 (flatP (fullPat n) 0).1).e = 12 ∧ (numR9 (flatP (fullPat n) 0).1).at_ = 180 ∧ (numR9 (flatP (fullPat n) 0).1).most = 0) := by
  have h1 := lex_full n hn
  have hlen : ((fullPat n).length : Int) = 3 * n := by have := full_len n; omega
  have h2 := parse_full n
  have hf : flatP (fullPat n) 0 = (seqN (capsR (ctxOf 0) (bAnd 0 23) 0 n), true) := by
    unfold flatP
    rw [h1]
    simp only
    rw [if_neg (by decide), hlen, h2]
    simp only
    rw [if_neg (by decide)]
    unfold resolveP
    rw [nodeR_full]
  rw [hf]
  simp only
  have hnum := num_full (ctxOf 0) (bAnd 0 23) n
  have hnam := nam_caps (ctxOf 0) (bAnd 0 23) n 0 0 [] (by decide)
  unfold numR9
  rw [hnum.1, hnum.2]
  refine ⟨trivial, fun q => ?_, fun q => ?_⟩
  · have := hnam.1 (by omega)
    rw [if_neg (by rw [this]; decide)]
    exact ⟨rfl, rfl⟩
  · have := hnam.2 (by omega)
    rw [if_pos (by rw [this.1]; decide)]
    exact ⟨this.1, this.2, rfl⟩
end Go.Proofs.Ytnoohgiecnmajaa.VC

/- The laws of groups: GroupsFull. -/
namespace Go.Proofs.Ytnoohgiecnmajaa.VC
open Go Go.RowKit
set_option linter.unusedVariables false
set_option linter.unusedSimpArgs false
set_option maxHeartbeats 4000000

theorem full_snoc : ∀ n : Nat, fullPat (n + 1) = fullPat n ++ [40, 97, 41]
  | 0 => rfl
  | n + 1 => by
    show 40 :: 97 :: 41 :: fullPat (n + 1) = (40 :: 97 :: 41 :: fullPat n) ++ [40, 97, 41]
    rw [full_snoc n]; rfl
theorem brows_app (a b : List Int) : byteRows a ++ byteRows b = byteRows (a ++ b) := by simp [byteRows]
attribute [local irreducible] flatP numG numR9 fullPat
set_option maxHeartbeats 16000000
theorem full9_c (n : Int) : VCalls Try.prog 5 [iv n] (fun r => r = bv true) := by
  refine VCalls.ofr tabOk Try.func5 (by decide) rfl rfl ?_
  refine RWP.seqx tabOk orders ?_
  conv => whnf
  refine RWP.seqx tabOk orders ?_
  repeat' ((conv => whnf); (first
    | (with_reducible first | refine Spl.yes ?_ | refine Spl.no ?_ | refine Spl.dec (fun h => ?_) (fun h => ?_) | refine Spl.eq (fun h => ?_) (fun h => ?_) | refine Spl.ne (fun h => ?_) (fun h => ?_) | refine Spl.seq (fun h => ?_) (fun h => ?_) | refine Spl.not ?_ | refine Spl.any (fun h => ?_) (fun h => ?_))
    | (refine VCalls.mono (awake9_c) ?_; rintro _ rfl)
    | ((with_reducible apply And.intro); first | omega | rfl | (dsimp only; omega))))
  all_goals (conv => whnf)
  refine RWP.seqx tabOk orders ?_
  repeat' ((conv => whnf); (first
    | (with_reducible first | refine Spl.yes ?_ | refine Spl.no ?_ | refine Spl.dec (fun h => ?_) (fun h => ?_) | refine Spl.eq (fun h => ?_) (fun h => ?_) | refine Spl.ne (fun h => ?_) (fun h => ?_) | refine Spl.seq (fun h => ?_) (fun h => ?_) | refine Spl.not ?_ | refine Spl.any (fun h => ?_) (fun h => ?_))
    | ((with_reducible apply And.intro); first | omega | rfl | (dsimp only; omega))))
  all_goals (conv => whnf)
  refine RWP.cut (fun st => 0 ≤ n ∧ n ≤ 200 ∧ st = ⟨68, [(0, .pv (iv n))], [], [], []⟩) tabOk orders ?_ ?_
  · repeat' ((conv => whnf); (first
    | (with_reducible first | refine Spl.yes ?_ | refine Spl.no ?_ | refine Spl.dec (fun h => ?_) (fun h => ?_) | refine Spl.eq (fun h => ?_) (fun h => ?_) | refine Spl.ne (fun h => ?_) (fun h => ?_) | refine Spl.seq (fun h => ?_) (fun h => ?_) | refine Spl.not ?_ | refine Spl.any (fun h => ?_) (fun h => ?_))
    | ((with_reducible apply And.intro); first | omega | rfl | (dsimp only; omega))))
    all_goals (conv => whnf)
    all_goals first
      | rfl
      | exact ⟨_, Wk.narrow _ [0] [] [], by omega, by omega, rfl⟩
  rintro _ ⟨h0, h200, rfl⟩
  obtain ⟨m, hm⟩ : ∃ m : Nat, n = m := ⟨n.toNat, by omega⟩
  have hf := flat_c (fullPat m) 0 (full_bytes m)
  have hw := flatP_w (fullPat m) 0
  have hal := flatP_all (fullPat m) 0
  have hn := numG_c (flatP (fullPat m) 0).1 (by omega) hal
  have hfull := full_is m (by omega)
  rw [numG_is] at hn
  refine RWP.seqx tabOk orders ?_
  conv => whnf
  refine RWP.seq ?_
  refine RWP.seqx tabOk orders ?_
  conv => whnf
  refine RWP.block ?_
  refine RWP.loop (fun k st => ∃ (j : Nat) (v : Bool), st = ⟨68, [(0, .pv (iv n)), (4, .own 29), (5, .pv (iv j))], [], [(29, ⟨1, 5, v, byteRows (fullPat j)⟩)], []⟩ ∧ j ≤ m ∧ k = m - j)
    ⟨_, _, Wk.trans (Wk.ownNil (t := 4) (k := 29) (sz := 1) (e := 5) rfl) (Wk.narrow _ [0, 4, 5] [] [29]), 0, true, Eq.trans rfl (congrArg (fun (X : List (List SV)) => (⟨68, [(0, .pv (iv n)), (4, .own 29), (5, .pv (iv 0))], [], [(29, ⟨1, 5, true, X⟩)], []⟩ : St)) (show [] = byteRows (fullPat 0) by rw [fullPat]; rfl)), by omega, rfl⟩ ?_
  rintro k st ⟨j, v, rfl, hj, hk⟩
  have hfl := full_len j
  have hbl : (byteRows (fullPat j)).length = 3 * j := by rw [← hfl]; simp [byteRows]
  refine RWP.seqx tabOk orders ?_
  repeat' ((conv => whnf); (first
    | (with_reducible first | refine Spl.yes ?_ | refine Spl.no ?_ | refine Spl.dec (fun h => ?_) (fun h => ?_) | refine Spl.eq (fun h => ?_) (fun h => ?_) | refine Spl.ne (fun h => ?_) (fun h => ?_) | refine Spl.seq (fun h => ?_) (fun h => ?_) | refine Spl.not ?_ | refine Spl.any (fun h => ?_) (fun h => ?_))
    | ((with_reducible apply And.intro); first | omega | rfl | (dsimp only; omega))))
  all_goals (conv => whnf)
  rotate_left
  · have e : j = m := by omega
    subst e
    generalize fullPat j = p at *
    generalize flatP p 0 = r1 at *
    obtain ⟨⟨f1, k1⟩, b1⟩ := r1
    simp only at *
    generalize numR9 (.mk f1 k1) = q at *
    obtain ⟨⟨f2, k2⟩, most, names, e, at_⟩ := q
    simp only at *
    obtain ⟨rfl, hle, hgt⟩ := hfull
    refine RWP.of tabOk orders ?_
    repeat' ((conv => whnf); (first
    | (with_reducible first | refine Spl.yes ?_ | refine Spl.no ?_ | refine Spl.dec (fun h => ?_) (fun h => ?_) | refine Spl.eq (fun h => ?_) (fun h => ?_) | refine Spl.ne (fun h => ?_) (fun h => ?_) | refine Spl.seq (fun h => ?_) (fun h => ?_) | refine Spl.not ?_ | refine Spl.any (fun h => ?_) (fun h => ?_))
    | (refine VCalls.mono (hf) ?_; rintro _ rfl)
    | (refine VCalls.mono (hn) ?_; rintro _ rfl)
    | refine drawn_text (by decide +kernel) ?_
    | refine And.intro (Nat.le_of_ble_eq_true rfl) ?_
    | ((with_reducible apply And.intro); first | omega | rfl | (dsimp only; omega))))
    all_goals (conv => whnf)
    all_goals first
      | (have hgt := hgt (by omega)
         obtain ⟨q1, q2, q3⟩ := hgt
         first
           | (exfalso; exact absurd q1 (by assumption))
           | (exfalso; exact absurd q2 (by assumption))
           | (simp only [q3]; rfl)
           | (rw [q3]; rfl))
      | (have hle := hle (by omega)
         obtain ⟨q1, q2⟩ := hle
         first
           | (exfalso; exact absurd q1 (by assumption))
           | (rw [hm]; simp only [q2, beq_self_eq_true]; rfl))
  refine RWP.of tabOk orders ?_
  repeat' ((conv => whnf); (first
    | (with_reducible first | refine Spl.yes ?_ | refine Spl.no ?_ | refine Spl.dec (fun h => ?_) (fun h => ?_) | refine Spl.eq (fun h => ?_) (fun h => ?_) | refine Spl.ne (fun h => ?_) (fun h => ?_) | refine Spl.seq (fun h => ?_) (fun h => ?_) | refine Spl.not ?_ | refine Spl.any (fun h => ?_) (fun h => ?_))
    | refine drawn_text (by decide +kernel) ?_
    | refine And.intro (Nat.le_of_ble_eq_true rfl) ?_
    | refine And.intro (by show ((byteRows (fullPat j)).length + 3) * 1 ≤ 140737488355328; omega) ?_
    | ((with_reducible apply And.intro); first | omega | rfl | (dsimp only; omega))))
  all_goals (conv => whnf)
  exact ⟨m - (j + 1), _, by omega, Wk.narrow _ [0, 4, 5] [] [29], j + 1, v, Eq.trans rfl (congrArg (fun (X : List (List SV)) => (⟨68, [(0, .pv (iv n)), (4, .own 29), (5, .pv (iv ((j + 1 : Nat) : Int)))], [], [(29, ⟨1, 5, v, X⟩)], []⟩ : St)) (show byteRows (fullPat j) ++ [[yv 40], [yv 97], [yv 41]] = byteRows (fullPat (j + 1)) by rw [full_snoc, ← brows_app]; rfl)), by omega, rfl⟩
end Go.Proofs.Ytnoohgiecnmajaa.VC

