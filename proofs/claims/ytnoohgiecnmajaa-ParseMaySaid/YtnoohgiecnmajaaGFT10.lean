/- A part of the ground of the proof. No condition. -/
import Derived.Test.YtnoohgiecnmajaaGF2

/- The sets of tokens rise. -/
namespace Go.Proofs.Ytnoohgiecnmajaa.VC
open Go Go.RowKit
set_option linter.unusedVariables false
set_option linter.unusedSimpArgs false
set_option maxHeartbeats 4000000

theorem put_sorted {n : Int} : ∀ {l : List Int}, l.Pairwise (· < ·) → (putP n l).Pairwise (· < ·) ∧ ∀ x ∈ putP n l, x = n ∨ x ∈ l
  | [], _ => by simp [putP]
  | y :: l, h => by
    rw [List.pairwise_cons] at h
    have ih := put_sorted (n := n) h.2
    unfold putP
    split
    · rename_i hlt
      refine ⟨?_, ?_⟩
      · rw [List.pairwise_cons]
        refine ⟨fun x hx => ?_, ih.1⟩
        rcases ih.2 x hx with rfl | hx
        · exact hlt
        · exact h.1 x hx
      · intro x hx
        rcases List.mem_cons.1 hx with rfl | hx
        · exact .inr (List.mem_cons_self ..)
        · rcases ih.2 x hx with e | hx
          · exact .inl e
          · exact .inr (List.mem_cons_of_mem _ hx)
    split
    · exact ⟨by rw [List.pairwise_cons]; exact h, fun x hx => .inr hx⟩
    · rename_i h1 h2
      refine ⟨?_, fun x hx => by simpa using hx⟩
      rw [List.pairwise_cons, List.pairwise_cons]
      refine ⟨fun x hx => ?_, h⟩
      rcases List.mem_cons.1 hx with rfl | hx
      · omega
      · have := h.1 x hx; omega
theorem edges_sorted (l : List (Int × Int)) (m : Int) : (edgesP l m).Pairwise (· < ·) := by
  unfold edgesP
  generalize (if m > 1114111 then 1114111 else m) = most
  simp only
  split
  · exact List.Pairwise.nil
  rename_i hm
  have key : ∀ (l : List (Int × Int)) (E : List Int), E.Pairwise (· < ·) → (l.foldl (edgeStep most) E).Pairwise (· < ·) := by
    intro l
    induction l with
    | nil => intro E h; exact h
    | cons p l ih =>
      intro E h
      rw [List.foldl_cons]
      refine ih _ ?_
      unfold edgeStep
      simp only
      have h1 : (if p.1 > 0 ∧ p.1 ≤ most then putP p.1 E else E).Pairwise (· < ·) := by
        split
        · exact (put_sorted h).1
        · exact h
      split
      · exact (put_sorted h1).1
      · exact h1
  refine key l _ ?_
  simp
  omega
/-- Ranges that may be a set's. -/
structure Rises (o : List (Int × Int)) : Prop where
  ok : ∀ p ∈ o, 0 ≤ p.1 ∧ p.1 ≤ p.2 ∧ p.2 ≤ 1114111
  gap : o.Pairwise (fun p q => p.2 + 1 < q.1)
theorem glue_rises {o : List (Int × Int)} {lo hi : Int} (h : Rises o) (hu : ∀ p ∈ o, p.2 < lo) (h0 : 0 ≤ lo) (h1 : lo ≤ hi) (h2 : hi ≤ 1114111) : Rises (glue o lo hi) ∧ ∀ p ∈ glue o lo hi, p.2 ≤ hi := by
  rcases List.eq_nil_or_concat o with e | ⟨A, p, e⟩
  · subst e
    have : glue [] lo hi = [(lo, hi)] := rfl
    rw [this]
    refine ⟨⟨?_, by simp⟩, ?_⟩
    · intro q hq; simp at hq; subst hq; exact ⟨h0, h1, h2⟩
    · intro q hq; simp at hq; subst hq; exact Int.le_refl _
  rw [List.concat_eq_append] at e
  subst e
  have hlast : rdp (A ++ [p]) ((A ++ [p]).length - 1 : Int) = p := by
    unfold rdp
    rw [show (((A ++ [p]).length : Int) - 1).toNat = A.length by simp]
    simp
  have hp := h.ok p (by simp)
  have hpu := hu p (by simp)
  have hgap := List.pairwise_append.1 h.gap
  by_cases hg : glueB (A ++ [p]) lo = true
  · have hset : glue (A ++ [p]) lo hi = A ++ [(p.1, hi)] := by
      unfold glue
      rw [if_pos hg, hlast]
      rw [show (A ++ [p]).length - 1 = A.length by simp]
      simp
    rw [hset]
    refine ⟨⟨?_, ?_⟩, ?_⟩
    · intro q hq
      rcases List.mem_append.1 hq with hq | hq
      · exact h.ok q (List.mem_append_left _ hq)
      · simp at hq; subst hq; exact ⟨hp.1, by simp only; omega, h2⟩
    · rw [List.pairwise_append]
      refine ⟨hgap.1, by simp, ?_⟩
      intro q hq r hr
      simp at hr
      subst hr
      exact hgap.2.2 q hq p (by simp)
    · intro q hq
      rcases List.mem_append.1 hq with hq | hq
      · have := hu q (List.mem_append_left _ hq); omega
      · simp at hq; subst hq; exact Int.le_refl _
  · have hset : glue (A ++ [p]) lo hi = (A ++ [p]) ++ [(lo, hi)] := by
      unfold glue
      rw [if_neg hg]
    have hne : p.2 + 1 ≠ lo := by
      intro e
      apply hg
      unfold glueB
      rw [if_pos (by simp), hlast]
      simpa using e
    rw [hset]
    refine ⟨⟨?_, ?_⟩, ?_⟩
    · intro q hq
      rcases List.mem_append.1 hq with hq | hq
      · exact h.ok q hq
      · simp at hq; subst hq; exact ⟨h0, h1, h2⟩
    · rw [List.pairwise_append]
      refine ⟨h.gap, by simp, ?_⟩
      intro q hq r hr
      simp at hr
      subst hr
      rcases List.mem_append.1 hq with hq | hq
      · have := hgap.2.2 q hq p (by simp)
        simp only
        omega
      · simp at hq; subst hq; simp only; omega
    · intro q hq
      rcases List.mem_append.1 hq with hq | hq
      · have := hu q hq; omega
      · simp at hq; subst hq; exact Int.le_refl _
theorem joinL_rises {kind : Int} {a b : List (Int × Int)} : ∀ (E : List Int) (o : List (Int × Int)), E.Pairwise (· < ·) → Near E → Rises o → (∀ x ∈ E, ∀ p ∈ o, p.2 < x) → Rises (joinL kind a b E o)
  | [], o, _, _, h, _ => by simpa [joinL] using h
  | [x], o, _, _, h, _ => by simpa [joinL] using h
  | x :: y :: r, o, hE, hN, h, hu => by
    rw [joinL]
    have hE' := List.pairwise_cons.1 hE
    have hxy := hE'.1 y (List.mem_cons_self ..)
    have hnx := hN x (List.mem_cons_self ..)
    have hny := hN y (List.mem_cons_of_mem _ (List.mem_cons_self ..))
    have hN' : Near (y :: r) := fun z hz => hN z (List.mem_cons_of_mem _ hz)
    have hy := List.pairwise_cons.1 hE'.2
    split
    · have hg := glue_rises (lo := x) (hi := y - 1) h (hu x (List.mem_cons_self ..)) hnx.1 (by omega) (by omega)
      refine joinL_rises (y :: r) _ hE'.2 hN' hg.1 ?_
      intro z hz p hp
      have h1 := hg.2 p hp
      rcases List.mem_cons.1 hz with rfl | hz
      · omega
      · have := hy.1 z hz; omega
    · exact joinL_rises (y :: r) _ hE'.2 hN' h (fun z hz => hu z (List.mem_cons_of_mem _ hz))
theorem newP_rises (l : List (Int × Int)) (m : Int) : Rises (newP l m) := by
  unfold newP joinP
  exact joinL_rises _ _ (edges_sorted _ _) (near_edges _ _) ⟨by simp, List.Pairwise.nil⟩ (by simp)
theorem may_rises {m : Int} {t : Tok} (h : TokMay m t) : Rises t.set := by
  rcases h.set with e | e | ⟨l, e, _⟩
  · rw [e]; exact ⟨by simp, List.Pairwise.nil⟩
  · rw [e]; exact ⟨by intro p hp; simp at hp; subst hp; decide, by simp⟩
  · rw [e]; exact newP_rises _ _
end Go.Proofs.Ytnoohgiecnmajaa.VC

/- parse: a tree of a pattern may be (plain). -/
namespace Go.Proofs.Ytnoohgiecnmajaa.VC
open Go Go.RowKit
set_option linter.unusedVariables false
set_option linter.unusedSimpArgs false
set_option maxHeartbeats 4000000

mutual
def Node.dp : Node → Nat
  | .mk _ ks => dpN ks + 1
def dpN : List Node → Nat
  | [] => 0
  | k :: l => max k.dp (dpN l)
end
theorem dpN_le {b : Nat} : ∀ {l : List Node}, (∀ n ∈ l, n.dp ≤ b) → dpN l ≤ b
  | [], _ => by simp [dpN]
  | k :: l, h => by
    rw [dpN]
    have := h k (List.mem_cons_self ..)
    have := dpN_le (l := l) (fun n hn => h n (List.mem_cons_of_mem _ hn))
    omega
theorem dpN_mem : ∀ {l : List Node} {n : Node}, n ∈ l → n.dp ≤ dpN l
  | [], n, h => by simp at h
  | k :: l, n, h => by
    rw [dpN]
    rcases List.mem_cons.1 h with rfl | h
    · omega
    · have := dpN_mem h; omega
theorem all_of_mem' {P : Node → Prop} : ∀ {l : List Node}, (∀ n ∈ l, n.all P) → allN P l
  | [], _ => by rw [allN]; trivial
  | k :: l, h => by rw [allN]; exact ⟨h k (List.mem_cons_self ..), all_of_mem' (fun n hn => h n (List.mem_cons_of_mem _ hn))⟩
/-- May a node by itself be? -/
def MayN (f : NodeF) (ks : List Node) : Prop :=
  (f.kind = 1 ∧ ks = [] ∧ 0 ≤ f.c ∧ f.c ≤ 1114111) ∨
  (f.kind = 2 ∧ ks = [] ∧ Rises f.set) ∨
  ((f.kind = 3 ∨ f.kind = 5 ∨ f.kind = 6 ∨ f.kind = 11) ∧ ks = []) ∨
  (f.kind = 4 ∧ ks = [] ∧ 1 ≤ f.n ∧ f.n ≤ 10) ∨
  ((f.kind = 7 ∨ f.kind = 8) ∧ ks = [] ∧ 0 ≤ f.m ∧ f.m ≤ 3 ∧ 0 ≤ f.n ∧ f.n ≤ 255) ∨
  (f.kind = 9 ∧ ks = [] ∧ 1 ≤ f.n ∧ f.n ≤ 7) ∨
  (f.kind = 10 ∧ ks = [] ∧ 0 ≤ f.n ∧ f.n ≤ 255) ∨
  (f.kind = 12 ∧ ks.length ≠ 1) ∨
  (f.kind = 13 ∧ 2 ≤ ks.length) ∨
  (f.kind = 16 ∧ 1 ≤ ks.length) ∨
  ((f.kind = 14 ∨ f.kind = 15 ∨ f.kind = 17) ∧ ks.length = 1) ∨
  (f.kind = 18 ∧ ks.length = 1 ∧ 5 ≤ f.n ∧ f.n ≤ 8) ∨
  (f.kind = 19 ∧ -1 ≤ f.mode ∧ f.mode ≤ 255 ∧ 0 ≤ f.m ∧ f.m ≤ 3 ∧ 9 ≤ f.n ∧ f.n ≤ 13 ∧ (f.n = 13 → (ks.length = 2 ∨ ks.length = 3) ∧ (rdn ks 0).f.kind = 18) ∧ (f.n ≠ 13 → ks.length = 1 ∨ (ks.length = 2 ∧ f.n ≠ 12))) ∨
  (f.kind = 20 ∧ ks.length = 1 ∧ 0 ≤ f.n ∧ f.n ≤ 255 ∧ (f.m = -1 ∨ (f.n ≤ f.m ∧ f.m ≤ 255)) ∧ 0 ≤ f.mode ∧ f.mode ≤ 2 ∧ repeatableP (rdn ks 0).f = true)
def MayP (n : Node) : Prop := MayN n.f n.kids
theorem may_leaf {m : Int} {t : Tok} (hm : m ≤ 1114111) (h : TokMay m t) (h7 : t.kind ≠ 7) (h9 : t.kind ≠ 9) (h10 : t.kind ≠ 10) (h8 : t.kind ≠ 8) : (leafN t).all MayP ∧ (leafN t).dp = 1 := by
  refine ⟨?_, by unfold leafN; rw [Node.dp, dpN]⟩
  have hp : MayN ⟨leafK t.kind, t.at_, t.c, t.set, t.neg, t.n, t.m, 0, t.name, t.on, t.off⟩ [] := by
    have hk := h.kind
    have hr := may_rises h
    have hn := h.n
    have hc := h.c
    have hm3 := h.m3 h9
    have : t.kind = 1 ∨ t.kind = 2 ∨ t.kind = 3 ∨ t.kind = 4 ∨ t.kind = 5 ∨ t.kind = 6 ∨ t.kind = 11 ∨ t.kind = 12 ∨ t.kind = 13 ∨ t.kind = 14 ∨ t.kind = 15 := by omega
    rcases this with e | e | e | e | e | e | e | e | e | e | e
    · exact .inl ⟨by simp only [e]; rfl, rfl, hc⟩
    · exact .inr (.inl ⟨by simp only [e]; rfl, rfl, hr⟩)
    · exact .inr (.inr (.inl ⟨.inl (by simp only [e]; rfl), rfl⟩))
    · exact .inr (.inr (.inr (.inl ⟨by simp only [e]; rfl, rfl, h.k4 e⟩)))
    · exact .inr (.inr (.inl ⟨.inr (.inl (by simp only [e]; rfl)), rfl⟩))
    · exact .inr (.inr (.inl ⟨.inr (.inr (.inl (by simp only [e]; rfl))), rfl⟩))
    · exact .inr (.inr (.inr (.inr (.inl ⟨.inl (by simp only [e]; rfl), rfl, hm3.1, hm3.2, hn.1, hn.2⟩))))
    · exact .inr (.inr (.inr (.inr (.inl ⟨.inr (by simp only [e]; rfl), rfl, hm3.1, hm3.2, hn.1, hn.2⟩))))
    · exact .inr (.inr (.inr (.inr (.inr (.inl ⟨by simp only [e]; rfl, rfl, h.k13 e⟩)))))
    · exact .inr (.inr (.inr (.inr (.inr (.inr (.inl ⟨by simp only [e]; rfl, rfl, hn.1, hn.2⟩))))))
    · exact .inr (.inr (.inl ⟨.inr (.inr (.inr (by simp only [e]; rfl))), rfl⟩))
  unfold leafN
  rw [Node.all, allN]
  exact ⟨hp, trivial⟩
/-- What is known of a level, so many levels up. -/
structure LevI (s : Nat) (v : Lev) : Prop where
  le : s ≤ 40
  it : allN MayP v.items
  al : allN MayP v.alts
  dit : ∀ n ∈ v.items, n.dp ≤ 4 * (40 - s) + 2
  dal : ∀ n ∈ v.alts, n.dp ≤ 4 * (40 - s) + 3
  lk : ∀ n, v.look = some n → n.all MayP ∧ n.f.kind = 18 ∧ n.dp ≤ 4 * (40 - s) + 2 ∧ v.op.n = 13
  fx : v.fixed = false → ∀ x, v.items.getLast? = some x → repeatableP x.f = true ∧ x.dp ≤ 4 * (40 - s) + 1
def Pend (v : Lev) : Prop := v.op.n = 13 ∧ v.look = none
def OpI (m N : Int) (v : Lev) : Prop := v.op.kind = 10 ∧ TokIn m N v.op
def Stk (m N : Int) : List Lev → Prop
  | [] => True
  | [v] => LevI 0 v ∧ v.op.n = 0
  | v :: u :: st => LevI (st.length + 1) v ∧ OpI m N v ∧ (Pend u → 5 ≤ v.op.n ∧ v.op.n ≤ 8) ∧ Stk m N (u :: st)
theorem Stk.lev {m N : Int} {v : Lev} {st : List Lev} (h : Stk m N (v :: st)) : LevI st.length v := by
  cases st with
  | nil => exact h.1
  | cons u st => exact h.1
theorem Stk.put {m N : Int} {v v' : Lev} {st : List Lev} (h : Stk m N (v :: st)) (h1 : LevI st.length v') (h2 : v'.op = v.op) : Stk m N (v' :: st) := by
  cases st with
  | nil => exact ⟨h1, by rw [h2]; exact h.2⟩
  | cons u st => exact ⟨h1, by unfold OpI; rw [h2]; exact h.2.1, by rw [h2]; exact h.2.2.1, h.2.2.2⟩
theorem one_dp {k : Int} {b : Nat} {l : List Node} (h : ∀ n ∈ l, n.dp ≤ b) : (oneN k l).dp ≤ b + 1 := by
  unfold oneN
  split
  · rename_i h1
    have := h _ (rdn_mem (l := l) (j := 0) (by simp [h1]))
    omega
  · rw [Node.dp]
    have := dpN_le h
    omega
theorem one_may12 {l : List Node} (h : allN MayP l) : (oneN 12 l).all MayP :=
  (one_all (fun h1 => .inr (.inr (.inr (.inr (.inr (.inr (.inr (.inl ⟨rfl, h1⟩)))))))) h).1
theorem one_may13 {l : List Node} (h0 : l ≠ []) (h : allN MayP l) : (oneN 13 l).all MayP := by
  refine (one_all (fun h1 => .inr (.inr (.inr (.inr (.inr (.inr (.inr (.inr (.inl ⟨rfl, ?_⟩))))))))) h).1
  have : l.length ≠ 0 := by simpa using h0
  show 2 ≤ l.length
  omega
theorem LevI.endL {s : Nat} {v : Lev} (h : LevI s v) : LevI s (VC.endL v) := by
  refine ⟨h.le, by show allN MayP []; rw [allN]; trivial, ?_, by show ∀ n ∈ ([] : List Node), _; simp, ?_, h.lk, ?_⟩
  · show allN MayP (v.alts ++ [oneN 12 v.items])
    refine allN_app h.al ?_
    rw [allN, allN]
    exact ⟨one_may12 h.it, trivial⟩
  · show ∀ n ∈ v.alts ++ [oneN 12 v.items], _
    intro n hn
    rcases List.mem_append.1 hn with hn | hn
    · exact h.dal n hn
    · simp at hn; subst hn
      have := one_dp (k := 12) h.dit
      omega
  · intro _ x hx
    have : ([] : List Node).getLast? = some x := hx
    simp at this
theorem LevI.add {s : Nat} {v : Lev} {n : Node} (h : LevI s v) (hp : ¬ Pend v) (hn : n.all MayP) (hd : n.dp ≤ 4 * (40 - s) + 1) : LevI s (addV v n) := by
  rw [addV_rdy hp]
  refine ⟨h.le, allN_app h.it (by rw [allN, allN]; exact ⟨hn, trivial⟩), h.al, ?_, h.dal, h.lk, ?_⟩
  · intro k hk
    have hk : k ∈ v.items ++ [n] := hk
    rcases List.mem_append.1 hk with hk | hk
    · exact h.dit k hk
    · simp at hk; subst hk; omega
  · intro hf x hx
    have hx : (v.items ++ [n]).getLast? = some x := hx
    simp at hx
    subst hx
    have hf : fixK n.f.kind = false := hf
    exact ⟨by rw [rep_fix, hf]; rfl, hd⟩
theorem LevI.look {s : Nat} {v : Lev} {n : Node} (h : LevI s v) (hp : Pend v) (hn : n.all MayP) (hk : n.f.kind = 18) (hd : n.dp ≤ 4 * (40 - s) + 2) : LevI s (addV v n) := by
  have e : addV v n = { v with look := some n, fixed := true } := by
    unfold addV
    rw [if_pos ⟨hp.1, by rw [hp.2]; rfl⟩]
  rw [e]
  refine ⟨h.le, h.it, h.al, h.dit, h.dal, ?_, by intro hf; cases hf⟩
  intro k hk2
  have := Option.some.inj hk2
  subst this
  exact ⟨hn, hk, hd, hp.1⟩
theorem LevI.quant {s : Nat} {v : Lev} {m N : Int} {t : Tok} (h : LevI s v) (ht : TokIn m N t) (hk : t.kind = 9) (hq : (quantV v t).1 = true) : LevI s (quantV v t).2 ∧ (quantV v t).2.op = v.op := by
  unfold quantV at hq ⊢
  by_cases hf : v.fixed = true
  · rw [if_pos hf] at hq; cases hq
  rw [if_neg hf] at hq ⊢
  rcases List.eq_nil_or_concat v.items with e | ⟨A, x, e⟩
  · rw [e] at hq; cases hq
  rw [List.concat_eq_append] at e
  have hl : v.items.getLast? = some x := by rw [e]; simp
  rw [hl]
  simp only
  have hfx := h.fx (by simpa using hf) x hl
  have hx : x.all MayP := allN_mem h.it (by rw [e]; simp)
  have h9 := ht.may.k9 hk
  have hn := ht.may.n
  have hm := ht.may.mm
  refine ⟨⟨h.le, ?_, h.al, ?_, h.dal, h.lk, (by intro hf; exact absurd hf (by simp))⟩, trivial⟩
  · show allN MayP (v.items.dropLast ++ [repN t x])
    refine allN_app ?_ ?_
    · rw [e]
      simp
      have : allN MayP (A ++ [x]) := by rw [← e]; exact h.it
      exact all_of_mem' (fun n hn => allN_mem this (by simp [hn]))
    · unfold repN
      rw [allN, allN, Node.all, allN, allN]
      refine ⟨⟨?_, hx, trivial⟩, trivial⟩
      refine .inr (.inr (.inr (.inr (.inr (.inr (.inr (.inr (.inr (.inr (.inr (.inr (.inr ⟨rfl, rfl, hn.1, hn.2, ?_, h9.2.1, h9.2.2, hfx.1⟩))))))))))))
      rcases h9.1 with q | q
      · exact .inl q
      · exact .inr ⟨q, hm.2⟩
  · show ∀ n ∈ v.items.dropLast ++ [repN t x], _
    intro n hn
    rcases List.mem_append.1 hn with hn | hn
    · exact h.dit n (List.dropLast_subset _ hn)
    · simp at hn; subst hn
      unfold repN
      rw [Node.dp, dpN, dpN]
      omega
/-- What a level is made into. -/
theorem LevI.made {s : Nat} {v : Lev} {m N : Int} (h : LevI (s + 1) v) (ho : OpI m N v) (hp : ¬ Pend v) (hm : (madeV (VC.endL v)).2 = true) :
    (madeV (VC.endL v)).1.all MayP ∧ (madeV (VC.endL v)).1.dp ≤ 4 * (40 - s) + 1 ∧ (5 ≤ v.op.n ∧ v.op.n ≤ 8 → (madeV (VC.endL v)).1.f.kind = 18) := by
  have hle := h.le
  have hE := h.endL
  have hne : (VC.endL v).alts ≠ [] := by show v.alts ++ [oneN 12 v.items] ≠ []; simp
  have hlk : lookL (VC.endL v) = lookL v := rfl
  have hop : (VC.endL v).op = v.op := rfl
  unfold madeV at hm ⊢
  simp only at hm ⊢
  rw [hop] at hm
  rw [hlk, hop]
  have hal := hE.al
  have hdal := hE.dal
  generalize (VC.endL v).alts = l at *
  have ho13 := one_may13 hne hal
  have hd13 := one_dp (k := 13) hdal
  have hk10 := ho.2.may.k10 ho.1
  have hl1 : 1 ≤ l.length := by
    have : l.length ≠ 0 := by simpa using hne
    omega
  have one : ∀ f : NodeF, MayN f [oneN 13 l] → (Node.mk f [oneN 13 l]).all MayP ∧ (Node.mk f [oneN 13 l]).dp ≤ 4 * (40 - s) + 1 := by
    intro f hf
    rw [Node.all, allN, allN, Node.dp, dpN, dpN]
    exact ⟨⟨hf, ho13, trivial⟩, by omega⟩
  unfold groupN
  by_cases n1 : v.op.n = 1
  · rw [if_pos n1]
    have := one { fZ with kind := 14, at_ := v.op.at_, name := v.op.name } (.inr (.inr (.inr (.inr (.inr (.inr (.inr (.inr (.inr (.inr (.inl ⟨.inl rfl, rfl⟩)))))))))))
    exact ⟨this.1, this.2, fun q => by omega⟩
  rw [if_neg n1]
  by_cases n2 : v.op.n = 2
  · rw [if_pos n2]
    have := one { fZ with kind := 15, at_ := v.op.at_, on := v.op.on, off := v.op.off } (.inr (.inr (.inr (.inr (.inr (.inr (.inr (.inr (.inr (.inr (.inl ⟨.inr (.inl rfl), rfl⟩)))))))))))
    exact ⟨this.1, this.2, fun q => by omega⟩
  rw [if_neg n2]
  by_cases n4 : v.op.n = 4
  · rw [if_pos n4]
    have := one { fZ with kind := 17, at_ := v.op.at_ } (.inr (.inr (.inr (.inr (.inr (.inr (.inr (.inr (.inr (.inr (.inl ⟨.inr (.inr rfl), rfl⟩)))))))))))
    exact ⟨this.1, this.2, fun q => by omega⟩
  rw [if_neg n4]
  by_cases n5 : v.op.n = 5 ∨ v.op.n = 6 ∨ v.op.n = 7 ∨ v.op.n = 8
  · rw [if_pos n5]
    have := one { fZ with kind := 18, at_ := v.op.at_, n := v.op.n } (.inr (.inr (.inr (.inr (.inr (.inr (.inr (.inr (.inr (.inr (.inr (.inl ⟨rfl, rfl, by show 5 ≤ v.op.n; omega, by show v.op.n ≤ 8; omega⟩))))))))))))
    exact ⟨this.1, this.2, fun q => rfl⟩
  rw [if_neg n5]
  by_cases n3 : v.op.n = 3
  · rw [if_pos n3]
    rw [Node.all, Node.dp]
    have := dpN_le hdal
    exact ⟨⟨.inr (.inr (.inr (.inr (.inr (.inr (.inr (.inr (.inr (.inl ⟨rfl, hl1⟩))))))))), hal⟩, by omega, fun q => by omega⟩
  rw [if_neg n3]
  have hbad : condBad v.op l = false := by
    rw [Bool.or_eq_true] at hm
    rcases hm with q | q
    · have := of_decide_eq_true q; omega
    · simpa using q
  have hl2 : l.length ≤ 2 := by
    by_cases q : (l.length : Int) > 2
    · unfold condBad at hbad; rw [if_pos q] at hbad; cases hbad
    · omega
  have hl12 : v.op.n = 12 → l.length = 1 := by
    intro e
    by_cases q : (l.length : Int) > 1
    · unfold condBad at hbad
      rw [if_neg (by omega), if_pos q, e] at hbad
      exact absurd hbad (by decide)
    · omega
  have hmo := ho.2.may.mode
  have hm3 := ho.2.may.m3 (by rw [ho.1]; decide)
  have hlook : lookL v = [] ∧ v.op.n ≠ 13 ∨ ∃ n, lookL v = [n] ∧ v.op.n = 13 ∧ n.all MayP ∧ n.f.kind = 18 ∧ n.dp ≤ 4 * (40 - (s + 1)) + 2 := by
    cases hL : v.look with
    | none =>
      left
      refine ⟨by unfold lookL; rw [hL], fun e => hp ⟨e, hL⟩⟩
    | some n =>
      right
      have := h.lk n hL
      exact ⟨n, by unfold lookL; rw [hL], this.2.2.2, this.1, this.2.1, this.2.2.1⟩
  rcases hlook with ⟨e1, e2⟩ | ⟨n, e1, e2, e3, e4, e5⟩
  · rw [e1, List.nil_append, Node.all, Node.dp]
    have := dpN_le hdal
    refine ⟨⟨.inr (.inr (.inr (.inr (.inr (.inr (.inr (.inr (.inr (.inr (.inr (.inr (.inl ⟨rfl, hmo.1, hmo.2, hm3.1, hm3.2, by show 9 ≤ v.op.n; omega, by show v.op.n ≤ 13; omega, fun q => absurd q e2, fun _ => ?_⟩)))))))))))), hal⟩, by omega, fun q => by omega⟩
    by_cases q : l.length = 1
    · exact .inl q
    · exact .inr ⟨by show l.length = 2; omega, fun q2 => q (hl12 q2)⟩
  · rw [e1, Node.all, Node.dp]
    have := dpN_le hdal
    refine ⟨⟨.inr (.inr (.inr (.inr (.inr (.inr (.inr (.inr (.inr (.inr (.inr (.inr (.inl ⟨rfl, hmo.1, hmo.2, hm3.1, hm3.2, by show 9 ≤ v.op.n; omega, by show v.op.n ≤ 13; omega, fun _ => ⟨?_, e4⟩, fun q => absurd e2 q⟩)))))))))))), ?_⟩, ?_, fun q => by omega⟩
    · show ([n] ++ l).length = 2 ∨ ([n] ++ l).length = 3
      simp
      omega
    · rw [List.cons_append, List.nil_append, allN]
      exact ⟨e3, hal⟩
    · rw [List.cons_append, List.nil_append, dpN]
      omega
theorem runS_may {en m N : Int} (hm : m ≤ 1114111) : ∀ (L : List Tok) (v : Lev) (st : List Lev), LookC L → (∀ t ∈ L, TokIn m N t) → Stk m N (v :: st) → (Pend v → ∃ u r, L = u :: r ∧ u.kind = 10 ∧ 5 ≤ u.n ∧ u.n ≤ 8) →
    ((runS en L v st).e = 0 → (runS en L v st).n.all MayP ∧ (runS en L v st).n.dp ≤ 300) ∧ ((runS en L v st).e ≠ 0 → (runS en L v st).at_ = en ∨ (0 ≤ (runS en L v st).at_ ∧ (runS en L v st).at_ < N))
  | [], v, st, hC, hT, hS, hP => by
    rw [runS]
    split
    · exact ⟨fun h => absurd h (show ¬ (20 : Int) = 0 by decide), fun _ => .inl rfl⟩
    · rename_i hst
      have hst : st = [] := by simpa using hst
      subst hst
      have hE := hS.lev.endL
      refine ⟨fun _ => ⟨one_may13 (by show v.alts ++ [oneN 12 v.items] ≠ []; simp) hE.al, ?_⟩, fun h => absurd rfl h⟩
      have := one_dp (k := 13) hE.dal
      simp only [List.length_nil] at this
      simp only
      omega
  | t :: r, v, st, hC, hT, hS, hP => by
    have ht := hT t (List.mem_cons_self ..)
    have hT' : ∀ u ∈ r, TokIn m N u := fun u hu => hT u (List.mem_cons_of_mem _ hu)
    have hC1 := hC.1
    have hC2 := hC.2
    have hnp : t.kind ≠ 10 → ¬ Pend v := by
      intro h1 h2
      obtain ⟨u, r', e, e2, _⟩ := hP h2
      injection e with e3 _
      subst e3
      exact h1 e2
    have hI := hS.lev
    have herr : ∀ (e : Int), e ≠ 0 → ((⟨nodeZ, e, t.at_⟩ : ParR).e = 0 → (⟨nodeZ, e, t.at_⟩ : ParR).n.all MayP ∧ (⟨nodeZ, e, t.at_⟩ : ParR).n.dp ≤ 300) ∧ ((⟨nodeZ, e, t.at_⟩ : ParR).e ≠ 0 → (⟨nodeZ, e, t.at_⟩ : ParR).at_ = en ∨ (0 ≤ (⟨nodeZ, e, t.at_⟩ : ParR).at_ ∧ (⟨nodeZ, e, t.at_⟩ : ParR).at_ < N)) :=
      fun e he => ⟨fun h => absurd h he, fun _ => .inr ⟨ht.at0, ht.at1⟩⟩
    rw [runS_cons]
    by_cases k7 : t.kind = 7
    · rw [if_pos k7]
      have hp := hnp (by omega)
      exact runS_may hm r (VC.endL v) st hC2 hT' (hS.put hI.endL rfl) (fun h => absurd h hp)
    rw [if_neg k7]
    by_cases k9 : t.kind = 9
    · rw [if_pos k9]
      have hp := hnp (by omega)
      split
      · rename_i hq
        have hQ := hI.quant ht k9 hq
        refine runS_may hm r _ st hC2 hT' (hS.put hQ.1 hQ.2) (fun h => absurd h ?_)
        have hlk : (quantV v t).2.look = v.look := by
          unfold quantV
          split
          · rfl
          · split <;> rfl
        intro h
        exact hp ⟨by rw [← hQ.2]; exact h.1, by rw [← hlk]; exact h.2⟩
      · exact herr 30 (by decide)
    rw [if_neg k9]
    by_cases k10 : t.kind = 10
    · rw [if_pos k10]
      split
      · exact herr 11 (by decide)
      · rename_i hst
        refine runS_may hm r (levO t) (v :: st) hC2 hT' ?_ (fun h => hC1 k10 h.1)
        refine ⟨⟨by omega, by show allN MayP []; rw [allN]; trivial, by show allN MayP []; rw [allN]; trivial, by show ∀ n ∈ ([] : List Node), _; simp, by show ∀ n ∈ ([] : List Node), _; simp, (by intro n hn; cases hn), (by intro _ x hx; cases hx)⟩, ⟨k10, ht⟩, ?_, hS⟩
        intro h
        obtain ⟨u, r', e, _, e3⟩ := hP h
        injection e with e4 _
        subst e4
        exact e3
    rw [if_neg k10]
    have hp := hnp k10
    by_cases k8 : t.kind = 8
    · rw [if_pos k8]
      cases st with
      | nil => exact herr 31 (by decide)
      | cons u st =>
        simp only
        obtain ⟨s1, s2, s3, s4⟩ := hS
        split
        · rename_i hmd
          have hM := LevI.made s1 s2 hp hmd
          by_cases hpu : Pend u
          · refine runS_may hm r _ st hC2 hT' (s4.put (s4.lev.look hpu hM.1 (hM.2.2 (s3 hpu)) (by omega)) ?_) (fun h => absurd h ?_)
            · unfold addV; split <;> rfl
            · rintro ⟨_, h2⟩
              unfold addV at h2
              rw [if_pos ⟨hpu.1, by rw [hpu.2]; rfl⟩] at h2
              cases h2
          · refine runS_may hm r _ st hC2 hT' (s4.put (s4.lev.add hpu hM.1 hM.2.1) ?_) (fun h => absurd h ?_)
            · unfold addV; split <;> rfl
            · rw [addV_rdy hpu]; exact hpu
        · exact ⟨fun h => absurd h (show ¬ (32 : Int) = 0 by decide), fun _ => .inr ⟨s2.2.at0, s2.2.at1⟩⟩
    · rw [if_neg k8]
      have hL := may_leaf hm ht.may k7 k9 k10 k8
      refine runS_may hm r _ st hC2 hT' (hS.put (hI.add hp hL.1 (by omega)) ?_) (fun h => absurd h ?_)
      · unfold addV; split <;> rfl
      · rw [addV_rdy hp]; exact hp
/-- The tree of any pattern. -/
theorem parse_may (l : List Int) (o : Int) (he : (lexP l o).e = 0) : ((parseP (lexP l o).toks l.length).e = 0 → (parseP (lexP l o).toks l.length).n.all MayP ∧ (parseP (lexP l o).toks l.length).n.dp ≤ 300) ∧ ((parseP (lexP l o).toks l.length).e ≠ 0 → 0 ≤ (parseP (lexP l o).toks l.length).at_ ∧ (parseP (lexP l o).toks l.length).at_ ≤ l.length) := by
  have hok := (lexP_ok l o).2.1 he
  have hmost : mostOf o ≤ 1114111 := by unfold mostOf; split <;> omega
  have h := runS_may (en := (l.length : Int)) (m := mostOf o) (N := l.length) hmost (lexP l o).toks (levO tokZ) [] (lexP_lookC l o) hok.2.2
    ⟨⟨by decide, by show allN MayP []; rw [allN]; trivial, by show allN MayP []; rw [allN]; trivial, by show ∀ n ∈ ([] : List Node), _; simp, by show ∀ n ∈ ([] : List Node), _; simp, (by intro n hn; cases hn), (by intro _ x hx; cases hx)⟩, rfl⟩
    (by rintro ⟨h, _⟩; exact absurd h (by decide))
  rw [runS_parse (lexP_tokS l o)] at h
  refine ⟨h.1, fun he => ?_⟩
  rcases h.2 he with q | q <;> omega
end Go.Proofs.Ytnoohgiecnmajaa.VC

/- The document's tree: may it be? (walks of lurcherref06.Check and what it calls). -/
namespace Go.Proofs.Ytnoohgiecnmajaa.VC
open Go Go.RowKit
set_option linter.unusedVariables false
set_option linter.unusedSimpArgs false
set_option maxHeartbeats 4000000

theorem Rises.rd {l : List (Int × Int)} (h : Rises l) {j : Int} (h0 : 0 ≤ j) (h1 : j < l.length) : 0 ≤ (rdp l j).1 ∧ (rdp l j).1 ≤ (rdp l j).2 ∧ (rdp l j).2 ≤ 1114111 ∧ (j > 0 → (rdp l (j - 1)).2 + 1 < (rdp l j).1) := by
  have hj : ∀ j : Int, 0 ≤ j → (hj : j < l.length) → rdp l j = l[j.toNat]'(by omega) := by
    intro j h0 h1
    unfold rdp
    rw [List.getD_eq_getElem?_getD, List.getElem?_eq_getElem (by omega)]
    rfl
  have hm := h.ok (rdp l j) (by rw [hj j h0 h1]; exact List.getElem_mem _)
  refine ⟨hm.1, hm.2.1, hm.2.2, fun hp => ?_⟩
  rw [hj j h0 h1, hj (j - 1) (by omega) (by omega)]
  exact List.pairwise_iff_getElem.1 h.gap _ _ (by omega) (by omega) (by omega)
set_option maxHeartbeats 16000000
theorem rises_c (l : List (Int × Int)) (hl : l.length ≤ 4000000000) (hR : Rises l) : VCalls Try.prog 115 [rs l] (fun r => r = bv true) := by
  have hn := rows2_len l
  refine VCalls.ofr tabOk Try.func115 (by decide) rfl rfl ?_
  refine RWP.seqx tabOk orders ?_
  conv => whnf
  refine RWP.seq ?_
  refine RWP.seqx tabOk orders ?_
  conv => whnf
  refine RWP.block ?_
  refine RWP.loop (fun k st => ∃ (j : Int), st = ⟨56, [(0, .pv (rs l)), (2, .pv (bv false)), (3, .pv (iv j))], [], [], []⟩ ∧ 0 ≤ j ∧ j ≤ l.length ∧ k = (l.length - j).toNat)
    ⟨_, _, Wk.narrow _ [0, 2, 3] [] [], 0, rfl, by omega, by omega, rfl⟩ ?_
  rintro k st ⟨j, rfl, hj0, hj1, hk⟩
  refine RWP.seqx tabOk orders ?_
  repeat' ((conv => whnf); (first
    | (with_reducible first | refine Spl.yes ?_ | refine Spl.no ?_ | refine Spl.dec (fun h => ?_) (fun h => ?_) | refine Spl.eq (fun h => ?_) (fun h => ?_) | refine Spl.ne (fun h => ?_) (fun h => ?_) | refine Spl.seq (fun h => ?_) (fun h => ?_) | refine Spl.not ?_ | refine Spl.any (fun h => ?_) (fun h => ?_))
    | ((with_reducible apply And.intro); first | omega | rfl | (dsimp only; omega))))
  all_goals (conv => whnf)
  rotate_left
  · refine RWP.of tabOk orders ?_
    conv => whnf
    rfl
  have hr := hR.rd hj0 (by omega)
  have hr1 : j > 0 → -10 ≤ (rdp l (j - 1)).2 ∧ (rdp l (j - 1)).2 ≤ 1114111 := fun hp => by
    have := hR.rd (j := j - 1) (by omega) (by omega)
    omega
  have hg2 := rows2_get (l := l) (j := j) (by omega)
  have hg3 := rows2_get (l := l) (j := j - 1)
  refine RWP.of tabOk orders ?_
  repeat' ((conv => whnf); (first
    | (with_reducible first | refine Spl.yes ?_ | refine Spl.no ?_ | refine Spl.dec (fun h => ?_) (fun h => ?_) | refine Spl.eq (fun h => ?_) (fun h => ?_) | refine Spl.ne (fun h => ?_) (fun h => ?_) | refine Spl.seq (fun h => ?_) (fun h => ?_) | refine Spl.not ?_ | refine Spl.any (fun h => ?_) (fun h => ?_))
    | refine drawn_text (by decide +kernel) ?_
    | (rw [hg2])
    | (rw [rows2_get (by omega)])
    | refine And.intro (Nat.le_of_ble_eq_true rfl) ?_
    | ((with_reducible apply And.intro); first | omega | rfl | (dsimp only; omega))))
  all_goals (conv => whnf)
  all_goals first
    | (exfalso; omega)
    | exact ⟨(l.length - (j + 1)).toNat, _, by omega, Wk.narrow _ [0, 2, 3] [] [], j + 1, rfl, by omega, by omega, rfl⟩
end Go.Proofs.Ytnoohgiecnmajaa.VC

/- May a node by itself be? (the walk of lurcherref06.May). -/
namespace Go.Proofs.Ytnoohgiecnmajaa.VC
open Go Go.RowKit
set_option linter.unusedVariables false
set_option linter.unusedSimpArgs false
set_option maxHeartbeats 4000000

set_option maxHeartbeats 16000000
theorem may_c (f : NodeF) (ks : List Node) (hset : f.set.length ≤ 4000000000) (hk : ks.length ≤ 1000000) (h : MayN f ks) : VCalls Try.prog 86 [(Node.mk f ks).enc] (fun r => r = bv true) := by
  have hn := rowsN_len ks
  have hr := rises_c f.set hset
  unfold MayN at h
  obtain ⟨f4, k4, h4⟩ := (rdn ks 0).ex
  rw [h4] at h
  have hrep : repeatableP f4 = true → f4.kind ≠ 4 ∧ f4.kind ≠ 5 ∧ f4.kind ≠ 9 ∧ f4.kind ≠ 10 ∧ f4.kind ≠ 11 := by
    intro q
    rw [rep_fix] at q
    unfold fixK at q
    simp at q
    omega
  simp only [Node.f] at h
  rcases h with ⟨hkk, rfl, h⟩ | ⟨hkk, rfl, hM⟩ | ⟨hkk | hkk | hkk | hkk, rfl⟩ | ⟨hkk, rfl, h⟩ | ⟨hkk | hkk, rfl, h⟩ | ⟨hkk, rfl, h⟩ | ⟨hkk, rfl, h⟩ | ⟨hkk, h⟩ | ⟨hkk, h⟩ | ⟨hkk, h⟩ | ⟨hkk | hkk | hkk, h⟩ | ⟨hkk, h⟩ | ⟨hkk, h⟩ | ⟨hkk, h1, h2, h3, h5, h6, h7, h8⟩
  all_goals (refine VCalls.ofr tabOk Try.func86 (by decide) rfl rfl ?_)
  all_goals (refine RWP.of tabOk orders ?_)
  all_goals (try have hrep2 := hrep h8)
  all_goals (try clear hrep)
  all_goals
    (repeat' ((conv => whnf); (first
      | (refine Spl.eq (fun h => ?_) (fun h => absurd hkk h))
      | (refine Spl.eq (fun h => absurd (hkk.symm.trans h) (by decide)) (fun h => ?_))
      | (with_reducible first | refine Spl.yes ?_ | refine Spl.no ?_ | refine Spl.dec (fun h => ?_) (fun h => ?_) | refine Spl.eq (fun h => ?_) (fun h => ?_) | refine Spl.ne (fun h => ?_) (fun h => ?_) | refine Spl.seq (fun h => ?_) (fun h => ?_) | refine Spl.not ?_ | refine Spl.any (fun h => ?_) (fun h => ?_))
      | (refine VCalls.mono (hr hM) ?_; rintro _ rfl)
      | (rw [rowsN_get (by omega)])
      | (rw [h4])
      | ((with_reducible apply And.intro); first | omega | rfl | (dsimp only; omega))
      | refine And.intro (Nat.le_of_ble_eq_true rfl) ?_
      | refine drawn_text (by decide +kernel) ?_)))
  all_goals first
    | (exfalso; omega)
    | (exfalso; exact absurd rfl (by assumption))
    | rfl
    | exact congrArg bv (decide_eq_true (by omega))
    | exact congrArg bv (bne_iff_ne.2 (by omega))
    | exact congrArg bv (beq_iff_eq.2 (by omega))
end Go.Proofs.Ytnoohgiecnmajaa.VC

/- A tree may be: all its nodes, how many, how deep (walks of lurcherref06). -/
namespace Go.Proofs.Ytnoohgiecnmajaa.VC
open Go Go.RowKit
set_option linter.unusedVariables false
set_option linter.unusedSimpArgs false
set_option maxHeartbeats 4000000

set_option maxHeartbeats 16000000
def MayC (n : Node) : Prop := VCalls Try.prog 66 [n.enc] (fun r => r = bv true)
theorem all_step2 (f : NodeF) (ks : List Node) (hset : f.set.length ≤ 4000000000) (hk : ks.length ≤ 1000000) (h : MayN f ks) (ih : ∀ n ∈ ks, MayC n) : MayC (.mk f ks) := by
  have hn := rowsN_len ks
  have hm := may_c f ks hset hk h
  unfold MayC
  refine VCalls.ofr tabOk Try.func66 (by decide) rfl rfl ?_
  refine RWP.seqx tabOk orders ?_
  conv => whnf
  refine RWP.seqx tabOk orders ?_
  repeat' ((conv => whnf); (first
    | (with_reducible first | refine Spl.yes ?_ | refine Spl.no ?_ | refine Spl.dec (fun h => ?_) (fun h => ?_) | refine Spl.eq (fun h => ?_) (fun h => ?_) | refine Spl.ne (fun h => ?_) (fun h => ?_) | refine Spl.seq (fun h => ?_) (fun h => ?_) | refine Spl.not ?_ | refine Spl.any (fun h => ?_) (fun h => ?_))
    | (refine VCalls.mono (hm) ?_; rintro _ rfl)
    | ((with_reducible apply And.intro); first | omega | rfl | (dsimp only; omega))))
  all_goals (conv => whnf)
  refine RWP.seqx tabOk orders ?_
  repeat' ((conv => whnf); (first
    | (with_reducible first | refine Spl.yes ?_ | refine Spl.no ?_ | refine Spl.dec (fun h => ?_) (fun h => ?_) | refine Spl.eq (fun h => ?_) (fun h => ?_) | refine Spl.ne (fun h => ?_) (fun h => ?_) | refine Spl.seq (fun h => ?_) (fun h => ?_) | refine Spl.not ?_ | refine Spl.any (fun h => ?_) (fun h => ?_))
    | ((with_reducible apply And.intro); first | omega | rfl | (dsimp only; omega))))
  all_goals (conv => whnf)
  refine RWP.seq ?_
  refine RWP.seqx tabOk orders ?_
  conv => whnf
  refine RWP.block ?_
  refine RWP.loop (fun k st => ∃ (j : Int), st = ⟨25, [(1, .ptr 1 0), (2, .pv (bv false)), (4, .pv (iv j))], [(1, (27, nfe f ks))], [], []⟩ ∧ 0 ≤ j ∧ j ≤ ks.length ∧ k = (ks.length - j).toNat)
    ⟨_, _, Wk.narrow _ [1, 2, 4] [1] [], 0, rfl, by omega, by omega, rfl⟩ ?_
  rintro k st ⟨j, rfl, hj0, hj1, hk2⟩
  refine RWP.seqx tabOk orders ?_
  repeat' ((conv => whnf); (first
    | (with_reducible first | refine Spl.yes ?_ | refine Spl.no ?_ | refine Spl.dec (fun h => ?_) (fun h => ?_) | refine Spl.eq (fun h => ?_) (fun h => ?_) | refine Spl.ne (fun h => ?_) (fun h => ?_) | refine Spl.seq (fun h => ?_) (fun h => ?_) | refine Spl.not ?_ | refine Spl.any (fun h => ?_) (fun h => ?_))
    | ((with_reducible apply And.intro); first | omega | rfl | (dsimp only; omega))))
  all_goals (conv => whnf)
  rotate_left
  · refine RWP.of tabOk orders ?_
    conv => whnf
    rfl
  have hc := ih (rdn ks j) (rdn_mem (by omega))
  unfold MayC at hc
  obtain ⟨f3, k3, h3⟩ := (rdn ks j).ex
  rw [h3] at hc
  refine RWP.of tabOk orders ?_
  repeat' ((conv => whnf); (first
    | (with_reducible first | refine Spl.yes ?_ | refine Spl.no ?_ | refine Spl.dec (fun h => ?_) (fun h => ?_) | refine Spl.eq (fun h => ?_) (fun h => ?_) | refine Spl.ne (fun h => ?_) (fun h => ?_) | refine Spl.seq (fun h => ?_) (fun h => ?_) | refine Spl.not ?_ | refine Spl.any (fun h => ?_) (fun h => ?_))
    | refine drawn_text (by decide +kernel) ?_
    | (rw [rowsN_get (by omega)])
    | (rw [h3])
    | (refine VCalls.mono (hc) ?_; rintro _ rfl)
    | refine And.intro (Nat.le_of_ble_eq_true rfl) ?_
    | ((with_reducible apply And.intro); first | omega | rfl | (dsimp only; omega))))
  all_goals (conv => whnf)
  all_goals exact ⟨(ks.length - (j + 1)).toNat, _, by omega, Wk.narrow _ [1, 2, 4] [1] [], j + 1, rfl, by omega, by omega, rfl⟩
theorem all_c : ∀ (k : Nat) (n : Node), n.w ≤ k → n.w ≤ 1000000 → n.all SetOk → n.all MayP → MayC n := by
  intro k
  induction k with
  | zero => intro n h; have := w_pos n; omega
  | succ k ih =>
    intro n hk hw ha hm
    cases n with
    | mk f ks =>
      rw [Node.w] at hk hw
      rw [Node.all] at ha hm
      have hl := wN_len ks
      exact all_step2 f ks ha.1 (by omega) hm.1 (fun n hn => ih n (by have := wN_mem hn; omega) (by have := wN_mem hn; omega) (allN_mem ha.2 hn) (allN_mem hm.2 hn))
def CntC (n : Node) : Prop := ∀ k : Int, n.w ≤ k → k ≤ 1000000 → VCalls Try.prog 84 [n.enc, iv k] (fun r => r = iv (k - n.w))
theorem wN_drop {ks : List Node} {j : Int} (h0 : 0 ≤ j) (h1 : j < ks.length) : wN (ks.drop j.toNat) = (rdn ks j).w + wN (ks.drop (j + 1).toNat) := by
  have h : ks.drop j.toNat = rdn ks j :: ks.drop (j + 1).toNat := by
    rw [show (j + 1).toNat = j.toNat + 1 by omega, List.drop_eq_getElem_cons (by omega)]
    simp [rdn, List.getD_eq_getElem?_getD, List.getElem?_eq_getElem (show j.toNat < ks.length by omega)]
  rw [h, wN]
theorem count_step (f : NodeF) (ks : List Node) (hk : ks.length ≤ 1000000) (ih : ∀ n ∈ ks, CntC n) : CntC (.mk f ks) := by
  have hn := rowsN_len ks
  intro a ha ha2
  rw [Node.w] at ha ⊢
  refine VCalls.ofr tabOk Try.func84 (by decide) rfl rfl ?_
  refine RWP.seqx tabOk orders ?_
  conv => whnf
  refine RWP.seqx tabOk orders ?_
  repeat' ((conv => whnf); (first
    | (with_reducible first | refine Spl.yes ?_ | refine Spl.no ?_ | refine Spl.dec (fun h => ?_) (fun h => ?_) | refine Spl.eq (fun h => ?_) (fun h => ?_) | refine Spl.ne (fun h => ?_) (fun h => ?_) | refine Spl.seq (fun h => ?_) (fun h => ?_) | refine Spl.not ?_ | refine Spl.any (fun h => ?_) (fun h => ?_))
    | ((with_reducible apply And.intro); first | omega | rfl | (dsimp only; omega))))
  all_goals (conv => whnf)
  refine RWP.seq ?_
  refine RWP.seqx tabOk orders ?_
  conv => whnf
  refine RWP.block ?_
  refine RWP.loop (fun k st => ∃ (j b : Int), st = ⟨27, [(1, .pv (iv b)), (2, .ptr 2 0), (4, .pv (iv 0)), (5, .pv (iv j))], [(2, (27, nfe f ks))], [], []⟩ ∧ 0 ≤ j ∧ j ≤ ks.length ∧ k = (ks.length - j).toNat ∧ b = a - (1 + wN ks : Nat) + wN (ks.drop j.toNat) ∧ 0 ≤ b ∧ b ≤ 1000000)
    ⟨_, _, Wk.narrow _ [1, 2, 4, 5] [2] [], 0, a - 1, rfl, by omega, by omega, rfl, by simp; omega, by omega, by omega⟩ ?_
  rintro k st ⟨j, b, rfl, hj0, hj1, hk2, hb, hb0, hb9⟩
  refine RWP.seqx tabOk orders ?_
  repeat' ((conv => whnf); (first
    | (with_reducible first | refine Spl.yes ?_ | refine Spl.no ?_ | refine Spl.dec (fun h => ?_) (fun h => ?_) | refine Spl.eq (fun h => ?_) (fun h => ?_) | refine Spl.ne (fun h => ?_) (fun h => ?_) | refine Spl.seq (fun h => ?_) (fun h => ?_) | refine Spl.not ?_ | refine Spl.any (fun h => ?_) (fun h => ?_))
    | ((with_reducible apply And.intro); first | omega | rfl | (dsimp only; omega))))
  all_goals (conv => whnf)
  · have hj : j < ks.length := by omega
    have hd := wN_drop hj0 hj
    have hc := ih (rdn ks j) (rdn_mem (by omega)) b (by omega) (by omega)
    obtain ⟨f3, k3, h3⟩ := (rdn ks j).ex
    rw [h3] at hc hd
    refine RWP.of tabOk orders ?_
    repeat' ((conv => whnf); (first
    | (with_reducible first | refine Spl.yes ?_ | refine Spl.no ?_ | refine Spl.dec (fun h => ?_) (fun h => ?_) | refine Spl.eq (fun h => ?_) (fun h => ?_) | refine Spl.ne (fun h => ?_) (fun h => ?_) | refine Spl.seq (fun h => ?_) (fun h => ?_) | refine Spl.not ?_ | refine Spl.any (fun h => ?_) (fun h => ?_))
    | refine drawn_text (by decide +kernel) ?_
    | (rw [rowsN_get (by omega)])
    | (rw [h3])
    | (refine VCalls.mono (hc) ?_; rintro _ rfl)
    | refine And.intro (Nat.le_of_ble_eq_true rfl) ?_
    | ((with_reducible apply And.intro); first | omega | rfl | (dsimp only; omega))))
    all_goals (conv => whnf)
    all_goals exact ⟨(ks.length - (j + 1)).toNat, _, by omega, Wk.narrow _ [1, 2, 4, 5] [2] [], j + 1, b - (Node.mk f3 k3).w, rfl, by omega, by omega, rfl, by omega, by omega, by omega⟩
  · exfalso; omega
  · have hz : wN (ks.drop j.toNat) = 0 := by rw [List.drop_eq_nil_of_le (by omega)]; rfl
    have hb2 : b = a - (1 + wN ks : Nat) := by omega
    rw [← hb2]
    refine RWP.of tabOk orders ?_
    conv => whnf
    rfl
def DpC (n : Node) : Prop := ∀ k : Int, n.dp < k → k ≤ 1000 → VCalls Try.prog 85 [n.enc, iv k] (fun r => ∃ d : Int, r = iv d ∧ 0 ≤ d ∧ d ≤ n.dp)
theorem deep_step (f : NodeF) (ks : List Node) (hk : ks.length ≤ 1000000) (ih : ∀ n ∈ ks, DpC n) : DpC (.mk f ks) := by
  have hn := rowsN_len ks
  intro a ha ha2
  rw [Node.dp] at ha
  refine VCalls.ofr tabOk Try.func85 (by decide) rfl rfl ?_
  refine RWP.seqx tabOk orders ?_
  conv => whnf
  refine RWP.seqx tabOk orders ?_
  repeat' ((conv => whnf); (first
    | (with_reducible first | refine Spl.yes ?_ | refine Spl.no ?_ | refine Spl.dec (fun h => ?_) (fun h => ?_) | refine Spl.eq (fun h => ?_) (fun h => ?_) | refine Spl.ne (fun h => ?_) (fun h => ?_) | refine Spl.seq (fun h => ?_) (fun h => ?_) | refine Spl.not ?_ | refine Spl.any (fun h => ?_) (fun h => ?_))
    | ((with_reducible apply And.intro); first | omega | rfl | (dsimp only; omega))))
  all_goals (conv => whnf)
  · exfalso
    have : a = 1 := by assumption
    omega
  refine RWP.seqx tabOk orders ?_
  conv => whnf
  refine RWP.seq ?_
  refine RWP.seqx tabOk orders ?_
  conv => whnf
  refine RWP.block ?_
  refine RWP.loop (fun k st => ∃ (j m : Int), st = ⟨31, [(1, .pv (iv a)), (2, .ptr 2 0), (4, .pv (iv 0)), (5, .pv (iv m)), (6, .pv (iv j))], [(2, (27, nfe f ks))], [], []⟩ ∧ 0 ≤ j ∧ j ≤ ks.length ∧ k = (ks.length - j).toNat ∧ 0 ≤ m ∧ m ≤ dpN ks)
    ⟨_, _, Wk.narrow _ [1, 2, 4, 5, 6] [2] [], 0, 0, rfl, by omega, by omega, rfl, by omega, by omega⟩ ?_
  rintro k st ⟨j, m, rfl, hj0, hj1, hk2, hm0, hm1⟩
  refine RWP.seqx tabOk orders ?_
  repeat' ((conv => whnf); (first
    | (with_reducible first | refine Spl.yes ?_ | refine Spl.no ?_ | refine Spl.dec (fun h => ?_) (fun h => ?_) | refine Spl.eq (fun h => ?_) (fun h => ?_) | refine Spl.ne (fun h => ?_) (fun h => ?_) | refine Spl.seq (fun h => ?_) (fun h => ?_) | refine Spl.not ?_ | refine Spl.any (fun h => ?_) (fun h => ?_))
    | ((with_reducible apply And.intro); first | omega | rfl | (dsimp only; omega))))
  all_goals (conv => whnf)
  rotate_left
  · refine RWP.of tabOk orders ?_
    conv => whnf
    refine ⟨by omega, ?_⟩
    conv => whnf
    exact ⟨m + 1, rfl, by omega, by rw [Node.dp]; omega⟩
  have hj : j < ks.length := by omega
  have hmem := rdn_mem (l := ks) (j := j) (by omega)
  have hdm := dpN_mem hmem
  have hc := ih (rdn ks j) hmem (a - 1) (by omega) (by omega)
  obtain ⟨f3, k3, h3⟩ := (rdn ks j).ex
  rw [h3] at hc hdm
  refine RWP.of tabOk orders ?_
  repeat' ((conv => whnf); (first
    | (with_reducible first | refine Spl.yes ?_ | refine Spl.no ?_ | refine Spl.dec (fun h => ?_) (fun h => ?_) | refine Spl.eq (fun h => ?_) (fun h => ?_) | refine Spl.ne (fun h => ?_) (fun h => ?_) | refine Spl.seq (fun h => ?_) (fun h => ?_) | refine Spl.not ?_ | refine Spl.any (fun h => ?_) (fun h => ?_))
    | refine drawn_text (by decide +kernel) ?_
    | (rw [rowsN_get (by omega)])
    | (rw [h3])
    | (refine VCalls.mono hc ?_; rintro _ ⟨d, rfl, hd0, hd1⟩)
    | refine And.intro (Nat.le_of_ble_eq_true rfl) ?_
    | ((with_reducible apply And.intro); first | omega | rfl | (dsimp only; omega))))
  all_goals (conv => whnf)
  · exact ⟨(ks.length - (j + 1)).toNat, _, by omega, Wk.narrow _ [1, 2, 4, 5, 6] [2] [], j + 1, d, rfl, by omega, by omega, rfl, by omega, by omega⟩
  · exact ⟨(ks.length - (j + 1)).toNat, _, by omega, Wk.narrow _ [1, 2, 4, 5, 6] [2] [], j + 1, m, rfl, by omega, by omega, rfl, by omega, by omega⟩
theorem count_c : ∀ (k : Nat) (n : Node), n.w ≤ k → n.w ≤ 1000000 → CntC n := by
  intro k
  induction k with
  | zero => intro n h; have := w_pos n; omega
  | succ k ih =>
    intro n hk hw
    cases n with
    | mk f ks =>
      rw [Node.w] at hk hw
      have hl := wN_len ks
      exact count_step f ks (by omega) (fun n hn => ih n (by have := wN_mem hn; omega) (by have := wN_mem hn; omega))
theorem deep_c : ∀ (k : Nat) (n : Node), n.w ≤ k → n.w ≤ 1000000 → DpC n := by
  intro k
  induction k with
  | zero => intro n h; have := w_pos n; omega
  | succ k ih =>
    intro n hk hw
    cases n with
    | mk f ks =>
      rw [Node.w] at hk hw
      have hl := wN_len ks
      exact deep_step f ks (by omega) (fun n hn => ih n (by have := wN_mem hn; omega) (by have := wN_mem hn; omega))
theorem small_c (n : Node) (h : n.w ≤ 4000) : VCalls Try.prog 64 [n.enc] (fun r => r = bv true) := by
  have hc := count_c n.w n (Nat.le_refl _) (by omega) 4000 (by omega) (by omega)
  obtain ⟨f, ks⟩ := n
  generalize (Node.mk f ks).w = w at *
  refine VCalls.ofr tabOk Try.func64 (by decide) rfl rfl ?_
  refine RWP.of tabOk orders ?_
  repeat' ((conv => whnf); (first
    | (with_reducible first | refine Spl.yes ?_ | refine Spl.no ?_ | refine Spl.dec (fun h => ?_) (fun h => ?_) | refine Spl.eq (fun h => ?_) (fun h => ?_) | refine Spl.ne (fun h => ?_) (fun h => ?_) | refine Spl.seq (fun h => ?_) (fun h => ?_) | refine Spl.not ?_ | refine Spl.any (fun h => ?_) (fun h => ?_))
    | (refine VCalls.mono (hc) ?_; rintro _ rfl)
    | refine And.intro (Nat.le_of_ble_eq_true rfl) ?_
    | ((with_reducible apply And.intro); first | omega | rfl | (dsimp only; omega))))
  all_goals (conv => whnf)
  all_goals first
    | exact congrArg bv (decide_eq_true (by omega))
theorem depth_c (n : Node) (h : n.dp ≤ 300) (hw : n.w ≤ 1000000) : VCalls Try.prog 65 [n.enc] (fun r => ∃ d : Int, r = iv d ∧ 0 ≤ d ∧ d ≤ 300) := by
  have hc := deep_c n.w n (Nat.le_refl _) hw 301 (by omega) (by omega)
  obtain ⟨f, ks⟩ := n
  generalize (Node.mk f ks).dp = w at *
  refine VCalls.ofr tabOk Try.func65 (by decide) rfl rfl ?_
  refine RWP.of tabOk orders ?_
  repeat' ((conv => whnf); (first
    | (with_reducible first | refine Spl.yes ?_ | refine Spl.no ?_ | refine Spl.dec (fun h => ?_) (fun h => ?_) | refine Spl.eq (fun h => ?_) (fun h => ?_) | refine Spl.ne (fun h => ?_) (fun h => ?_) | refine Spl.seq (fun h => ?_) (fun h => ?_) | refine Spl.not ?_ | refine Spl.any (fun h => ?_) (fun h => ?_))
    | (refine VCalls.mono hc ?_; rintro _ ⟨d, rfl, hd0, hd1⟩)
    | refine And.intro (Nat.le_of_ble_eq_true rfl) ?_
    | ((with_reducible apply And.intro); first | omega | rfl | (dsimp only; omega))))
  all_goals (conv => whnf)
  all_goals first
    | exact ⟨d, rfl, by omega, by omega⟩
theorem check_c (n : Node) (hw : n.w ≤ 4000) (hd : n.dp ≤ 300) (ha : n.all SetOk) (hm : n.all MayP) : VCalls Try.prog 41 [n.enc] (fun r => r = bv true) := by
  have h1 := small_c n hw
  have h2 := depth_c n hd (by omega)
  have h3 := all_c n.w n (Nat.le_refl _) (by omega) ha hm
  unfold MayC at h3
  obtain ⟨f, ks⟩ := n
  refine VCalls.ofr tabOk Try.func41 (by decide) rfl rfl ?_
  refine RWP.of tabOk orders ?_
  repeat' ((conv => whnf); (first
    | (with_reducible first | refine Spl.yes ?_ | refine Spl.no ?_ | refine Spl.dec (fun h => ?_) (fun h => ?_) | refine Spl.eq (fun h => ?_) (fun h => ?_) | refine Spl.ne (fun h => ?_) (fun h => ?_) | refine Spl.seq (fun h => ?_) (fun h => ?_) | refine Spl.not ?_ | refine Spl.any (fun h => ?_) (fun h => ?_))
    | (refine VCalls.mono (h1) ?_; rintro _ rfl)
    | (refine VCalls.mono (h3) ?_; rintro _ rfl)
    | (refine VCalls.mono h2 ?_; rintro _ ⟨d, rfl, hd0, hd1⟩)
    | refine And.intro (Nat.le_of_ble_eq_true rfl) ?_
    | ((with_reducible apply And.intro); first | omega | rfl | (dsimp only; omega))))
  all_goals (conv => whnf)
  all_goals first
    | (exfalso; omega)
    | rfl
theorem may7_c (l : List Int) (o : Int) (hb : Bytes l) : VCalls Try.prog 14 [ys l, iv o] (fun r => r = bv true) := by
  have hl1 := lexP_ok l o
  have hlex := lex_c l o hb
  have h39 := parse7_c l o l.length
  have hbl : (byteRows l).length = l.length := by simp [byteRows]
  have hpm := parse_may l o
  have hok : (lexP l o).e = 0 → (parseP (lexP l o).toks l.length).e = 0 → VCalls Try.prog 41 [(parseP (lexP l o).toks l.length).n.enc] (fun r => r = bv true) := by
    intro e1 e2
    have h2 := parse_all (fit_ph (hl1.2.1 e1).2.2) l.length e2
    have h4 := hl1.1
    have h5 := (hpm e1).1 e2
    exact check_c _ (by omega) h5.2 (fit_set _ h2.1) h5.1
  have hat := fun e1 => (hpm e1).2
  generalize lexP l o = x at *
  obtain ⟨toks, e, at_⟩ := x
  simp only at *
  generalize parseP toks l.length = y at *
  obtain ⟨⟨f1, k1⟩, e2, at2⟩ := y
  simp only at *
  have hrl := rowsN_len k1
  refine VCalls.ofr tabOk Try.func14 (by decide) rfl rfl ?_
  refine RWP.of tabOk orders ?_
  repeat' ((conv => whnf); (first
    | (with_reducible first | refine Spl.yes ?_ | refine Spl.no ?_ | refine Spl.dec (fun h => ?_) (fun h => ?_) | refine Spl.eq (fun h => ?_) (fun h => ?_) | refine Spl.ne (fun h => ?_) (fun h => ?_) | refine Spl.seq (fun h => ?_) (fun h => ?_) | refine Spl.not ?_ | refine Spl.any (fun h => ?_) (fun h => ?_))
    | (refine VCalls.mono (awake7_c) ?_; rintro _ rfl)
    | (refine VCalls.mono (hlex) ?_; rintro _ rfl)
    | (refine VCalls.mono (h39) ?_; rintro _ rfl)
    | (refine VCalls.mono (hok (by assumption) (by assumption)) ?_; rintro _ rfl)
    | (rw [hbl])
    | (dsimp only)
    | refine And.intro (Nat.le_of_ble_eq_true rfl) ?_
    | ((with_reducible apply And.intro); first | omega | rfl | (dsimp only; omega))))
  all_goals (conv => whnf)
  all_goals first
    | (exfalso; exact absurd rfl (by assumption))
    | (exfalso; omega)
    | rfl
    | (have hq := hat (by assumption) (by assumption)
       first
         | exact congrArg bv (decide_eq_true (by omega))
         | (have hh : ¬ at2 ≥ 0 := by assumption
            exfalso; omega))
end Go.Proofs.Ytnoohgiecnmajaa.VC

