/- A part of the ground of the proof. No condition. -/
import Derived.Test.YtnoohgiecnmajaaGHT4

/- The sets of tokens rise. -/
namespace Go.Proofs.Ytnoohgiecnmajaa.VC
open Go Go.RowKit
set_option linter.unusedVariables false
set_option linter.unusedSimpArgs false
set_option maxHeartbeats 4000000

theorem put_sorted {n : Int} : ∀ {l : List Int}, l.Pairwise (· < ·) → (putP n l).Pairwise (· < ·) ∧ ∀ x ∈ putP n l, x = n ∨ x ∈ l
  | [], _ => by simp [putP]
  | y :: l, h => by
    rw [List.pairwise_cons] at h
    have ih := put_sorted (n := n) h.2
    unfold putP
    split
    · rename_i hlt
      refine ⟨?_, ?_⟩
      · rw [List.pairwise_cons]
        refine ⟨fun x hx => ?_, ih.1⟩
        rcases ih.2 x hx with rfl | hx
        · exact hlt
        · exact h.1 x hx
      · intro x hx
        rcases List.mem_cons.1 hx with rfl | hx
        · exact .inr (List.mem_cons_self ..)
        · rcases ih.2 x hx with e | hx
          · exact .inl e
          · exact .inr (List.mem_cons_of_mem _ hx)
    split
    · exact ⟨by rw [List.pairwise_cons]; exact h, fun x hx => .inr hx⟩
    · rename_i h1 h2
      refine ⟨?_, fun x hx => by simpa using hx⟩
      rw [List.pairwise_cons, List.pairwise_cons]
      refine ⟨fun x hx => ?_, h⟩
      rcases List.mem_cons.1 hx with rfl | hx
      · omega
      · have := h.1 x hx; omega
theorem edges_sorted (l : List (Int × Int)) (m : Int) : (edgesP l m).Pairwise (· < ·) := by
  unfold edgesP
  generalize (if m > 1114111 then 1114111 else m) = most
  simp only
  split
  · exact List.Pairwise.nil
  rename_i hm
  have key : ∀ (l : List (Int × Int)) (E : List Int), E.Pairwise (· < ·) → (l.foldl (edgeStep most) E).Pairwise (· < ·) := by
    intro l
    induction l with
    | nil => intro E h; exact h
    | cons p l ih =>
      intro E h
      rw [List.foldl_cons]
      refine ih _ ?_
      unfold edgeStep
      simp only
      have h1 : (if p.1 > 0 ∧ p.1 ≤ most then putP p.1 E else E).Pairwise (· < ·) := by
        split
        · exact (put_sorted h).1
        · exact h
      split
      · exact (put_sorted h1).1
      · exact h1
  refine key l _ ?_
  simp
  omega
/-- Ranges that may be a set's. -/
structure Rises (o : List (Int × Int)) : Prop where
  ok : ∀ p ∈ o, 0 ≤ p.1 ∧ p.1 ≤ p.2 ∧ p.2 ≤ 1114111
  gap : o.Pairwise (fun p q => p.2 + 1 < q.1)
theorem glue_rises {o : List (Int × Int)} {lo hi : Int} (h : Rises o) (hu : ∀ p ∈ o, p.2 < lo) (h0 : 0 ≤ lo) (h1 : lo ≤ hi) (h2 : hi ≤ 1114111) : Rises (glue o lo hi) ∧ ∀ p ∈ glue o lo hi, p.2 ≤ hi := by
  rcases List.eq_nil_or_concat o with e | ⟨A, p, e⟩
  · subst e
    have : glue [] lo hi = [(lo, hi)] := rfl
    rw [this]
    refine ⟨⟨?_, by simp⟩, ?_⟩
    · intro q hq; simp at hq; subst hq; exact ⟨h0, h1, h2⟩
    · intro q hq; simp at hq; subst hq; exact Int.le_refl _
  rw [List.concat_eq_append] at e
  subst e
  have hlast : rdp (A ++ [p]) ((A ++ [p]).length - 1 : Int) = p := by
    unfold rdp
    rw [show (((A ++ [p]).length : Int) - 1).toNat = A.length by simp]
    simp
  have hp := h.ok p (by simp)
  have hpu := hu p (by simp)
  have hgap := List.pairwise_append.1 h.gap
  by_cases hg : glueB (A ++ [p]) lo = true
  · have hset : glue (A ++ [p]) lo hi = A ++ [(p.1, hi)] := by
      unfold glue
      rw [if_pos hg, hlast]
      rw [show (A ++ [p]).length - 1 = A.length by simp]
      simp
    rw [hset]
    refine ⟨⟨?_, ?_⟩, ?_⟩
    · intro q hq
      rcases List.mem_append.1 hq with hq | hq
      · exact h.ok q (List.mem_append_left _ hq)
      · simp at hq; subst hq; exact ⟨hp.1, by simp only; omega, h2⟩
    · rw [List.pairwise_append]
      refine ⟨hgap.1, by simp, ?_⟩
      intro q hq r hr
      simp at hr
      subst hr
      exact hgap.2.2 q hq p (by simp)
    · intro q hq
      rcases List.mem_append.1 hq with hq | hq
      · have := hu q (List.mem_append_left _ hq); omega
      · simp at hq; subst hq; exact Int.le_refl _
  · have hset : glue (A ++ [p]) lo hi = (A ++ [p]) ++ [(lo, hi)] := by
      unfold glue
      rw [if_neg hg]
    have hne : p.2 + 1 ≠ lo := by
      intro e
      apply hg
      unfold glueB
      rw [if_pos (by simp), hlast]
      simpa using e
    rw [hset]
    refine ⟨⟨?_, ?_⟩, ?_⟩
    · intro q hq
      rcases List.mem_append.1 hq with hq | hq
      · exact h.ok q hq
      · simp at hq; subst hq; exact ⟨h0, h1, h2⟩
    · rw [List.pairwise_append]
      refine ⟨h.gap, by simp, ?_⟩
      intro q hq r hr
      simp at hr
      subst hr
      rcases List.mem_append.1 hq with hq | hq
      · have := hgap.2.2 q hq p (by simp)
        simp only
        omega
      · simp at hq; subst hq; simp only; omega
    · intro q hq
      rcases List.mem_append.1 hq with hq | hq
      · have := hu q hq; omega
      · simp at hq; subst hq; exact Int.le_refl _
theorem joinL_rises {kind : Int} {a b : List (Int × Int)} : ∀ (E : List Int) (o : List (Int × Int)), E.Pairwise (· < ·) → Near E → Rises o → (∀ x ∈ E, ∀ p ∈ o, p.2 < x) → Rises (joinL kind a b E o)
  | [], o, _, _, h, _ => by simpa [joinL] using h
  | [x], o, _, _, h, _ => by simpa [joinL] using h
  | x :: y :: r, o, hE, hN, h, hu => by
    rw [joinL]
    have hE' := List.pairwise_cons.1 hE
    have hxy := hE'.1 y (List.mem_cons_self ..)
    have hnx := hN x (List.mem_cons_self ..)
    have hny := hN y (List.mem_cons_of_mem _ (List.mem_cons_self ..))
    have hN' : Near (y :: r) := fun z hz => hN z (List.mem_cons_of_mem _ hz)
    have hy := List.pairwise_cons.1 hE'.2
    split
    · have hg := glue_rises (lo := x) (hi := y - 1) h (hu x (List.mem_cons_self ..)) hnx.1 (by omega) (by omega)
      refine joinL_rises (y :: r) _ hE'.2 hN' hg.1 ?_
      intro z hz p hp
      have h1 := hg.2 p hp
      rcases List.mem_cons.1 hz with rfl | hz
      · omega
      · have := hy.1 z hz; omega
    · exact joinL_rises (y :: r) _ hE'.2 hN' h (fun z hz => hu z (List.mem_cons_of_mem _ hz))
theorem newP_rises (l : List (Int × Int)) (m : Int) : Rises (newP l m) := by
  unfold newP joinP
  exact joinL_rises _ _ (edges_sorted _ _) (near_edges _ _) ⟨by simp, List.Pairwise.nil⟩ (by simp)
theorem may_rises {m : Int} {t : Tok} (h : TokMay m t) : Rises t.set := by
  rcases h.set with e | e | ⟨l, e, _⟩
  · rw [e]; exact ⟨by simp, List.Pairwise.nil⟩
  · rw [e]; exact ⟨by intro p hp; simp at hp; subst hp; decide, by simp⟩
  · rw [e]; exact newP_rises _ _
end Go.Proofs.Ytnoohgiecnmajaa.VC

/- parse: a tree of a pattern may be (plain). -/
namespace Go.Proofs.Ytnoohgiecnmajaa.VC
open Go Go.RowKit
set_option linter.unusedVariables false
set_option linter.unusedSimpArgs false
set_option maxHeartbeats 4000000

mutual
def Node.dp : Node → Nat
  | .mk _ ks => dpN ks + 1
def dpN : List Node → Nat
  | [] => 0
  | k :: l => max k.dp (dpN l)
end
theorem dpN_le {b : Nat} : ∀ {l : List Node}, (∀ n ∈ l, n.dp ≤ b) → dpN l ≤ b
  | [], _ => by simp [dpN]
  | k :: l, h => by
    rw [dpN]
    have := h k (List.mem_cons_self ..)
    have := dpN_le (l := l) (fun n hn => h n (List.mem_cons_of_mem _ hn))
    omega
theorem dpN_mem : ∀ {l : List Node} {n : Node}, n ∈ l → n.dp ≤ dpN l
  | [], n, h => by simp at h
  | k :: l, n, h => by
    rw [dpN]
    rcases List.mem_cons.1 h with rfl | h
    · omega
    · have := dpN_mem h; omega
theorem all_of_mem' {P : Node → Prop} : ∀ {l : List Node}, (∀ n ∈ l, n.all P) → allN P l
  | [], _ => by rw [allN]; trivial
  | k :: l, h => by rw [allN]; exact ⟨h k (List.mem_cons_self ..), all_of_mem' (fun n hn => h n (List.mem_cons_of_mem _ hn))⟩
/-- May a node by itself be? -/
def MayN (f : NodeF) (ks : List Node) : Prop :=
  (f.kind = 1 ∧ ks = [] ∧ 0 ≤ f.c ∧ f.c ≤ 1114111) ∨
  (f.kind = 2 ∧ ks = [] ∧ Rises f.set) ∨
  ((f.kind = 3 ∨ f.kind = 5 ∨ f.kind = 6 ∨ f.kind = 11) ∧ ks = []) ∨
  (f.kind = 4 ∧ ks = [] ∧ 1 ≤ f.n ∧ f.n ≤ 10) ∨
  ((f.kind = 7 ∨ f.kind = 8) ∧ ks = [] ∧ 0 ≤ f.m ∧ f.m ≤ 3 ∧ 0 ≤ f.n ∧ f.n ≤ 255) ∨
  (f.kind = 9 ∧ ks = [] ∧ 1 ≤ f.n ∧ f.n ≤ 7) ∨
  (f.kind = 10 ∧ ks = [] ∧ 0 ≤ f.n ∧ f.n ≤ 255) ∨
  (f.kind = 12 ∧ ks.length ≠ 1) ∨
  (f.kind = 13 ∧ 2 ≤ ks.length) ∨
  (f.kind = 16 ∧ 1 ≤ ks.length) ∨
  ((f.kind = 14 ∨ f.kind = 15 ∨ f.kind = 17) ∧ ks.length = 1) ∨
  (f.kind = 18 ∧ ks.length = 1 ∧ 5 ≤ f.n ∧ f.n ≤ 8) ∨
  (f.kind = 19 ∧ -1 ≤ f.mode ∧ f.mode ≤ 255 ∧ 0 ≤ f.m ∧ f.m ≤ 3 ∧ 9 ≤ f.n ∧ f.n ≤ 13 ∧ (f.n = 13 → (ks.length = 2 ∨ ks.length = 3) ∧ (rdn ks 0).f.kind = 18) ∧ (f.n ≠ 13 → ks.length = 1 ∨ (ks.length = 2 ∧ f.n ≠ 12))) ∨
  (f.kind = 20 ∧ ks.length = 1 ∧ 0 ≤ f.n ∧ f.n ≤ 255 ∧ (f.m = -1 ∨ (f.n ≤ f.m ∧ f.m ≤ 255)) ∧ 0 ≤ f.mode ∧ f.mode ≤ 2 ∧ repeatableP (rdn ks 0).f = true)
def MayP (n : Node) : Prop := MayN n.f n.kids
theorem may_leaf {m : Int} {t : Tok} (hm : m ≤ 1114111) (h : TokMay m t) (h7 : t.kind ≠ 7) (h9 : t.kind ≠ 9) (h10 : t.kind ≠ 10) (h8 : t.kind ≠ 8) : (leafN t).all MayP ∧ (leafN t).dp = 1 := by
  refine ⟨?_, by unfold leafN; rw [Node.dp, dpN]⟩
  have hp : MayN ⟨leafK t.kind, t.at_, t.c, t.set, t.neg, t.n, t.m, 0, t.name, t.on, t.off⟩ [] := by
    have hk := h.kind
    have hr := may_rises h
    have hn := h.n
    have hc := h.c
    have hm3 := h.m3 h9
    have : t.kind = 1 ∨ t.kind = 2 ∨ t.kind = 3 ∨ t.kind = 4 ∨ t.kind = 5 ∨ t.kind = 6 ∨ t.kind = 11 ∨ t.kind = 12 ∨ t.kind = 13 ∨ t.kind = 14 ∨ t.kind = 15 := by omega
    rcases this with e | e | e | e | e | e | e | e | e | e | e
    · exact .inl ⟨by simp only [e]; rfl, rfl, hc⟩
    · exact .inr (.inl ⟨by simp only [e]; rfl, rfl, hr⟩)
    · exact .inr (.inr (.inl ⟨.inl (by simp only [e]; rfl), rfl⟩))
    · exact .inr (.inr (.inr (.inl ⟨by simp only [e]; rfl, rfl, h.k4 e⟩)))
    · exact .inr (.inr (.inl ⟨.inr (.inl (by simp only [e]; rfl)), rfl⟩))
    · exact .inr (.inr (.inl ⟨.inr (.inr (.inl (by simp only [e]; rfl))), rfl⟩))
    · exact .inr (.inr (.inr (.inr (.inl ⟨.inl (by simp only [e]; rfl), rfl, hm3.1, hm3.2, hn.1, hn.2⟩))))
    · exact .inr (.inr (.inr (.inr (.inl ⟨.inr (by simp only [e]; rfl), rfl, hm3.1, hm3.2, hn.1, hn.2⟩))))
    · exact .inr (.inr (.inr (.inr (.inr (.inl ⟨by simp only [e]; rfl, rfl, h.k13 e⟩)))))
    · exact .inr (.inr (.inr (.inr (.inr (.inr (.inl ⟨by simp only [e]; rfl, rfl, hn.1, hn.2⟩))))))
    · exact .inr (.inr (.inl ⟨.inr (.inr (.inr (by simp only [e]; rfl))), rfl⟩))
  unfold leafN
  rw [Node.all, allN]
  exact ⟨hp, trivial⟩
/-- What is known of a level, so many levels up. -/
structure LevI (s : Nat) (v : Lev) : Prop where
  le : s ≤ 40
  it : allN MayP v.items
  al : allN MayP v.alts
  dit : ∀ n ∈ v.items, n.dp ≤ 4 * (40 - s) + 2
  dal : ∀ n ∈ v.alts, n.dp ≤ 4 * (40 - s) + 3
  lk : ∀ n, v.look = some n → n.all MayP ∧ n.f.kind = 18 ∧ n.dp ≤ 4 * (40 - s) + 2 ∧ v.op.n = 13
  fx : v.fixed = false → ∀ x, v.items.getLast? = some x → repeatableP x.f = true ∧ x.dp ≤ 4 * (40 - s) + 1
def Pend (v : Lev) : Prop := v.op.n = 13 ∧ v.look = none
def OpI (m N : Int) (v : Lev) : Prop := v.op.kind = 10 ∧ TokIn m N v.op
def Stk (m N : Int) : List Lev → Prop
  | [] => True
  | [v] => LevI 0 v ∧ v.op.n = 0
  | v :: u :: st => LevI (st.length + 1) v ∧ OpI m N v ∧ (Pend u → 5 ≤ v.op.n ∧ v.op.n ≤ 8) ∧ Stk m N (u :: st)
theorem Stk.lev {m N : Int} {v : Lev} {st : List Lev} (h : Stk m N (v :: st)) : LevI st.length v := by
  cases st with
  | nil => exact h.1
  | cons u st => exact h.1
theorem Stk.put {m N : Int} {v v' : Lev} {st : List Lev} (h : Stk m N (v :: st)) (h1 : LevI st.length v') (h2 : v'.op = v.op) : Stk m N (v' :: st) := by
  cases st with
  | nil => exact ⟨h1, by rw [h2]; exact h.2⟩
  | cons u st => exact ⟨h1, by unfold OpI; rw [h2]; exact h.2.1, by rw [h2]; exact h.2.2.1, h.2.2.2⟩
theorem one_dp {k : Int} {b : Nat} {l : List Node} (h : ∀ n ∈ l, n.dp ≤ b) : (oneN k l).dp ≤ b + 1 := by
  unfold oneN
  split
  · rename_i h1
    have := h _ (rdn_mem (l := l) (j := 0) (by simp [h1]))
    omega
  · rw [Node.dp]
    have := dpN_le h
    omega
theorem one_may12 {l : List Node} (h : allN MayP l) : (oneN 12 l).all MayP :=
  (one_all (fun h1 => .inr (.inr (.inr (.inr (.inr (.inr (.inr (.inl ⟨rfl, h1⟩)))))))) h).1
theorem one_may13 {l : List Node} (h0 : l ≠ []) (h : allN MayP l) : (oneN 13 l).all MayP := by
  refine (one_all (fun h1 => .inr (.inr (.inr (.inr (.inr (.inr (.inr (.inr (.inl ⟨rfl, ?_⟩))))))))) h).1
  have : l.length ≠ 0 := by simpa using h0
  show 2 ≤ l.length
  omega
theorem LevI.endL {s : Nat} {v : Lev} (h : LevI s v) : LevI s (VC.endL v) := by
  refine ⟨h.le, by show allN MayP []; rw [allN]; trivial, ?_, by show ∀ n ∈ ([] : List Node), _; simp, ?_, h.lk, ?_⟩
  · show allN MayP (v.alts ++ [oneN 12 v.items])
    refine allN_app h.al ?_
    rw [allN, allN]
    exact ⟨one_may12 h.it, trivial⟩
  · show ∀ n ∈ v.alts ++ [oneN 12 v.items], _
    intro n hn
    rcases List.mem_append.1 hn with hn | hn
    · exact h.dal n hn
    · simp at hn; subst hn
      have := one_dp (k := 12) h.dit
      omega
  · intro _ x hx
    have : ([] : List Node).getLast? = some x := hx
    simp at this
theorem LevI.add {s : Nat} {v : Lev} {n : Node} (h : LevI s v) (hp : ¬ Pend v) (hn : n.all MayP) (hd : n.dp ≤ 4 * (40 - s) + 1) : LevI s (addV v n) := by
  rw [addV_rdy hp]
  refine ⟨h.le, allN_app h.it (by rw [allN, allN]; exact ⟨hn, trivial⟩), h.al, ?_, h.dal, h.lk, ?_⟩
  · intro k hk
    have hk : k ∈ v.items ++ [n] := hk
    rcases List.mem_append.1 hk with hk | hk
    · exact h.dit k hk
    · simp at hk; subst hk; omega
  · intro hf x hx
    have hx : (v.items ++ [n]).getLast? = some x := hx
    simp at hx
    subst hx
    have hf : fixK n.f.kind = false := hf
    exact ⟨by rw [rep_fix, hf]; rfl, hd⟩
theorem LevI.look {s : Nat} {v : Lev} {n : Node} (h : LevI s v) (hp : Pend v) (hn : n.all MayP) (hk : n.f.kind = 18) (hd : n.dp ≤ 4 * (40 - s) + 2) : LevI s (addV v n) := by
  have e : addV v n = { v with look := some n, fixed := true } := by
    unfold addV
    rw [if_pos ⟨hp.1, by rw [hp.2]; rfl⟩]
  rw [e]
  refine ⟨h.le, h.it, h.al, h.dit, h.dal, ?_, by intro hf; cases hf⟩
  intro k hk2
  have := Option.some.inj hk2
  subst this
  exact ⟨hn, hk, hd, hp.1⟩
theorem LevI.quant {s : Nat} {v : Lev} {m N : Int} {t : Tok} (h : LevI s v) (ht : TokIn m N t) (hk : t.kind = 9) (hq : (quantV v t).1 = true) : LevI s (quantV v t).2 ∧ (quantV v t).2.op = v.op := by
  unfold quantV at hq ⊢
  by_cases hf : v.fixed = true
  · rw [if_pos hf] at hq; cases hq
  rw [if_neg hf] at hq ⊢
  rcases List.eq_nil_or_concat v.items with e | ⟨A, x, e⟩
  · rw [e] at hq; cases hq
  rw [List.concat_eq_append] at e
  have hl : v.items.getLast? = some x := by rw [e]; simp
  rw [hl]
  simp only
  have hfx := h.fx (by simpa using hf) x hl
  have hx : x.all MayP := allN_mem h.it (by rw [e]; simp)
  have h9 := ht.may.k9 hk
  have hn := ht.may.n
  have hm := ht.may.mm
  refine ⟨⟨h.le, ?_, h.al, ?_, h.dal, h.lk, (by intro hf; exact absurd hf (by simp))⟩, trivial⟩
  · show allN MayP (v.items.dropLast ++ [repN t x])
    refine allN_app ?_ ?_
    · rw [e]
      simp
      have : allN MayP (A ++ [x]) := by rw [← e]; exact h.it
      exact all_of_mem' (fun n hn => allN_mem this (by simp [hn]))
    · unfold repN
      rw [allN, allN, Node.all, allN, allN]
      refine ⟨⟨?_, hx, trivial⟩, trivial⟩
      refine .inr (.inr (.inr (.inr (.inr (.inr (.inr (.inr (.inr (.inr (.inr (.inr (.inr ⟨rfl, rfl, hn.1, hn.2, ?_, h9.2.1, h9.2.2, hfx.1⟩))))))))))))
      rcases h9.1 with q | q
      · exact .inl q
      · exact .inr ⟨q, hm.2⟩
  · show ∀ n ∈ v.items.dropLast ++ [repN t x], _
    intro n hn
    rcases List.mem_append.1 hn with hn | hn
    · exact h.dit n (List.dropLast_subset _ hn)
    · simp at hn; subst hn
      unfold repN
      rw [Node.dp, dpN, dpN]
      omega
/-- What a level is made into. -/
theorem LevI.made {s : Nat} {v : Lev} {m N : Int} (h : LevI (s + 1) v) (ho : OpI m N v) (hp : ¬ Pend v) (hm : (madeV (VC.endL v)).2 = true) :
    (madeV (VC.endL v)).1.all MayP ∧ (madeV (VC.endL v)).1.dp ≤ 4 * (40 - s) + 1 ∧ (5 ≤ v.op.n ∧ v.op.n ≤ 8 → (madeV (VC.endL v)).1.f.kind = 18) := by
  have hle := h.le
  have hE := h.endL
  have hne : (VC.endL v).alts ≠ [] := by show v.alts ++ [oneN 12 v.items] ≠ []; simp
  have hlk : lookL (VC.endL v) = lookL v := rfl
  have hop : (VC.endL v).op = v.op := rfl
  unfold madeV at hm ⊢
  simp only at hm ⊢
  rw [hop] at hm
  rw [hlk, hop]
  have hal := hE.al
  have hdal := hE.dal
  generalize (VC.endL v).alts = l at *
  have ho13 := one_may13 hne hal
  have hd13 := one_dp (k := 13) hdal
  have hk10 := ho.2.may.k10 ho.1
  have hl1 : 1 ≤ l.length := by
    have : l.length ≠ 0 := by simpa using hne
    omega
  have one : ∀ f : NodeF, MayN f [oneN 13 l] → (Node.mk f [oneN 13 l]).all MayP ∧ (Node.mk f [oneN 13 l]).dp ≤ 4 * (40 - s) + 1 := by
    intro f hf
    rw [Node.all, allN, allN, Node.dp, dpN, dpN]
    exact ⟨⟨hf, ho13, trivial⟩, by omega⟩
  unfold groupN
  by_cases n1 : v.op.n = 1
  · rw [if_pos n1]
    have := one { fZ with kind := 14, at_ := v.op.at_, name := v.op.name } (.inr (.inr (.inr (.inr (.inr (.inr (.inr (.inr (.inr (.inr (.inl ⟨.inl rfl, rfl⟩)))))))))))
    exact ⟨this.1, this.2, fun q => by omega⟩
  rw [if_neg n1]
  by_cases n2 : v.op.n = 2
  · rw [if_pos n2]
    have := one { fZ with kind := 15, at_ := v.op.at_, on := v.op.on, off := v.op.off } (.inr (.inr (.inr (.inr (.inr (.inr (.inr (.inr (.inr (.inr (.inl ⟨.inr (.inl rfl), rfl⟩)))))))))))
    exact ⟨this.1, this.2, fun q => by omega⟩
  rw [if_neg n2]
  by_cases n4 : v.op.n = 4
  · rw [if_pos n4]
    have := one { fZ with kind := 17, at_ := v.op.at_ } (.inr (.inr (.inr (.inr (.inr (.inr (.inr (.inr (.inr (.inr (.inl ⟨.inr (.inr rfl), rfl⟩)))))))))))
    exact ⟨this.1, this.2, fun q => by omega⟩
  rw [if_neg n4]
  by_cases n5 : v.op.n = 5 ∨ v.op.n = 6 ∨ v.op.n = 7 ∨ v.op.n = 8
  · rw [if_pos n5]
    have := one { fZ with kind := 18, at_ := v.op.at_, n := v.op.n } (.inr (.inr (.inr (.inr (.inr (.inr (.inr (.inr (.inr (.inr (.inr (.inl ⟨rfl, rfl, by show 5 ≤ v.op.n; omega, by show v.op.n ≤ 8; omega⟩))))))))))))
    exact ⟨this.1, this.2, fun q => rfl⟩
  rw [if_neg n5]
  by_cases n3 : v.op.n = 3
  · rw [if_pos n3]
    rw [Node.all, Node.dp]
    have := dpN_le hdal
    exact ⟨⟨.inr (.inr (.inr (.inr (.inr (.inr (.inr (.inr (.inr (.inl ⟨rfl, hl1⟩))))))))), hal⟩, by omega, fun q => by omega⟩
  rw [if_neg n3]
  have hbad : condBad v.op l = false := by
    rw [Bool.or_eq_true] at hm
    rcases hm with q | q
    · have := of_decide_eq_true q; omega
    · simpa using q
  have hl2 : l.length ≤ 2 := by
    by_cases q : (l.length : Int) > 2
    · unfold condBad at hbad; rw [if_pos q] at hbad; cases hbad
    · omega
  have hl12 : v.op.n = 12 → l.length = 1 := by
    intro e
    by_cases q : (l.length : Int) > 1
    · unfold condBad at hbad
      rw [if_neg (by omega), if_pos q, e] at hbad
      exact absurd hbad (by decide)
    · omega
  have hmo := ho.2.may.mode
  have hm3 := ho.2.may.m3 (by rw [ho.1]; decide)
  have hlook : lookL v = [] ∧ v.op.n ≠ 13 ∨ ∃ n, lookL v = [n] ∧ v.op.n = 13 ∧ n.all MayP ∧ n.f.kind = 18 ∧ n.dp ≤ 4 * (40 - (s + 1)) + 2 := by
    cases hL : v.look with
    | none =>
      left
      refine ⟨by unfold lookL; rw [hL], fun e => hp ⟨e, hL⟩⟩
    | some n =>
      right
      have := h.lk n hL
      exact ⟨n, by unfold lookL; rw [hL], this.2.2.2, this.1, this.2.1, this.2.2.1⟩
  rcases hlook with ⟨e1, e2⟩ | ⟨n, e1, e2, e3, e4, e5⟩
  · rw [e1, List.nil_append, Node.all, Node.dp]
    have := dpN_le hdal
    refine ⟨⟨.inr (.inr (.inr (.inr (.inr (.inr (.inr (.inr (.inr (.inr (.inr (.inr (.inl ⟨rfl, hmo.1, hmo.2, hm3.1, hm3.2, by show 9 ≤ v.op.n; omega, by show v.op.n ≤ 13; omega, fun q => absurd q e2, fun _ => ?_⟩)))))))))))), hal⟩, by omega, fun q => by omega⟩
    by_cases q : l.length = 1
    · exact .inl q
    · exact .inr ⟨by show l.length = 2; omega, fun q2 => q (hl12 q2)⟩
  · rw [e1, Node.all, Node.dp]
    have := dpN_le hdal
    refine ⟨⟨.inr (.inr (.inr (.inr (.inr (.inr (.inr (.inr (.inr (.inr (.inr (.inr (.inl ⟨rfl, hmo.1, hmo.2, hm3.1, hm3.2, by show 9 ≤ v.op.n; omega, by show v.op.n ≤ 13; omega, fun _ => ⟨?_, e4⟩, fun q => absurd e2 q⟩)))))))))))), ?_⟩, ?_, fun q => by omega⟩
    · show ([n] ++ l).length = 2 ∨ ([n] ++ l).length = 3
      simp
      omega
    · rw [List.cons_append, List.nil_append, allN]
      exact ⟨e3, hal⟩
    · rw [List.cons_append, List.nil_append, dpN]
      omega
theorem runS_may {en m N : Int} (hm : m ≤ 1114111) : ∀ (L : List Tok) (v : Lev) (st : List Lev), LookC L → (∀ t ∈ L, TokIn m N t) → Stk m N (v :: st) → (Pend v → ∃ u r, L = u :: r ∧ u.kind = 10 ∧ 5 ≤ u.n ∧ u.n ≤ 8) →
    ((runS en L v st).e = 0 → (runS en L v st).n.all MayP ∧ (runS en L v st).n.dp ≤ 300) ∧ ((runS en L v st).e ≠ 0 → (runS en L v st).at_ = en ∨ (0 ≤ (runS en L v st).at_ ∧ (runS en L v st).at_ < N))
  | [], v, st, hC, hT, hS, hP => by
    rw [runS]
    split
    · exact ⟨fun h => absurd h (show ¬ (20 : Int) = 0 by decide), fun _ => .inl rfl⟩
    · rename_i hst
      have hst : st = [] := by simpa using hst
      subst hst
      have hE := hS.lev.endL
      refine ⟨fun _ => ⟨one_may13 (by show v.alts ++ [oneN 12 v.items] ≠ []; simp) hE.al, ?_⟩, fun h => absurd rfl h⟩
      have := one_dp (k := 13) hE.dal
      simp only [List.length_nil] at this
      simp only
      omega
  | t :: r, v, st, hC, hT, hS, hP => by
    have ht := hT t (List.mem_cons_self ..)
    have hT' : ∀ u ∈ r, TokIn m N u := fun u hu => hT u (List.mem_cons_of_mem _ hu)
    have hC1 := hC.1
    have hC2 := hC.2
    have hnp : t.kind ≠ 10 → ¬ Pend v := by
      intro h1 h2
      obtain ⟨u, r', e, e2, _⟩ := hP h2
      injection e with e3 _
      subst e3
      exact h1 e2
    have hI := hS.lev
    have herr : ∀ (e : Int), e ≠ 0 → ((⟨nodeZ, e, t.at_⟩ : ParR).e = 0 → (⟨nodeZ, e, t.at_⟩ : ParR).n.all MayP ∧ (⟨nodeZ, e, t.at_⟩ : ParR).n.dp ≤ 300) ∧ ((⟨nodeZ, e, t.at_⟩ : ParR).e ≠ 0 → (⟨nodeZ, e, t.at_⟩ : ParR).at_ = en ∨ (0 ≤ (⟨nodeZ, e, t.at_⟩ : ParR).at_ ∧ (⟨nodeZ, e, t.at_⟩ : ParR).at_ < N)) :=
      fun e he => ⟨fun h => absurd h he, fun _ => .inr ⟨ht.at0, ht.at1⟩⟩
    rw [runS_cons]
    by_cases k7 : t.kind = 7
    · rw [if_pos k7]
      have hp := hnp (by omega)
      exact runS_may hm r (VC.endL v) st hC2 hT' (hS.put hI.endL rfl) (fun h => absurd h hp)
    rw [if_neg k7]
    by_cases k9 : t.kind = 9
    · rw [if_pos k9]
      have hp := hnp (by omega)
      split
      · rename_i hq
        have hQ := hI.quant ht k9 hq
        refine runS_may hm r _ st hC2 hT' (hS.put hQ.1 hQ.2) (fun h => absurd h ?_)
        have hlk : (quantV v t).2.look = v.look := by
          unfold quantV
          split
          · rfl
          · split <;> rfl
        intro h
        exact hp ⟨by rw [← hQ.2]; exact h.1, by rw [← hlk]; exact h.2⟩
      · exact herr 30 (by decide)
    rw [if_neg k9]
    by_cases k10 : t.kind = 10
    · rw [if_pos k10]
      split
      · exact herr 11 (by decide)
      · rename_i hst
        refine runS_may hm r (levO t) (v :: st) hC2 hT' ?_ (fun h => hC1 k10 h.1)
        refine ⟨⟨by omega, by show allN MayP []; rw [allN]; trivial, by show allN MayP []; rw [allN]; trivial, by show ∀ n ∈ ([] : List Node), _; simp, by show ∀ n ∈ ([] : List Node), _; simp, (by intro n hn; cases hn), (by intro _ x hx; cases hx)⟩, ⟨k10, ht⟩, ?_, hS⟩
        intro h
        obtain ⟨u, r', e, _, e3⟩ := hP h
        injection e with e4 _
        subst e4
        exact e3
    rw [if_neg k10]
    have hp := hnp k10
    by_cases k8 : t.kind = 8
    · rw [if_pos k8]
      cases st with
      | nil => exact herr 31 (by decide)
      | cons u st =>
        simp only
        obtain ⟨s1, s2, s3, s4⟩ := hS
        split
        · rename_i hmd
          have hM := LevI.made s1 s2 hp hmd
          by_cases hpu : Pend u
          · refine runS_may hm r _ st hC2 hT' (s4.put (s4.lev.look hpu hM.1 (hM.2.2 (s3 hpu)) (by omega)) ?_) (fun h => absurd h ?_)
            · unfold addV; split <;> rfl
            · rintro ⟨_, h2⟩
              unfold addV at h2
              rw [if_pos ⟨hpu.1, by rw [hpu.2]; rfl⟩] at h2
              cases h2
          · refine runS_may hm r _ st hC2 hT' (s4.put (s4.lev.add hpu hM.1 hM.2.1) ?_) (fun h => absurd h ?_)
            · unfold addV; split <;> rfl
            · rw [addV_rdy hpu]; exact hpu
        · exact ⟨fun h => absurd h (show ¬ (32 : Int) = 0 by decide), fun _ => .inr ⟨s2.2.at0, s2.2.at1⟩⟩
    · rw [if_neg k8]
      have hL := may_leaf hm ht.may k7 k9 k10 k8
      refine runS_may hm r _ st hC2 hT' (hS.put (hI.add hp hL.1 (by omega)) ?_) (fun h => absurd h ?_)
      · unfold addV; split <;> rfl
      · rw [addV_rdy hp]; exact hp
/-- The tree of any pattern. -/
theorem parse_may (l : List Int) (o : Int) (he : (lexP l o).e = 0) : ((parseP (lexP l o).toks l.length).e = 0 → (parseP (lexP l o).toks l.length).n.all MayP ∧ (parseP (lexP l o).toks l.length).n.dp ≤ 300) ∧ ((parseP (lexP l o).toks l.length).e ≠ 0 → 0 ≤ (parseP (lexP l o).toks l.length).at_ ∧ (parseP (lexP l o).toks l.length).at_ ≤ l.length) := by
  have hok := (lexP_ok l o).2.1 he
  have hmost : mostOf o ≤ 1114111 := by unfold mostOf; split <;> omega
  have h := runS_may (en := (l.length : Int)) (m := mostOf o) (N := l.length) hmost (lexP l o).toks (levO tokZ) [] (lexP_lookC l o) hok.2.2
    ⟨⟨by decide, by show allN MayP []; rw [allN]; trivial, by show allN MayP []; rw [allN]; trivial, by show ∀ n ∈ ([] : List Node), _; simp, by show ∀ n ∈ ([] : List Node), _; simp, (by intro n hn; cases hn), (by intro _ x hx; cases hx)⟩, rfl⟩
    (by rintro ⟨h, _⟩; exact absurd h (by decide))
  rw [runS_parse (lexP_tokS l o)] at h
  refine ⟨h.1, fun he => ?_⟩
  rcases h.2 he with q | q <;> omega
end Go.Proofs.Ytnoohgiecnmajaa.VC

/- Two trees that are one are the same, at the same places. -/
namespace Go.Proofs.Ytnoohgiecnmajaa.VC
open Go Go.RowKit
set_option linter.unusedVariables false
set_option linter.unusedSimpArgs false
set_option maxHeartbeats 4000000

set_option maxHeartbeats 16000000
def PlC (n : Node) : Prop := VCalls Try.prog 24 [n.enc, n.enc] (fun r => r = bv true)
theorem places_step (f : NodeF) (ks : List Node) (hk : ks.length ≤ 1000000) (ih : ∀ n ∈ ks, PlC n) : VCalls Try.prog 24 [(Node.mk f ks).enc, (Node.mk f ks).enc] (fun r => r = bv true) := by
  have hn := rowsN_len ks
  refine VCalls.ofr tabOk Try.func24 (by decide) rfl rfl ?_
  refine RWP.seqx tabOk orders ?_
  conv => whnf
  refine RWP.seqx tabOk orders ?_
  repeat' ((conv => whnf); (first
    | (with_reducible first | refine Spl.yes ?_ | refine Spl.no ?_ | refine Spl.dec (fun h => ?_) (fun h => ?_) | refine Spl.eq (fun h => ?_) (fun h => ?_) | refine Spl.ne (fun h => ?_) (fun h => ?_) | refine Spl.seq (fun h => ?_) (fun h => ?_) | refine Spl.not ?_ | refine Spl.any (fun h => ?_) (fun h => ?_))
    | ((with_reducible apply And.intro); first | omega | rfl | (dsimp only; omega))))
  all_goals (conv => whnf)
  · exact absurd rfl (by assumption)
  · exact absurd rfl (by assumption)
  refine RWP.weak (Wk.narrow _ [2, 3] [2, 3] []) ?_
  refine RWP.seq ?_
  refine RWP.seqx tabOk orders ?_
  conv => whnf
  refine RWP.block ?_
  refine RWP.loop (fun k st => ∃ (j : Int), st = ⟨41, [(2, .ptr 2 0), (3, .ptr 3 0), (5, .pv (iv j))], [(2, (27, nfe f ks)), (3, (27, nfe f ks))], [], []⟩ ∧ 0 ≤ j ∧ j ≤ ks.length ∧ k = (ks.length - j).toNat)
    ⟨_, _, Wk.narrow _ [2, 3, 5] [2, 3] [], 0, rfl, by omega, by omega, rfl⟩ ?_
  rintro k st ⟨j, rfl, hj0, hj1, hk⟩
  refine RWP.seqx tabOk orders ?_
  repeat' ((conv => whnf); (first
    | (with_reducible first | refine Spl.yes ?_ | refine Spl.no ?_ | refine Spl.dec (fun h => ?_) (fun h => ?_) | refine Spl.eq (fun h => ?_) (fun h => ?_) | refine Spl.ne (fun h => ?_) (fun h => ?_) | refine Spl.seq (fun h => ?_) (fun h => ?_) | refine Spl.not ?_ | refine Spl.any (fun h => ?_) (fun h => ?_))
    | ((with_reducible apply And.intro); first | omega | rfl | (dsimp only; omega))))
  all_goals (conv => whnf)
  rotate_left
  · refine RWP.of tabOk orders ?_
    conv => whnf
    rfl
  have hc := ih (rdn ks j) (rdn_mem (by omega))
  unfold PlC at hc
  obtain ⟨f3, k3, h3⟩ := (rdn ks j).ex
  rw [h3] at hc
  refine RWP.of tabOk orders ?_
  repeat' ((conv => whnf); (first
    | (with_reducible first | refine Spl.yes ?_ | refine Spl.no ?_ | refine Spl.dec (fun h => ?_) (fun h => ?_) | refine Spl.eq (fun h => ?_) (fun h => ?_) | refine Spl.ne (fun h => ?_) (fun h => ?_) | refine Spl.seq (fun h => ?_) (fun h => ?_) | refine Spl.not ?_ | refine Spl.any (fun h => ?_) (fun h => ?_))
    | refine drawn_text (by decide +kernel) ?_
    | (rw [rowsN_get (by omega)])
    | (rw [h3])
    | (refine VCalls.mono (hc) ?_; rintro _ rfl)
    | refine And.intro (Nat.le_of_ble_eq_true rfl) ?_
    | ((with_reducible apply And.intro); first | omega | rfl | (dsimp only; omega))))
  all_goals (conv => whnf)
  all_goals exact ⟨(ks.length - (j + 1)).toNat, _, by omega, Wk.narrow _ [2, 3, 5] [2, 3] [], j + 1, rfl, by omega, by omega, rfl⟩
theorem places_c : ∀ (k : Nat) (n : Node), n.w ≤ k → n.w ≤ 1000000 → PlC n := by
  intro k
  induction k with
  | zero => intro n h; have := w_pos n; omega
  | succ k ih =>
    intro n hk hw
    cases n with
    | mk f ks =>
      rw [Node.w] at hk hw
      have hl := wN_len ks
      exact places_step f ks (by omega) (fun n hn => ih n (by have := wN_mem hn; omega) (by have := wN_mem hn; omega))
def SetOk (n : Node) : Prop := n.f.set.length ≤ 4000000000
mutual
theorem fit_set : ∀ n : Node, n.all Fit → n.all SetOk
  | .mk f ks, h => by
    rw [Node.all] at h ⊢
    refine ⟨?_, fit_setL ks h.2⟩
    have : f.set.length ≤ 100000000 := h.1.1
    show f.set.length ≤ 4000000000
    omega
theorem fit_setL : ∀ l : List Node, allN Fit l → allN SetOk l
  | [], h => by rw [allN]; trivial
  | k :: l, h => by rw [allN] at h ⊢; exact ⟨fit_set k h.1, fit_setL l h.2⟩
end
theorem all_of_mem {P : Node → Prop} : ∀ {l : List Node}, (∀ n ∈ l, n.all P) → allN P l
  | [], _ => by rw [allN]; trivial
  | k :: l, h => by rw [allN]; exact ⟨h k (List.mem_cons_self ..), all_of_mem (fun n hn => h n (List.mem_cons_of_mem _ hn))⟩
theorem setN_all {a : Int} {l : List (Int × Int)} (h : l.length ≤ 4000000000) : (setN a l).all SetOk := by
  unfold setN; rw [Node.all, allN]; exact ⟨h, trivial⟩
theorem seqN_all {l : List Node} (h : allN SetOk l) : (seqN l).all SetOk := by
  unfold seqN
  split
  · rename_i h1
    exact allN_mem h (rdn_mem (by simp [h1]))
  · rw [Node.all]; exact ⟨Nat.zero_le _, h⟩
theorem list_all {l : List Node} (h : allN SetOk l) : allN SetOk (l.flatMap listN) := by
  refine all_of_mem (fun n hn => ?_)
  obtain ⟨k, hk, hn⟩ := List.mem_flatMap.1 hn
  have hka := allN_mem h hk
  unfold listN at hn
  split at hn
  · exact allN_mem (Node.all_kids hka) hn
  · have : n = k := by simpa using hn
    subst this; exact hka
theorem lineN_all (c : Ctx) (a : Int) : (lineN c a).all SetOk := by
  have hn := newP_len [(10, 13), (133, 133), (8232, 8233)] c.most
  simp only [List.length_cons, List.length_nil] at hn
  unfold lineN
  rw [Node.all, allN, allN, Node.all, allN, allN, allN]
  refine ⟨Nat.zero_le _, ⟨Nat.zero_le _, seqN_all ?_, setN_all (by omega), trivial⟩, trivial⟩
  rw [allN, allN, allN]
  exact ⟨setN_all (by simp), setN_all (by simp), trivial⟩
mutual
theorem nodeR_all (c : Ctx) : ∀ (n : Node) (g : Int), n.all Fit → (nodeR c n g).1.all SetOk
  | .mk f ks, g, ha => by
    rw [Node.all] at ha
    have h := rowR_all c ks
    have hf : f.set.length ≤ 100000000 := ha.1.1
    have hks : allN SetOk ks := all_of_mem (fun n hn => fit_set n (allN_mem ha.2 hn))
    have hs := fun l cl neg (q : l.length ≤ 100000000) => (show (setP c l cl neg).length ≤ 4000000000 by have := setP_len c l cl neg; omega)
    rw [nodeR]
    unfold nodeS
    by_cases q : f.kind = 1
    · rw [if_pos q]; exact setN_all (hs _ _ _ (by simp))
    rw [if_neg q]; clear q
    by_cases q : f.kind = 2
    · rw [if_pos q]; exact setN_all (hs _ _ _ hf)
    rw [if_neg q]; clear q
    by_cases q : f.kind = 3
    · rw [if_pos q]; split <;> exact setN_all (hs _ _ _ (by simp))
    rw [if_neg q]; clear q
    by_cases q : f.kind = 4
    · rw [if_pos q, Node.all]
      refine ⟨?_, hks⟩
      show (assertN f g).set.length ≤ 4000000000
      unfold assertN; split
      · show f.set.length ≤ _; omega
      split
      · show f.set.length ≤ _; omega
      · omega
    rw [if_neg q]; clear q
    by_cases q : f.kind = 6
    · rw [if_pos q]; exact lineN_all c _
    rw [if_neg q]; clear q
    by_cases q : f.kind = 7
    · rw [if_pos q, Node.all]; exact ⟨by show f.set.length ≤ _; omega, hks⟩
    rw [if_neg q]; clear q
    by_cases q : f.kind = 11
    · rw [if_pos q, Node.all, allN]; exact ⟨Nat.zero_le _, trivial⟩
    rw [if_neg q]; clear q
    by_cases q : f.kind = 12
    · rw [if_pos q]; exact seqN_all (list_all (h g ha.2))
    rw [if_neg q]; clear q
    by_cases q : f.kind = 13
    · rw [if_pos q, Node.all]; exact ⟨by show f.set.length ≤ _; omega, h g ha.2⟩
    rw [if_neg q]; clear q
    by_cases q : f.kind = 15
    · rw [if_pos q]
      simp only
      by_cases q : (0 : Int).toNat < (rowR c ks (turnP g f.on f.off)).1.length
      · exact allN_mem (h _ ha.2) (rdn_mem q)
      · have : rdn (rowR c ks (turnP g f.on f.off)).1 0 = nodeZ := by
          unfold rdn; rw [List.getD_eq_getElem?_getD, List.getElem?_eq_none (by omega)]; rfl
        rw [this]; unfold nodeZ; rw [Node.all, allN]; exact ⟨Nat.zero_le _, trivial⟩
    rw [if_neg q]; clear q
    rw [Node.all]
    refine ⟨?_, h g ha.2⟩
    show (greedN f g).set.length ≤ 4000000000
    unfold greedN; split
    · split
      · show f.set.length ≤ _; omega
      split
      · show f.set.length ≤ _; omega
      · omega
    · omega
theorem rowR_all (c : Ctx) : ∀ (l : List Node) (g : Int), allN Fit l → allN SetOk (rowR c l g).1
  | [], g, ha => by rw [rowR, allN]; trivial
  | k :: l, g, ha => by
    rw [allN] at ha
    rw [rowR]
    simp only
    rw [allN]
    exact ⟨nodeR_all c k g ha.1, rowR_all c l _ ha.2⟩
end
mutual
theorem nbN_all : ∀ (n : Node) (a : Int), n.all SetOk → (nbN n a).1.all SetOk
  | .mk f ks, a, h => by
    rw [Node.all] at h
    rw [nbN]
    simp only
    rw [Node.all]
    refine ⟨?_, nbL_all ks _ _ _ h.2⟩
    show (nbF f a).set.length ≤ _
    unfold nbF
    split <;> exact h.1
theorem nbL_all : ∀ (l : List Node) (rs : Bool) (a b : Int), allN SetOk l → allN SetOk (nbL l rs a b).1
  | [], rs, a, b, h => by rw [nbL, allN]; trivial
  | k :: l, rs, a, b, h => by
    rw [allN] at h
    rw [nbL]
    simp only
    rw [allN]
    exact ⟨nbN_all k _ h.1, nbL_all l _ _ _ h.2⟩
end
def SmC (n : Node) : Prop := VCalls Try.prog 23 [n.enc, n.enc] (fun r => r = bv true)
theorem same_step (f : NodeF) (ks : List Node) (hset : f.set.length ≤ 4000000000) (hk : ks.length ≤ 1000000) (ih : ∀ n ∈ ks, SmC n) : VCalls Try.prog 23 [(Node.mk f ks).enc, (Node.mk f ks).enc] (fun r => r = bv true) := by
  have hn := rowsN_len ks
  have hs := rows2_len f.set
  refine VCalls.ofr tabOk Try.func23 (by decide) rfl rfl ?_
  refine RWP.seqx tabOk orders ?_
  conv => whnf
  refine RWP.cut (fun st => st = ⟨125, [(2, .ptr 2 0), (3, .ptr 3 0)], [(2, (27, nfe f ks)), (3, (27, nfe f ks))], [], []⟩) tabOk orders ?_ ?_
  · repeat' ((conv => whnf); (first
    | (with_reducible first | refine Spl.yes ?_ | refine Spl.no ?_ | refine Spl.dec (fun h => ?_) (fun h => ?_) | refine Spl.eq (fun h => ?_) (fun h => ?_) | refine Spl.ne (fun h => ?_) (fun h => ?_) | refine Spl.seq (fun h => ?_) (fun h => ?_) | refine Spl.not ?_ | refine Spl.any (fun h => ?_) (fun h => ?_))
    | (exfalso; exact absurd rfl (by assumption))
    | ((with_reducible apply And.intro); first | omega | rfl | (dsimp only; omega))))
    all_goals (conv => whnf)
    all_goals first
      | (exfalso; exact absurd rfl (by assumption))
      | (have hb : (f.neg == f.neg) = false := by assumption
         simp at hb)
      | exact ⟨_, Wk.narrow _ [2, 3] [2, 3] [], rfl⟩
  rintro _ rfl
  refine RWP.cutr (fun st => st = ⟨125, [(2, .ptr 2 0), (3, .ptr 3 0)], [(2, (27, nfe f ks)), (3, (27, nfe f ks))], [], []⟩) ?_ ?_
  · refine RWP.seqx tabOk orders ?_
    conv => whnf
    refine RWP.block ?_
    refine RWP.loop (fun k st => ∃ (j : Int), st = ⟨125, [(2, .ptr 2 0), (3, .ptr 3 0), (5, .pv (iv j))], [(2, (27, nfe f ks)), (3, (27, nfe f ks))], [], []⟩ ∧ 0 ≤ j ∧ j ≤ f.set.length ∧ k = (f.set.length - j).toNat)
      ⟨_, _, Wk.narrow _ [2, 3, 5] [2, 3] [], 0, rfl, by omega, by omega, rfl⟩ ?_
    rintro k st ⟨j, rfl, hj0, hj1, hk⟩
    refine RWP.seqx tabOk orders ?_
    repeat' ((conv => whnf); (first
    | (with_reducible first | refine Spl.yes ?_ | refine Spl.no ?_ | refine Spl.dec (fun h => ?_) (fun h => ?_) | refine Spl.eq (fun h => ?_) (fun h => ?_) | refine Spl.ne (fun h => ?_) (fun h => ?_) | refine Spl.seq (fun h => ?_) (fun h => ?_) | refine Spl.not ?_ | refine Spl.any (fun h => ?_) (fun h => ?_))
    | ((with_reducible apply And.intro); first | omega | rfl | (dsimp only; omega))))
    all_goals (conv => whnf)
    rotate_left
    · exact ⟨_, Wk.narrow _ [2, 3] [2, 3] [], rfl⟩
    refine RWP.of tabOk orders ?_
    repeat' ((conv => whnf); (first
    | (with_reducible first | refine Spl.yes ?_ | refine Spl.no ?_ | refine Spl.dec (fun h => ?_) (fun h => ?_) | refine Spl.eq (fun h => ?_) (fun h => ?_) | refine Spl.ne (fun h => ?_) (fun h => ?_) | refine Spl.seq (fun h => ?_) (fun h => ?_) | refine Spl.not ?_ | refine Spl.any (fun h => ?_) (fun h => ?_))
    | refine drawn_text (by decide +kernel) ?_
    | (rw [rows2_get (by omega)])
    | refine And.intro (Nat.le_of_ble_eq_true rfl) ?_
    | refine ⟨_, eqS74 _ _ _ _, ?_⟩
    | ((with_reducible apply And.intro); first | omega | rfl | (dsimp only; omega))))
    all_goals (conv => whnf)
    all_goals first
      | exact ⟨(f.set.length - (j + 1)).toNat, _, by omega, Wk.narrow _ [2, 3, 5] [2, 3] [], j + 1, rfl, by omega, by omega, rfl⟩
      | (have hb : ((rdp f.set j).1 == (rdp f.set j).1 && ((rdp f.set j).2 == (rdp f.set j).2 && true)) = false := by assumption
         simp at hb)
  rintro _ rfl
  refine RWP.seq ?_
  refine RWP.seqx tabOk orders ?_
  conv => whnf
  refine RWP.block ?_
  refine RWP.loop (fun k st => ∃ (j : Int), st = ⟨125, [(2, .ptr 2 0), (3, .ptr 3 0), (6, .pv (iv j))], [(2, (27, nfe f ks)), (3, (27, nfe f ks))], [], []⟩ ∧ 0 ≤ j ∧ j ≤ ks.length ∧ k = (ks.length - j).toNat)
    ⟨_, _, Wk.narrow _ [2, 3, 6] [2, 3] [], 0, rfl, by omega, by omega, rfl⟩ ?_
  rintro k st ⟨j, rfl, hj0, hj1, hk⟩
  refine RWP.seqx tabOk orders ?_
  repeat' ((conv => whnf); (first
    | (with_reducible first | refine Spl.yes ?_ | refine Spl.no ?_ | refine Spl.dec (fun h => ?_) (fun h => ?_) | refine Spl.eq (fun h => ?_) (fun h => ?_) | refine Spl.ne (fun h => ?_) (fun h => ?_) | refine Spl.seq (fun h => ?_) (fun h => ?_) | refine Spl.not ?_ | refine Spl.any (fun h => ?_) (fun h => ?_))
    | ((with_reducible apply And.intro); first | omega | rfl | (dsimp only; omega))))
  all_goals (conv => whnf)
  rotate_left
  · refine RWP.of tabOk orders ?_
    conv => whnf
    rfl
  have hc := ih (rdn ks j) (rdn_mem (by omega))
  unfold SmC at hc
  obtain ⟨f3, k3, h3⟩ := (rdn ks j).ex
  rw [h3] at hc
  refine RWP.of tabOk orders ?_
  repeat' ((conv => whnf); (first
    | (with_reducible first | refine Spl.yes ?_ | refine Spl.no ?_ | refine Spl.dec (fun h => ?_) (fun h => ?_) | refine Spl.eq (fun h => ?_) (fun h => ?_) | refine Spl.ne (fun h => ?_) (fun h => ?_) | refine Spl.seq (fun h => ?_) (fun h => ?_) | refine Spl.not ?_ | refine Spl.any (fun h => ?_) (fun h => ?_))
    | refine drawn_text (by decide +kernel) ?_
    | (rw [rowsN_get (by omega)])
    | (rw [h3])
    | (refine VCalls.mono (hc) ?_; rintro _ rfl)
    | refine And.intro (Nat.le_of_ble_eq_true rfl) ?_
    | ((with_reducible apply And.intro); first | omega | rfl | (dsimp only; omega))))
  all_goals (conv => whnf)
  all_goals exact ⟨(ks.length - (j + 1)).toNat, _, by omega, Wk.narrow _ [2, 3, 6] [2, 3] [], j + 1, rfl, by omega, by omega, rfl⟩
theorem same_c : ∀ (k : Nat) (n : Node), n.w ≤ k → n.w ≤ 1000000 → n.all SetOk → SmC n := by
  intro k
  induction k with
  | zero => intro n h; have := w_pos n; omega
  | succ k ih =>
    intro n hk hw ha
    cases n with
    | mk f ks =>
      rw [Node.w] at hk hw
      rw [Node.all] at ha
      have hl := wN_len ks
      exact same_step f ks ha.1 (by omega) (fun n hn => ih n (by have := wN_mem hn; omega) (by have := wN_mem hn; omega) (allN_mem ha.2 hn))
end Go.Proofs.Ytnoohgiecnmajaa.VC

