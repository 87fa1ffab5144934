/- A part of the ground of the proof. No condition. -/
import Derived.Test.YtnoohgiecnmajaaGF1

/- parse: a thing is repeated. -/
namespace Go.Proofs.Ytnoohgiecnmajaa.VC
open Go Go.RowKit
set_option linter.unusedVariables false
set_option linter.unusedSimpArgs false
set_option maxHeartbeats 4000000

def quantV (v : Lev) (t : Tok) : Bool × Lev :=
  if v.fixed = true then (false, v)
  else match v.items.getLast? with
    | none => (false, v)
    | some x => (true, { v with items := v.items.dropLast ++ [repN t x], fixed := true })
theorem last_get (A : List Node) (x : Node) : (rowsN (A ++ [x])).getD (((rowsN (A ++ [x])).length : Int) - 1).toNat [] = x.cells := by
  rw [rowsN_map]
  simp
theorem last_set (A : List Node) (x y : Node) : (rowsN (A ++ [x])).set (((rowsN (A ++ [x])).length : Int) - 1).toNat ((x.cells.take 0 ++ y.cells) ++ x.cells.drop (0 + 12)) = rowsN (A ++ [y]) := by
  have hx : x.cells.length = 12 := by cases x; rfl
  rw [List.drop_eq_nil_of_le (by omega)]
  rw [rowsN_map, rowsN_map]
  simp
/-- The cells of a node that repeats, as they are made. -/
def rawR (t : Tok) (x : Node) : List SV := [iv 20, iv t.at_, iv 0, .val (.slice none 0 0), bv false, iv t.n, iv t.m, iv t.mode, sv (bs []), iv 0, iv 0, .sl 12 [x.cells]]
theorem rawR_nil (t : Tok) (x : Node) : nilL (rawR t x) (repN t x).cells :=
  ⟨.inl rfl, .inl rfl, .inl rfl, .inr ⟨rfl, 2, rfl⟩, .inl rfl, .inl rfl, .inl rfl, .inl rfl, .inl rfl, .inl rfl, .inl rfl, .inl rfl, trivial⟩
theorem last_raw (A : List Node) (x : Node) (y : List SV) : (rowsN (A ++ [x])).set (((rowsN (A ++ [x])).length : Int) - 1).toNat ((x.cells.take 0 ++ y) ++ x.cells.drop (0 + 12)) = rowsN A ++ [y] := by
  have hx : x.cells.length = 12 := by cases x; rfl
  rw [List.drop_eq_nil_of_le (by omega)]
  rw [rowsN_map, rowsN_map]
  simp
set_option maxHeartbeats 16000000
theorem quant_none (v : Lev) (t : Tok) (h2 : v.items.length ≤ 1000000) (hlk : v.look = none) : HCalls Try.prog 57 (HLv v) [.ptr 1000000 0, .pv t.enc] (fun fe H' => fe = .pv (bv (quantV v t).1) ∧ H' = HLv (quantV v t).2) := by
  obtain ⟨op, look, alts, items, fixed⟩ := v
  simp only at h2 hlk
  subst hlk
  have hn1 := rowsN_len alts
  have hn2 := rowsN_len items
  obtain ⟨G, hG⟩ : ∃ G, quantV ⟨op, none, alts, items, fixed⟩ t = G := ⟨_, rfl⟩
  rw [hG]
  unfold quantV at hG
  simp only at hG
  refine HCalls.ofr tabOk Try.func57 (by decide) rfl rfl ?_
  refine RWP.seqx tabOk orders ?_
  conv => whnf
  refine RWP.seqx tabOk orders ?_
  repeat' ((conv => whnf); (first
    | (with_reducible first | refine Spl.yes ?_ | refine Spl.no ?_ | refine Spl.dec (fun h => ?_) (fun h => ?_) | refine Spl.eq (fun h => ?_) (fun h => ?_) | refine Spl.ne (fun h => ?_) (fun h => ?_) | refine Spl.seq (fun h => ?_) (fun h => ?_) | refine Spl.not ?_ | refine Spl.any (fun h => ?_) (fun h => ?_))
    | ((with_reducible apply And.intro); first | omega | rfl | (dsimp only; omega))))
  all_goals (conv => whnf)
  · have hf : fixed = true := by assumption
    rw [if_pos hf] at hG
    subst hG
    refine ⟨_, Wk.narrow _ [4] [1000000] [1000002, 1000003], .inl ?_⟩
    conv => whnf
    exact ⟨rfl, rfl⟩
  · have hf : fixed = false := by assumption
    have h0 : ((rowsN items).length : Int) = 0 := by assumption
    have hi : items = [] := List.eq_nil_of_length_eq_zero (by omega)
    subst hi
    rw [if_neg (by rw [hf]; decide)] at hG
    subst hG
    refine ⟨_, Wk.narrow _ [4] [1000000] [1000002, 1000003], .inl ?_⟩
    conv => whnf
    exact ⟨rfl, rfl⟩
  have hf : fixed = false := by assumption
  have h0 : ¬ ((rowsN items).length : Int) = 0 := by assumption
  rw [if_neg (by rw [hf]; decide)] at hG
  obtain ⟨A, x, rfl⟩ : ∃ A x, items = A ++ [x] := by
    rcases List.eq_nil_or_concat items with h | ⟨A, x, h⟩
    · rw [h] at h0; exact absurd rfl h0
    · exact ⟨A, x, by simpa using h⟩
  simp only [List.getLast?_concat, List.dropLast_concat] at hG
  subst hG
  have hlen : (rowsN (A ++ [x])).length = A.length + 1 := by rw [hn2]; simp
  have hget := last_get A x
  have hset2 : (rowsN (A ++ [x])).set (((rowsN (A ++ [x])).length : Int) - 1).toNat ((((rowsN (A ++ [x])).getD (((rowsN (A ++ [x])).length : Int) - 1).toNat []).take 0 ++ rawR t x) ++ ((rowsN (A ++ [x])).getD (((rowsN (A ++ [x])).length : Int) - 1).toNat []).drop (0 + 12)) = rowsN A ++ [rawR t x] := by
    rw [hget]; exact last_raw A x (rawR t x)
  have himp : ∀ (M : Region) (w : World) (vals : List Value), VRc M w ((rowsN (A ++ [x])).set (((rowsN (A ++ [x])).length : Int) - 1).toNat ((((rowsN (A ++ [x])).getD (((rowsN (A ++ [x])).length : Int) - 1).toNat []).take 0 ++ rawR t x) ++ ((rowsN (A ++ [x])).getD (((rowsN (A ++ [x])).length : Int) - 1).toNat []).drop (0 + 12))).flatten vals → VRc M w (rowsN (A ++ [repN t x])).flatten vals := by
    intro M w vals h
    rw [hset2] at h
    rw [← rowsN_snoc]
    rw [List.flatten_append] at h ⊢
    refine nilL_vrc (nilL_app (nilL_refl _) ?_) h
    simp only [List.flatten_cons, List.flatten_nil, List.append_nil]
    exact rawR_nil t x
  have hrow : ∀ y ∈ rowsN (A ++ [repN t x]), y.length = 12 := by
    intro y hy
    rw [rowsN_map] at hy
    obtain ⟨n, _, rfl⟩ := List.mem_map.1 hy
    cases n; rfl
  have hln : (rowsN (A ++ [repN t x])).length = ((rowsN (A ++ [x])).set (((rowsN (A ++ [x])).length : Int) - 1).toNat ((((rowsN (A ++ [x])).getD (((rowsN (A ++ [x])).length : Int) - 1).toNat []).take 0 ++ rawR t x) ++ ((rowsN (A ++ [x])).getD (((rowsN (A ++ [x])).length : Int) - 1).toNat []).drop (0 + 12))).length := by
    rw [List.length_set, rowsN_map, rowsN_map]; simp
  rw [hget] at himp hln
  obtain ⟨fx, kx⟩ := x
  refine RWP.of tabOk orders ?_
  repeat' ((conv => whnf); (first
    | (with_reducible first | refine Spl.yes ?_ | refine Spl.no ?_ | refine Spl.dec (fun h => ?_) (fun h => ?_) | refine Spl.eq (fun h => ?_) (fun h => ?_) | refine Spl.ne (fun h => ?_) (fun h => ?_) | refine Spl.seq (fun h => ?_) (fun h => ?_) | refine Spl.not ?_ | refine Spl.any (fun h => ?_) (fun h => ?_))
    | refine drawn_text (by decide +kernel) ?_
    | (rw [hget])
    | refine And.intro (Nat.le_of_ble_eq_true rfl) ?_
    | refine And.intro (by show 0 ≤ ((rowsN (A ++ [Node.mk fx kx])).length : Int) - 1 ∧ ((rowsN (A ++ [Node.mk fx kx])).length : Int) - 1 < ((rowsN (A ++ [Node.mk fx kx])).length : Int); omega) ?_
    | refine And.intro (by show (((rowsN (A ++ [Node.mk fx kx])).length : Int) - 1).toNat < (rowsN (A ++ [Node.mk fx kx])).length; omega) ?_
    | ((with_reducible apply And.intro); first | omega | rfl | (dsimp only; omega))))
  all_goals (conv => whnf)
  refine ⟨_, Wk.trans (Wk.narrow _ [4] [1000000] [1000002, 1000003]) (Wk.trans (Wk.xs (k := 1000003) (o := ⟨12, 27, true, _⟩) (xs' := rowsN (A ++ [repN t (Node.mk fx kx)])) rfl hln hrow himp) (Wk.narrow _ [4] [1000000] [1000002, 1000003])), .inl ?_⟩
  conv => whnf
  exact ⟨rfl, rfl⟩
theorem quant_some (v : Lev) (t : Tok) (nl : Node) (h2 : v.items.length ≤ 1000000) (hlk : v.look = some nl) : HCalls Try.prog 57 (HLv v) [.ptr 1000000 0, .pv t.enc] (fun fe H' => fe = .pv (bv (quantV v t).1) ∧ H' = HLv (quantV v t).2) := by
  obtain ⟨op, look, alts, items, fixed⟩ := v
  simp only at h2 hlk
  subst hlk
  have hn1 := rowsN_len alts
  have hn2 := rowsN_len items
  obtain ⟨G, hG⟩ : ∃ G, quantV ⟨op, some nl, alts, items, fixed⟩ t = G := ⟨_, rfl⟩
  rw [hG]
  unfold quantV at hG
  simp only at hG
  refine HCalls.ofr tabOk Try.func57 (by decide) rfl rfl ?_
  refine RWP.seqx tabOk orders ?_
  conv => whnf
  refine RWP.seqx tabOk orders ?_
  repeat' ((conv => whnf); (first
    | (with_reducible first | refine Spl.yes ?_ | refine Spl.no ?_ | refine Spl.dec (fun h => ?_) (fun h => ?_) | refine Spl.eq (fun h => ?_) (fun h => ?_) | refine Spl.ne (fun h => ?_) (fun h => ?_) | refine Spl.seq (fun h => ?_) (fun h => ?_) | refine Spl.not ?_ | refine Spl.any (fun h => ?_) (fun h => ?_))
    | ((with_reducible apply And.intro); first | omega | rfl | (dsimp only; omega))))
  all_goals (conv => whnf)
  · have hf : fixed = true := by assumption
    rw [if_pos hf] at hG
    subst hG
    refine ⟨_, Wk.narrow _ [4] [1000000] [1000001, 1000002, 1000003], .inl ?_⟩
    conv => whnf
    exact ⟨rfl, rfl⟩
  · have hf : fixed = false := by assumption
    have h0 : ((rowsN items).length : Int) = 0 := by assumption
    have hi : items = [] := List.eq_nil_of_length_eq_zero (by omega)
    subst hi
    rw [if_neg (by rw [hf]; decide)] at hG
    subst hG
    refine ⟨_, Wk.narrow _ [4] [1000000] [1000001, 1000002, 1000003], .inl ?_⟩
    conv => whnf
    exact ⟨rfl, rfl⟩
  have hf : fixed = false := by assumption
  have h0 : ¬ ((rowsN items).length : Int) = 0 := by assumption
  rw [if_neg (by rw [hf]; decide)] at hG
  obtain ⟨A, x, rfl⟩ : ∃ A x, items = A ++ [x] := by
    rcases List.eq_nil_or_concat items with h | ⟨A, x, h⟩
    · rw [h] at h0; exact absurd rfl h0
    · exact ⟨A, x, by simpa using h⟩
  simp only [List.getLast?_concat, List.dropLast_concat] at hG
  subst hG
  have hlen : (rowsN (A ++ [x])).length = A.length + 1 := by rw [hn2]; simp
  have hget := last_get A x
  have hset2 : (rowsN (A ++ [x])).set (((rowsN (A ++ [x])).length : Int) - 1).toNat ((((rowsN (A ++ [x])).getD (((rowsN (A ++ [x])).length : Int) - 1).toNat []).take 0 ++ rawR t x) ++ ((rowsN (A ++ [x])).getD (((rowsN (A ++ [x])).length : Int) - 1).toNat []).drop (0 + 12)) = rowsN A ++ [rawR t x] := by
    rw [hget]; exact last_raw A x (rawR t x)
  have himp : ∀ (M : Region) (w : World) (vals : List Value), VRc M w ((rowsN (A ++ [x])).set (((rowsN (A ++ [x])).length : Int) - 1).toNat ((((rowsN (A ++ [x])).getD (((rowsN (A ++ [x])).length : Int) - 1).toNat []).take 0 ++ rawR t x) ++ ((rowsN (A ++ [x])).getD (((rowsN (A ++ [x])).length : Int) - 1).toNat []).drop (0 + 12))).flatten vals → VRc M w (rowsN (A ++ [repN t x])).flatten vals := by
    intro M w vals h
    rw [hset2] at h
    rw [← rowsN_snoc]
    rw [List.flatten_append] at h ⊢
    refine nilL_vrc (nilL_app (nilL_refl _) ?_) h
    simp only [List.flatten_cons, List.flatten_nil, List.append_nil]
    exact rawR_nil t x
  have hrow : ∀ y ∈ rowsN (A ++ [repN t x]), y.length = 12 := by
    intro y hy
    rw [rowsN_map] at hy
    obtain ⟨n, _, rfl⟩ := List.mem_map.1 hy
    cases n; rfl
  have hln : (rowsN (A ++ [repN t x])).length = ((rowsN (A ++ [x])).set (((rowsN (A ++ [x])).length : Int) - 1).toNat ((((rowsN (A ++ [x])).getD (((rowsN (A ++ [x])).length : Int) - 1).toNat []).take 0 ++ rawR t x) ++ ((rowsN (A ++ [x])).getD (((rowsN (A ++ [x])).length : Int) - 1).toNat []).drop (0 + 12))).length := by
    rw [List.length_set, rowsN_map, rowsN_map]; simp
  rw [hget] at himp hln
  obtain ⟨fx, kx⟩ := x
  refine RWP.of tabOk orders ?_
  repeat' ((conv => whnf); (first
    | (with_reducible first | refine Spl.yes ?_ | refine Spl.no ?_ | refine Spl.dec (fun h => ?_) (fun h => ?_) | refine Spl.eq (fun h => ?_) (fun h => ?_) | refine Spl.ne (fun h => ?_) (fun h => ?_) | refine Spl.seq (fun h => ?_) (fun h => ?_) | refine Spl.not ?_ | refine Spl.any (fun h => ?_) (fun h => ?_))
    | refine drawn_text (by decide +kernel) ?_
    | (rw [hget])
    | refine And.intro (Nat.le_of_ble_eq_true rfl) ?_
    | refine And.intro (by show 0 ≤ ((rowsN (A ++ [Node.mk fx kx])).length : Int) - 1 ∧ ((rowsN (A ++ [Node.mk fx kx])).length : Int) - 1 < ((rowsN (A ++ [Node.mk fx kx])).length : Int); omega) ?_
    | refine And.intro (by show (((rowsN (A ++ [Node.mk fx kx])).length : Int) - 1).toNat < (rowsN (A ++ [Node.mk fx kx])).length; omega) ?_
    | ((with_reducible apply And.intro); first | omega | rfl | (dsimp only; omega))))
  all_goals (conv => whnf)
  refine ⟨_, Wk.trans (Wk.narrow _ [4] [1000000] [1000001, 1000002, 1000003]) (Wk.trans (Wk.xs (k := 1000003) (o := ⟨12, 27, true, _⟩) (xs' := rowsN (A ++ [repN t (Node.mk fx kx)])) rfl hln hrow himp) (Wk.narrow _ [4] [1000000] [1000001, 1000002, 1000003])), .inl ?_⟩
  conv => whnf
  exact ⟨rfl, rfl⟩
theorem quantV_h (v : Lev) (t : Tok) (h2 : v.items.length ≤ 1000000) : HCalls Try.prog 57 (HLv v) [.ptr 1000000 0, .pv t.enc] (fun fe H' => fe = .pv (bv (quantV v t).1) ∧ H' = HLv (quantV v t).2) := by
  cases h : v.look with
  | none => exact quant_none v t h2 h
  | some nl => exact quant_some v t nl h2 h
end Go.Proofs.Ytnoohgiecnmajaa.VC

/- parse: a thing is added to a level. -/
namespace Go.Proofs.Ytnoohgiecnmajaa.VC
open Go Go.RowKit
set_option linter.unusedVariables false
set_option linter.unusedSimpArgs false
set_option maxHeartbeats 4000000

def fixK (k : Int) : Bool := k == 4 || k == 5 || k == 9 || k == 10 || k == 11
def addV (v : Lev) (n : Node) : Lev :=
  if v.op.n = 13 ∧ v.look.isNone = true then { v with look := some n, fixed := true }
  else { v with items := v.items ++ [n], fixed := fixK n.f.kind }
set_option maxHeartbeats 16000000
theorem add_none (v : Lev) (n : Node) (h2 : v.items.length ≤ 1000000) (hlk : v.look = none) : HCalls Try.prog 59 (HLv v) [.ptr 1000000 0, .pv n.enc] (fun fe H' => fe = .pv (.tuple []) ∧ H' = HLv (addV v n)) := by
  obtain ⟨op, look, alts, items, fixed⟩ := v
  obtain ⟨f, ks⟩ := n
  simp only at h2 hlk
  subst hlk
  have hn1 := rowsN_len alts
  have hn2 := rowsN_len items
  refine HCalls.ofr tabOk Try.func59 (by decide) rfl rfl ?_
  refine RWP.seqx tabOk orders ?_
  conv => whnf
  refine RWP.seq ?_
  refine RWP.seq (RWP.nilEq tabOk 11 rfl ⟨rfl, rfl, rfl⟩ rfl Try.underlying25 ?_)
  repeat' ((conv => whnf); (first
    | (with_reducible first | refine Spl.yes ?_ | refine Spl.no ?_ | refine Spl.dec (fun h => ?_) (fun h => ?_) | refine Spl.eq (fun h => ?_) (fun h => ?_) | refine Spl.ne (fun h => ?_) (fun h => ?_) | refine Spl.seq (fun h => ?_) (fun h => ?_) | refine Spl.not ?_ | refine Spl.any (fun h => ?_) (fun h => ?_))
    | refine drawn_text (by decide +kernel) ?_
    | refine And.intro (Nat.le_of_ble_eq_true rfl) ?_
    | ((with_reducible apply And.intro); first | omega | rfl | (dsimp only; omega))))
  all_goals (conv => whnf)
  · have h13 : op.n = 13 := by assumption
    have hG : addV ⟨op, none, alts, items, fixed⟩ (Node.mk f ks) = ⟨op, some (Node.mk f ks), alts, items, true⟩ := by unfold addV; rw [if_pos ⟨h13, rfl⟩]
    rw [hG]
    refine RWP.of tabOk orders ?_
    repeat' ((conv => whnf); (first
    | (with_reducible first | refine Spl.yes ?_ | refine Spl.no ?_ | refine Spl.dec (fun h => ?_) (fun h => ?_) | refine Spl.eq (fun h => ?_) (fun h => ?_) | refine Spl.ne (fun h => ?_) (fun h => ?_) | refine Spl.seq (fun h => ?_) (fun h => ?_) | refine Spl.not ?_ | refine Spl.any (fun h => ?_) (fun h => ?_))
    | refine And.intro (Nat.le_of_ble_eq_true rfl) ?_
    | ((with_reducible apply And.intro); first | omega | rfl | (dsimp only; omega))))
    all_goals (conv => whnf)
    refine ⟨_, Wk.trans (Wk.rn 20 1000001 rfl rfl) (Wk.narrow _ [0] [1000000] [1000001, 1000002, 1000003]), .inl ?_⟩
    conv => whnf
    exact ⟨rfl, rfl⟩
  · have h13 : ¬ op.n = 13 := by assumption
    have hG : addV ⟨op, none, alts, items, fixed⟩ (Node.mk f ks) = ⟨op, none, alts, items ++ [Node.mk f ks], fixK f.kind⟩ := by unfold addV; rw [if_neg (fun q => h13 q.1)]; rfl
    rw [hG]
    have hk1 : f.kind = 4 ∨ f.kind = 5 ∨ f.kind = 9 ∨ f.kind = 10 → fixK f.kind = true := by
      intro h
      unfold fixK
      rcases h with h | h | h | h <;> rw [h] <;> rfl
    have hk2 : ¬ (f.kind = 4 ∨ f.kind = 5 ∨ f.kind = 9 ∨ f.kind = 10) → fixK f.kind = (f.kind == 11) := by
      intro h
      have h1 : (f.kind == 4) = false := by simp; omega
      have h2 : (f.kind == 5) = false := by simp; omega
      have h3 : (f.kind == 9) = false := by simp; omega
      have h4 : (f.kind == 10) = false := by simp; omega
      unfold fixK
      rw [h1, h2, h3, h4]
      rfl
    have hset : (rowsN items ++ [nzC]).set ((rowsN items).length : Int).toNat ((((rowsN items ++ [nzC]).getD ((rowsN items).length : Int).toNat []).take 0 ++ (Node.mk f ks).cells) ++ ((rowsN items ++ [nzC]).getD ((rowsN items).length : Int).toNat []).drop (0 + 12)) = rowsN (items ++ [Node.mk f ks]) := by
      rw [set_last _ _ _ (by show nzC.length ≤ 12; decide), rowsN_snoc]
    refine RWP.of tabOk orders ?_
    repeat' ((conv => whnf); (first
    | (with_reducible first | refine Spl.yes ?_ | refine Spl.no ?_ | refine Spl.dec (fun h => ?_) (fun h => ?_) | refine Spl.eq (fun h => ?_) (fun h => ?_) | refine Spl.ne (fun h => ?_) (fun h => ?_) | refine Spl.seq (fun h => ?_) (fun h => ?_) | refine Spl.not ?_ | refine Spl.any (fun h => ?_) (fun h => ?_))
    | ((with_reducible apply And.intro); first | omega | rfl | (dsimp only; omega))))
    all_goals (conv => whnf)
    refine RWP.of tabOk orders ?_
    repeat' ((conv => whnf); (first
    | (with_reducible first | refine Spl.yes ?_ | refine Spl.no ?_ | refine Spl.dec (fun h => ?_) (fun h => ?_) | refine Spl.eq (fun h => ?_) (fun h => ?_) | refine Spl.ne (fun h => ?_) (fun h => ?_) | refine Spl.seq (fun h => ?_) (fun h => ?_) | refine Spl.not ?_ | refine Spl.any (fun h => ?_) (fun h => ?_))
    | refine drawn_plan (.one 0 (.one 1 (.one 2 (.one 3 (.one 4 (.one 5 (.one 6 (.one 7 (.one 8 (.one 10 (.one 11 (.two 9 (.ofList [12]) 12 (.ofList [9]))))))))))))) (by decide +kernel) ?_
    | refine Fork.mk ?_ ?_
    | refine And.intro (Nat.le_of_ble_eq_true rfl) ?_
    | refine And.intro (by show ((rowsN items).length + 1) * 136 ≤ 140737488355328; omega) ?_
    | refine And.intro (by show 0 ≤ ((rowsN items).length : Int) ∧ ((rowsN items).length : Int) < ((rowsN items ++ [_]).length : Int); rw [List.length_append, List.length_singleton]; omega) ?_
    | refine And.intro (by show ((rowsN items).length : Int).toNat < (rowsN items ++ [_]).length; rw [List.length_append, List.length_singleton]; omega) ?_
    | ((with_reducible apply And.intro); first | omega | rfl | (dsimp only; omega))))
    all_goals (conv => whnf)
    all_goals first
      | (rw [hk1 (by omega)]
         refine ⟨_, Wk.trans (Wk.rn 32 1000003 rfl rfl) (Wk.narrow _ [0] [1000000] [1000002, 1000003]), .inl ?_⟩
         conv => whnf
         exact ⟨rfl, Eq.trans rfl (congrArg (fun (X : List (List SV)) => (⟨0, [], [(1000000, (96, [.pv (iv op.kind), .pv (iv op.at_), .pv (iv op.to), .pv (iv op.c), .pv (rs op.set), .pv (bv op.neg), .pv (iv op.n), .pv (iv op.m), .pv (iv op.mode), .pv (sv op.name), .pv (iv op.on), .pv (iv op.off), .pv (.val nilV), .own 1000002, .own 1000003, .pv (bv true)]))], [(1000002, ⟨12, 27, true, rowsN alts⟩), (1000003, ⟨12, 27, true, X⟩)], []⟩ : St)) hset)⟩)
      | (rw [hk2 (by omega)]
         refine ⟨_, Wk.trans (Wk.rn 32 1000003 rfl rfl) (Wk.narrow _ [0] [1000000] [1000002, 1000003]), .inl ?_⟩
         conv => whnf
         exact ⟨rfl, Eq.trans rfl (congrArg (fun (X : List (List SV)) => (⟨0, [], [(1000000, (96, [.pv (iv op.kind), .pv (iv op.at_), .pv (iv op.to), .pv (iv op.c), .pv (rs op.set), .pv (bv op.neg), .pv (iv op.n), .pv (iv op.m), .pv (iv op.mode), .pv (sv op.name), .pv (iv op.on), .pv (iv op.off), .pv (.val nilV), .own 1000002, .own 1000003, .pv (bv (f.kind == 11))]))], [(1000002, ⟨12, 27, true, rowsN alts⟩), (1000003, ⟨12, 27, true, X⟩)], []⟩ : St)) hset)⟩)
theorem add_some (v : Lev) (n nl : Node) (h2 : v.items.length ≤ 1000000) (hlk : v.look = some nl) : HCalls Try.prog 59 (HLv v) [.ptr 1000000 0, .pv n.enc] (fun fe H' => fe = .pv (.tuple []) ∧ H' = HLv (addV v n)) := by
  obtain ⟨op, look, alts, items, fixed⟩ := v
  obtain ⟨f, ks⟩ := n
  simp only at h2 hlk
  subst hlk
  have hn1 := rowsN_len alts
  have hn2 := rowsN_len items
  refine HCalls.ofr tabOk Try.func59 (by decide) rfl rfl ?_
  refine RWP.seqx tabOk orders ?_
  conv => whnf
  refine RWP.seq ?_
  refine RWP.seq (RWP.nilEq tabOk 11 rfl ⟨rfl, rfl, rfl⟩ rfl Try.underlying25 ?_)
  repeat' ((conv => whnf); (first
    | (with_reducible first | refine Spl.yes ?_ | refine Spl.no ?_ | refine Spl.dec (fun h => ?_) (fun h => ?_) | refine Spl.eq (fun h => ?_) (fun h => ?_) | refine Spl.ne (fun h => ?_) (fun h => ?_) | refine Spl.seq (fun h => ?_) (fun h => ?_) | refine Spl.not ?_ | refine Spl.any (fun h => ?_) (fun h => ?_))
    | refine drawn_text (by decide +kernel) ?_
    | refine And.intro (Nat.le_of_ble_eq_true rfl) ?_
    | ((with_reducible apply And.intro); first | omega | rfl | (dsimp only; omega))))
  all_goals (conv => whnf)
  · have hG : addV ⟨op, some nl, alts, items, fixed⟩ (Node.mk f ks) = ⟨op, some nl, alts, items ++ [Node.mk f ks], fixK f.kind⟩ := by unfold addV; rw [if_neg (fun q => absurd q.2 (by simp))]; rfl
    rw [hG]
    have hk1 : f.kind = 4 ∨ f.kind = 5 ∨ f.kind = 9 ∨ f.kind = 10 → fixK f.kind = true := by
      intro h
      unfold fixK
      rcases h with h | h | h | h <;> rw [h] <;> rfl
    have hk2 : ¬ (f.kind = 4 ∨ f.kind = 5 ∨ f.kind = 9 ∨ f.kind = 10) → fixK f.kind = (f.kind == 11) := by
      intro h
      have h1 : (f.kind == 4) = false := by simp; omega
      have h2 : (f.kind == 5) = false := by simp; omega
      have h3 : (f.kind == 9) = false := by simp; omega
      have h4 : (f.kind == 10) = false := by simp; omega
      unfold fixK
      rw [h1, h2, h3, h4]
      rfl
    have hset : (rowsN items ++ [nzC]).set ((rowsN items).length : Int).toNat ((((rowsN items ++ [nzC]).getD ((rowsN items).length : Int).toNat []).take 0 ++ (Node.mk f ks).cells) ++ ((rowsN items ++ [nzC]).getD ((rowsN items).length : Int).toNat []).drop (0 + 12)) = rowsN (items ++ [Node.mk f ks]) := by
      rw [set_last _ _ _ (by show nzC.length ≤ 12; decide), rowsN_snoc]
    refine RWP.of tabOk orders ?_
    repeat' ((conv => whnf); (first
    | (with_reducible first | refine Spl.yes ?_ | refine Spl.no ?_ | refine Spl.dec (fun h => ?_) (fun h => ?_) | refine Spl.eq (fun h => ?_) (fun h => ?_) | refine Spl.ne (fun h => ?_) (fun h => ?_) | refine Spl.seq (fun h => ?_) (fun h => ?_) | refine Spl.not ?_ | refine Spl.any (fun h => ?_) (fun h => ?_))
    | ((with_reducible apply And.intro); first | omega | rfl | (dsimp only; omega))))
    all_goals (conv => whnf)
    refine RWP.of tabOk orders ?_
    repeat' ((conv => whnf); (first
    | (with_reducible first | refine Spl.yes ?_ | refine Spl.no ?_ | refine Spl.dec (fun h => ?_) (fun h => ?_) | refine Spl.eq (fun h => ?_) (fun h => ?_) | refine Spl.ne (fun h => ?_) (fun h => ?_) | refine Spl.seq (fun h => ?_) (fun h => ?_) | refine Spl.not ?_ | refine Spl.any (fun h => ?_) (fun h => ?_))
    | refine drawn_plan (.one 0 (.one 1 (.one 2 (.one 3 (.one 4 (.one 5 (.one 6 (.one 7 (.one 8 (.one 10 (.one 11 (.two 9 (.ofList [12]) 12 (.ofList [9]))))))))))))) (by decide +kernel) ?_
    | refine Fork.mk ?_ ?_
    | refine And.intro (Nat.le_of_ble_eq_true rfl) ?_
    | refine And.intro (by show ((rowsN items).length + 1) * 136 ≤ 140737488355328; omega) ?_
    | refine And.intro (by show 0 ≤ ((rowsN items).length : Int) ∧ ((rowsN items).length : Int) < ((rowsN items ++ [_]).length : Int); rw [List.length_append, List.length_singleton]; omega) ?_
    | refine And.intro (by show ((rowsN items).length : Int).toNat < (rowsN items ++ [_]).length; rw [List.length_append, List.length_singleton]; omega) ?_
    | ((with_reducible apply And.intro); first | omega | rfl | (dsimp only; omega))))
    all_goals (conv => whnf)
    all_goals first
      | (rw [hk1 (by omega)]
         refine ⟨_, Wk.trans (Wk.rn 32 1000003 rfl rfl) (Wk.narrow _ [0] [1000000] [1000001, 1000002, 1000003]), .inl ?_⟩
         conv => whnf
         exact ⟨rfl, Eq.trans rfl (congrArg (fun (X : List (List SV)) => (⟨0, [], [(1000000, (96, [.pv (iv op.kind), .pv (iv op.at_), .pv (iv op.to), .pv (iv op.c), .pv (rs op.set), .pv (bv op.neg), .pv (iv op.n), .pv (iv op.m), .pv (iv op.mode), .pv (sv op.name), .pv (iv op.on), .pv (iv op.off), .own 1000001, .own 1000002, .own 1000003, .pv (bv true)]))], [(1000001, ⟨12, 27, true, [nl.cells]⟩), (1000002, ⟨12, 27, true, rowsN alts⟩), (1000003, ⟨12, 27, true, X⟩)], []⟩ : St)) hset)⟩)
      | (rw [hk2 (by omega)]
         refine ⟨_, Wk.trans (Wk.rn 32 1000003 rfl rfl) (Wk.narrow _ [0] [1000000] [1000001, 1000002, 1000003]), .inl ?_⟩
         conv => whnf
         exact ⟨rfl, Eq.trans rfl (congrArg (fun (X : List (List SV)) => (⟨0, [], [(1000000, (96, [.pv (iv op.kind), .pv (iv op.at_), .pv (iv op.to), .pv (iv op.c), .pv (rs op.set), .pv (bv op.neg), .pv (iv op.n), .pv (iv op.m), .pv (iv op.mode), .pv (sv op.name), .pv (iv op.on), .pv (iv op.off), .own 1000001, .own 1000002, .own 1000003, .pv (bv (f.kind == 11))]))], [(1000001, ⟨12, 27, true, [nl.cells]⟩), (1000002, ⟨12, 27, true, rowsN alts⟩), (1000003, ⟨12, 27, true, X⟩)], []⟩ : St)) hset)⟩)
  · have hG : addV ⟨op, some nl, alts, items, fixed⟩ (Node.mk f ks) = ⟨op, some nl, alts, items ++ [Node.mk f ks], fixK f.kind⟩ := by unfold addV; rw [if_neg (fun q => absurd q.2 (by simp))]; rfl
    rw [hG]
    have hk1 : f.kind = 4 ∨ f.kind = 5 ∨ f.kind = 9 ∨ f.kind = 10 → fixK f.kind = true := by
      intro h
      unfold fixK
      rcases h with h | h | h | h <;> rw [h] <;> rfl
    have hk2 : ¬ (f.kind = 4 ∨ f.kind = 5 ∨ f.kind = 9 ∨ f.kind = 10) → fixK f.kind = (f.kind == 11) := by
      intro h
      have h1 : (f.kind == 4) = false := by simp; omega
      have h2 : (f.kind == 5) = false := by simp; omega
      have h3 : (f.kind == 9) = false := by simp; omega
      have h4 : (f.kind == 10) = false := by simp; omega
      unfold fixK
      rw [h1, h2, h3, h4]
      rfl
    have hset : (rowsN items ++ [nzC]).set ((rowsN items).length : Int).toNat ((((rowsN items ++ [nzC]).getD ((rowsN items).length : Int).toNat []).take 0 ++ (Node.mk f ks).cells) ++ ((rowsN items ++ [nzC]).getD ((rowsN items).length : Int).toNat []).drop (0 + 12)) = rowsN (items ++ [Node.mk f ks]) := by
      rw [set_last _ _ _ (by show nzC.length ≤ 12; decide), rowsN_snoc]
    refine RWP.of tabOk orders ?_
    repeat' ((conv => whnf); (first
    | (with_reducible first | refine Spl.yes ?_ | refine Spl.no ?_ | refine Spl.dec (fun h => ?_) (fun h => ?_) | refine Spl.eq (fun h => ?_) (fun h => ?_) | refine Spl.ne (fun h => ?_) (fun h => ?_) | refine Spl.seq (fun h => ?_) (fun h => ?_) | refine Spl.not ?_ | refine Spl.any (fun h => ?_) (fun h => ?_))
    | ((with_reducible apply And.intro); first | omega | rfl | (dsimp only; omega))))
    all_goals (conv => whnf)
    refine RWP.of tabOk orders ?_
    repeat' ((conv => whnf); (first
    | (with_reducible first | refine Spl.yes ?_ | refine Spl.no ?_ | refine Spl.dec (fun h => ?_) (fun h => ?_) | refine Spl.eq (fun h => ?_) (fun h => ?_) | refine Spl.ne (fun h => ?_) (fun h => ?_) | refine Spl.seq (fun h => ?_) (fun h => ?_) | refine Spl.not ?_ | refine Spl.any (fun h => ?_) (fun h => ?_))
    | refine drawn_plan (.one 0 (.one 1 (.one 2 (.one 3 (.one 4 (.one 5 (.one 6 (.one 7 (.one 8 (.one 10 (.one 11 (.two 9 (.ofList [12]) 12 (.ofList [9]))))))))))))) (by decide +kernel) ?_
    | refine Fork.mk ?_ ?_
    | refine And.intro (Nat.le_of_ble_eq_true rfl) ?_
    | refine And.intro (by show ((rowsN items).length + 1) * 136 ≤ 140737488355328; omega) ?_
    | refine And.intro (by show 0 ≤ ((rowsN items).length : Int) ∧ ((rowsN items).length : Int) < ((rowsN items ++ [_]).length : Int); rw [List.length_append, List.length_singleton]; omega) ?_
    | refine And.intro (by show ((rowsN items).length : Int).toNat < (rowsN items ++ [_]).length; rw [List.length_append, List.length_singleton]; omega) ?_
    | ((with_reducible apply And.intro); first | omega | rfl | (dsimp only; omega))))
    all_goals (conv => whnf)
    all_goals first
      | (rw [hk1 (by omega)]
         refine ⟨_, Wk.trans (Wk.rn 32 1000003 rfl rfl) (Wk.narrow _ [0] [1000000] [1000001, 1000002, 1000003]), .inl ?_⟩
         conv => whnf
         exact ⟨rfl, Eq.trans rfl (congrArg (fun (X : List (List SV)) => (⟨0, [], [(1000000, (96, [.pv (iv op.kind), .pv (iv op.at_), .pv (iv op.to), .pv (iv op.c), .pv (rs op.set), .pv (bv op.neg), .pv (iv op.n), .pv (iv op.m), .pv (iv op.mode), .pv (sv op.name), .pv (iv op.on), .pv (iv op.off), .own 1000001, .own 1000002, .own 1000003, .pv (bv true)]))], [(1000001, ⟨12, 27, true, [nl.cells]⟩), (1000002, ⟨12, 27, true, rowsN alts⟩), (1000003, ⟨12, 27, true, X⟩)], []⟩ : St)) hset)⟩)
      | (rw [hk2 (by omega)]
         refine ⟨_, Wk.trans (Wk.rn 32 1000003 rfl rfl) (Wk.narrow _ [0] [1000000] [1000001, 1000002, 1000003]), .inl ?_⟩
         conv => whnf
         exact ⟨rfl, Eq.trans rfl (congrArg (fun (X : List (List SV)) => (⟨0, [], [(1000000, (96, [.pv (iv op.kind), .pv (iv op.at_), .pv (iv op.to), .pv (iv op.c), .pv (rs op.set), .pv (bv op.neg), .pv (iv op.n), .pv (iv op.m), .pv (iv op.mode), .pv (sv op.name), .pv (iv op.on), .pv (iv op.off), .own 1000001, .own 1000002, .own 1000003, .pv (bv (f.kind == 11))]))], [(1000001, ⟨12, 27, true, [nl.cells]⟩), (1000002, ⟨12, 27, true, rowsN alts⟩), (1000003, ⟨12, 27, true, X⟩)], []⟩ : St)) hset)⟩)
theorem addV_h (v : Lev) (n : Node) (h2 : v.items.length ≤ 1000000) : HCalls Try.prog 59 (HLv v) [.ptr 1000000 0, .pv n.enc] (fun fe H' => fe = .pv (.tuple []) ∧ H' = HLv (addV v n)) := by
  cases h : v.look with
  | none => exact add_none v n h2 h
  | some nl => exact add_some v n nl h2 h
end Go.Proofs.Ytnoohgiecnmajaa.VC

/- parse: the machine with a stack. -/
namespace Go.Proofs.Ytnoohgiecnmajaa.VC
open Go Go.RowKit
set_option linter.unusedVariables false
set_option linter.unusedSimpArgs false
set_option maxHeartbeats 4000000

def levO (t : Tok) : Lev := ⟨t, none, [], [], false⟩
/-- The machine: the tokens that come, the level, those below. -/
def runS (en : Int) : List Tok → Lev → List Lev → ParR
  | [], v, st => if st ≠ [] then ⟨nodeZ, 20, en⟩ else ⟨oneN 13 (endL v).alts, 0, 0⟩
  | t :: r, v, st =>
    if t.kind = 7 then runS en r (endL v) st
    else if t.kind = 9 then (if (quantV v t).1 = true then runS en r (quantV v t).2 st else ⟨nodeZ, 30, t.at_⟩)
    else if t.kind = 10 then (if (st.length : Int) ≥ 40 then ⟨nodeZ, 11, t.at_⟩ else runS en r (levO t) (v :: st))
    else if t.kind = 8 then
      (match st with
       | [] => ⟨nodeZ, 31, t.at_⟩
       | u :: st' => if (madeV (endL v)).2 = true then runS en r (addV u (madeV (endL v)).1) st' else ⟨nodeZ, 32, v.op.at_⟩)
    else runS en r (addV v (leafN t)) st
/-- What is known of the tokens. -/
structure TokS (L : List Tok) : Prop where
  kind : ∀ t ∈ L, 1 ≤ t.kind ∧ t.kind ≤ 15
  look : ∀ i : Int, 0 ≤ i → i < L.length → (rdt L i).kind = 10 → (rdt L i).n = 13 → i + 1 < L.length ∧ (rdt L (i + 1)).kind = 10
theorem Wk.eq {a b : St} (h : a = b) : Wk a b := h ▸ Wk.refl a
theorem look_first {α : Type} {t k : Nat} {v x : α} {l : List (Nat × α)} (h : look t [(k, v)] = some x) : look t ((k, v) :: l) = some x := by
  rw [look_cons] at h ⊢
  split at h
  · rename_i e; rw [if_pos e]; exact h
  · cases h
theorem look_skip {α : Type} {t k : Nat} {v x : α} {l : List (Nat × α)} (hn : look k l = none) (h : look t l = some x) : look t ((k, v) :: l) = some x := by
  rw [look_cons, if_neg]
  · exact h
  · rintro rfl; rw [hn] at h; cases h
/-- The stack's row: pointers. -/
def rowsP (bs : List Nat) : List (List SV) := bs.reverse.map fun b => [SV.val (.pointer (some ⟨b, 0, none⟩))]
theorem rowsP_len (bs : List Nat) : (rowsP bs).length = bs.length := by simp [rowsP]
theorem rowsP_top (b : Nat) (bs : List Nat) : (rowsP (b :: bs)).getD (((rowsP (b :: bs)).length : Int) - 1).toNat [] = [SV.val (.pointer (some ⟨b, 0, none⟩))] := by
  have h : (((rowsP (b :: bs)).length : Int) - 1).toNat = bs.length := by rw [rowsP_len]; simp
  rw [h]
  simp [rowsP]
theorem rowsP_push (b : Nat) (bs : List Nat) : rowsP bs ++ [[SV.val (.pointer (some ⟨b, 0, none⟩))]] = rowsP (b :: bs) := by simp [rowsP]
theorem rowsP_pop (b : Nat) (bs : List Nat) : (rowsP (b :: bs)).take (((rowsP (b :: bs)).length : Int) - 1).toNat = rowsP bs := by
  have h : (((rowsP (b :: bs)).length : Int) - 1).toNat = bs.length := by rw [rowsP_len]; simp
  rw [h]
  simp [rowsP]
theorem made_at (v : Lev) : (madeV v).1.f.at_ = v.op.at_ := by
  unfold madeV groupN
  simp only
  split
  · rfl
  split
  · rfl
  split
  · rfl
  split
  · rfl
  split
  · rfl
  · rfl
theorem kinds_ok (t : Tok) (h : 1 ≤ t.kind ∧ t.kind ≤ 15) (h7 : t.kind ≠ 7) (h9 : t.kind ≠ 9) (h10 : t.kind ≠ 10) (h8 : t.kind ≠ 8) : kindsL.getD t.kind.toNat 0 = leafK t.kind ∧ leafK t.kind ≠ 0 := by
  have : t.kind = 1 ∨ t.kind = 2 ∨ t.kind = 3 ∨ t.kind = 4 ∨ t.kind = 5 ∨ t.kind = 6 ∨ t.kind = 11 ∨ t.kind = 12 ∨ t.kind = 13 ∨ t.kind = 14 ∨ t.kind = 15 := by omega
  rcases this with e | e | e | e | e | e | e | e | e | e | e <;> rw [e] <;> decide
theorem fail39_c (e a : Int) : VCalls Try.prog 55 [iv e, iv a] (fun r => r = parE ⟨nodeZ, e, a⟩) := by
  refine VCalls.ofr tabOk Try.func55 (by decide) rfl rfl ?_
  refine RWP.of tabOk orders ?_
  repeat' ((conv => whnf); (first
    | (with_reducible first | refine Spl.yes ?_ | refine Spl.no ?_ | refine Spl.dec (fun h => ?_) (fun h => ?_) | refine Spl.eq (fun h => ?_) (fun h => ?_) | refine Spl.ne (fun h => ?_) (fun h => ?_) | refine Spl.seq (fun h => ?_) (fun h => ?_) | refine Spl.not ?_ | refine Spl.any (fun h => ?_) (fun h => ?_))
    | refine drawn_text (by decide +kernel) ?_
    | ((with_reducible apply And.intro); first | omega | rfl | (dsimp only; omega))))
  all_goals (conv => whnf)
  rfl
end Go.Proofs.Ytnoohgiecnmajaa.VC

/- parse: a condition's assertion is added to its level. -/
namespace Go.Proofs.Ytnoohgiecnmajaa.VC
open Go Go.RowKit
set_option linter.unusedVariables false
set_option linter.unusedSimpArgs false
set_option maxHeartbeats 4000000

def HLd (v : Lev) : St := ⟨0, [], [(1000000, (96, levFs v))], (1000001, ⟨12, 27, true, []⟩) :: [(1000002, ⟨12, 27, true, rowsN v.alts⟩), (1000003, ⟨12, 27, true, rowsN v.items⟩)], []⟩
set_option maxHeartbeats 16000000
theorem add_look (op : Tok) (alts items : List Node) (fixed : Bool) (n : Node) (h13 : op.n = 13) : HCalls Try.prog 59 (HLd ⟨op, none, alts, items, fixed⟩) [.ptr 1000000 0, .pv n.enc] (fun fe H' => fe = .pv (.tuple []) ∧ H' = HLv ⟨op, some n, alts, items, true⟩) := by
  obtain ⟨f, ks⟩ := n
  refine HCalls.ofr tabOk Try.func59 (by decide) rfl rfl ?_
  refine RWP.weak (Wk.narrow _ [0, 1] [1000000] [1000002, 1000003]) ?_
  refine RWP.seqx tabOk orders ?_
  conv => whnf
  refine RWP.seq ?_
  refine RWP.seq (RWP.nilEq tabOk 11 rfl ⟨rfl, rfl, rfl⟩ rfl Try.underlying25 ?_)
  repeat' ((conv => whnf); (first
    | (with_reducible first | refine Spl.yes ?_ | refine Spl.no ?_ | refine Spl.dec (fun h => ?_) (fun h => ?_) | refine Spl.eq (fun h => ?_) (fun h => ?_) | refine Spl.ne (fun h => ?_) (fun h => ?_) | refine Spl.seq (fun h => ?_) (fun h => ?_) | refine Spl.not ?_ | refine Spl.any (fun h => ?_) (fun h => ?_))
    | refine drawn_text (by decide +kernel) ?_
    | refine And.intro (Nat.le_of_ble_eq_true rfl) ?_
    | ((with_reducible apply And.intro); first | omega | rfl | (dsimp only; omega))))
  all_goals (conv => whnf)
  · refine RWP.of tabOk orders ?_
    repeat' ((conv => whnf); (first
    | (with_reducible first | refine Spl.yes ?_ | refine Spl.no ?_ | refine Spl.dec (fun h => ?_) (fun h => ?_) | refine Spl.eq (fun h => ?_) (fun h => ?_) | refine Spl.ne (fun h => ?_) (fun h => ?_) | refine Spl.seq (fun h => ?_) (fun h => ?_) | refine Spl.not ?_ | refine Spl.any (fun h => ?_) (fun h => ?_))
    | refine And.intro (Nat.le_of_ble_eq_true rfl) ?_
    | ((with_reducible apply And.intro); first | omega | rfl | (dsimp only; omega))))
    all_goals (conv => whnf)
    refine ⟨_, Wk.trans (Wk.rn 20 1000001 rfl rfl) (Wk.narrow _ [0] [1000000] [1000001, 1000002, 1000003]), .inl ?_⟩
    conv => whnf
    exact ⟨rfl, rfl⟩
  · have hn : ¬ op.n = 13 := by assumption
    exact absurd h13 hn
end Go.Proofs.Ytnoohgiecnmajaa.VC

/- parse.Parse: it is the machine with a stack. -/
namespace Go.Proofs.Ytnoohgiecnmajaa.VC
open Go Go.RowKit
set_option linter.unusedVariables false
set_option linter.unusedSimpArgs false
set_option maxHeartbeats 4000000

theorem rowsP_one (b : Nat) : [[SV.val (.pointer (some ⟨b, 0, none⟩))]] = rowsP [b] := rfl
attribute [local irreducible] tk rowsP
def hE : St := ⟨0, [], [], [], []⟩
def hsL (b0 : Nat) (lv : List (Nat × Lev)) : List (Nat × St) := lv.map (fun p => (p.1, HLv p.2)) ++ [(b0, hE)]
@[reducible] def funcV : SV := .val (.func (.func 55) #[] #[])
/-- The state at the head of a round. -/
def stX (L : List Tok) (en : Int) (X : List (List SV)) (v : Lev) (j : Int) : St :=
  ⟨177, [(0, .pv (.sl 12 (tk L))), (1, .pv (iv en)), (4, .ptr 4 0), (7, .ptr 7 0), (8, .own 8), (9, .pv funcV), (19, .pv (.sl 12 (tk L))), (20, .pv (iv (tk L).length)), (21, .pv (iv j))],
    [(1000000, (96, levFs v)), (4, (27, [.pv (iv 0), .pv (iv 0), .pv (iv 0), .pv (.val nilV), .pv (bv false), .pv (iv 0), .pv (iv 0), .pv (iv 0), .pv (sv (bs [])), .pv (iv 0), .pv (iv 0), .pv (.val nilV)])), (7, (92, kindsF))],
    (8, ⟨1, 94, true, X⟩) :: (lookOwn v.look ++ [(1000002, ⟨12, 27, true, rowsN v.alts⟩), (1000003, ⟨12, 27, true, rowsN v.items⟩)]), []⟩
@[reducible] def stL (L : List Tok) (en : Int) (bt : Nat) (v : Lev) (lv : List (Nat × Lev)) (j : Int) : St := stX L en (rowsP (bt :: lv.map Prod.fst)) v j
structure InvL (L : List Tok) (en : Int) (G : ParR) (n bt : Nat) (hs : List (Nat × St)) (st : St) (b0 : Nat) (v : Lev) (lv : List (Nat × Lev)) (j : Int) : Prop where
  hs : hs = hsL b0 lv
  st : st = stL L en bt v lv j
  j0 : 0 ≤ j
  j1 : j ≤ L.length
  n : n = (L.length - j).toNat
  run : runS en (L.drop j.toNat) v (lv.map Prod.snd) = G
  szv : (v.alts.length : Int) + v.items.length ≤ j
  szl : ∀ p ∈ lv, ((p.2 : Lev).alts.length : Int) + (p.2 : Lev).items.length ≤ j
  depth : lv.length ≤ 40
set_option maxHeartbeats 16000000
theorem parse39_c (L : List Tok) (en : Int) (hL : L.length ≤ 100000) (hT : TokS L) : VCalls Try.prog 39 [.sl 12 (tk L), iv en] (fun r => r = parE (runS en L (levO tokZ) [])) := by
  have hl := tk_len L
  obtain ⟨G, hG⟩ : ∃ G, runS en L (levO tokZ) [] = G := ⟨_, rfl⟩
  rw [hG]
  refine VCalls.ofr tabOk Try.func39 (by decide) rfl rfl ?_
  refine RWP.ofL fun bt => ?_
  refine RWL.seq (RWL.of (RWP.of tabOk orders ?_))
  conv => whnf
  refine RWL.seq (RWL.of (RWP.kinds (d1 := 15) (d2 := 7) rfl ⟨rfl, rfl, rfl⟩ ⟨rfl, rfl⟩ ⟨rfl, rfl, rfl⟩ ⟨rfl, rfl, rfl⟩ rfl ?_))
  refine RWL.seq (RWL.mid tabOk 2 ?_)
  conv => whnf
  refine Cv.wk (Wk.narrow _ [0, 1, 4, 7, 17] [4, 7, 17] []) ?_
  refine Cv.push ⟨177, [(0, .pv (.sl 12 (tk L))), (1, .pv (iv en)), (4, .ptr 4 0), (7, .ptr 7 0), (17, .ptr 17 0)], [(4, (27, [.pv (iv 0), .pv (iv 0), .pv (iv 0), .pv (.val nilV), .pv (bv false), .pv (iv 0), .pv (iv 0), .pv (iv 0), .pv (sv (bs [])), .pv (iv 0), .pv (iv 0), .pv (.val nilV)])), (7, (92, kindsF)), (17, (96, [.pv (iv 0), .pv (iv 0), .pv (iv 0), .pv (iv 0), .pv (.val nilV), .pv (bv false), .pv (iv 0), .pv (iv 0), .pv (iv 0), .pv (sv (bs [])), .pv (iv 0), .pv (iv 0), .pv (.val nilV), .pv (.val nilV), .pv (.val nilV), .pv (bv false)]))], [], []⟩ hE 17 (96, [.pv (iv 0), .pv (iv 0), .pv (iv 0), .pv (iv 0), .pv (.val nilV), .pv (bv false), .pv (iv 0), .pv (iv 0), .pv (iv 0), .pv (sv (bs [])), .pv (iv 0), .pv (iv 0), .pv (.val nilV), .pv (.val nilV), .pv (.val nilV), .pv (bv false)])
    ⟨rfl, fun _ _ q => q, fun _ _ q => q, fun _ _ q => q, rfl⟩ (fun _ _ q => by cases q) (fun _ _ q => by cases q) rfl rfl ⟨rfl, rfl, rfl⟩ rfl (fun b => ?_)
  refine Cv.ptrVal 17 rfl ?_
  refine Cv.wk (Wk.boxSl (s := 1000000) (i := 4) (sz := 2) (T := 96) (cs := [.pv (iv 0), .pv (iv 0), .pv (iv 0), .pv (iv 0), .pv (.val nilV), .pv (bv false), .pv (iv 0), .pv (iv 0), .pv (iv 0), .pv (sv (bs [])), .pv (iv 0), .pv (iv 0), .pv (.val nilV), .pv (.val nilV), .pv (.val nilV), .pv (bv false)]) rfl rfl) ?_
  refine Cv.wk (Wk.boxNil (s := 1000000) (i := 13) (k := 1000002) (sz := 12) (e := 27) (T := 96) (cs := [.pv (iv 0), .pv (iv 0), .pv (iv 0), .pv (iv 0), .pv (.sl 2 []), .pv (bv false), .pv (iv 0), .pv (iv 0), .pv (iv 0), .pv (sv (bs [])), .pv (iv 0), .pv (iv 0), .pv (.val nilV), .pv (.val nilV), .pv (.val nilV), .pv (bv false)]) rfl rfl) ?_
  refine Cv.wk (Wk.boxNil (s := 1000000) (i := 14) (k := 1000003) (sz := 12) (e := 27) (T := 96) (cs := [.pv (iv 0), .pv (iv 0), .pv (iv 0), .pv (iv 0), .pv (.sl 2 []), .pv (bv false), .pv (iv 0), .pv (iv 0), .pv (iv 0), .pv (sv (bs [])), .pv (iv 0), .pv (iv 0), .pv (.val nilV), .own 1000002, .pv (.val nilV), .pv (bv false)]) rfl rfl) ?_
  refine Cv.here ?_
  repeat' ((conv => whnf); (first
    | (with_reducible first | refine Spl.yes ?_ | refine Spl.no ?_ | refine Spl.dec (fun h => ?_) (fun h => ?_) | refine Spl.eq (fun h => ?_) (fun h => ?_) | refine Spl.ne (fun h => ?_) (fun h => ?_) | refine Spl.seq (fun h => ?_) (fun h => ?_) | refine Spl.not ?_ | refine Spl.any (fun h => ?_) (fun h => ?_))
    | ((with_reducible apply And.intro); first | omega | rfl | (dsimp only; omega))))
  all_goals (conv => whnf)
  refine RWL.seq (RWL.of (RWP.assignF rfl ⟨rfl, rfl, rfl⟩ rfl ?_))
  conv => whnf
  refine RWL.seq (RWL.seq (RWL.of (RWP.of tabOk orders ?_)))
  repeat' ((conv => whnf); (first
    | (with_reducible first | refine Spl.yes ?_ | refine Spl.no ?_ | refine Spl.dec (fun h => ?_) (fun h => ?_) | refine Spl.eq (fun h => ?_) (fun h => ?_) | refine Spl.ne (fun h => ?_) (fun h => ?_) | refine Spl.seq (fun h => ?_) (fun h => ?_) | refine Spl.not ?_ | refine Spl.any (fun h => ?_) (fun h => ?_))
    | ((with_reducible apply And.intro); first | omega | rfl | (dsimp only; omega))))
  all_goals (conv => whnf)
  refine RWL.cv (Cv.wk (Wk.rn 18 8 rfl rfl) (Cv.wk (Wk.narrow _ [0, 1, 4, 7, 8, 9, 19, 20, 21] [1000000, 4, 7] [8, 1000002, 1000003]) (Cv.here ?_)))
  refine RWL.block (RWL.loop (fun n bt hs st => ∃ b0 v lv j, InvL L en G n bt hs st b0 v lv j) ⟨_, bt, levO tokZ, [], 0, rfl, Eq.trans (b := stX L en [[SV.val (.pointer (some ⟨_, 0, none⟩))]] (levO tokZ) 0) rfl (congrArg (fun X => stX L en X (levO tokZ) 0) (rowsP_one _)), by omega, by omega, rfl, hG, by simp [levO], by simp, by simp⟩ ?_)
  rintro n bt hs st ⟨b0, v, lv, j, I⟩
  obtain ⟨rfl, rfl, j0, j1, hn, hrun, hszv, hszl, hdep⟩ := I
  have hrl : (rowsP (bt :: lv.map Prod.fst)).length = lv.length + 1 := by rw [rowsP_len]; simp
  have htop := rowsP_top bt (lv.map Prod.fst)
  obtain ⟨op, lk, alts, items, fixed⟩ := v
  simp only at hszv
  cases lk with
  | none =>
    refine RWL.seq (RWL.of (RWP.of tabOk orders ?_))
    conv => whnf
    refine RWL.seq (RWL.cond ?_)
    conv => whnf
    refine Spl.dec (fun hj => ?_) (fun hj => ?_)
    rotate_left
    · refine RWL.exit ?_
      conv => whnf
      have hd : L.drop j.toNat = [] := List.drop_eq_nil_of_le (by omega)
      rw [hd, runS] at hrun
      refine RWL.seq (RWL.seq (RWL.of (RWP.of tabOk orders ?_)))
      conv => whnf
      refine RWL.cond ?_
      conv => whnf
      refine Spl.dec (fun hgt => ?_) (fun hle => ?_)
      · have hlv : lv.map Prod.snd ≠ [] := by
          intro e
          have : lv.length = 0 := by simpa using congrArg List.length e
          have hgt' : ((rowsP (bt :: lv.map Prod.fst)).length : Int) > 1 := hgt
          omega
        rw [if_pos hlv] at hrun
        subst hrun
        refine RWL.seq (RWL.of (RWP.callT (t := 160) (f := 55) tabOk 2 rfl ⟨rfl, rfl, rfl⟩ ?_))
        conv => whnf
        refine ⟨rfl, ?_⟩
        repeat' ((conv => whnf); (first
    | (with_reducible first | refine Spl.yes ?_ | refine Spl.no ?_ | refine Spl.dec (fun h => ?_) (fun h => ?_) | refine Spl.eq (fun h => ?_) (fun h => ?_) | refine Spl.ne (fun h => ?_) (fun h => ?_) | refine Spl.seq (fun h => ?_) (fun h => ?_) | refine Spl.not ?_ | refine Spl.any (fun h => ?_) (fun h => ?_))
    | (refine VCalls.mono (fail39_c 20 en) ?_; rintro _ rfl)
    | ((with_reducible apply And.intro); first | omega | rfl | (dsimp only; omega))))
        all_goals (conv => whnf)
        refine RWL.ret ?_
        conv => whnf
        refine ⟨_, Wk.narrow _ [4, 5, 6] [4] [], rfl, ?_⟩
        conv => whnf
        exact rfl
      · refine RWL.skip ?_
        conv => whnf
        have hle' : ¬ ((rowsP (bt :: lv.map Prod.fst)).length : Int) > 1 := hle
        have hlv0 : lv = [] := List.eq_nil_of_length_eq_zero (by omega)
        subst hlv0
        have hzero : (rowsP (bt :: List.map (Prod.fst (β := Lev)) [])).getD (Int.toNat 0) [] = [SV.val (.pointer (some ⟨bt, 0, none⟩))] := by
          rw [← htop, hrl]; rfl
        rw [if_neg (by simp)] at hrun
        subst hrun
        have hend := end_h ⟨op, none, alts, items, fixed⟩ (by simp only; omega) (by simp only; omega)
        have hjo := joined_c 13 (endL ⟨op, none, alts, items, fixed⟩).alts (by simp [endL]; omega)
        obtain ⟨fj, kj, hJ⟩ := (oneN 13 (endL ⟨op, none, alts, items, fixed⟩).alts).ex
        rw [hJ] at hjo ⊢
        refine RWL.seq (RWL.mid tabOk 3 ?_)
        repeat' ((conv => whnf); (first
    | (with_reducible first | refine Spl.yes ?_ | refine Spl.no ?_ | refine Spl.dec (fun h => ?_) (fun h => ?_) | refine Spl.eq (fun h => ?_) (fun h => ?_) | refine Spl.ne (fun h => ?_) (fun h => ?_) | refine Spl.seq (fun h => ?_) (fun h => ?_) | refine Spl.not ?_ | refine Spl.any (fun h => ?_) (fun h => ?_))
    | (rw [hzero])
    | ((with_reducible apply And.intro); first | omega | rfl | (dsimp only; omega))))
        all_goals (conv => whnf)
        refine Cv.valPtr 168 rfl (Cv.here ?_)
        conv => whnf
        (refine HQ.use (hend) ⟨id, id, id⟩ ⟨rfl, rfl⟩ rfl rfl (by first | exact ⟨⟨rfl, rfl⟩, trivial⟩ | exact ⟨⟨rfl, rfl⟩, ⟨rfl, rfl⟩, trivial⟩) (by first | exact trivial | exact ⟨⟨rfl, rfl⟩, trivial⟩ | exact ⟨⟨rfl, rfl⟩, ⟨rfl, rfl⟩, trivial⟩ | exact ⟨⟨rfl, rfl⟩, ⟨rfl, rfl⟩, ⟨rfl, rfl⟩, trivial⟩) (by first | exact trivial | exact ⟨⟨rfl, rfl⟩, trivial⟩) ?_; rintro _ _ ⟨rfl, rfl⟩; refine ⟨⟨rfl, rfl, rfl⟩, ?_⟩)
        conv => whnf
        refine RWL.seq (RWL.mid tabOk 3 ?_)
        repeat' ((conv => whnf); (first
    | (with_reducible first | refine Spl.yes ?_ | refine Spl.no ?_ | refine Spl.dec (fun h => ?_) (fun h => ?_) | refine Spl.eq (fun h => ?_) (fun h => ?_) | refine Spl.ne (fun h => ?_) (fun h => ?_) | refine Spl.seq (fun h => ?_) (fun h => ?_) | refine Spl.not ?_ | refine Spl.any (fun h => ?_) (fun h => ?_))
    | (rw [hzero])
    | ((with_reducible apply And.intro); first | omega | rfl | (dsimp only; omega))))
        all_goals (conv => whnf)
        refine Cv.valPtr 172 rfl (Cv.here ?_)
        repeat' ((conv => whnf); (first
    | (with_reducible first | refine Spl.yes ?_ | refine Spl.no ?_ | refine Spl.dec (fun h => ?_) (fun h => ?_) | refine Spl.eq (fun h => ?_) (fun h => ?_) | refine Spl.ne (fun h => ?_) (fun h => ?_) | refine Spl.seq (fun h => ?_) (fun h => ?_) | refine Spl.not ?_ | refine Spl.any (fun h => ?_) (fun h => ?_))
    | (refine VCalls.mono (hjo) ?_; rintro _ rfl)
    | ((with_reducible apply And.intro); first | omega | rfl | (dsimp only; omega))))
        all_goals (conv => whnf)
        refine RWL.ret ?_
        conv => whnf
        refine ⟨_, Wk.narrow _ [4, 5, 6] [4] [], rfl, ?_⟩
        conv => whnf
        exact rfl
    refine RWL.skip ?_
    conv => whnf
    have hj : j < (tk L).length := hj
    rw [hl] at hj
    obtain ⟨t, ht⟩ : ∃ t, rdt L j = t := ⟨_, rfl⟩
    have htk : (tk L).getD j.toNat [] = t.cells := by rw [tk_get (by omega), ht]
    have hdr : L.drop j.toNat = t :: L.drop (j + 1).toNat := by
      rw [← ht, show (j + 1).toNat = j.toNat + 1 by omega, List.drop_eq_getElem_cons (by omega)]
      simp [rdt, List.getD_eq_getElem?_getD, List.getElem?_eq_getElem (show j.toNat < L.length by omega)]
    have htm : t ∈ L := by rw [← ht]; unfold rdt; rw [List.getD_eq_getElem?_getD, List.getElem?_eq_getElem (show j.toNat < L.length by omega)]; exact List.getElem_mem _
    have hkd := hT.kind t htm
    rw [hdr] at hrun
    unfold runS at hrun
    refine RWL.seq (RWL.block ?_)
    refine RWL.seq (RWL.of (RWP.of tabOk orders ?_))
    repeat' ((conv => whnf); (first
    | (with_reducible first | refine Spl.yes ?_ | refine Spl.no ?_ | refine Spl.dec (fun h => ?_) (fun h => ?_) | refine Spl.eq (fun h => ?_) (fun h => ?_) | refine Spl.ne (fun h => ?_) (fun h => ?_) | refine Spl.seq (fun h => ?_) (fun h => ?_) | refine Spl.not ?_ | refine Spl.any (fun h => ?_) (fun h => ?_))
    | (rw [htk])
    | refine And.intro (Nat.le_of_ble_eq_true rfl) ?_
    | ((with_reducible apply And.intro); first | omega | rfl | (dsimp only; omega))))
    all_goals (conv => whnf)
    refine RWL.seq (RWL.of (RWP.of tabOk orders ?_))
    repeat' ((conv => whnf); (first
    | (with_reducible first | refine Spl.yes ?_ | refine Spl.no ?_ | refine Spl.dec (fun h => ?_) (fun h => ?_) | refine Spl.eq (fun h => ?_) (fun h => ?_) | refine Spl.ne (fun h => ?_) (fun h => ?_) | refine Spl.seq (fun h => ?_) (fun h => ?_) | refine Spl.not ?_ | refine Spl.any (fun h => ?_) (fun h => ?_))
    | (rw [htop])
    | ((with_reducible apply And.intro); first | omega | rfl | (dsimp only; omega))))
    all_goals (conv => whnf)
    refine RWL.cv (Cv.valPtr 12 rfl (Cv.wk (Wk.narrow _ [0, 1, 4, 7, 8, 9, 11, 12, 19, 20, 21] [1000000, 4, 7, 11] [8, 1000001, 1000002, 1000003]) (Cv.here ?_)))
    refine RWL.seq (RWL.of (RWP.of tabOk orders ?_))
    conv => whnf
    refine RWL.block ?_
    refine RWL.seq (RWL.of (RWP.of tabOk orders ?_))
    conv => whnf
    refine RWL.cond ?_
    conv => whnf
    refine Spl.eq (fun h7 => ?_) (fun h7 => ?_)
    · rw [if_pos h7] at hrun
      have hend := end_h ⟨op, none, alts, items, fixed⟩ (by simp only; omega) (by simp only; omega)
      refine RWL.of (RWP.of tabOk orders ?_)
      conv => whnf
      (refine HQ.use (hend) ⟨id, id, id⟩ ⟨rfl, rfl⟩ rfl rfl (by first | exact ⟨⟨rfl, rfl⟩, trivial⟩ | exact ⟨⟨rfl, rfl⟩, ⟨rfl, rfl⟩, trivial⟩) (by first | exact trivial | exact ⟨⟨rfl, rfl⟩, trivial⟩ | exact ⟨⟨rfl, rfl⟩, ⟨rfl, rfl⟩, trivial⟩ | exact ⟨⟨rfl, rfl⟩, ⟨rfl, rfl⟩, ⟨rfl, rfl⟩, trivial⟩) (by first | exact trivial | exact ⟨⟨rfl, rfl⟩, trivial⟩) ?_; rintro _ _ ⟨rfl, rfl⟩; refine ⟨⟨rfl, rfl, rfl⟩, ?_⟩)
      conv => whnf
      refine RWL.of (RWP.of tabOk orders ?_)
      repeat' ((conv => whnf); (first
    | (with_reducible first | refine Spl.yes ?_ | refine Spl.no ?_ | refine Spl.dec (fun h => ?_) (fun h => ?_) | refine Spl.eq (fun h => ?_) (fun h => ?_) | refine Spl.ne (fun h => ?_) (fun h => ?_) | refine Spl.seq (fun h => ?_) (fun h => ?_) | refine Spl.not ?_ | refine Spl.any (fun h => ?_) (fun h => ?_))
    | ((with_reducible apply And.intro); first | omega | rfl | (dsimp only; omega))))
      all_goals (conv => whnf)
      refine Cv.wk (Wk.narrow _ [0, 1, 4, 7, 8, 9, 19, 20, 21] [1000000, 4, 7] [8, 1000001, 1000002, 1000003]) (Cv.here ⟨(L.length - (j + 1)).toNat, by omega, b0, endL ⟨op, none, alts, items, fixed⟩, lv, j + 1, rfl, rfl, by omega, by omega, rfl, hrun, by simp [endL]; omega, fun p hp => by have := hszl p hp; omega, hdep⟩)
    rw [if_neg h7] at hrun
    refine RWL.seq (RWL.of (RWP.of tabOk orders ?_))
    conv => whnf
    refine RWL.cond ?_
    conv => whnf
    refine Spl.eq (fun h9 => ?_) (fun h9 => ?_)
    · rw [if_pos h9] at hrun
      have hqu := quantV_h ⟨op, none, alts, items, fixed⟩ t (by simp only; omega)
      have hqe : (quantV ⟨op, none, alts, items, fixed⟩ t).1 = true → ∃ A x, items = A ++ [x] ∧ quantV ⟨op, none, alts, items, fixed⟩ t = (true, ⟨op, none, alts, A ++ [repN t x], true⟩) := by
        intro q
        unfold quantV at q ⊢
        simp only at q ⊢
        split at q
        · cases q
        · rename_i hf
          rw [if_neg hf]
          split at q
          · cases q
          · rename_i x hx
            have hne : items ≠ [] := fun e => by rw [e] at hx; cases hx
            obtain ⟨A, y, rfl⟩ : ∃ A y, items = A ++ [y] := by
              rcases List.eq_nil_or_concat items with h | ⟨A, y, h⟩
              · exact absurd h hne
              · exact ⟨A, y, by simpa using h⟩
            have : y = x := by simpa using hx
            subst this
            exact ⟨A, y, rfl, by simp [hx]⟩
      have hqf : (quantV ⟨op, none, alts, items, fixed⟩ t).1 = false → quantV ⟨op, none, alts, items, fixed⟩ t = (false, ⟨op, none, alts, items, fixed⟩) := by
        intro q
        unfold quantV at q ⊢
        simp only at q ⊢
        split at q
        · rename_i hf; rw [if_pos hf]
        · rename_i hf
          rw [if_neg hf]
          split at q
          · rename_i hx; simp [hx]
          · cases q
      cases hqb : (quantV ⟨op, none, alts, items, fixed⟩ t).1 with
      | true =>
        obtain ⟨A, x, hA, hqv⟩ := hqe hqb
        subst hA
        rw [hqv] at hrun hqu
        rw [if_pos rfl] at hrun
        simp only at hrun hqu
        refine RWL.seq (RWL.of (RWP.of tabOk orders ?_))
        conv => whnf
        (refine HQ.use (hqu) ⟨id, id, id⟩ ⟨rfl, rfl⟩ rfl rfl (by first | exact ⟨⟨rfl, rfl⟩, trivial⟩ | exact ⟨⟨rfl, rfl⟩, ⟨rfl, rfl⟩, trivial⟩) (by first | exact trivial | exact ⟨⟨rfl, rfl⟩, trivial⟩ | exact ⟨⟨rfl, rfl⟩, ⟨rfl, rfl⟩, trivial⟩ | exact ⟨⟨rfl, rfl⟩, ⟨rfl, rfl⟩, ⟨rfl, rfl⟩, trivial⟩) (by first | exact trivial | exact ⟨⟨rfl, rfl⟩, trivial⟩) ?_; rintro _ _ ⟨rfl, rfl⟩; refine ⟨⟨rfl, rfl, rfl⟩, ?_⟩)
        repeat' ((conv => whnf); (first
    | (with_reducible first | refine Spl.yes ?_ | refine Spl.no ?_ | refine Spl.dec (fun h => ?_) (fun h => ?_) | refine Spl.eq (fun h => ?_) (fun h => ?_) | refine Spl.ne (fun h => ?_) (fun h => ?_) | refine Spl.seq (fun h => ?_) (fun h => ?_) | refine Spl.not ?_ | refine Spl.any (fun h => ?_) (fun h => ?_))
    | ((with_reducible apply And.intro); first | omega | rfl | (dsimp only; omega))))
        all_goals (conv => whnf)
        refine RWL.cond ?_
        conv => whnf
        refine Spl.no ?_
        refine RWL.skip ?_
        conv => whnf
        refine RWL.of (RWP.of tabOk orders ?_)
        repeat' ((conv => whnf); (first
    | (with_reducible first | refine Spl.yes ?_ | refine Spl.no ?_ | refine Spl.dec (fun h => ?_) (fun h => ?_) | refine Spl.eq (fun h => ?_) (fun h => ?_) | refine Spl.ne (fun h => ?_) (fun h => ?_) | refine Spl.seq (fun h => ?_) (fun h => ?_) | refine Spl.not ?_ | refine Spl.any (fun h => ?_) (fun h => ?_))
    | ((with_reducible apply And.intro); first | omega | rfl | (dsimp only; omega))))
        all_goals (conv => whnf)
        refine Cv.wk (Wk.narrow _ [0, 1, 4, 7, 8, 9, 19, 20, 21] [1000000, 4, 7] [8, 1000001, 1000002, 1000003]) (Cv.here ⟨(L.length - (j + 1)).toNat, by omega, b0, ⟨op, none, alts, A ++ [repN t x], true⟩, lv, j + 1, rfl, rfl, by omega, by omega, rfl, hrun, by simp at hszv ⊢; omega, fun p hp => by have := hszl p hp; omega, hdep⟩)
      | false =>
        have hqv := hqf hqb
        rw [hqv] at hrun hqu
        rw [if_neg (by simp)] at hrun
        simp only at hqu
        subst hrun
        refine RWL.seq (RWL.of (RWP.of tabOk orders ?_))
        conv => whnf
        (refine HQ.use (hqu) ⟨id, id, id⟩ ⟨rfl, rfl⟩ rfl rfl (by first | exact ⟨⟨rfl, rfl⟩, trivial⟩ | exact ⟨⟨rfl, rfl⟩, ⟨rfl, rfl⟩, trivial⟩) (by first | exact trivial | exact ⟨⟨rfl, rfl⟩, trivial⟩ | exact ⟨⟨rfl, rfl⟩, ⟨rfl, rfl⟩, trivial⟩ | exact ⟨⟨rfl, rfl⟩, ⟨rfl, rfl⟩, ⟨rfl, rfl⟩, trivial⟩) (by first | exact trivial | exact ⟨⟨rfl, rfl⟩, trivial⟩) ?_; rintro _ _ ⟨rfl, rfl⟩; refine ⟨⟨rfl, rfl, rfl⟩, ?_⟩)
        repeat' ((conv => whnf); (first
    | (with_reducible first | refine Spl.yes ?_ | refine Spl.no ?_ | refine Spl.dec (fun h => ?_) (fun h => ?_) | refine Spl.eq (fun h => ?_) (fun h => ?_) | refine Spl.ne (fun h => ?_) (fun h => ?_) | refine Spl.seq (fun h => ?_) (fun h => ?_) | refine Spl.not ?_ | refine Spl.any (fun h => ?_) (fun h => ?_))
    | ((with_reducible apply And.intro); first | omega | rfl | (dsimp only; omega))))
        all_goals (conv => whnf)
        refine RWL.cond ?_
        conv => whnf
        refine Spl.yes ?_
        refine RWL.seq (RWL.of (RWP.callT (t := 90) (f := 55) tabOk 3 rfl ⟨rfl, rfl, rfl⟩ ?_))
        conv => whnf
        refine ⟨rfl, ?_⟩
        repeat' ((conv => whnf); (first
    | (with_reducible first | refine Spl.yes ?_ | refine Spl.no ?_ | refine Spl.dec (fun h => ?_) (fun h => ?_) | refine Spl.eq (fun h => ?_) (fun h => ?_) | refine Spl.ne (fun h => ?_) (fun h => ?_) | refine Spl.seq (fun h => ?_) (fun h => ?_) | refine Spl.not ?_ | refine Spl.any (fun h => ?_) (fun h => ?_))
    | (refine VCalls.mono (fail39_c 30 t.at_) ?_; rintro _ rfl)
    | ((with_reducible apply And.intro); first | omega | rfl | (dsimp only; omega))))
        all_goals (conv => whnf)
        refine RWL.ret ?_
        conv => whnf
        refine ⟨_, Wk.narrow _ [4, 5, 6] [4] [], rfl, ?_⟩
        conv => whnf
        exact rfl
    rw [if_neg h9] at hrun
    refine RWL.seq (RWL.of (RWP.of tabOk orders ?_))
    conv => whnf
    refine RWL.cond ?_
    conv => whnf
    refine Spl.eq (fun h10 => ?_) (fun h10 => ?_)
    · rw [if_pos h10] at hrun
      refine RWL.seq (RWL.seq (RWL.of (RWP.of tabOk orders ?_)))
      conv => whnf
      refine RWL.cond ?_
      conv => whnf
      refine Spl.dec (fun hgt => ?_) (fun hle => ?_)
      · have hgt' : ((rowsP (bt :: lv.map Prod.fst)).length : Int) > 40 := hgt
        rw [if_pos (by simp only [List.length_map]; omega)] at hrun
        subst hrun
        refine RWL.seq (RWL.of (RWP.callT (t := 102) (f := 55) tabOk 3 rfl ⟨rfl, rfl, rfl⟩ ?_))
        conv => whnf
        refine ⟨rfl, ?_⟩
        repeat' ((conv => whnf); (first
    | (with_reducible first | refine Spl.yes ?_ | refine Spl.no ?_ | refine Spl.dec (fun h => ?_) (fun h => ?_) | refine Spl.eq (fun h => ?_) (fun h => ?_) | refine Spl.ne (fun h => ?_) (fun h => ?_) | refine Spl.seq (fun h => ?_) (fun h => ?_) | refine Spl.not ?_ | refine Spl.any (fun h => ?_) (fun h => ?_))
    | (refine VCalls.mono (fail39_c 11 t.at_) ?_; rintro _ rfl)
    | ((with_reducible apply And.intro); first | omega | rfl | (dsimp only; omega))))
        all_goals (conv => whnf)
        refine RWL.ret ?_
        conv => whnf
        refine ⟨_, Wk.narrow _ [4, 5, 6] [4] [], rfl, ?_⟩
        conv => whnf
        exact rfl
      · refine RWL.skip ?_
        conv => whnf
        have hle' : ¬ ((rowsP (bt :: lv.map Prod.fst)).length : Int) > 40 := hle
        rw [if_neg (by simp only [List.length_map]; omega)] at hrun
        refine RWL.mid tabOk 4 ?_
        repeat' ((conv => whnf); (first
    | (with_reducible first | refine Spl.yes ?_ | refine Spl.no ?_ | refine Spl.dec (fun h => ?_) (fun h => ?_) | refine Spl.eq (fun h => ?_) (fun h => ?_) | refine Spl.ne (fun h => ?_) (fun h => ?_) | refine Spl.seq (fun h => ?_) (fun h => ?_) | refine Spl.not ?_ | refine Spl.any (fun h => ?_) (fun h => ?_))
    | refine And.intro (Nat.le_of_ble_eq_true rfl) ?_
    | ((with_reducible apply And.intro); first | omega | rfl | (dsimp only; omega))))
        all_goals (conv => whnf)
        refine Cv.wk (Wk.narrow _ [0, 1, 4, 7, 8, 9, 19, 20, 21, 109, 112] [1000000, 4, 7, 112] [8, 1000001, 1000002, 1000003]) ?_
        refine Cv.push ⟨177, [(0, .pv (.sl 12 (tk L))), (1, .pv (iv en)), (4, .ptr 4 0), (7, .ptr 7 0), (8, .own 8), (9, .pv funcV), (19, .pv (.sl 12 (tk L))), (20, .pv (iv (tk L).length)), (21, .pv (iv j)), (109, .own 8), (112, .ptr 112 0)],
            [(4, (27, [.pv (iv 0), .pv (iv 0), .pv (iv 0), .pv (.val nilV), .pv (bv false), .pv (iv 0), .pv (iv 0), .pv (iv 0), .pv (sv (bs [])), .pv (iv 0), .pv (iv 0), .pv (.val nilV)])), (7, (92, kindsF)), (112, (96, [.pv (iv t.kind), .pv (iv t.at_), .pv (iv t.to), .pv (iv t.c), .pv (rs t.set), .pv (bv t.neg), .pv (iv t.n), .pv (iv t.m), .pv (iv t.mode), .pv (sv t.name), .pv (iv t.on), .pv (iv t.off), .pv (.val nilV), .pv (.val nilV), .pv (.val nilV), .pv (bv false)]))], [(8, ⟨1, 94, true, rowsP (bt :: lv.map Prod.fst)⟩)], []⟩ (HLv ⟨op, none, alts, items, fixed⟩) 112 (96, [.pv (iv t.kind), .pv (iv t.at_), .pv (iv t.to), .pv (iv t.c), .pv (rs t.set), .pv (bv t.neg), .pv (iv t.n), .pv (iv t.m), .pv (iv t.mode), .pv (sv t.name), .pv (iv t.on), .pv (iv t.off), .pv (.val nilV), .pv (.val nilV), .pv (.val nilV), .pv (bv false)])
          ⟨rfl, fun _ _ q => q, fun _ _ q => look_skip rfl q, fun _ _ q => look_first q, rfl⟩ (fun _ _ q => look_first q) (fun _ _ q => look_skip rfl q) rfl rfl ⟨rfl, rfl, rfl⟩ rfl (fun b => ?_)
        refine Cv.ptrVal 112 rfl ?_
        refine Cv.wk (Wk.boxNil (s := 1000000) (i := 13) (k := 1000002) (sz := 12) (e := 27) (T := 96) (cs := [.pv (iv t.kind), .pv (iv t.at_), .pv (iv t.to), .pv (iv t.c), .pv (rs t.set), .pv (bv t.neg), .pv (iv t.n), .pv (iv t.m), .pv (iv t.mode), .pv (sv t.name), .pv (iv t.on), .pv (iv t.off), .pv (.val nilV), .pv (.val nilV), .pv (.val nilV), .pv (bv false)]) rfl rfl) ?_
        refine Cv.wk (Wk.boxNil (s := 1000000) (i := 14) (k := 1000003) (sz := 12) (e := 27) (T := 96) (cs := [.pv (iv t.kind), .pv (iv t.at_), .pv (iv t.to), .pv (iv t.c), .pv (rs t.set), .pv (bv t.neg), .pv (iv t.n), .pv (iv t.m), .pv (iv t.mode), .pv (sv t.name), .pv (iv t.on), .pv (iv t.off), .pv (.val nilV), .own 1000002, .pv (.val nilV), .pv (bv false)]) rfl rfl) ?_
        refine Cv.here ?_
        repeat' ((conv => whnf); (first
    | (with_reducible first | refine Spl.yes ?_ | refine Spl.no ?_ | refine Spl.dec (fun h => ?_) (fun h => ?_) | refine Spl.eq (fun h => ?_) (fun h => ?_) | refine Spl.ne (fun h => ?_) (fun h => ?_) | refine Spl.seq (fun h => ?_) (fun h => ?_) | refine Spl.not ?_ | refine Spl.any (fun h => ?_) (fun h => ?_))
    | refine And.intro (by show ((rowsP (bt :: lv.map Prod.fst)).length + 1) * 8 ≤ 140737488355328; omega) ?_
    | ((with_reducible apply And.intro); first | omega | rfl | (dsimp only; omega))))
        all_goals (conv => whnf)
        refine RWL.of (RWP.of tabOk orders ?_)
        repeat' ((conv => whnf); (first
    | (with_reducible first | refine Spl.yes ?_ | refine Spl.no ?_ | refine Spl.dec (fun h => ?_) (fun h => ?_) | refine Spl.eq (fun h => ?_) (fun h => ?_) | refine Spl.ne (fun h => ?_) (fun h => ?_) | refine Spl.seq (fun h => ?_) (fun h => ?_) | refine Spl.not ?_ | refine Spl.any (fun h => ?_) (fun h => ?_))
    | ((with_reducible apply And.intro); first | omega | rfl | (dsimp only; omega))))
        all_goals (conv => whnf)
        refine Cv.wk (Wk.trans (Wk.rn 114 8 rfl rfl) (Wk.trans (Wk.narrow _ [0, 1, 4, 7, 8, 9, 19, 20, 21] [1000000, 4, 7] [8, 1000001, 1000002, 1000003]) (Wk.eq (Eq.trans (b := stX L en (rowsP (bt :: lv.map Prod.fst) ++ [[SV.val (.pointer (some ⟨b, 0, none⟩))]]) (levO t) (j + 1)) rfl (congrArg (fun X => stX L en X (levO t) (j + 1)) (rowsP_push b (bt :: lv.map Prod.fst))))))) (Cv.here
          ⟨(L.length - (j + 1)).toNat, by omega, b0, levO t, (bt, ⟨op, none, alts, items, fixed⟩) :: lv, j + 1, rfl, rfl, by omega, by omega, rfl, hrun, by simp [levO]; omega, fun p hp => by
            rcases List.mem_cons.1 hp with rfl | hp
            · simp only; omega
            · have := hszl p hp; omega, by simp only [List.length_cons]; omega⟩)
    rw [if_neg h10] at hrun
    refine RWL.seq (RWL.of (RWP.of tabOk orders ?_))
    conv => whnf
    refine RWL.cond ?_
    conv => whnf
    refine Spl.eq (fun h8 => ?_) (fun h8 => ?_)
    · rw [if_pos h8] at hrun
      refine RWL.seq (RWL.seq (RWL.of (RWP.of tabOk orders ?_)))
      conv => whnf
      refine RWL.cond ?_
      conv => whnf
      refine Spl.eq (fun h1 => ?_) (fun h1 => ?_)
      · have h1' : ((rowsP (bt :: lv.map Prod.fst)).length : Int) = 1 := h1
        have hlv0 : lv = [] := List.eq_nil_of_length_eq_zero (by omega)
        subst hlv0
        simp only [List.map_nil] at hrun
        subst hrun
        refine RWL.seq (RWL.of (RWP.callT (t := 120) (f := 55) tabOk 3 rfl ⟨rfl, rfl, rfl⟩ ?_))
        conv => whnf
        refine ⟨rfl, ?_⟩
        repeat' ((conv => whnf); (first
    | (with_reducible first | refine Spl.yes ?_ | refine Spl.no ?_ | refine Spl.dec (fun h => ?_) (fun h => ?_) | refine Spl.eq (fun h => ?_) (fun h => ?_) | refine Spl.ne (fun h => ?_) (fun h => ?_) | refine Spl.seq (fun h => ?_) (fun h => ?_) | refine Spl.not ?_ | refine Spl.any (fun h => ?_) (fun h => ?_))
    | (refine VCalls.mono (fail39_c 31 t.at_) ?_; rintro _ rfl)
    | ((with_reducible apply And.intro); first | omega | rfl | (dsimp only; omega))))
        all_goals (conv => whnf)
        refine RWL.ret ?_
        conv => whnf
        refine ⟨_, Wk.narrow _ [4, 5, 6] [4] [], rfl, ?_⟩
        conv => whnf
        exact rfl
      · have h1' : ¬ ((rowsP (bt :: lv.map Prod.fst)).length : Int) = 1 := h1
        refine RWL.skip ?_
        conv => whnf
        obtain ⟨⟨b', u⟩, lv, rfl⟩ : ∃ p l, lv = p :: l := by
          cases lv with
          | nil => simp only [List.length_nil] at hrl; omega
          | cons p l => exact ⟨p, l, rfl⟩
        simp only [List.map_cons] at hrun
        have hdep' : lv.length ≤ 39 := by simp only [List.length_cons] at hdep; omega
        have hu := hszl (b', u) (List.mem_cons_self ..)
        simp only at hu
        have htop2 := rowsP_top b' (lv.map Prod.fst)
        have hpop := rowsP_pop bt (b' :: lv.map Prod.fst)
        have hrl2 : (rowsP (b' :: lv.map Prod.fst)).length = lv.length + 1 := by rw [rowsP_len]; simp
        have hend := end_h ⟨op, none, alts, items, fixed⟩ (by simp only; omega) (by simp only; omega)
        have hmade := made_h (endL ⟨op, none, alts, items, fixed⟩) (by simp [endL]; omega)
        obtain ⟨nm, bm, hm⟩ : ∃ n b, madeV (endL ⟨op, none, alts, items, fixed⟩) = (n, b) := ⟨_, _, rfl⟩
        have hat : nm.f.at_ = op.at_ := by
          have : nm = (madeV (endL ⟨op, none, alts, items, fixed⟩)).1 := by rw [hm]
          rw [this]
          exact made_at _
        rw [hm] at hmade hrun
        obtain ⟨fm, km⟩ := nm
        simp only at hmade hrun
        have hat : fm.at_ = op.at_ := hat
        refine RWL.seq (RWL.of (RWP.of tabOk orders ?_))
        conv => whnf
        (refine HQ.use (hend) ⟨id, id, id⟩ ⟨rfl, rfl⟩ rfl rfl (by first | exact ⟨⟨rfl, rfl⟩, trivial⟩ | exact ⟨⟨rfl, rfl⟩, ⟨rfl, rfl⟩, trivial⟩) (by first | exact trivial | exact ⟨⟨rfl, rfl⟩, trivial⟩ | exact ⟨⟨rfl, rfl⟩, ⟨rfl, rfl⟩, trivial⟩ | exact ⟨⟨rfl, rfl⟩, ⟨rfl, rfl⟩, ⟨rfl, rfl⟩, trivial⟩) (by first | exact trivial | exact ⟨⟨rfl, rfl⟩, trivial⟩) ?_; rintro _ _ ⟨rfl, rfl⟩; refine ⟨⟨rfl, rfl, rfl⟩, ?_⟩)
        conv => whnf
        refine RWL.seq (RWL.of (RWP.of tabOk orders ?_))
        conv => whnf
        (refine HQ.use (hmade) ⟨id, id, id⟩ ⟨rfl, rfl⟩ rfl rfl (by first | exact ⟨⟨rfl, rfl⟩, trivial⟩ | exact ⟨⟨rfl, rfl⟩, ⟨rfl, rfl⟩, trivial⟩) (by first | exact trivial | exact ⟨⟨rfl, rfl⟩, trivial⟩ | exact ⟨⟨rfl, rfl⟩, ⟨rfl, rfl⟩, trivial⟩ | exact ⟨⟨rfl, rfl⟩, ⟨rfl, rfl⟩, ⟨rfl, rfl⟩, trivial⟩) (by first | exact trivial | exact ⟨⟨rfl, rfl⟩, trivial⟩) ?_; rintro _ _ ⟨rfl, rfl⟩; refine ⟨⟨rfl, rfl, rfl⟩, ?_⟩)
        repeat' ((conv => whnf); (first
    | (with_reducible first | refine Spl.yes ?_ | refine Spl.no ?_ | refine Spl.dec (fun h => ?_) (fun h => ?_) | refine Spl.eq (fun h => ?_) (fun h => ?_) | refine Spl.ne (fun h => ?_) (fun h => ?_) | refine Spl.seq (fun h => ?_) (fun h => ?_) | refine Spl.not ?_ | refine Spl.any (fun h => ?_) (fun h => ?_))
    | refine And.intro (Nat.le_of_ble_eq_true rfl) ?_
    | ((with_reducible apply And.intro); first | omega | rfl | (dsimp only; omega))))
        all_goals (conv => whnf)
        refine RWL.seq (RWL.seq (RWL.of (RWP.of tabOk orders ?_)))
        conv => whnf
        refine RWL.cond ?_
        conv => whnf
        cases bm with
        | false =>
          rw [if_neg (by simp)] at hrun
          rw [← hat] at hrun
          subst hrun
          refine Spl.yes ?_
          refine RWL.seq (RWL.of (RWP.callT (t := 136) (f := 55) tabOk 3 rfl ⟨rfl, rfl, rfl⟩ ?_))
          conv => whnf
          refine ⟨rfl, ?_⟩
          repeat' ((conv => whnf); (first
    | (with_reducible first | refine Spl.yes ?_ | refine Spl.no ?_ | refine Spl.dec (fun h => ?_) (fun h => ?_) | refine Spl.eq (fun h => ?_) (fun h => ?_) | refine Spl.ne (fun h => ?_) (fun h => ?_) | refine Spl.seq (fun h => ?_) (fun h => ?_) | refine Spl.not ?_ | refine Spl.any (fun h => ?_) (fun h => ?_))
    | (refine VCalls.mono (fail39_c 32 fm.at_) ?_; rintro _ rfl)
    | ((with_reducible apply And.intro); first | omega | rfl | (dsimp only; omega))))
          all_goals (conv => whnf)
          refine RWL.ret ?_
          conv => whnf
          refine ⟨_, Wk.narrow _ [4, 5, 6] [4] [], rfl, ?_⟩
          conv => whnf
          exact rfl
        | true =>
          rw [if_pos rfl] at hrun
          refine Spl.no ?_
          refine RWL.skip ?_
          conv => whnf
          refine RWL.seq (RWL.of (RWP.cutOwn (t := 97) (x := 143) (y := 146) (d := 147) tabOk 4 rfl ⟨rfl, rfl, rfl⟩ ?_))
          repeat' ((conv => whnf); (first
    | (with_reducible first | refine Spl.yes ?_ | refine Spl.no ?_ | refine Spl.dec (fun h => ?_) (fun h => ?_) | refine Spl.eq (fun h => ?_) (fun h => ?_) | refine Spl.ne (fun h => ?_) (fun h => ?_) | refine Spl.seq (fun h => ?_) (fun h => ?_) | refine Spl.not ?_ | refine Spl.any (fun h => ?_) (fun h => ?_))
    | refine And.intro (by show (0 : Int) < ((rowsP (bt :: b' :: lv.map Prod.fst)).length : Int) - 1 ∧ ((rowsP (bt :: b' :: lv.map Prod.fst)).length : Int) - 1 ≤ ((rowsP (bt :: b' :: lv.map Prod.fst)).length : Int); simp only [List.map_cons] at hrl; simp only [List.length_cons] at hrl; omega) ?_
    | ((with_reducible apply And.intro); first | omega | rfl | (dsimp only; omega))))
          all_goals (conv => whnf)
          refine RWL.cv (Cv.wk (Wk.trans (Wk.narrow _ [0, 1, 4, 7, 8, 9, 13, 19, 20, 21] [4, 7, 13] [147]) (Wk.eq (Eq.trans rfl (congrArg (fun X => (⟨177, [(0, .pv (.sl 12 (tk L))), (1, .pv (iv en)), (4, .ptr 4 0), (7, .ptr 7 0), (8, .own 147), (9, .pv funcV), (13, .ptr 13 0), (19, .pv (.sl 12 (tk L))), (20, .pv (iv (tk L).length)), (21, .pv (iv j))], [(4, (27, [.pv (iv 0), .pv (iv 0), .pv (iv 0), .pv (.val nilV), .pv (bv false), .pv (iv 0), .pv (iv 0), .pv (iv 0), .pv (sv (bs [])), .pv (iv 0), .pv (iv 0), .pv (.val nilV)])), (7, (92, kindsF)), (13, (27, [.pv (iv fm.kind), .pv (iv fm.at_), .pv (iv fm.c), .pv (rs fm.set), .pv (bv fm.neg), .pv (iv fm.n), .pv (iv fm.m), .pv (iv fm.mode), .pv (sv fm.name), .pv (iv fm.on), .pv (iv fm.off), .pv (.sl 12 (rowsN km))]))], [(147, ⟨1, 94, true, X⟩)], []⟩ : St)) hpop)))) (Cv.pop rfl (Cv.here ?_)))
          obtain ⟨uop, ulk, ualts, uitems, ufixed⟩ := u
          simp only at hu
          cases ulk with
          | none =>
            by_cases hu13 : uop.n = 13
            · have hae : addV ⟨uop, none, ualts, uitems, ufixed⟩ (Node.mk fm km) = ⟨uop, some (Node.mk fm km), ualts, uitems, true⟩ := by unfold addV; rw [if_pos ⟨hu13, rfl⟩]
              have hadd := add_look uop ualts uitems ufixed (Node.mk fm km) hu13
              rw [hae] at hrun
              refine RWL.midD tabOk orders [0, 1, 2, 3, 4, 5, 6] (.ofList [7]) (by decide +kernel) ?_
              repeat' ((conv => whnf); (first
    | (with_reducible first | refine Spl.yes ?_ | refine Spl.no ?_ | refine Spl.dec (fun h => ?_) (fun h => ?_) | refine Spl.eq (fun h => ?_) (fun h => ?_) | refine Spl.ne (fun h => ?_) (fun h => ?_) | refine Spl.seq (fun h => ?_) (fun h => ?_) | refine Spl.not ?_ | refine Spl.any (fun h => ?_) (fun h => ?_))
    | (rw [htop2])
    | refine And.intro (Nat.le_of_ble_eq_true rfl) ?_
    | ((with_reducible apply And.intro); first | omega | rfl | (dsimp only; omega))))
              all_goals (conv => whnf)
              refine Cv.valPtr 153 rfl (Cv.wk (Wk.addNil 1000001 12 27) (Cv.here ?_))
              conv => whnf
              (refine HQ.use (hadd) ⟨id, id, id⟩ ⟨rfl, rfl⟩ rfl rfl (by first | exact ⟨⟨rfl, rfl⟩, trivial⟩ | exact ⟨⟨rfl, rfl⟩, ⟨rfl, rfl⟩, trivial⟩) (by first | exact trivial | exact ⟨⟨rfl, rfl⟩, trivial⟩ | exact ⟨⟨rfl, rfl⟩, ⟨rfl, rfl⟩, trivial⟩ | exact ⟨⟨rfl, rfl⟩, ⟨rfl, rfl⟩, ⟨rfl, rfl⟩, trivial⟩) (by first | exact trivial | exact ⟨⟨rfl, rfl⟩, trivial⟩) ?_; rintro _ _ ⟨rfl, rfl⟩; refine ⟨⟨rfl, rfl, rfl⟩, ?_⟩)
              conv => whnf
              refine RWL.of (RWP.of tabOk orders ?_)
              repeat' ((conv => whnf); (first
    | (with_reducible first | refine Spl.yes ?_ | refine Spl.no ?_ | refine Spl.dec (fun h => ?_) (fun h => ?_) | refine Spl.eq (fun h => ?_) (fun h => ?_) | refine Spl.ne (fun h => ?_) (fun h => ?_) | refine Spl.seq (fun h => ?_) (fun h => ?_) | refine Spl.not ?_ | refine Spl.any (fun h => ?_) (fun h => ?_))
    | ((with_reducible apply And.intro); first | omega | rfl | (dsimp only; omega))))
              all_goals (conv => whnf)
              refine Cv.wk (Wk.trans (Wk.rn 147 8 rfl rfl) (Wk.narrow _ [0, 1, 4, 7, 8, 9, 19, 20, 21] [1000000, 4, 7] [8, 1000001, 1000002, 1000003])) (Cv.here
                ⟨(L.length - (j + 1)).toNat, by omega, b0, ⟨uop, some (Node.mk fm km), ualts, uitems, true⟩, lv, j + 1, rfl, rfl, by omega, by omega, rfl, hrun, by simp; omega, fun p hp => by have := hszl p (List.mem_cons_of_mem _ hp); omega, by simp only [List.length_cons] at hdep; omega⟩)
            · have hae : addV ⟨uop, none, ualts, uitems, ufixed⟩ (Node.mk fm km) = ⟨uop, none, ualts, uitems ++ [Node.mk fm km], fixK fm.kind⟩ := by unfold addV; rw [if_neg (fun q => hu13 q.1)]; rfl
              have hadd := addV_h ⟨uop, none, ualts, uitems, ufixed⟩ (Node.mk fm km) (by simp only; omega)
              rw [hae] at hadd hrun
              refine RWL.midD tabOk orders [0, 1, 2, 3, 4, 5, 6] (.ofList [7]) (by decide +kernel) ?_
              repeat' ((conv => whnf); (first
    | (with_reducible first | refine Spl.yes ?_ | refine Spl.no ?_ | refine Spl.dec (fun h => ?_) (fun h => ?_) | refine Spl.eq (fun h => ?_) (fun h => ?_) | refine Spl.ne (fun h => ?_) (fun h => ?_) | refine Spl.seq (fun h => ?_) (fun h => ?_) | refine Spl.not ?_ | refine Spl.any (fun h => ?_) (fun h => ?_))
    | (rw [htop2])
    | refine And.intro (Nat.le_of_ble_eq_true rfl) ?_
    | ((with_reducible apply And.intro); first | omega | rfl | (dsimp only; omega))))
              all_goals (conv => whnf)
              refine Cv.valPtr 153 rfl (Cv.here ?_)
              conv => whnf
              (refine HQ.use (hadd) ⟨id, id, id⟩ ⟨rfl, rfl⟩ rfl rfl (by first | exact ⟨⟨rfl, rfl⟩, trivial⟩ | exact ⟨⟨rfl, rfl⟩, ⟨rfl, rfl⟩, trivial⟩) (by first | exact trivial | exact ⟨⟨rfl, rfl⟩, trivial⟩ | exact ⟨⟨rfl, rfl⟩, ⟨rfl, rfl⟩, trivial⟩ | exact ⟨⟨rfl, rfl⟩, ⟨rfl, rfl⟩, ⟨rfl, rfl⟩, trivial⟩) (by first | exact trivial | exact ⟨⟨rfl, rfl⟩, trivial⟩) ?_; rintro _ _ ⟨rfl, rfl⟩; refine ⟨⟨rfl, rfl, rfl⟩, ?_⟩)
              conv => whnf
              refine RWL.of (RWP.of tabOk orders ?_)
              repeat' ((conv => whnf); (first
    | (with_reducible first | refine Spl.yes ?_ | refine Spl.no ?_ | refine Spl.dec (fun h => ?_) (fun h => ?_) | refine Spl.eq (fun h => ?_) (fun h => ?_) | refine Spl.ne (fun h => ?_) (fun h => ?_) | refine Spl.seq (fun h => ?_) (fun h => ?_) | refine Spl.not ?_ | refine Spl.any (fun h => ?_) (fun h => ?_))
    | ((with_reducible apply And.intro); first | omega | rfl | (dsimp only; omega))))
              all_goals (conv => whnf)
              refine Cv.wk (Wk.trans (Wk.rn 147 8 rfl rfl) (Wk.narrow _ [0, 1, 4, 7, 8, 9, 19, 20, 21] [1000000, 4, 7] [8, 1000001, 1000002, 1000003])) (Cv.here
                ⟨(L.length - (j + 1)).toNat, by omega, b0, ⟨uop, none, ualts, uitems ++ [Node.mk fm km], fixK fm.kind⟩, lv, j + 1, rfl, rfl, by omega, by omega, rfl, hrun, by simp; omega, fun p hp => by have := hszl p (List.mem_cons_of_mem _ hp); omega, by simp only [List.length_cons] at hdep; omega⟩)
          | some ul =>
            have hae : addV ⟨uop, some ul, ualts, uitems, ufixed⟩ (Node.mk fm km) = ⟨uop, some ul, ualts, uitems ++ [Node.mk fm km], fixK fm.kind⟩ := by unfold addV; rw [if_neg (fun q => absurd q.2 (by simp))]; rfl
            have hadd := addV_h ⟨uop, some ul, ualts, uitems, ufixed⟩ (Node.mk fm km) (by simp only; omega)
            rw [hae] at hadd hrun
            refine RWL.midD tabOk orders [0, 1, 2, 3, 4, 5, 6] (.ofList [7]) (by decide +kernel) ?_
            repeat' ((conv => whnf); (first
    | (with_reducible first | refine Spl.yes ?_ | refine Spl.no ?_ | refine Spl.dec (fun h => ?_) (fun h => ?_) | refine Spl.eq (fun h => ?_) (fun h => ?_) | refine Spl.ne (fun h => ?_) (fun h => ?_) | refine Spl.seq (fun h => ?_) (fun h => ?_) | refine Spl.not ?_ | refine Spl.any (fun h => ?_) (fun h => ?_))
    | (rw [htop2])
    | refine And.intro (Nat.le_of_ble_eq_true rfl) ?_
    | ((with_reducible apply And.intro); first | omega | rfl | (dsimp only; omega))))
            all_goals (conv => whnf)
            refine Cv.valPtr 153 rfl (Cv.here ?_)
            conv => whnf
            (refine HQ.use (hadd) ⟨id, id, id⟩ ⟨rfl, rfl⟩ rfl rfl (by first | exact ⟨⟨rfl, rfl⟩, trivial⟩ | exact ⟨⟨rfl, rfl⟩, ⟨rfl, rfl⟩, trivial⟩) (by first | exact trivial | exact ⟨⟨rfl, rfl⟩, trivial⟩ | exact ⟨⟨rfl, rfl⟩, ⟨rfl, rfl⟩, trivial⟩ | exact ⟨⟨rfl, rfl⟩, ⟨rfl, rfl⟩, ⟨rfl, rfl⟩, trivial⟩) (by first | exact trivial | exact ⟨⟨rfl, rfl⟩, trivial⟩) ?_; rintro _ _ ⟨rfl, rfl⟩; refine ⟨⟨rfl, rfl, rfl⟩, ?_⟩)
            conv => whnf
            refine RWL.of (RWP.of tabOk orders ?_)
            repeat' ((conv => whnf); (first
    | (with_reducible first | refine Spl.yes ?_ | refine Spl.no ?_ | refine Spl.dec (fun h => ?_) (fun h => ?_) | refine Spl.eq (fun h => ?_) (fun h => ?_) | refine Spl.ne (fun h => ?_) (fun h => ?_) | refine Spl.seq (fun h => ?_) (fun h => ?_) | refine Spl.not ?_ | refine Spl.any (fun h => ?_) (fun h => ?_))
    | ((with_reducible apply And.intro); first | omega | rfl | (dsimp only; omega))))
            all_goals (conv => whnf)
            refine Cv.wk (Wk.trans (Wk.rn 147 8 rfl rfl) (Wk.narrow _ [0, 1, 4, 7, 8, 9, 19, 20, 21] [1000000, 4, 7] [8, 1000001, 1000002, 1000003])) (Cv.here
              ⟨(L.length - (j + 1)).toNat, by omega, b0, ⟨uop, some ul, ualts, uitems ++ [Node.mk fm km], fixK fm.kind⟩, lv, j + 1, rfl, rfl, by omega, by omega, rfl, hrun, by simp; omega, fun p hp => by have := hszl p (List.mem_cons_of_mem _ hp); omega, by simp only [List.length_cons] at hdep; omega⟩)
    rw [if_neg h8] at hrun
    have hkk := kinds_ok t hkd h7 h9 h10 h8
    refine RWL.seq (RWL.seq (RWL.of (RWP.hookL tabOk 11 ?_)))
    repeat' ((conv => whnf); (with_reducible first | refine Spl.yes ?_ | refine Spl.no ?_ | refine Spl.dec (fun h => ?_) (fun h => ?_) | refine Spl.not ?_))
    all_goals (conv => whnf)
    · exfalso; omega
    · exfalso; omega
    refine ⟨rfl, (by show 44 < 177; omega), .ptr 7 t.kind.toNat, hook_idx rfl rfl rfl ⟨by omega, by omega⟩, ?_⟩
    conv => whnf
    refine ⟨rfl, (by show 45 < 177; omega), .pv (.val (.int .i64 (leafK t.kind))), (by rw [← hkk.1]; exact hook_kind (n := t.kind) rfl rfl rfl ⟨by omega, by omega⟩), ?_⟩
    repeat' ((conv => whnf); (with_reducible first | refine Spl.yes ?_ | refine Spl.no ?_ | refine Spl.eq (fun h => ?_) (fun h => ?_)))
    conv => whnf
    refine RWL.cond ?_
    conv => whnf
    refine Spl.eq (fun h0 => absurd h0 hkk.2) (fun h0 => ?_)
    refine RWL.skip ?_
    conv => whnf
    by_cases hn13 : op.n = 13
    · rw [show addV ⟨op, none, alts, items, fixed⟩ (leafN t) = ⟨op, some (leafN t), alts, items, true⟩ by unfold addV; rw [if_pos ⟨hn13, rfl⟩]] at hrun
      have hadd := add_look op alts items fixed (leafN t) hn13
      refine RWL.cv (Cv.wk (Wk.addNil 1000001 12 27) (Cv.here ?_))
      refine RWL.of (RWP.hookD tabOk orders [0, 1, 2] 3 4 (.ofList [5, 6, 7, 8, 9, 10, 11, 12, 13, 14, 15, 16, 17, 18, 19, 20, 21, 22, 23, 24]) (by decide +kernel) ?_)
      conv => whnf
      refine ⟨trivial, (by show 58 < 177; omega), .ptr 7 t.kind.toNat, hook_idx rfl rfl rfl ⟨by omega, by omega⟩, ?_⟩
      conv => whnf
      refine ⟨trivial, (by show 59 < 177; omega), .pv (.val (.int .i64 (leafK t.kind))), (by rw [← hkk.1]; exact hook_kind (n := t.kind) rfl rfl rfl ⟨by omega, by omega⟩), ?_⟩
      repeat' ((conv => whnf); (first
    | (with_reducible first | refine Spl.yes ?_ | refine Spl.no ?_ | refine Spl.dec (fun h => ?_) (fun h => ?_) | refine Spl.eq (fun h => ?_) (fun h => ?_) | refine Spl.ne (fun h => ?_) (fun h => ?_) | refine Spl.seq (fun h => ?_) (fun h => ?_) | refine Spl.not ?_ | refine Spl.any (fun h => ?_) (fun h => ?_))
    | (refine HQ.use (hadd) ⟨id, id, id⟩ ⟨rfl, rfl⟩ rfl rfl (by first | exact ⟨⟨rfl, rfl⟩, trivial⟩ | exact ⟨⟨rfl, rfl⟩, ⟨rfl, rfl⟩, trivial⟩) (by first | exact trivial | exact ⟨⟨rfl, rfl⟩, trivial⟩ | exact ⟨⟨rfl, rfl⟩, ⟨rfl, rfl⟩, trivial⟩ | exact ⟨⟨rfl, rfl⟩, ⟨rfl, rfl⟩, ⟨rfl, rfl⟩, trivial⟩) (by first | exact trivial | exact ⟨⟨rfl, rfl⟩, trivial⟩) ?_; rintro _ _ ⟨rfl, rfl⟩; refine ⟨⟨rfl, rfl, rfl⟩, ?_⟩)
    | refine And.intro (Nat.le_of_ble_eq_true rfl) ?_
    | ((with_reducible apply And.intro); first | omega | rfl | (dsimp only; omega))))
      all_goals (conv => whnf)
      refine RWL.of (RWP.of tabOk orders ?_)
      repeat' ((conv => whnf); (first
    | (with_reducible first | refine Spl.yes ?_ | refine Spl.no ?_ | refine Spl.dec (fun h => ?_) (fun h => ?_) | refine Spl.eq (fun h => ?_) (fun h => ?_) | refine Spl.ne (fun h => ?_) (fun h => ?_) | refine Spl.seq (fun h => ?_) (fun h => ?_) | refine Spl.not ?_ | refine Spl.any (fun h => ?_) (fun h => ?_))
    | ((with_reducible apply And.intro); first | omega | rfl | (dsimp only; omega))))
      all_goals (conv => whnf)
      refine Cv.wk (Wk.narrow _ [0, 1, 4, 7, 8, 9, 19, 20, 21] [1000000, 4, 7] [8, 1000001, 1000002, 1000003]) (Cv.here ⟨(L.length - (j + 1)).toNat, by omega, b0, ⟨op, some (leafN t), alts, items, true⟩, lv, j + 1, rfl, rfl, by omega, by omega, rfl, hrun, by simp; omega, fun p hp => by have := hszl p hp; omega, hdep⟩)
    · have hae : addV ⟨op, none, alts, items, fixed⟩ (leafN t) = ⟨op, none, alts, items ++ [leafN t], fixK (leafK t.kind)⟩ := by unfold addV; rw [if_neg (fun q => hn13 q.1)]; rfl
      have hadd := addV_h ⟨op, none, alts, items, fixed⟩ (leafN t) (by simp only; omega)
      rw [hae] at hadd hrun
      refine RWL.of (RWP.hookD tabOk orders [0, 1, 2] 3 4 (.ofList [5, 6, 7, 8, 9, 10, 11, 12, 13, 14, 15, 16, 17, 18, 19, 20, 21, 22, 23, 24]) (by decide +kernel) ?_)
      conv => whnf
      refine ⟨trivial, (by show 58 < 177; omega), .ptr 7 t.kind.toNat, hook_idx rfl rfl rfl ⟨by omega, by omega⟩, ?_⟩
      conv => whnf
      refine ⟨trivial, (by show 59 < 177; omega), .pv (.val (.int .i64 (leafK t.kind))), (by rw [← hkk.1]; exact hook_kind (n := t.kind) rfl rfl rfl ⟨by omega, by omega⟩), ?_⟩
      repeat' ((conv => whnf); (first
    | (with_reducible first | refine Spl.yes ?_ | refine Spl.no ?_ | refine Spl.dec (fun h => ?_) (fun h => ?_) | refine Spl.eq (fun h => ?_) (fun h => ?_) | refine Spl.ne (fun h => ?_) (fun h => ?_) | refine Spl.seq (fun h => ?_) (fun h => ?_) | refine Spl.not ?_ | refine Spl.any (fun h => ?_) (fun h => ?_))
    | (refine HQ.use (hadd) ⟨id, id, id⟩ ⟨rfl, rfl⟩ rfl rfl (by first | exact ⟨⟨rfl, rfl⟩, trivial⟩ | exact ⟨⟨rfl, rfl⟩, ⟨rfl, rfl⟩, trivial⟩) (by first | exact trivial | exact ⟨⟨rfl, rfl⟩, trivial⟩ | exact ⟨⟨rfl, rfl⟩, ⟨rfl, rfl⟩, trivial⟩ | exact ⟨⟨rfl, rfl⟩, ⟨rfl, rfl⟩, ⟨rfl, rfl⟩, trivial⟩) (by first | exact trivial | exact ⟨⟨rfl, rfl⟩, trivial⟩) ?_; rintro _ _ ⟨rfl, rfl⟩; refine ⟨⟨rfl, rfl, rfl⟩, ?_⟩)
    | refine And.intro (Nat.le_of_ble_eq_true rfl) ?_
    | ((with_reducible apply And.intro); first | omega | rfl | (dsimp only; omega))))
      all_goals (conv => whnf)
      refine RWL.of (RWP.of tabOk orders ?_)
      repeat' ((conv => whnf); (first
    | (with_reducible first | refine Spl.yes ?_ | refine Spl.no ?_ | refine Spl.dec (fun h => ?_) (fun h => ?_) | refine Spl.eq (fun h => ?_) (fun h => ?_) | refine Spl.ne (fun h => ?_) (fun h => ?_) | refine Spl.seq (fun h => ?_) (fun h => ?_) | refine Spl.not ?_ | refine Spl.any (fun h => ?_) (fun h => ?_))
    | ((with_reducible apply And.intro); first | omega | rfl | (dsimp only; omega))))
      all_goals (conv => whnf)
      refine Cv.wk (Wk.narrow _ [0, 1, 4, 7, 8, 9, 19, 20, 21] [1000000, 4, 7] [8, 1000001, 1000002, 1000003]) (Cv.here ⟨(L.length - (j + 1)).toNat, by omega, b0, ⟨op, none, alts, items ++ [leafN t], fixK (leafK t.kind)⟩, lv, j + 1, rfl, rfl, by omega, by omega, rfl, hrun, by simp; omega, fun p hp => by have := hszl p hp; omega, hdep⟩)
  | some nl =>
    refine RWL.seq (RWL.of (RWP.of tabOk orders ?_))
    conv => whnf
    refine RWL.seq (RWL.cond ?_)
    conv => whnf
    refine Spl.dec (fun hj => ?_) (fun hj => ?_)
    rotate_left
    · refine RWL.exit ?_
      conv => whnf
      have hd : L.drop j.toNat = [] := List.drop_eq_nil_of_le (by omega)
      rw [hd, runS] at hrun
      refine RWL.seq (RWL.seq (RWL.of (RWP.of tabOk orders ?_)))
      conv => whnf
      refine RWL.cond ?_
      conv => whnf
      refine Spl.dec (fun hgt => ?_) (fun hle => ?_)
      · have hlv : lv.map Prod.snd ≠ [] := by
          intro e
          have : lv.length = 0 := by simpa using congrArg List.length e
          have hgt' : ((rowsP (bt :: lv.map Prod.fst)).length : Int) > 1 := hgt
          omega
        rw [if_pos hlv] at hrun
        subst hrun
        refine RWL.seq (RWL.of (RWP.callT (t := 160) (f := 55) tabOk 2 rfl ⟨rfl, rfl, rfl⟩ ?_))
        conv => whnf
        refine ⟨rfl, ?_⟩
        repeat' ((conv => whnf); (first
    | (with_reducible first | refine Spl.yes ?_ | refine Spl.no ?_ | refine Spl.dec (fun h => ?_) (fun h => ?_) | refine Spl.eq (fun h => ?_) (fun h => ?_) | refine Spl.ne (fun h => ?_) (fun h => ?_) | refine Spl.seq (fun h => ?_) (fun h => ?_) | refine Spl.not ?_ | refine Spl.any (fun h => ?_) (fun h => ?_))
    | (refine VCalls.mono (fail39_c 20 en) ?_; rintro _ rfl)
    | ((with_reducible apply And.intro); first | omega | rfl | (dsimp only; omega))))
        all_goals (conv => whnf)
        refine RWL.ret ?_
        conv => whnf
        refine ⟨_, Wk.narrow _ [4, 5, 6] [4] [], rfl, ?_⟩
        conv => whnf
        exact rfl
      · refine RWL.skip ?_
        conv => whnf
        have hle' : ¬ ((rowsP (bt :: lv.map Prod.fst)).length : Int) > 1 := hle
        have hlv0 : lv = [] := List.eq_nil_of_length_eq_zero (by omega)
        subst hlv0
        have hzero : (rowsP (bt :: List.map (Prod.fst (β := Lev)) [])).getD (Int.toNat 0) [] = [SV.val (.pointer (some ⟨bt, 0, none⟩))] := by
          rw [← htop, hrl]; rfl
        rw [if_neg (by simp)] at hrun
        subst hrun
        have hend := end_h ⟨op, some nl, alts, items, fixed⟩ (by simp only; omega) (by simp only; omega)
        have hjo := joined_c 13 (endL ⟨op, some nl, alts, items, fixed⟩).alts (by simp [endL]; omega)
        obtain ⟨fj, kj, hJ⟩ := (oneN 13 (endL ⟨op, some nl, alts, items, fixed⟩).alts).ex
        rw [hJ] at hjo ⊢
        refine RWL.seq (RWL.mid tabOk 3 ?_)
        repeat' ((conv => whnf); (first
    | (with_reducible first | refine Spl.yes ?_ | refine Spl.no ?_ | refine Spl.dec (fun h => ?_) (fun h => ?_) | refine Spl.eq (fun h => ?_) (fun h => ?_) | refine Spl.ne (fun h => ?_) (fun h => ?_) | refine Spl.seq (fun h => ?_) (fun h => ?_) | refine Spl.not ?_ | refine Spl.any (fun h => ?_) (fun h => ?_))
    | (rw [hzero])
    | ((with_reducible apply And.intro); first | omega | rfl | (dsimp only; omega))))
        all_goals (conv => whnf)
        refine Cv.valPtr 168 rfl (Cv.here ?_)
        conv => whnf
        (refine HQ.use (hend) ⟨id, id, id⟩ ⟨rfl, rfl⟩ rfl rfl (by first | exact ⟨⟨rfl, rfl⟩, trivial⟩ | exact ⟨⟨rfl, rfl⟩, ⟨rfl, rfl⟩, trivial⟩) (by first | exact trivial | exact ⟨⟨rfl, rfl⟩, trivial⟩ | exact ⟨⟨rfl, rfl⟩, ⟨rfl, rfl⟩, trivial⟩ | exact ⟨⟨rfl, rfl⟩, ⟨rfl, rfl⟩, ⟨rfl, rfl⟩, trivial⟩) (by first | exact trivial | exact ⟨⟨rfl, rfl⟩, trivial⟩) ?_; rintro _ _ ⟨rfl, rfl⟩; refine ⟨⟨rfl, rfl, rfl⟩, ?_⟩)
        conv => whnf
        refine RWL.seq (RWL.mid tabOk 3 ?_)
        repeat' ((conv => whnf); (first
    | (with_reducible first | refine Spl.yes ?_ | refine Spl.no ?_ | refine Spl.dec (fun h => ?_) (fun h => ?_) | refine Spl.eq (fun h => ?_) (fun h => ?_) | refine Spl.ne (fun h => ?_) (fun h => ?_) | refine Spl.seq (fun h => ?_) (fun h => ?_) | refine Spl.not ?_ | refine Spl.any (fun h => ?_) (fun h => ?_))
    | (rw [hzero])
    | ((with_reducible apply And.intro); first | omega | rfl | (dsimp only; omega))))
        all_goals (conv => whnf)
        refine Cv.valPtr 172 rfl (Cv.here ?_)
        repeat' ((conv => whnf); (first
    | (with_reducible first | refine Spl.yes ?_ | refine Spl.no ?_ | refine Spl.dec (fun h => ?_) (fun h => ?_) | refine Spl.eq (fun h => ?_) (fun h => ?_) | refine Spl.ne (fun h => ?_) (fun h => ?_) | refine Spl.seq (fun h => ?_) (fun h => ?_) | refine Spl.not ?_ | refine Spl.any (fun h => ?_) (fun h => ?_))
    | (refine VCalls.mono (hjo) ?_; rintro _ rfl)
    | ((with_reducible apply And.intro); first | omega | rfl | (dsimp only; omega))))
        all_goals (conv => whnf)
        refine RWL.ret ?_
        conv => whnf
        refine ⟨_, Wk.narrow _ [4, 5, 6] [4] [], rfl, ?_⟩
        conv => whnf
        exact rfl
    refine RWL.skip ?_
    conv => whnf
    have hj : j < (tk L).length := hj
    rw [hl] at hj
    obtain ⟨t, ht⟩ : ∃ t, rdt L j = t := ⟨_, rfl⟩
    have htk : (tk L).getD j.toNat [] = t.cells := by rw [tk_get (by omega), ht]
    have hdr : L.drop j.toNat = t :: L.drop (j + 1).toNat := by
      rw [← ht, show (j + 1).toNat = j.toNat + 1 by omega, List.drop_eq_getElem_cons (by omega)]
      simp [rdt, List.getD_eq_getElem?_getD, List.getElem?_eq_getElem (show j.toNat < L.length by omega)]
    have htm : t ∈ L := by rw [← ht]; unfold rdt; rw [List.getD_eq_getElem?_getD, List.getElem?_eq_getElem (show j.toNat < L.length by omega)]; exact List.getElem_mem _
    have hkd := hT.kind t htm
    rw [hdr] at hrun
    unfold runS at hrun
    refine RWL.seq (RWL.block ?_)
    refine RWL.seq (RWL.of (RWP.of tabOk orders ?_))
    repeat' ((conv => whnf); (first
    | (with_reducible first | refine Spl.yes ?_ | refine Spl.no ?_ | refine Spl.dec (fun h => ?_) (fun h => ?_) | refine Spl.eq (fun h => ?_) (fun h => ?_) | refine Spl.ne (fun h => ?_) (fun h => ?_) | refine Spl.seq (fun h => ?_) (fun h => ?_) | refine Spl.not ?_ | refine Spl.any (fun h => ?_) (fun h => ?_))
    | (rw [htk])
    | refine And.intro (Nat.le_of_ble_eq_true rfl) ?_
    | ((with_reducible apply And.intro); first | omega | rfl | (dsimp only; omega))))
    all_goals (conv => whnf)
    refine RWL.seq (RWL.of (RWP.of tabOk orders ?_))
    repeat' ((conv => whnf); (first
    | (with_reducible first | refine Spl.yes ?_ | refine Spl.no ?_ | refine Spl.dec (fun h => ?_) (fun h => ?_) | refine Spl.eq (fun h => ?_) (fun h => ?_) | refine Spl.ne (fun h => ?_) (fun h => ?_) | refine Spl.seq (fun h => ?_) (fun h => ?_) | refine Spl.not ?_ | refine Spl.any (fun h => ?_) (fun h => ?_))
    | (rw [htop])
    | ((with_reducible apply And.intro); first | omega | rfl | (dsimp only; omega))))
    all_goals (conv => whnf)
    refine RWL.cv (Cv.valPtr 12 rfl (Cv.wk (Wk.narrow _ [0, 1, 4, 7, 8, 9, 11, 12, 19, 20, 21] [1000000, 4, 7, 11] [8, 1000001, 1000002, 1000003]) (Cv.here ?_)))
    refine RWL.seq (RWL.of (RWP.of tabOk orders ?_))
    conv => whnf
    refine RWL.block ?_
    refine RWL.seq (RWL.of (RWP.of tabOk orders ?_))
    conv => whnf
    refine RWL.cond ?_
    conv => whnf
    refine Spl.eq (fun h7 => ?_) (fun h7 => ?_)
    · rw [if_pos h7] at hrun
      have hend := end_h ⟨op, some nl, alts, items, fixed⟩ (by simp only; omega) (by simp only; omega)
      refine RWL.of (RWP.of tabOk orders ?_)
      conv => whnf
      (refine HQ.use (hend) ⟨id, id, id⟩ ⟨rfl, rfl⟩ rfl rfl (by first | exact ⟨⟨rfl, rfl⟩, trivial⟩ | exact ⟨⟨rfl, rfl⟩, ⟨rfl, rfl⟩, trivial⟩) (by first | exact trivial | exact ⟨⟨rfl, rfl⟩, trivial⟩ | exact ⟨⟨rfl, rfl⟩, ⟨rfl, rfl⟩, trivial⟩ | exact ⟨⟨rfl, rfl⟩, ⟨rfl, rfl⟩, ⟨rfl, rfl⟩, trivial⟩) (by first | exact trivial | exact ⟨⟨rfl, rfl⟩, trivial⟩) ?_; rintro _ _ ⟨rfl, rfl⟩; refine ⟨⟨rfl, rfl, rfl⟩, ?_⟩)
      conv => whnf
      refine RWL.of (RWP.of tabOk orders ?_)
      repeat' ((conv => whnf); (first
    | (with_reducible first | refine Spl.yes ?_ | refine Spl.no ?_ | refine Spl.dec (fun h => ?_) (fun h => ?_) | refine Spl.eq (fun h => ?_) (fun h => ?_) | refine Spl.ne (fun h => ?_) (fun h => ?_) | refine Spl.seq (fun h => ?_) (fun h => ?_) | refine Spl.not ?_ | refine Spl.any (fun h => ?_) (fun h => ?_))
    | ((with_reducible apply And.intro); first | omega | rfl | (dsimp only; omega))))
      all_goals (conv => whnf)
      refine Cv.wk (Wk.narrow _ [0, 1, 4, 7, 8, 9, 19, 20, 21] [1000000, 4, 7] [8, 1000001, 1000002, 1000003]) (Cv.here ⟨(L.length - (j + 1)).toNat, by omega, b0, endL ⟨op, some nl, alts, items, fixed⟩, lv, j + 1, rfl, rfl, by omega, by omega, rfl, hrun, by simp [endL]; omega, fun p hp => by have := hszl p hp; omega, hdep⟩)
    rw [if_neg h7] at hrun
    refine RWL.seq (RWL.of (RWP.of tabOk orders ?_))
    conv => whnf
    refine RWL.cond ?_
    conv => whnf
    refine Spl.eq (fun h9 => ?_) (fun h9 => ?_)
    · rw [if_pos h9] at hrun
      have hqu := quantV_h ⟨op, some nl, alts, items, fixed⟩ t (by simp only; omega)
      have hqe : (quantV ⟨op, some nl, alts, items, fixed⟩ t).1 = true → ∃ A x, items = A ++ [x] ∧ quantV ⟨op, some nl, alts, items, fixed⟩ t = (true, ⟨op, some nl, alts, A ++ [repN t x], true⟩) := by
        intro q
        unfold quantV at q ⊢
        simp only at q ⊢
        split at q
        · cases q
        · rename_i hf
          rw [if_neg hf]
          split at q
          · cases q
          · rename_i x hx
            have hne : items ≠ [] := fun e => by rw [e] at hx; cases hx
            obtain ⟨A, y, rfl⟩ : ∃ A y, items = A ++ [y] := by
              rcases List.eq_nil_or_concat items with h | ⟨A, y, h⟩
              · exact absurd h hne
              · exact ⟨A, y, by simpa using h⟩
            have : y = x := by simpa using hx
            subst this
            exact ⟨A, y, rfl, by simp [hx]⟩
      have hqf : (quantV ⟨op, some nl, alts, items, fixed⟩ t).1 = false → quantV ⟨op, some nl, alts, items, fixed⟩ t = (false, ⟨op, some nl, alts, items, fixed⟩) := by
        intro q
        unfold quantV at q ⊢
        simp only at q ⊢
        split at q
        · rename_i hf; rw [if_pos hf]
        · rename_i hf
          rw [if_neg hf]
          split at q
          · rename_i hx; simp [hx]
          · cases q
      cases hqb : (quantV ⟨op, some nl, alts, items, fixed⟩ t).1 with
      | true =>
        obtain ⟨A, x, hA, hqv⟩ := hqe hqb
        subst hA
        rw [hqv] at hrun hqu
        rw [if_pos rfl] at hrun
        simp only at hrun hqu
        refine RWL.seq (RWL.of (RWP.of tabOk orders ?_))
        conv => whnf
        (refine HQ.use (hqu) ⟨id, id, id⟩ ⟨rfl, rfl⟩ rfl rfl (by first | exact ⟨⟨rfl, rfl⟩, trivial⟩ | exact ⟨⟨rfl, rfl⟩, ⟨rfl, rfl⟩, trivial⟩) (by first | exact trivial | exact ⟨⟨rfl, rfl⟩, trivial⟩ | exact ⟨⟨rfl, rfl⟩, ⟨rfl, rfl⟩, trivial⟩ | exact ⟨⟨rfl, rfl⟩, ⟨rfl, rfl⟩, ⟨rfl, rfl⟩, trivial⟩) (by first | exact trivial | exact ⟨⟨rfl, rfl⟩, trivial⟩) ?_; rintro _ _ ⟨rfl, rfl⟩; refine ⟨⟨rfl, rfl, rfl⟩, ?_⟩)
        repeat' ((conv => whnf); (first
    | (with_reducible first | refine Spl.yes ?_ | refine Spl.no ?_ | refine Spl.dec (fun h => ?_) (fun h => ?_) | refine Spl.eq (fun h => ?_) (fun h => ?_) | refine Spl.ne (fun h => ?_) (fun h => ?_) | refine Spl.seq (fun h => ?_) (fun h => ?_) | refine Spl.not ?_ | refine Spl.any (fun h => ?_) (fun h => ?_))
    | ((with_reducible apply And.intro); first | omega | rfl | (dsimp only; omega))))
        all_goals (conv => whnf)
        refine RWL.cond ?_
        conv => whnf
        refine Spl.no ?_
        refine RWL.skip ?_
        conv => whnf
        refine RWL.of (RWP.of tabOk orders ?_)
        repeat' ((conv => whnf); (first
    | (with_reducible first | refine Spl.yes ?_ | refine Spl.no ?_ | refine Spl.dec (fun h => ?_) (fun h => ?_) | refine Spl.eq (fun h => ?_) (fun h => ?_) | refine Spl.ne (fun h => ?_) (fun h => ?_) | refine Spl.seq (fun h => ?_) (fun h => ?_) | refine Spl.not ?_ | refine Spl.any (fun h => ?_) (fun h => ?_))
    | ((with_reducible apply And.intro); first | omega | rfl | (dsimp only; omega))))
        all_goals (conv => whnf)
        refine Cv.wk (Wk.narrow _ [0, 1, 4, 7, 8, 9, 19, 20, 21] [1000000, 4, 7] [8, 1000001, 1000002, 1000003]) (Cv.here ⟨(L.length - (j + 1)).toNat, by omega, b0, ⟨op, some nl, alts, A ++ [repN t x], true⟩, lv, j + 1, rfl, rfl, by omega, by omega, rfl, hrun, by simp at hszv ⊢; omega, fun p hp => by have := hszl p hp; omega, hdep⟩)
      | false =>
        have hqv := hqf hqb
        rw [hqv] at hrun hqu
        rw [if_neg (by simp)] at hrun
        simp only at hqu
        subst hrun
        refine RWL.seq (RWL.of (RWP.of tabOk orders ?_))
        conv => whnf
        (refine HQ.use (hqu) ⟨id, id, id⟩ ⟨rfl, rfl⟩ rfl rfl (by first | exact ⟨⟨rfl, rfl⟩, trivial⟩ | exact ⟨⟨rfl, rfl⟩, ⟨rfl, rfl⟩, trivial⟩) (by first | exact trivial | exact ⟨⟨rfl, rfl⟩, trivial⟩ | exact ⟨⟨rfl, rfl⟩, ⟨rfl, rfl⟩, trivial⟩ | exact ⟨⟨rfl, rfl⟩, ⟨rfl, rfl⟩, ⟨rfl, rfl⟩, trivial⟩) (by first | exact trivial | exact ⟨⟨rfl, rfl⟩, trivial⟩) ?_; rintro _ _ ⟨rfl, rfl⟩; refine ⟨⟨rfl, rfl, rfl⟩, ?_⟩)
        repeat' ((conv => whnf); (first
    | (with_reducible first | refine Spl.yes ?_ | refine Spl.no ?_ | refine Spl.dec (fun h => ?_) (fun h => ?_) | refine Spl.eq (fun h => ?_) (fun h => ?_) | refine Spl.ne (fun h => ?_) (fun h => ?_) | refine Spl.seq (fun h => ?_) (fun h => ?_) | refine Spl.not ?_ | refine Spl.any (fun h => ?_) (fun h => ?_))
    | ((with_reducible apply And.intro); first | omega | rfl | (dsimp only; omega))))
        all_goals (conv => whnf)
        refine RWL.cond ?_
        conv => whnf
        refine Spl.yes ?_
        refine RWL.seq (RWL.of (RWP.callT (t := 90) (f := 55) tabOk 3 rfl ⟨rfl, rfl, rfl⟩ ?_))
        conv => whnf
        refine ⟨rfl, ?_⟩
        repeat' ((conv => whnf); (first
    | (with_reducible first | refine Spl.yes ?_ | refine Spl.no ?_ | refine Spl.dec (fun h => ?_) (fun h => ?_) | refine Spl.eq (fun h => ?_) (fun h => ?_) | refine Spl.ne (fun h => ?_) (fun h => ?_) | refine Spl.seq (fun h => ?_) (fun h => ?_) | refine Spl.not ?_ | refine Spl.any (fun h => ?_) (fun h => ?_))
    | (refine VCalls.mono (fail39_c 30 t.at_) ?_; rintro _ rfl)
    | ((with_reducible apply And.intro); first | omega | rfl | (dsimp only; omega))))
        all_goals (conv => whnf)
        refine RWL.ret ?_
        conv => whnf
        refine ⟨_, Wk.narrow _ [4, 5, 6] [4] [], rfl, ?_⟩
        conv => whnf
        exact rfl
    rw [if_neg h9] at hrun
    refine RWL.seq (RWL.of (RWP.of tabOk orders ?_))
    conv => whnf
    refine RWL.cond ?_
    conv => whnf
    refine Spl.eq (fun h10 => ?_) (fun h10 => ?_)
    · rw [if_pos h10] at hrun
      refine RWL.seq (RWL.seq (RWL.of (RWP.of tabOk orders ?_)))
      conv => whnf
      refine RWL.cond ?_
      conv => whnf
      refine Spl.dec (fun hgt => ?_) (fun hle => ?_)
      · have hgt' : ((rowsP (bt :: lv.map Prod.fst)).length : Int) > 40 := hgt
        rw [if_pos (by simp only [List.length_map]; omega)] at hrun
        subst hrun
        refine RWL.seq (RWL.of (RWP.callT (t := 102) (f := 55) tabOk 3 rfl ⟨rfl, rfl, rfl⟩ ?_))
        conv => whnf
        refine ⟨rfl, ?_⟩
        repeat' ((conv => whnf); (first
    | (with_reducible first | refine Spl.yes ?_ | refine Spl.no ?_ | refine Spl.dec (fun h => ?_) (fun h => ?_) | refine Spl.eq (fun h => ?_) (fun h => ?_) | refine Spl.ne (fun h => ?_) (fun h => ?_) | refine Spl.seq (fun h => ?_) (fun h => ?_) | refine Spl.not ?_ | refine Spl.any (fun h => ?_) (fun h => ?_))
    | (refine VCalls.mono (fail39_c 11 t.at_) ?_; rintro _ rfl)
    | ((with_reducible apply And.intro); first | omega | rfl | (dsimp only; omega))))
        all_goals (conv => whnf)
        refine RWL.ret ?_
        conv => whnf
        refine ⟨_, Wk.narrow _ [4, 5, 6] [4] [], rfl, ?_⟩
        conv => whnf
        exact rfl
      · refine RWL.skip ?_
        conv => whnf
        have hle' : ¬ ((rowsP (bt :: lv.map Prod.fst)).length : Int) > 40 := hle
        rw [if_neg (by simp only [List.length_map]; omega)] at hrun
        refine RWL.mid tabOk 4 ?_
        repeat' ((conv => whnf); (first
    | (with_reducible first | refine Spl.yes ?_ | refine Spl.no ?_ | refine Spl.dec (fun h => ?_) (fun h => ?_) | refine Spl.eq (fun h => ?_) (fun h => ?_) | refine Spl.ne (fun h => ?_) (fun h => ?_) | refine Spl.seq (fun h => ?_) (fun h => ?_) | refine Spl.not ?_ | refine Spl.any (fun h => ?_) (fun h => ?_))
    | refine And.intro (Nat.le_of_ble_eq_true rfl) ?_
    | ((with_reducible apply And.intro); first | omega | rfl | (dsimp only; omega))))
        all_goals (conv => whnf)
        refine Cv.wk (Wk.narrow _ [0, 1, 4, 7, 8, 9, 19, 20, 21, 109, 112] [1000000, 4, 7, 112] [8, 1000001, 1000002, 1000003]) ?_
        refine Cv.push ⟨177, [(0, .pv (.sl 12 (tk L))), (1, .pv (iv en)), (4, .ptr 4 0), (7, .ptr 7 0), (8, .own 8), (9, .pv funcV), (19, .pv (.sl 12 (tk L))), (20, .pv (iv (tk L).length)), (21, .pv (iv j)), (109, .own 8), (112, .ptr 112 0)],
            [(4, (27, [.pv (iv 0), .pv (iv 0), .pv (iv 0), .pv (.val nilV), .pv (bv false), .pv (iv 0), .pv (iv 0), .pv (iv 0), .pv (sv (bs [])), .pv (iv 0), .pv (iv 0), .pv (.val nilV)])), (7, (92, kindsF)), (112, (96, [.pv (iv t.kind), .pv (iv t.at_), .pv (iv t.to), .pv (iv t.c), .pv (rs t.set), .pv (bv t.neg), .pv (iv t.n), .pv (iv t.m), .pv (iv t.mode), .pv (sv t.name), .pv (iv t.on), .pv (iv t.off), .pv (.val nilV), .pv (.val nilV), .pv (.val nilV), .pv (bv false)]))], [(8, ⟨1, 94, true, rowsP (bt :: lv.map Prod.fst)⟩)], []⟩ (HLv ⟨op, some nl, alts, items, fixed⟩) 112 (96, [.pv (iv t.kind), .pv (iv t.at_), .pv (iv t.to), .pv (iv t.c), .pv (rs t.set), .pv (bv t.neg), .pv (iv t.n), .pv (iv t.m), .pv (iv t.mode), .pv (sv t.name), .pv (iv t.on), .pv (iv t.off), .pv (.val nilV), .pv (.val nilV), .pv (.val nilV), .pv (bv false)])
          ⟨rfl, fun _ _ q => q, fun _ _ q => look_skip rfl q, fun _ _ q => look_first q, rfl⟩ (fun _ _ q => look_first q) (fun _ _ q => look_skip rfl q) rfl rfl ⟨rfl, rfl, rfl⟩ rfl (fun b => ?_)
        refine Cv.ptrVal 112 rfl ?_
        refine Cv.wk (Wk.boxNil (s := 1000000) (i := 13) (k := 1000002) (sz := 12) (e := 27) (T := 96) (cs := [.pv (iv t.kind), .pv (iv t.at_), .pv (iv t.to), .pv (iv t.c), .pv (rs t.set), .pv (bv t.neg), .pv (iv t.n), .pv (iv t.m), .pv (iv t.mode), .pv (sv t.name), .pv (iv t.on), .pv (iv t.off), .pv (.val nilV), .pv (.val nilV), .pv (.val nilV), .pv (bv false)]) rfl rfl) ?_
        refine Cv.wk (Wk.boxNil (s := 1000000) (i := 14) (k := 1000003) (sz := 12) (e := 27) (T := 96) (cs := [.pv (iv t.kind), .pv (iv t.at_), .pv (iv t.to), .pv (iv t.c), .pv (rs t.set), .pv (bv t.neg), .pv (iv t.n), .pv (iv t.m), .pv (iv t.mode), .pv (sv t.name), .pv (iv t.on), .pv (iv t.off), .pv (.val nilV), .own 1000002, .pv (.val nilV), .pv (bv false)]) rfl rfl) ?_
        refine Cv.here ?_
        repeat' ((conv => whnf); (first
    | (with_reducible first | refine Spl.yes ?_ | refine Spl.no ?_ | refine Spl.dec (fun h => ?_) (fun h => ?_) | refine Spl.eq (fun h => ?_) (fun h => ?_) | refine Spl.ne (fun h => ?_) (fun h => ?_) | refine Spl.seq (fun h => ?_) (fun h => ?_) | refine Spl.not ?_ | refine Spl.any (fun h => ?_) (fun h => ?_))
    | refine And.intro (by show ((rowsP (bt :: lv.map Prod.fst)).length + 1) * 8 ≤ 140737488355328; omega) ?_
    | ((with_reducible apply And.intro); first | omega | rfl | (dsimp only; omega))))
        all_goals (conv => whnf)
        refine RWL.of (RWP.of tabOk orders ?_)
        repeat' ((conv => whnf); (first
    | (with_reducible first | refine Spl.yes ?_ | refine Spl.no ?_ | refine Spl.dec (fun h => ?_) (fun h => ?_) | refine Spl.eq (fun h => ?_) (fun h => ?_) | refine Spl.ne (fun h => ?_) (fun h => ?_) | refine Spl.seq (fun h => ?_) (fun h => ?_) | refine Spl.not ?_ | refine Spl.any (fun h => ?_) (fun h => ?_))
    | ((with_reducible apply And.intro); first | omega | rfl | (dsimp only; omega))))
        all_goals (conv => whnf)
        refine Cv.wk (Wk.trans (Wk.rn 114 8 rfl rfl) (Wk.trans (Wk.narrow _ [0, 1, 4, 7, 8, 9, 19, 20, 21] [1000000, 4, 7] [8, 1000001, 1000002, 1000003]) (Wk.eq (Eq.trans (b := stX L en (rowsP (bt :: lv.map Prod.fst) ++ [[SV.val (.pointer (some ⟨b, 0, none⟩))]]) (levO t) (j + 1)) rfl (congrArg (fun X => stX L en X (levO t) (j + 1)) (rowsP_push b (bt :: lv.map Prod.fst))))))) (Cv.here
          ⟨(L.length - (j + 1)).toNat, by omega, b0, levO t, (bt, ⟨op, some nl, alts, items, fixed⟩) :: lv, j + 1, rfl, rfl, by omega, by omega, rfl, hrun, by simp [levO]; omega, fun p hp => by
            rcases List.mem_cons.1 hp with rfl | hp
            · simp only; omega
            · have := hszl p hp; omega, by simp only [List.length_cons]; omega⟩)
    rw [if_neg h10] at hrun
    refine RWL.seq (RWL.of (RWP.of tabOk orders ?_))
    conv => whnf
    refine RWL.cond ?_
    conv => whnf
    refine Spl.eq (fun h8 => ?_) (fun h8 => ?_)
    · rw [if_pos h8] at hrun
      refine RWL.seq (RWL.seq (RWL.of (RWP.of tabOk orders ?_)))
      conv => whnf
      refine RWL.cond ?_
      conv => whnf
      refine Spl.eq (fun h1 => ?_) (fun h1 => ?_)
      · have h1' : ((rowsP (bt :: lv.map Prod.fst)).length : Int) = 1 := h1
        have hlv0 : lv = [] := List.eq_nil_of_length_eq_zero (by omega)
        subst hlv0
        simp only [List.map_nil] at hrun
        subst hrun
        refine RWL.seq (RWL.of (RWP.callT (t := 120) (f := 55) tabOk 3 rfl ⟨rfl, rfl, rfl⟩ ?_))
        conv => whnf
        refine ⟨rfl, ?_⟩
        repeat' ((conv => whnf); (first
    | (with_reducible first | refine Spl.yes ?_ | refine Spl.no ?_ | refine Spl.dec (fun h => ?_) (fun h => ?_) | refine Spl.eq (fun h => ?_) (fun h => ?_) | refine Spl.ne (fun h => ?_) (fun h => ?_) | refine Spl.seq (fun h => ?_) (fun h => ?_) | refine Spl.not ?_ | refine Spl.any (fun h => ?_) (fun h => ?_))
    | (refine VCalls.mono (fail39_c 31 t.at_) ?_; rintro _ rfl)
    | ((with_reducible apply And.intro); first | omega | rfl | (dsimp only; omega))))
        all_goals (conv => whnf)
        refine RWL.ret ?_
        conv => whnf
        refine ⟨_, Wk.narrow _ [4, 5, 6] [4] [], rfl, ?_⟩
        conv => whnf
        exact rfl
      · have h1' : ¬ ((rowsP (bt :: lv.map Prod.fst)).length : Int) = 1 := h1
        refine RWL.skip ?_
        conv => whnf
        obtain ⟨⟨b', u⟩, lv, rfl⟩ : ∃ p l, lv = p :: l := by
          cases lv with
          | nil => simp only [List.length_nil] at hrl; omega
          | cons p l => exact ⟨p, l, rfl⟩
        simp only [List.map_cons] at hrun
        have hdep' : lv.length ≤ 39 := by simp only [List.length_cons] at hdep; omega
        have hu := hszl (b', u) (List.mem_cons_self ..)
        simp only at hu
        have htop2 := rowsP_top b' (lv.map Prod.fst)
        have hpop := rowsP_pop bt (b' :: lv.map Prod.fst)
        have hrl2 : (rowsP (b' :: lv.map Prod.fst)).length = lv.length + 1 := by rw [rowsP_len]; simp
        have hend := end_h ⟨op, some nl, alts, items, fixed⟩ (by simp only; omega) (by simp only; omega)
        have hmade := made_h (endL ⟨op, some nl, alts, items, fixed⟩) (by simp [endL]; omega)
        obtain ⟨nm, bm, hm⟩ : ∃ n b, madeV (endL ⟨op, some nl, alts, items, fixed⟩) = (n, b) := ⟨_, _, rfl⟩
        have hat : nm.f.at_ = op.at_ := by
          have : nm = (madeV (endL ⟨op, some nl, alts, items, fixed⟩)).1 := by rw [hm]
          rw [this]
          exact made_at _
        rw [hm] at hmade hrun
        obtain ⟨fm, km⟩ := nm
        simp only at hmade hrun
        have hat : fm.at_ = op.at_ := hat
        refine RWL.seq (RWL.of (RWP.of tabOk orders ?_))
        conv => whnf
        (refine HQ.use (hend) ⟨id, id, id⟩ ⟨rfl, rfl⟩ rfl rfl (by first | exact ⟨⟨rfl, rfl⟩, trivial⟩ | exact ⟨⟨rfl, rfl⟩, ⟨rfl, rfl⟩, trivial⟩) (by first | exact trivial | exact ⟨⟨rfl, rfl⟩, trivial⟩ | exact ⟨⟨rfl, rfl⟩, ⟨rfl, rfl⟩, trivial⟩ | exact ⟨⟨rfl, rfl⟩, ⟨rfl, rfl⟩, ⟨rfl, rfl⟩, trivial⟩) (by first | exact trivial | exact ⟨⟨rfl, rfl⟩, trivial⟩) ?_; rintro _ _ ⟨rfl, rfl⟩; refine ⟨⟨rfl, rfl, rfl⟩, ?_⟩)
        conv => whnf
        refine RWL.seq (RWL.of (RWP.of tabOk orders ?_))
        conv => whnf
        (refine HQ.use (hmade) ⟨id, id, id⟩ ⟨rfl, rfl⟩ rfl rfl (by first | exact ⟨⟨rfl, rfl⟩, trivial⟩ | exact ⟨⟨rfl, rfl⟩, ⟨rfl, rfl⟩, trivial⟩) (by first | exact trivial | exact ⟨⟨rfl, rfl⟩, trivial⟩ | exact ⟨⟨rfl, rfl⟩, ⟨rfl, rfl⟩, trivial⟩ | exact ⟨⟨rfl, rfl⟩, ⟨rfl, rfl⟩, ⟨rfl, rfl⟩, trivial⟩) (by first | exact trivial | exact ⟨⟨rfl, rfl⟩, trivial⟩) ?_; rintro _ _ ⟨rfl, rfl⟩; refine ⟨⟨rfl, rfl, rfl⟩, ?_⟩)
        repeat' ((conv => whnf); (first
    | (with_reducible first | refine Spl.yes ?_ | refine Spl.no ?_ | refine Spl.dec (fun h => ?_) (fun h => ?_) | refine Spl.eq (fun h => ?_) (fun h => ?_) | refine Spl.ne (fun h => ?_) (fun h => ?_) | refine Spl.seq (fun h => ?_) (fun h => ?_) | refine Spl.not ?_ | refine Spl.any (fun h => ?_) (fun h => ?_))
    | refine And.intro (Nat.le_of_ble_eq_true rfl) ?_
    | ((with_reducible apply And.intro); first | omega | rfl | (dsimp only; omega))))
        all_goals (conv => whnf)
        refine RWL.seq (RWL.seq (RWL.of (RWP.of tabOk orders ?_)))
        conv => whnf
        refine RWL.cond ?_
        conv => whnf
        cases bm with
        | false =>
          rw [if_neg (by simp)] at hrun
          rw [← hat] at hrun
          subst hrun
          refine Spl.yes ?_
          refine RWL.seq (RWL.of (RWP.callT (t := 136) (f := 55) tabOk 3 rfl ⟨rfl, rfl, rfl⟩ ?_))
          conv => whnf
          refine ⟨rfl, ?_⟩
          repeat' ((conv => whnf); (first
    | (with_reducible first | refine Spl.yes ?_ | refine Spl.no ?_ | refine Spl.dec (fun h => ?_) (fun h => ?_) | refine Spl.eq (fun h => ?_) (fun h => ?_) | refine Spl.ne (fun h => ?_) (fun h => ?_) | refine Spl.seq (fun h => ?_) (fun h => ?_) | refine Spl.not ?_ | refine Spl.any (fun h => ?_) (fun h => ?_))
    | (refine VCalls.mono (fail39_c 32 fm.at_) ?_; rintro _ rfl)
    | ((with_reducible apply And.intro); first | omega | rfl | (dsimp only; omega))))
          all_goals (conv => whnf)
          refine RWL.ret ?_
          conv => whnf
          refine ⟨_, Wk.narrow _ [4, 5, 6] [4] [], rfl, ?_⟩
          conv => whnf
          exact rfl
        | true =>
          rw [if_pos rfl] at hrun
          refine Spl.no ?_
          refine RWL.skip ?_
          conv => whnf
          refine RWL.seq (RWL.of (RWP.cutOwn (t := 97) (x := 143) (y := 146) (d := 147) tabOk 4 rfl ⟨rfl, rfl, rfl⟩ ?_))
          repeat' ((conv => whnf); (first
    | (with_reducible first | refine Spl.yes ?_ | refine Spl.no ?_ | refine Spl.dec (fun h => ?_) (fun h => ?_) | refine Spl.eq (fun h => ?_) (fun h => ?_) | refine Spl.ne (fun h => ?_) (fun h => ?_) | refine Spl.seq (fun h => ?_) (fun h => ?_) | refine Spl.not ?_ | refine Spl.any (fun h => ?_) (fun h => ?_))
    | refine And.intro (by show (0 : Int) < ((rowsP (bt :: b' :: lv.map Prod.fst)).length : Int) - 1 ∧ ((rowsP (bt :: b' :: lv.map Prod.fst)).length : Int) - 1 ≤ ((rowsP (bt :: b' :: lv.map Prod.fst)).length : Int); simp only [List.map_cons] at hrl; simp only [List.length_cons] at hrl; omega) ?_
    | ((with_reducible apply And.intro); first | omega | rfl | (dsimp only; omega))))
          all_goals (conv => whnf)
          refine RWL.cv (Cv.wk (Wk.trans (Wk.narrow _ [0, 1, 4, 7, 8, 9, 13, 19, 20, 21] [4, 7, 13] [147]) (Wk.eq (Eq.trans rfl (congrArg (fun X => (⟨177, [(0, .pv (.sl 12 (tk L))), (1, .pv (iv en)), (4, .ptr 4 0), (7, .ptr 7 0), (8, .own 147), (9, .pv funcV), (13, .ptr 13 0), (19, .pv (.sl 12 (tk L))), (20, .pv (iv (tk L).length)), (21, .pv (iv j))], [(4, (27, [.pv (iv 0), .pv (iv 0), .pv (iv 0), .pv (.val nilV), .pv (bv false), .pv (iv 0), .pv (iv 0), .pv (iv 0), .pv (sv (bs [])), .pv (iv 0), .pv (iv 0), .pv (.val nilV)])), (7, (92, kindsF)), (13, (27, [.pv (iv fm.kind), .pv (iv fm.at_), .pv (iv fm.c), .pv (rs fm.set), .pv (bv fm.neg), .pv (iv fm.n), .pv (iv fm.m), .pv (iv fm.mode), .pv (sv fm.name), .pv (iv fm.on), .pv (iv fm.off), .pv (.sl 12 (rowsN km))]))], [(147, ⟨1, 94, true, X⟩)], []⟩ : St)) hpop)))) (Cv.pop rfl (Cv.here ?_)))
          obtain ⟨uop, ulk, ualts, uitems, ufixed⟩ := u
          simp only at hu
          cases ulk with
          | none =>
            by_cases hu13 : uop.n = 13
            · have hae : addV ⟨uop, none, ualts, uitems, ufixed⟩ (Node.mk fm km) = ⟨uop, some (Node.mk fm km), ualts, uitems, true⟩ := by unfold addV; rw [if_pos ⟨hu13, rfl⟩]
              have hadd := add_look uop ualts uitems ufixed (Node.mk fm km) hu13
              rw [hae] at hrun
              refine RWL.midD tabOk orders [0, 1, 2, 3, 4, 5, 6] (.ofList [7]) (by decide +kernel) ?_
              repeat' ((conv => whnf); (first
    | (with_reducible first | refine Spl.yes ?_ | refine Spl.no ?_ | refine Spl.dec (fun h => ?_) (fun h => ?_) | refine Spl.eq (fun h => ?_) (fun h => ?_) | refine Spl.ne (fun h => ?_) (fun h => ?_) | refine Spl.seq (fun h => ?_) (fun h => ?_) | refine Spl.not ?_ | refine Spl.any (fun h => ?_) (fun h => ?_))
    | (rw [htop2])
    | refine And.intro (Nat.le_of_ble_eq_true rfl) ?_
    | ((with_reducible apply And.intro); first | omega | rfl | (dsimp only; omega))))
              all_goals (conv => whnf)
              refine Cv.valPtr 153 rfl (Cv.wk (Wk.addNil 1000001 12 27) (Cv.here ?_))
              conv => whnf
              (refine HQ.use (hadd) ⟨id, id, id⟩ ⟨rfl, rfl⟩ rfl rfl (by first | exact ⟨⟨rfl, rfl⟩, trivial⟩ | exact ⟨⟨rfl, rfl⟩, ⟨rfl, rfl⟩, trivial⟩) (by first | exact trivial | exact ⟨⟨rfl, rfl⟩, trivial⟩ | exact ⟨⟨rfl, rfl⟩, ⟨rfl, rfl⟩, trivial⟩ | exact ⟨⟨rfl, rfl⟩, ⟨rfl, rfl⟩, ⟨rfl, rfl⟩, trivial⟩) (by first | exact trivial | exact ⟨⟨rfl, rfl⟩, trivial⟩) ?_; rintro _ _ ⟨rfl, rfl⟩; refine ⟨⟨rfl, rfl, rfl⟩, ?_⟩)
              conv => whnf
              refine RWL.of (RWP.of tabOk orders ?_)
              repeat' ((conv => whnf); (first
    | (with_reducible first | refine Spl.yes ?_ | refine Spl.no ?_ | refine Spl.dec (fun h => ?_) (fun h => ?_) | refine Spl.eq (fun h => ?_) (fun h => ?_) | refine Spl.ne (fun h => ?_) (fun h => ?_) | refine Spl.seq (fun h => ?_) (fun h => ?_) | refine Spl.not ?_ | refine Spl.any (fun h => ?_) (fun h => ?_))
    | ((with_reducible apply And.intro); first | omega | rfl | (dsimp only; omega))))
              all_goals (conv => whnf)
              refine Cv.wk (Wk.trans (Wk.rn 147 8 rfl rfl) (Wk.narrow _ [0, 1, 4, 7, 8, 9, 19, 20, 21] [1000000, 4, 7] [8, 1000001, 1000002, 1000003])) (Cv.here
                ⟨(L.length - (j + 1)).toNat, by omega, b0, ⟨uop, some (Node.mk fm km), ualts, uitems, true⟩, lv, j + 1, rfl, rfl, by omega, by omega, rfl, hrun, by simp; omega, fun p hp => by have := hszl p (List.mem_cons_of_mem _ hp); omega, by simp only [List.length_cons] at hdep; omega⟩)
            · have hae : addV ⟨uop, none, ualts, uitems, ufixed⟩ (Node.mk fm km) = ⟨uop, none, ualts, uitems ++ [Node.mk fm km], fixK fm.kind⟩ := by unfold addV; rw [if_neg (fun q => hu13 q.1)]; rfl
              have hadd := addV_h ⟨uop, none, ualts, uitems, ufixed⟩ (Node.mk fm km) (by simp only; omega)
              rw [hae] at hadd hrun
              refine RWL.midD tabOk orders [0, 1, 2, 3, 4, 5, 6] (.ofList [7]) (by decide +kernel) ?_
              repeat' ((conv => whnf); (first
    | (with_reducible first | refine Spl.yes ?_ | refine Spl.no ?_ | refine Spl.dec (fun h => ?_) (fun h => ?_) | refine Spl.eq (fun h => ?_) (fun h => ?_) | refine Spl.ne (fun h => ?_) (fun h => ?_) | refine Spl.seq (fun h => ?_) (fun h => ?_) | refine Spl.not ?_ | refine Spl.any (fun h => ?_) (fun h => ?_))
    | (rw [htop2])
    | refine And.intro (Nat.le_of_ble_eq_true rfl) ?_
    | ((with_reducible apply And.intro); first | omega | rfl | (dsimp only; omega))))
              all_goals (conv => whnf)
              refine Cv.valPtr 153 rfl (Cv.here ?_)
              conv => whnf
              (refine HQ.use (hadd) ⟨id, id, id⟩ ⟨rfl, rfl⟩ rfl rfl (by first | exact ⟨⟨rfl, rfl⟩, trivial⟩ | exact ⟨⟨rfl, rfl⟩, ⟨rfl, rfl⟩, trivial⟩) (by first | exact trivial | exact ⟨⟨rfl, rfl⟩, trivial⟩ | exact ⟨⟨rfl, rfl⟩, ⟨rfl, rfl⟩, trivial⟩ | exact ⟨⟨rfl, rfl⟩, ⟨rfl, rfl⟩, ⟨rfl, rfl⟩, trivial⟩) (by first | exact trivial | exact ⟨⟨rfl, rfl⟩, trivial⟩) ?_; rintro _ _ ⟨rfl, rfl⟩; refine ⟨⟨rfl, rfl, rfl⟩, ?_⟩)
              conv => whnf
              refine RWL.of (RWP.of tabOk orders ?_)
              repeat' ((conv => whnf); (first
    | (with_reducible first | refine Spl.yes ?_ | refine Spl.no ?_ | refine Spl.dec (fun h => ?_) (fun h => ?_) | refine Spl.eq (fun h => ?_) (fun h => ?_) | refine Spl.ne (fun h => ?_) (fun h => ?_) | refine Spl.seq (fun h => ?_) (fun h => ?_) | refine Spl.not ?_ | refine Spl.any (fun h => ?_) (fun h => ?_))
    | ((with_reducible apply And.intro); first | omega | rfl | (dsimp only; omega))))
              all_goals (conv => whnf)
              refine Cv.wk (Wk.trans (Wk.rn 147 8 rfl rfl) (Wk.narrow _ [0, 1, 4, 7, 8, 9, 19, 20, 21] [1000000, 4, 7] [8, 1000001, 1000002, 1000003])) (Cv.here
                ⟨(L.length - (j + 1)).toNat, by omega, b0, ⟨uop, none, ualts, uitems ++ [Node.mk fm km], fixK fm.kind⟩, lv, j + 1, rfl, rfl, by omega, by omega, rfl, hrun, by simp; omega, fun p hp => by have := hszl p (List.mem_cons_of_mem _ hp); omega, by simp only [List.length_cons] at hdep; omega⟩)
          | some ul =>
            have hae : addV ⟨uop, some ul, ualts, uitems, ufixed⟩ (Node.mk fm km) = ⟨uop, some ul, ualts, uitems ++ [Node.mk fm km], fixK fm.kind⟩ := by unfold addV; rw [if_neg (fun q => absurd q.2 (by simp))]; rfl
            have hadd := addV_h ⟨uop, some ul, ualts, uitems, ufixed⟩ (Node.mk fm km) (by simp only; omega)
            rw [hae] at hadd hrun
            refine RWL.midD tabOk orders [0, 1, 2, 3, 4, 5, 6] (.ofList [7]) (by decide +kernel) ?_
            repeat' ((conv => whnf); (first
    | (with_reducible first | refine Spl.yes ?_ | refine Spl.no ?_ | refine Spl.dec (fun h => ?_) (fun h => ?_) | refine Spl.eq (fun h => ?_) (fun h => ?_) | refine Spl.ne (fun h => ?_) (fun h => ?_) | refine Spl.seq (fun h => ?_) (fun h => ?_) | refine Spl.not ?_ | refine Spl.any (fun h => ?_) (fun h => ?_))
    | (rw [htop2])
    | refine And.intro (Nat.le_of_ble_eq_true rfl) ?_
    | ((with_reducible apply And.intro); first | omega | rfl | (dsimp only; omega))))
            all_goals (conv => whnf)
            refine Cv.valPtr 153 rfl (Cv.here ?_)
            conv => whnf
            (refine HQ.use (hadd) ⟨id, id, id⟩ ⟨rfl, rfl⟩ rfl rfl (by first | exact ⟨⟨rfl, rfl⟩, trivial⟩ | exact ⟨⟨rfl, rfl⟩, ⟨rfl, rfl⟩, trivial⟩) (by first | exact trivial | exact ⟨⟨rfl, rfl⟩, trivial⟩ | exact ⟨⟨rfl, rfl⟩, ⟨rfl, rfl⟩, trivial⟩ | exact ⟨⟨rfl, rfl⟩, ⟨rfl, rfl⟩, ⟨rfl, rfl⟩, trivial⟩) (by first | exact trivial | exact ⟨⟨rfl, rfl⟩, trivial⟩) ?_; rintro _ _ ⟨rfl, rfl⟩; refine ⟨⟨rfl, rfl, rfl⟩, ?_⟩)
            conv => whnf
            refine RWL.of (RWP.of tabOk orders ?_)
            repeat' ((conv => whnf); (first
    | (with_reducible first | refine Spl.yes ?_ | refine Spl.no ?_ | refine Spl.dec (fun h => ?_) (fun h => ?_) | refine Spl.eq (fun h => ?_) (fun h => ?_) | refine Spl.ne (fun h => ?_) (fun h => ?_) | refine Spl.seq (fun h => ?_) (fun h => ?_) | refine Spl.not ?_ | refine Spl.any (fun h => ?_) (fun h => ?_))
    | ((with_reducible apply And.intro); first | omega | rfl | (dsimp only; omega))))
            all_goals (conv => whnf)
            refine Cv.wk (Wk.trans (Wk.rn 147 8 rfl rfl) (Wk.narrow _ [0, 1, 4, 7, 8, 9, 19, 20, 21] [1000000, 4, 7] [8, 1000001, 1000002, 1000003])) (Cv.here
              ⟨(L.length - (j + 1)).toNat, by omega, b0, ⟨uop, some ul, ualts, uitems ++ [Node.mk fm km], fixK fm.kind⟩, lv, j + 1, rfl, rfl, by omega, by omega, rfl, hrun, by simp; omega, fun p hp => by have := hszl p (List.mem_cons_of_mem _ hp); omega, by simp only [List.length_cons] at hdep; omega⟩)
    rw [if_neg h8] at hrun
    have hkk := kinds_ok t hkd h7 h9 h10 h8
    refine RWL.seq (RWL.seq (RWL.of (RWP.hookL tabOk 11 ?_)))
    repeat' ((conv => whnf); (with_reducible first | refine Spl.yes ?_ | refine Spl.no ?_ | refine Spl.dec (fun h => ?_) (fun h => ?_) | refine Spl.not ?_))
    all_goals (conv => whnf)
    · exfalso; omega
    · exfalso; omega
    refine ⟨rfl, (by show 44 < 177; omega), .ptr 7 t.kind.toNat, hook_idx rfl rfl rfl ⟨by omega, by omega⟩, ?_⟩
    conv => whnf
    refine ⟨rfl, (by show 45 < 177; omega), .pv (.val (.int .i64 (leafK t.kind))), (by rw [← hkk.1]; exact hook_kind (n := t.kind) rfl rfl rfl ⟨by omega, by omega⟩), ?_⟩
    repeat' ((conv => whnf); (with_reducible first | refine Spl.yes ?_ | refine Spl.no ?_ | refine Spl.eq (fun h => ?_) (fun h => ?_)))
    conv => whnf
    refine RWL.cond ?_
    conv => whnf
    refine Spl.eq (fun h0 => absurd h0 hkk.2) (fun h0 => ?_)
    refine RWL.skip ?_
    conv => whnf
    have hae : addV ⟨op, some nl, alts, items, fixed⟩ (leafN t) = ⟨op, some nl, alts, items ++ [leafN t], fixK (leafK t.kind)⟩ := by unfold addV; rw [if_neg (fun q => absurd q.2 (by simp))]; rfl
    have hadd := addV_h ⟨op, some nl, alts, items, fixed⟩ (leafN t) (by simp only; omega)
    rw [hae] at hadd hrun
    refine RWL.of (RWP.hookD tabOk orders [0, 1, 2] 3 4 (.ofList [5, 6, 7, 8, 9, 10, 11, 12, 13, 14, 15, 16, 17, 18, 19, 20, 21, 22, 23, 24]) (by decide +kernel) ?_)
    conv => whnf
    refine ⟨trivial, (by show 58 < 177; omega), .ptr 7 t.kind.toNat, hook_idx rfl rfl rfl ⟨by omega, by omega⟩, ?_⟩
    conv => whnf
    refine ⟨trivial, (by show 59 < 177; omega), .pv (.val (.int .i64 (leafK t.kind))), (by rw [← hkk.1]; exact hook_kind (n := t.kind) rfl rfl rfl ⟨by omega, by omega⟩), ?_⟩
    repeat' ((conv => whnf); (first
    | (with_reducible first | refine Spl.yes ?_ | refine Spl.no ?_ | refine Spl.dec (fun h => ?_) (fun h => ?_) | refine Spl.eq (fun h => ?_) (fun h => ?_) | refine Spl.ne (fun h => ?_) (fun h => ?_) | refine Spl.seq (fun h => ?_) (fun h => ?_) | refine Spl.not ?_ | refine Spl.any (fun h => ?_) (fun h => ?_))
    | (refine HQ.use (hadd) ⟨id, id, id⟩ ⟨rfl, rfl⟩ rfl rfl (by first | exact ⟨⟨rfl, rfl⟩, trivial⟩ | exact ⟨⟨rfl, rfl⟩, ⟨rfl, rfl⟩, trivial⟩) (by first | exact trivial | exact ⟨⟨rfl, rfl⟩, trivial⟩ | exact ⟨⟨rfl, rfl⟩, ⟨rfl, rfl⟩, trivial⟩ | exact ⟨⟨rfl, rfl⟩, ⟨rfl, rfl⟩, ⟨rfl, rfl⟩, trivial⟩) (by first | exact trivial | exact ⟨⟨rfl, rfl⟩, trivial⟩) ?_; rintro _ _ ⟨rfl, rfl⟩; refine ⟨⟨rfl, rfl, rfl⟩, ?_⟩)
    | refine And.intro (Nat.le_of_ble_eq_true rfl) ?_
    | ((with_reducible apply And.intro); first | omega | rfl | (dsimp only; omega))))
    all_goals (conv => whnf)
    refine RWL.of (RWP.of tabOk orders ?_)
    repeat' ((conv => whnf); (first
    | (with_reducible first | refine Spl.yes ?_ | refine Spl.no ?_ | refine Spl.dec (fun h => ?_) (fun h => ?_) | refine Spl.eq (fun h => ?_) (fun h => ?_) | refine Spl.ne (fun h => ?_) (fun h => ?_) | refine Spl.seq (fun h => ?_) (fun h => ?_) | refine Spl.not ?_ | refine Spl.any (fun h => ?_) (fun h => ?_))
    | ((with_reducible apply And.intro); first | omega | rfl | (dsimp only; omega))))
    all_goals (conv => whnf)
    refine Cv.wk (Wk.narrow _ [0, 1, 4, 7, 8, 9, 19, 20, 21] [1000000, 4, 7] [8, 1000001, 1000002, 1000003]) (Cv.here ⟨(L.length - (j + 1)).toNat, by omega, b0, ⟨op, some nl, alts, items ++ [leafN t], fixK (leafK t.kind)⟩, lv, j + 1, rfl, rfl, by omega, by omega, rfl, hrun, by simp; omega, fun p hp => by have := hszl p hp; omega, hdep⟩)
end Go.Proofs.Ytnoohgiecnmajaa.VC

/- parse: the machine with a stack answers as the descent (plain). -/
namespace Go.Proofs.Ytnoohgiecnmajaa.VC
open Go Go.RowKit
set_option linter.unusedVariables false
set_option linter.unusedSimpArgs false
set_option maxHeartbeats 4000000

theorem runS_cons (en : Int) (t : Tok) (r : List Tok) (v : Lev) (st : List Lev) : runS en (t :: r) v st =
    if t.kind = 7 then runS en r (endL v) st
    else if t.kind = 9 then (if (quantV v t).1 = true then runS en r (quantV v t).2 st else ⟨nodeZ, 30, t.at_⟩)
    else if t.kind = 10 then (if (st.length : Int) ≥ 40 then ⟨nodeZ, 11, t.at_⟩ else runS en r (levO t) (v :: st))
    else if t.kind = 8 then
      (match st with
       | [] => ⟨nodeZ, 31, t.at_⟩
       | u :: st' => if (madeV (endL v)).2 = true then runS en r (addV u (madeV (endL v)).1) st' else ⟨nodeZ, 32, v.op.at_⟩)
    else runS en r (addV v (leafN t)) st := by
  conv => lhs; unfold runS
  all_goals rfl
def errS (en : Int) (q : Par) : ParR := ⟨nodeZ, q.e, if q.e = 20 then en else q.at_⟩
theorem drop_rdt {L : List Tok} {i : Int} (h0 : 0 ≤ i) (h : i < L.length) : L.drop i.toNat = rdt L i :: L.drop (i + 1).toNat := by
  rw [show (i + 1).toNat = i.toNat + 1 by omega, List.drop_eq_getElem_cons (by omega)]
  simp [rdt, List.getD_eq_getElem?_getD, List.getElem?_eq_getElem (show i.toNat < L.length by omega)]
/-- A thing that is added goes to the items. -/
def Rdy (v : Lev) : Prop := ¬ (v.op.n = 13 ∧ v.look = none)
theorem addV_rdy {v : Lev} (h : Rdy v) (n : Node) : addV v n = { v with items := v.items ++ [n], fixed := fixK n.f.kind } := by
  unfold addV
  rw [if_neg]
  rintro ⟨h1, h2⟩
  exact h ⟨h1, by simpa using h2⟩
theorem rep_fix (f : NodeF) : repeatableP f = !fixK f.kind := by
  unfold repeatableP fixK
  by_cases h1 : f.kind = 4
  · simp [h1]
  by_cases h2 : f.kind = 5
  · simp [h2]
  by_cases h3 : f.kind = 9
  · simp [h3]
  by_cases h4 : f.kind = 10
  · simp [h4]
  · have e1 : (f.kind == 4) = false := by simpa using h1
    have e2 : (f.kind == 5) = false := by simpa using h2
    have e3 : (f.kind == 9) = false := by simpa using h3
    have e4 : (f.kind == 10) = false := by simpa using h4
    rw [if_neg h1, if_neg h2, if_neg h3, if_neg h4, e1, e2, e3, e4]
    rfl
theorem kindP_err {L : List Tok} {p : Par} (h : p.e ≠ 0) : kindP L p = 0 := by
  unfold kindP
  by_cases q : p.i ≥ L.length
  · rw [if_pos q]
  · rw [if_neg q, if_pos h]
theorem kindP_at {L : List Tok} {p : Par} (h : p.e = 0) (hi : p.i < L.length) : kindP L p = (rdt L p.i).kind := by
  unfold kindP
  rw [if_neg (by omega), if_neg (by simp [h])]
theorem kindP_end {L : List Tok} (hT : TokS L) {p : Par} (h0 : 0 ≤ p.i) (h : p.e = 0) (hk : kindP L p = 0) : L.length ≤ p.i := by
  by_cases q : p.i < L.length
  · rw [kindP_at h q] at hk
    have := hT.kind _ (rdt_mem (j := p.i) (by omega))
    omega
  · omega
theorem seq_err {L : List Tok} {k : Nat} {p : Par} {l : List Node} (h : p.e ≠ 0) : (seqGo L (k + 1) p l).2 = p := by
  rw [seqGo, kindP_err h, if_pos (.inl rfl)]
theorem alt_err {L : List Tok} {k : Nat} {p : Par} (h : p.e ≠ 0) : (altF L (k + 2) p).2 = p := by
  rw [altF, seq_err h]
  rw [altGo, kindP_err h, if_neg (by decide)]
theorem group_err {L : List Tok} {k : Nat} {p : Par} {t : Tok} {look : List Node} (h : p.e ≠ 0) : (groupF L (k + 3) t look p).2 = p := by
  rw [groupF, alt_err h, kindP_err h, if_pos (by decide)]
  simp only
  unfold failP
  rw [if_neg h]
section
variable (L : List Tok) (en : Int)
def MS (p : Par) (v : Lev) (st : List Lev) : ParR := runS en (L.drop p.i.toNat) v st
def ThingS (k : Nat) : Prop := ∀ (p : Par) (v : Lev) (st : List Lev), ParOk L p → p.i < L.length → p.e = 0 → p.op = st.length → 4 * parMu L p ≤ k → (rdt L p.i).kind ≠ 7 → (rdt L p.i).kind ≠ 8 → (rdt L p.i).kind ≠ 9 →
  ((thingF L k p).2.e = 0 → MS L en p v st = MS L en (thingF L k p).2 (addV v (thingF L k p).1) st) ∧ ((thingF L k p).2.e ≠ 0 → MS L en p v st = errS en (thingF L k p).2)
def SeqS (k : Nat) : Prop := ∀ (p : Par) (v : Lev) (st : List Lev), ParOk L p → p.e = 0 → p.op = st.length → Rdy v → (kindP L p = 9 → v.fixed = true ∨ v.items = []) → 4 * parMu L p + 1 ≤ k →
  ((seqGo L k p v.items).2.e = 0 → ∃ v', MS L en p v st = MS L en (seqGo L k p v.items).2 v' st ∧ (seqGo L k p v.items).1 = oneN 12 v'.items ∧ v'.op = v.op ∧ v'.look = v.look ∧ v'.alts = v.alts ∧ (kindP L (seqGo L k p v.items).2 = 0 ∨ kindP L (seqGo L k p v.items).2 = 7 ∨ kindP L (seqGo L k p v.items).2 = 8)) ∧
  ((seqGo L k p v.items).2.e ≠ 0 → MS L en p v st = errS en (seqGo L k p v.items).2)
def AltGoS (k : Nat) : Prop := ∀ (p : Par) (v : Lev) (st : List Lev), ParOk L p → p.e = 0 → p.op = st.length → Rdy v → (kindP L p = 0 ∨ kindP L p = 7 ∨ kindP L p = 8) → 4 * parMu L p + 1 ≤ k →
  ((altGo L k p (endL v).alts).2.e = 0 → ∃ v', MS L en p v st = MS L en (altGo L k p (endL v).alts).2 v' st ∧ (endL v').alts = (altGo L k p (endL v).alts).1 ∧ v'.op = v.op ∧ v'.look = v.look ∧ (kindP L (altGo L k p (endL v).alts).2 = 0 ∨ kindP L (altGo L k p (endL v).alts).2 = 8)) ∧
  ((altGo L k p (endL v).alts).2.e ≠ 0 → MS L en p v st = errS en (altGo L k p (endL v).alts).2)
def AltS (k : Nat) : Prop := ∀ (p : Par) (v : Lev) (st : List Lev), ParOk L p → p.e = 0 → p.op = st.length → Rdy v → v.items = [] → v.alts = [] → 4 * parMu L p + 2 ≤ k →
  ((altF L k p).2.e = 0 → ∃ v', MS L en p v st = MS L en (altF L k p).2 v' st ∧ (endL v').alts = (altF L k p).1 ∧ v'.op = v.op ∧ v'.look = v.look ∧ (kindP L (altF L k p).2 = 0 ∨ kindP L (altF L k p).2 = 8)) ∧
  ((altF L k p).2.e ≠ 0 → MS L en p v st = errS en (altF L k p).2)
theorem mu_lt {L : List Tok} {p q : Par} (hp : p.e = 0) (h0 : 0 ≤ p.i) (hi : p.i < L.length) (h : p.i < q.i) : parMu L q + 1 ≤ parMu L p := by
  unfold parMu
  rw [if_neg (show ¬ p.e ≠ 0 by simp [hp])]
  split <;> omega
theorem mu_le {L : List Tok} {p q : Par} (hp : p.e = 0) (h : p.i ≤ q.i) : parMu L q ≤ parMu L p := by
  unfold parMu
  rw [if_neg (show ¬ p.e ≠ 0 by simp [hp])]
  split <;> omega
variable {L en}
theorem MS_at {p : Par} {v : Lev} {st : List Lev} (h0 : 0 ≤ p.i) (hi : p.i < L.length) : MS L en p v st = runS en (rdt L p.i :: L.drop (p.i + 1).toNat) v st := by
  unfold MS
  rw [drop_rdt h0 hi]
theorem MS_end {p : Par} {v : Lev} {st : List Lev} (hi : L.length ≤ p.i) : MS L en p v st = runS en [] v st := by
  unfold MS
  rw [List.drop_eq_nil_of_le (by omega)]
theorem alt_step {k : Nat} (hS : SeqS L en k) (hG : AltGoS L en k) : AltS L en (k + 1) := by
  intro p v st hp he ho hr hit hal hk
  have hs := hS p v st hp he ho hr (fun _ => .inr hit) (by omega)
  have hto := seq_ok k v.items hp
  rw [altF]
  rw [hit] at hs hto
  generalize seqGo L k p [] = r at *
  obtain ⟨n, q⟩ := r
  simp only at hs hto ⊢
  by_cases e : q.e = 0
  · obtain ⟨v', h1, h2, h3, h4, h5, h6⟩ := hs.1 e
    have hv : (endL v').alts = [n] := by unfold endL; simp only; rw [h5, hal, h2]; rfl
    have hg := hG q v' st hto.ok e (by rw [(hto.same e).1, ho]) (by unfold Rdy; rw [h3, h4]; exact hr) h6 (by have := mu_le (L := L) he hto.le; omega)
    rw [hv] at hg
    generalize altGo L k q [n] = r2 at *
    obtain ⟨l2, q2⟩ := r2
    simp only at hg ⊢
    refine ⟨fun e2 => ?_, fun e2 => ?_⟩
    · obtain ⟨v2, g1, g2, g3, g4, g5⟩ := hg.1 e2
      exact ⟨v2, h1.trans g1, g2, g3.trans h3, g4.trans h4, g5⟩
    · exact h1.trans (hg.2 e2)
  · have hq : (altGo L k q [n]).2 = q ∨ k = 0 := by
      cases k with
      | zero => exact .inr rfl
      | succ k => left; rw [altGo, kindP_err e, if_neg (by decide)]
    rcases hq with hq | hq
    · rw [hq]
      exact ⟨fun h => absurd h e, fun _ => hs.2 e⟩
    · omega
theorem altgo_step {k : Nat} (hS : SeqS L en k) (hG : AltGoS L en k) : AltGoS L en (k + 1) := by
  intro p v st hp he ho hr hkind hk
  rw [altGo]
  by_cases q7 : kindP L p = 7
  · rw [if_pos q7]
    have hpos := kindP_pos (L := L) (p := p) (by omega)
    have h0 := hp.i0
    have hkd : (rdt L p.i).kind = 7 := by rw [← hpos.2.2]; exact q7
    have hp1 : ParOk L { p with i := p.i + 1 } := ⟨by simp only; omega, by simp only; omega, hp.o0, hp.o1⟩
    have hmu := mu_lt (L := L) (p := p) (q := { p with i := p.i + 1 }) he h0 hpos.1 (by simp only; omega)
    have hk1 : 1 ≤ k := by omega
    have hstep : MS L en p v st = MS L en { p with i := p.i + 1 } (endL v) st := by
      rw [MS_at h0 hpos.1, runS_cons, if_pos hkd]
      rfl
    have hs := hS { p with i := p.i + 1 } (endL v) st hp1 he ho hr (fun _ => .inr rfl) (by omega)
    have hto := seq_ok k (endL v).items hp1
    have hei : (endL v).items = [] := rfl
    rw [hei] at hs hto
    generalize seqGo L k { p with i := p.i + 1 } [] = r at *
    obtain ⟨n, q⟩ := r
    simp only at hs hto ⊢
    by_cases e : q.e = 0
    · obtain ⟨v', h1, h2, h3, h4, h5, h6⟩ := hs.1 e
      have hv : (endL v').alts = (endL v).alts ++ [n] := by
        show v'.alts ++ [oneN 12 v'.items] = _
        rw [h5, h2]
      have hle := mu_le (L := L) (p := { p with i := p.i + 1 }) (q := q) he hto.le
      have hg := hG q v' st hto.ok e (by rw [(hto.same e).1]; exact ho) (by unfold Rdy; rw [h3, h4]; exact hr) h6 (by omega)
      rw [hv] at hg
      generalize altGo L k q ((endL v).alts ++ [n]) = r2 at *
      obtain ⟨l2, q2⟩ := r2
      simp only at hg ⊢
      refine ⟨fun e2 => ?_, fun e2 => ?_⟩
      · obtain ⟨v2, g1, g2, g3, g4, g5⟩ := hg.1 e2
        exact ⟨v2, hstep.trans (h1.trans g1), g2, g3.trans h3, g4.trans h4, g5⟩
      · exact hstep.trans (h1.trans (hg.2 e2))
    · obtain ⟨k, rfl⟩ : ∃ m, k = m + 1 := ⟨k - 1, by omega⟩
      have hq : (altGo L (k + 1) q ((endL v).alts ++ [n])).2 = q := by rw [altGo, kindP_err e, if_neg (by decide)]
      rw [hq]
      exact ⟨fun h => absurd h e, fun _ => hstep.trans (hs.2 e)⟩
  · rw [if_neg q7]
    exact ⟨fun _ => ⟨v, rfl, rfl, rfl, rfl, (show kindP L p = 0 ∨ kindP L p = 8 by omega)⟩, fun h => absurd he h⟩
theorem seq_step (hTok : TokS L) {k : Nat} (hT : ThingS L en k) (hS : SeqS L en k) : SeqS L en (k + 1) := by
  intro p v st hp he ho hr h9 hk
  rw [seqGo]
  by_cases q : kindP L p = 0 ∨ kindP L p = 7 ∨ kindP L p = 8
  · rw [if_pos q]
    exact ⟨fun _ => ⟨v, rfl, rfl, rfl, rfl, rfl, q⟩, fun h => absurd he h⟩
  rw [if_neg q]
  have hpos := kindP_pos (L := L) (p := p) (by omega)
  have h0 := hp.i0
  have hmu1 : 1 ≤ parMu L p := by unfold parMu; rw [if_neg (by simp [he])]; omega
  by_cases q9 : kindP L p = 9
  · rw [if_pos q9]
    refine ⟨fun h => absurd h (failP_e (by decide)), fun _ => ?_⟩
    have hkd : (rdt L p.i).kind = 9 := by rw [← hpos.2.2]; exact q9
    rw [MS_at h0 hpos.1, runS_cons, if_neg (by omega), if_pos hkd]
    have hq : (quantV v (rdt L p.i)).1 = false := by
      unfold quantV
      rcases h9 q9 with h | h
      · rw [if_pos h]
      · split
        · rfl
        · rw [h]; rfl
    rw [hq]
    simp only [failP, if_pos he, errS]
    rfl
  rw [if_neg q9]
  have ht := hT p v st hp hpos.1 he ho (by omega) (by omega) (by omega) (by omega)
  have htk := thing_ok k hp hpos.1 he
  generalize thingF L k p = r at ht htk ⊢
  obtain ⟨n, p2⟩ := r
  simp only at ht htk ⊢
  obtain ⟨hto, hlt⟩ := htk
  have hk1 : 1 ≤ k := by omega
  by_cases e : p2.e = 0
  · have h1 := ht.1 e
    rw [addV_rdy hr] at h1
    have hop : p2.op = st.length := by rw [(hto.same e).1, ho]
    have h20 := hto.ok.i0
    have hlt := hlt e
    by_cases qr : kindP L p2 = 9 ∧ repeatableP n.f = true
    · have hpos2 := kindP_pos (L := L) (p := p2) (by omega)
      have hkd : (rdt L p2.i).kind = 9 := by rw [← hpos2.2.2]; exact qr.1
      have hfx : fixK n.f.kind = false := by have := qr.2; rw [rep_fix] at this; simpa using this
      have hqn : quantN L (n, p2) = (repN (rdt L p2.i) n, { p2 with i := p2.i + 1 }) := by unfold quantN; rw [if_pos qr.1, if_pos qr.2]
      rw [hqn]
      have hqv : quantV { v with items := v.items ++ [n], fixed := fixK n.f.kind } (rdt L p2.i) = (true, { v with items := v.items ++ [repN (rdt L p2.i) n], fixed := true }) := by
        unfold quantV
        simp [hfx]
      have hstep : MS L en p2 { v with items := v.items ++ [n], fixed := fixK n.f.kind } st = MS L en { p2 with i := p2.i + 1 } { v with items := v.items ++ [repN (rdt L p2.i) n], fixed := true } st := by
        rw [MS_at h20 hpos2.1, runS_cons, if_neg (by omega), if_pos hkd, hqv, if_pos rfl]
        rfl
      have hp3 : ParOk L { p2 with i := p2.i + 1 } := ⟨by simp only; omega, by simp only; omega, hto.ok.o0, hto.ok.o1⟩
      have hmu := mu_lt (L := L) (p := p) (q := { p2 with i := p2.i + 1 }) he h0 hpos.1 (by simp only; omega)
      have hs := hS { p2 with i := p2.i + 1 } { v with items := v.items ++ [repN (rdt L p2.i) n], fixed := true } st hp3 e hop hr (fun _ => .inl rfl) (by omega)
      simp only at hs ⊢
      refine ⟨fun e2 => ?_, fun e2 => ?_⟩
      · obtain ⟨v', g1, g2, g3, g4, g5, g6⟩ := hs.1 e2
        exact ⟨v', h1.trans (hstep.trans g1), g2, g3, g4, g5, g6⟩
      · exact h1.trans (hstep.trans (hs.2 e2))
    · have hqn : quantN L (n, p2) = (n, p2) := by
        unfold quantN
        by_cases q2 : kindP L p2 = 9
        · rw [if_pos q2, if_neg (fun h => qr ⟨q2, h⟩)]
        · rw [if_neg q2]
      rw [hqn]
      have hmu := mu_lt (L := L) (p := p) (q := p2) he h0 hpos.1 hlt
      have hs := hS p2 { v with items := v.items ++ [n], fixed := fixK n.f.kind } st hto.ok e hop hr (fun h => by
        left
        show fixK n.f.kind = true
        by_cases q3 : fixK n.f.kind = true
        · exact q3
        · exact absurd ⟨h, by rw [rep_fix]; simpa using q3⟩ qr) (by omega)
      simp only at hs ⊢
      refine ⟨fun e2 => ?_, fun e2 => ?_⟩
      · obtain ⟨v', g1, g2, g3, g4, g5, g6⟩ := hs.1 e2
        exact ⟨v', h1.trans g1, g2, g3, g4, g5, g6⟩
      · exact h1.trans (hs.2 e2)
  · have hqn : quantN L (n, p2) = (n, p2) := by unfold quantN; rw [kindP_err e, if_neg (by decide)]
    rw [hqn]
    obtain ⟨k, rfl⟩ : ∃ m, k = m + 1 := ⟨k - 1, by omega⟩
    rw [seq_err e]
    exact ⟨fun h => absurd h e, fun _ => ht.2 e⟩
theorem close_step (hTok : TokS L) {k : Nat} (hA : AltS L en k) {p : Par} {v v0 : Lev} {st : List Lev} {t : Tok} (hp : ParOk L p) (he : p.e = 0) (ho : p.op = (v :: st).length) (hr : Rdy v0) (hi : v0.items = []) (hal : v0.alts = []) (hop : v0.op = t) (hk : 4 * parMu L p + 2 ≤ k) :
    ((groupF L (k + 1) t (lookL v0) p).2.e = 0 → MS L en p v0 (v :: st) = MS L en (groupF L (k + 1) t (lookL v0) p).2 (addV v (groupF L (k + 1) t (lookL v0) p).1) st) ∧ ((groupF L (k + 1) t (lookL v0) p).2.e ≠ 0 → MS L en p v0 (v :: st) = errS en (groupF L (k + 1) t (lookL v0) p).2) := by
  have hs := hA p v0 (v :: st) hp he ho hr hi hal hk
  have hto := alt_ok k hp
  rw [groupF]
  generalize altF L k p = r at hs hto ⊢
  obtain ⟨l, q⟩ := r
  simp only at hs hto ⊢
  have hq0 := hto.ok.i0
  by_cases e : q.e = 0
  · obtain ⟨v', h1, h2, h3, h4, h6⟩ := hs.1 e
    rcases h6 with h6 | h6
    · rw [if_pos (by omega)]
      refine ⟨fun h => absurd h (failP_e (by decide)), fun _ => ?_⟩
      have hend := kindP_end hTok hq0 e h6
      rw [h1, MS_end hend, runS, if_pos (by simp)]
      simp only [failP, if_pos e, errS]
      rfl
    · rw [if_neg (by omega)]
      simp only
      have hpos := kindP_pos (L := L) (p := q) (by omega)
      have hkd : (rdt L q.i).kind = 8 := by rw [← hpos.2.2]; exact h6
      have hmade : madeV (endL v') = (groupN t (lookL v0) l, decide (1 ≤ t.n ∧ t.n ≤ 8) || !(condBad t l)) := by
        unfold madeV
        rw [h2]
        have e1 : (endL v').op = t := h3.trans hop
        have e2 : lookL (endL v') = lookL v0 := by unfold lookL; show (match v'.look with | none => [] | some n => [n]) = _; rw [h4]; all_goals (cases v0.look <;> rfl)
        rw [e1, e2]
      have hstep : MS L en q v' (v :: st) = if (madeV (endL v')).2 = true then MS L en { q with i := q.i + 1, op := q.op - 1 } (addV v (madeV (endL v')).1) st else ⟨nodeZ, 32, v'.op.at_⟩ := by
        rw [MS_at hq0 hpos.1, runS_cons, if_neg (by omega), if_neg (by omega), if_neg (by omega), if_pos hkd]
        rfl
      rw [h1, hstep, hmade, h3, hop]
      simp only
      unfold groupP
      by_cases c1 : 1 ≤ t.n ∧ t.n ≤ 8
      · rw [if_pos c1, if_pos (by simp [c1])]
        exact ⟨fun _ => rfl, fun h => absurd e h⟩
      · rw [if_neg c1]
        by_cases c2 : condBad t l = true
        · rw [if_pos c2, if_neg (by simp [c1, c2])]
          refine ⟨fun h => absurd h (failP_e (by decide)), fun _ => ?_⟩
          simp only [failP, if_pos e, errS]
          rfl
        · rw [if_neg c2, if_pos (by simp [c2])]
          exact ⟨fun _ => rfl, fun h => absurd e h⟩
  · rw [kindP_err e, if_pos (by decide)]
    have hf : failP q 20 (-1) = q := by unfold failP; rw [if_neg e]
    rw [hf]
    exact ⟨fun h => absurd h e, fun _ => hs.2 e⟩
theorem thing_step (hTok : TokS L) {k : Nat} (hT : ThingS L en (k + 1)) (hA : AltS L en k) : ThingS L en (k + 2) := by
  intro p v st hp hi he ho hk n7 n8 n9
  have h0 := hp.i0
  have hmu1 : 1 ≤ parMu L p := by unfold parMu; rw [if_neg (by simp [he])]; omega
  rw [thingF]
  by_cases c10 : (rdt L p.i).kind ≠ 10
  · rw [if_pos c10]
    refine ⟨fun _ => ?_, fun h => absurd he h⟩
    rw [MS_at h0 hi, runS_cons, if_neg n7, if_neg n9, if_neg c10, if_neg n8]
    rfl
  rw [if_neg c10]
  have c10 : (rdt L p.i).kind = 10 := by omega
  by_cases c40 : p.op = 40
  · rw [if_pos c40]
    refine ⟨fun h => absurd h (failP_e (by decide)), fun _ => ?_⟩
    rw [MS_at h0 hi, runS_cons, if_neg n7, if_neg n9, if_pos c10, if_pos (by omega)]
    simp only [failP, if_pos he, errS]
    rfl
  rw [if_neg c40]
  have hp1 : ParOk L { p with op := p.op + 1, i := p.i + 1 } := ⟨by simp only; omega, by simp only; omega, by have := hp.o0; simp only; omega, by have := hp.o1; simp only; omega⟩
  have hmu := mu_lt (L := L) (p := p) (q := { p with op := p.op + 1, i := p.i + 1 }) he h0 hi (by simp only; omega)
  have hstep : MS L en p v st = MS L en { p with op := p.op + 1, i := p.i + 1 } (levO (rdt L p.i)) (v :: st) := by
    rw [MS_at h0 hi, runS_cons, if_neg n7, if_neg n9, if_pos c10, if_neg (by have := hp.o1; omega)]
    rfl
  have ho1 : ({ p with op := p.op + 1, i := p.i + 1 } : Par).op = (v :: st).length := by
    show p.op + 1 = _
    rw [ho]; simp
  rw [hstep]
  by_cases c13 : (rdt L p.i).n = 13
  · have hl := hTok.look p.i h0 hi c10 c13
    have hk1 : kindP L { p with op := p.op + 1, i := p.i + 1 } = 10 := by rw [kindP_at (by exact he) hl.1]; exact hl.2
    rw [if_pos ⟨c13, hk1⟩]
    have ht := hT { p with op := p.op + 1, i := p.i + 1 } (levO (rdt L p.i)) (v :: st) hp1 hl.1 he ho1 (by omega) (by rw [hl.2]; decide) (by rw [hl.2]; decide) (by rw [hl.2]; decide)
    have htk := thing_ok (k + 1) hp1 hl.1 he
    generalize thingF L (k + 1) { p with op := p.op + 1, i := p.i + 1 } = r at ht htk ⊢
    obtain ⟨n, q⟩ := r
    simp only at ht htk ⊢
    by_cases e : q.e = 0
    · rw [ht.1 e]
      have hadd : addV (levO (rdt L p.i)) n = { levO (rdt L p.i) with look := some n, fixed := true } := by
        unfold addV
        rw [if_pos ⟨c13, rfl⟩]
      rw [hadd]
      have hq := htk.2 e
      have hmu2 := mu_lt (L := L) (p := p) (q := q) he h0 hi (by omega)
      exact close_step hTok hA (v := v) (v0 := { levO (rdt L p.i) with look := some n, fixed := true }) htk.1.ok e (by rw [(htk.1.same e).1]; exact ho1) (by rintro ⟨_, h⟩; cases h) rfl rfl rfl (by omega)
    · obtain ⟨k, rfl⟩ : ∃ m, k = m + 2 := ⟨k - 2, by omega⟩
      rw [group_err e]
      exact ⟨fun h => absurd h e, fun _ => ht.2 e⟩
  · rw [if_neg (fun h => c13 h.1)]
    exact close_step hTok hA (v := v) (v0 := levO (rdt L p.i)) hp1 he ho1 (fun h => c13 h.1) rfl rfl rfl (by omega)
theorem all_step (hTok : TokS L) : ∀ k : Nat, ThingS L en k ∧ SeqS L en k ∧ AltGoS L en k ∧ AltS L en k := by
  intro k
  induction k using Nat.strongRecOn with
  | _ k ih =>
    refine ⟨?_, ?_, ?_, ?_⟩
    · intro p v st hp hi he ho hk
      have h0 := hp.i0
      have hmu1 : 1 ≤ parMu L p := by unfold parMu; rw [if_neg (by simp [he])]; omega
      obtain ⟨k, rfl⟩ : ∃ m, k = m + 2 := ⟨k - 2, by omega⟩
      exact thing_step hTok (ih (k + 1) (by omega)).1 (ih k (by omega)).2.2.2 p v st hp hi he ho hk
    · intro p v st hp he ho hr h9 hk
      obtain ⟨k, rfl⟩ : ∃ m, k = m + 1 := ⟨k - 1, by omega⟩
      exact seq_step hTok (ih k (by omega)).1 (ih k (by omega)).2.1 p v st hp he ho hr h9 hk
    · intro p v st hp he ho hr hkind hk
      obtain ⟨k, rfl⟩ : ∃ m, k = m + 1 := ⟨k - 1, by omega⟩
      exact altgo_step (ih k (by omega)).2.1 (ih k (by omega)).2.2.1 p v st hp he ho hr hkind hk
    · intro p v st hp he ho hr hi ha hk
      obtain ⟨k, rfl⟩ : ∃ m, k = m + 1 := ⟨k - 1, by omega⟩
      exact alt_step (ih k (by omega)).2.1 (ih k (by omega)).2.2.1 p v st hp he ho hr hi ha hk
theorem runS_parse (hTok : TokS L) : runS en L (levO tokZ) [] = parseP L en := by
  have hok0 : ParOk L par0 := ⟨by decide, by show (0 : Int) ≤ _; omega, by decide, by decide⟩
  have hA := (all_step (en := en) hTok (parFuel L)).2.2.2 par0 (levO tokZ) [] hok0 rfl rfl (by rintro ⟨h, _⟩; exact absurd h (by decide)) rfl rfl (by unfold parMu parFuel par0; simp)
  have hto := alt_ok (parFuel L) hok0
  have hms : MS L en par0 (levO tokZ) [] = runS en L (levO tokZ) [] := rfl
  rw [hms] at hA
  unfold parseP
  generalize altF L (parFuel L) par0 = r at hA hto ⊢
  obtain ⟨l, q⟩ := r
  simp only at hA hto ⊢
  have hq0 := hto.ok.i0
  unfold parDone
  by_cases e : q.e = 0
  · obtain ⟨v', h1, h2, h3, h4, h6⟩ := hA.1 e
    rcases h6 with h6 | h6
    · have hend := kindP_end hTok hq0 e h6
      rw [h1, MS_end hend, runS, if_neg (by simp), if_neg (show ¬ (q.e = 0 ∧ q.i < L.length) by omega), if_neg (by omega), if_neg (by simp [e]), h2]
    · have hpos := kindP_pos (L := L) (p := q) (by omega)
      have hkd : (rdt L q.i).kind = 8 := by rw [← hpos.2.2]; exact h6
      have hr : runS en L (levO tokZ) [] = ⟨nodeZ, 31, (rdt L q.i).at_⟩ := by
        rw [h1, MS_at hq0 hpos.1, runS_cons, if_neg (by omega), if_neg (by omega), if_neg (by omega), if_pos hkd]
      have hd : (if q.e = 0 ∧ q.i < L.length then failP q 31 (rdt L q.i).at_ else q) = { q with e := 31, at_ := (rdt L q.i).at_ } := by
        rw [if_pos ⟨e, hpos.1⟩]
        unfold failP
        rw [if_pos e]
      rw [hr, hd, if_neg (show ¬ (31 : Int) = 20 by decide), if_pos (show (31 : Int) ≠ 0 by decide)]
  · have hd : (if q.e = 0 ∧ q.i < L.length then failP q 31 (rdt L q.i).at_ else q) = q := if_neg (fun h => e h.1)
    rw [hA.2 e, hd]
    unfold errS
    by_cases e20 : q.e = 20
    · rw [if_pos e20, if_pos e20]
    · rw [if_neg e20, if_neg e20, if_pos e]
end
end Go.Proofs.Ytnoohgiecnmajaa.VC

/- Texts as lists of numbers: what stands where (plain). -/
namespace Go.Proofs.Ytnoohgiecnmajaa.VC
open Go Go.RowKit
set_option linter.unusedVariables false
set_option linter.unusedSimpArgs false
set_option maxHeartbeats 4000000

theorem byteAt_nums (s : ByteArray) (i : Int) : byteAt s i = (numsOf s).getD i.toNat 0 := by
  unfold byteAt numsOf
  rw [List.getD_eq_getElem?_getD, List.getD_eq_getElem?_getD, List.getElem?_map]
  cases s.data.toList[i.toNat]? <;> rfl
theorem nums_strOf {l : List Int} (h : Bytes l) : numsOf (strOfNums l) = l := by
  unfold numsOf strOfNums
  simp only [List.map_map]
  have : ∀ l : List Int, Bytes l → l.map ((fun b : UInt8 => (b.toNat : Int)) ∘ fun n : Int => UInt8.ofNat n.toNat) = l := by
    intro l
    induction l with
    | nil => intro _; rfl
    | cons a l ih =>
      intro h
      rw [List.map_cons, ih (fun x hx => h x (List.mem_cons_of_mem _ hx))]
      have := h a (List.mem_cons_self ..)
      simp only [Function.comp_apply, List.cons.injEq, and_true]
      rw [UInt8.toNat_ofNat', Nat.mod_eq_of_lt (by omega)]
      omega
  exact this l h
theorem byte_drop {s : ByteArray} {i c : Int} {r : List Int} (h0 : 0 ≤ i) (h : (numsOf s).drop i.toNat = c :: r) : byteAt s i = c ∧ i < s.size ∧ (numsOf s).drop (i + 1).toNat = r := by
  have hl : i.toNat < (numsOf s).length := by
    by_cases q : i.toNat < (numsOf s).length
    · exact q
    · rw [List.drop_eq_nil_of_le (by omega)] at h; cases h
  have h1 := List.drop_eq_getElem_cons hl
  rw [h1] at h
  simp only [List.cons.injEq] at h
  refine ⟨?_, ?_, ?_⟩
  · rw [byteAt_nums, List.getD_eq_getElem?_getD, List.getElem?_eq_getElem hl]
    exact h.1
  · rw [numsOf_len] at hl; omega
  · rw [show (i + 1).toNat = i.toNat + 1 by omega]; exact h.2
theorem isP_pre (s : ByteArray) (i : Int) (t : ByteArray) (h0 : 0 ≤ i) (ht : t.size ≠ 0) : isP s i t = (numsOf t).isPrefixOf ((numsOf s).drop i.toNat) := by
  have hinj : ∀ a b : UInt8, ((a.toNat : Int)) = (b.toNat : Int) → a = b := fun a b h => UInt8.toNat_inj.1 (by omega)
  have hmi : ∀ a b : List UInt8, a.map (fun b : UInt8 => (b.toNat : Int)) = b.map (fun b : UInt8 => (b.toNat : Int)) → a = b := by
    intro a
    induction a with
    | nil => intro b h; cases b with
      | nil => rfl
      | cons _ _ => cases h
    | cons x a ih => intro b h; cases b with
      | nil => cases h
      | cons y b =>
        simp only [List.map_cons, List.cons.injEq] at h
        rw [hinj x y h.1, ih b h.2]
  rw [Bool.eq_iff_iff, List.isPrefixOf_iff_prefix, List.prefix_iff_eq_take]
  unfold isP
  have hts : t.size = t.data.toList.length := by rw [Array.length_toList]; rfl
  have hss : s.size = s.data.toList.length := by rw [Array.length_toList]; rfl
  have hnl : (numsOf t).length = t.size := numsOf_len t
  rw [hnl]
  have hex : (s.extract i.toNat (i + t.size).toNat).toList = (s.data.toList.drop i.toNat).take t.size := by
    rw [ByteArray.toList_eq, ByteArray.data_extract, Array.toList_extract]
    simp only [List.extract_eq_take_drop]
    congr 1
    omega
  by_cases q : i + t.size ≤ s.size
  · rw [if_pos q, hex, ByteArray.toList_eq, beq_iff_eq]
    unfold numsOf
    rw [← List.map_drop, ← List.map_take]
    constructor
    · intro h; rw [h]
    · intro h; exact (hmi _ _ h).symm
  · rw [if_neg q]
    constructor
    · intro h; cases h
    · intro h
      exfalso
      have := congrArg List.length h
      rw [hnl, List.length_take, List.length_drop, numsOf_len] at this
      omega
theorem charP_drop {x : Text} {i c : Int} {r : List Int} (hu : x.utf = false) (h0 : 0 ≤ i) (h : (numsOf x.s).drop i.toNat = c :: r) : charP x i = (c, i + 1) := by
  obtain ⟨h1, h2, h3⟩ := byte_drop h0 h
  have hl := numsOf_len x.s
  unfold charP nextP
  rw [if_neg (by omega), if_neg (by rw [hu]; simp)]
  have : rdI (numsOf x.s) i = byteAt x.s i := by
    rw [byteAt_nums]
    unfold rdI
    rfl
  rw [this, h1]
/-- A group opens: a bracket, and neither a star nor a question mark behind it. -/
theorem open_drop {x : Text} {i c : Int} {r : List Int} (h0 : 0 ≤ i) (h : (numsOf x.s).drop i.toNat = 40 :: c :: r) (h42 : c ≠ 42) (h63 : c ≠ 63) : openP x i = tokG { tokZ with kind := 10, n := 1 } i (i + 1) := by
  obtain ⟨h1, h2, h3⟩ := byte_drop h0 h
  have p1 : isP x.s (i + 1) (bs [42]) = false := by
    rw [isP_pre _ _ _ (by omega) (by decide), h3]
    show (List.isPrefixOf [42] (c :: r)) = false
    simp [List.isPrefixOf]
    exact fun q => h42 q.symm
  have p2 : isP x.s (i + 1) (bs [63]) = false := by
    rw [isP_pre _ _ _ (by omega) (by decide), h3]
    show (List.isPrefixOf [63] (c :: r)) = false
    simp [List.isPrefixOf]
    exact fun q => h63 q.symm
  unfold openP
  rw [p1, p2, if_neg (by simp), if_pos rfl]
theorem noQ {x : Text} {i c : Int} {r : List Int} (h0 : 0 ≤ i) (h : (numsOf x.s).drop i.toNat = c :: r) (hc : c ≠ 92) : isP x.s i (bs [92, 81]) = false := by
  rw [isP_pre _ _ _ h0 (by decide), h]
  show (List.isPrefixOf [92, 81] (c :: r)) = false
  simp [List.isPrefixOf]
  exact fun q => absurd q.symm hc
/-- A step of the lexer that finds a token. -/
theorem lex_step {x : Text} {k : Nat} {i c : Int} {r : List Int} {out : List Tok} {t : Tok} {b : Int} (hu : x.utf = false) (hx : x.x = false) (h0 : 0 ≤ i) (h : (numsOf x.s).drop i.toNat = c :: r) (hc : c ≠ 92) (ht : tokC x i c (i + 1) = tokG t i b) :
    lexGo x (k + 1) i false out = lexGo x k b false (out ++ [{ t with at_ := i, to := b }]) := by
  obtain ⟨h1, h2, h3⟩ := byte_drop h0 h
  have hch := charP_drop hu h0 h
  have hq := noQ h0 h hc
  have htk : tokenP x i = tokG t i b := by
    unfold tokenP
    rw [if_neg (by rw [hx]; simp), hch]
    exact ht
  rw [lexGo, if_pos h2, if_neg (by simp), if_neg (by rw [hq]; simp), htk, if_neg (by unfold tokG; simp), if_pos (by unfold tokG; rfl)]
  rfl
theorem lex_end {x : Text} {k : Nat} {i : Int} {out : List Tok} (h : ¬ i < x.s.size) : lexGo x k i false out = ⟨out, 0, 0⟩ := by
  cases k with
  | zero => rw [lexGo]
  | succ k => rw [lexGo, if_neg h]
end Go.Proofs.Ytnoohgiecnmajaa.VC

/- A text within another one: what is read at an offset (plain). -/
namespace Go.Proofs.Ytnoohgiecnmajaa.VC
open Go Go.RowKit
set_option linter.unusedVariables false
set_option linter.unusedSimpArgs false
set_option maxHeartbeats 4000000

theorem pre_of {s : ByteArray} {i : Int} {t : ByteArray} (h0 : 0 ≤ i) (ht : t.size ≠ 0) (h : isP s i t = true) : ∃ r, (numsOf s).drop i.toNat = numsOf t ++ r := by
  rw [isP_pre _ _ _ h0 ht, List.isPrefixOf_iff_prefix] at h
  obtain ⟨r, hr⟩ := h
  exact ⟨r, hr.symm⟩
/-- A character that is one byte. -/
theorem charP_ascii {x : Text} {i c : Int} {r : List Int} (h0 : 0 ≤ i) (h : (numsOf x.s).drop i.toNat = c :: r) (hc : 0 ≤ c ∧ c < 128) : charP x i = (c, i + 1) := by
  by_cases hu : x.utf = true
  · obtain ⟨h1, h2, h3⟩ := byte_drop h0 h
    have hl := numsOf_len x.s
    have htk : ((numsOf x.s).take (i + 1).toNat).drop i.toNat = [c] := by
      rw [show (i + 1).toNat = i.toNat + 1 by omega, List.drop_take, h, show i.toNat + 1 - i.toNat = 1 by omega]
      rfl
    have ho : ofP [c] = c := by
      unfold ofP
      have hs : seqP c = [c] := by unfold seqP; rw [if_neg (by omega), if_pos hc.2]
      show (if seqP c = [c] ∧ [c] ≠ [] then c else -1) = c
      rw [if_pos ⟨hs, by simp⟩]
    have hat : atP (numsOf x.s) i = (c, 1) := by
      unfold atP atL
      rw [if_pos (by omega), htk, ho, if_pos hc.1]
    unfold charP nextP
    rw [if_neg (by omega), hat, if_pos ⟨hu, by show (1 : Int) > 0; decide⟩]
  · exact charP_drop (by simpa using hu) h0 h
theorem bs1_size (b : UInt8) : (bs [b]).size ≠ 0 := by show (1 : Nat) ≠ 0; decide
theorem is_byte {s : ByteArray} {i : Int} {b : UInt8} (h0 : 0 ≤ i) (h : isP s i (bs [b]) = true) : ∃ r, (numsOf s).drop i.toNat = (b.toNat : Int) :: r := by
  obtain ⟨r, hr⟩ := pre_of h0 (bs1_size b) h
  exact ⟨r, hr⟩
/-- The first text stands within the second one, at an offset; behind it nothing comes, or a newline, a bracket that closes, or a bar. -/
structure Ext (x x' : Text) (d : Int) (suf : List Int) : Prop where
  d0 : 0 ≤ d
  dz : d ≤ x'.s.size
  dr : (numsOf x'.s).drop d.toNat = numsOf x.s ++ suf
  sf : ∀ c r, suf = c :: r → c = 10 ∨ c = 41 ∨ c = 124
  ut : x'.utf = x.utf
  mo : x'.most = x.most
  xx : x'.x = x.x
section
variable {x x' : Text} {d : Int} {suf : List Int}
theorem Ext.size (E : Ext x x' d suf) : (x'.s.size : Int) = x.s.size + d + suf.length := by
  have h := congrArg List.length E.dr
  rw [List.length_drop, List.length_append, numsOf_len, numsOf_len] at h
  have := E.d0
  have := E.dz
  omega
theorem Ext.drop (E : Ext x x' d suf) {i i' : Int} (hi : i' = i + d) (h0 : 0 ≤ i) (h1 : i ≤ x.s.size) : (numsOf x'.s).drop i'.toNat = (numsOf x.s).drop i.toNat ++ suf := by
  have hd := E.d0
  have h : i'.toNat = d.toNat + i.toNat := by omega
  rw [h, ← List.drop_drop, E.dr, List.drop_append_of_le_length (by rw [numsOf_len]; omega)]
theorem drop_byte {s : ByteArray} {i : Int} (h0 : 0 ≤ i) (h1 : i < s.size) : (numsOf s).drop i.toNat = byteAt s i :: (numsOf s).drop (i + 1).toNat := by
  have hl : i.toNat < (numsOf s).length := by rw [numsOf_len]; omega
  rw [List.drop_eq_getElem_cons hl, byteAt_nums, List.getD_eq_getElem?_getD, List.getElem?_eq_getElem hl, show (i + 1).toNat = i.toNat + 1 by omega]
  rfl
theorem Ext.byte (E : Ext x x' d suf) {i i' : Int} (hi : i' = i + d) (h0 : 0 ≤ i) (h1 : i < x.s.size) : byteAt x'.s i' = byteAt x.s i := by
  have h := E.drop hi h0 (by omega)
  rw [drop_byte h0 h1] at h
  exact (byte_drop (by have := E.d0; omega) h).1
theorem Ext.last (E : Ext x x' d suf) {i' : Int} (hi : i' = x.s.size + d) (h : i' < x'.s.size) : ∃ c r, suf = c :: r ∧ byteAt x'.s i' = c ∧ (c = 10 ∨ c = 41 ∨ c = 124) := by
  have h2 := E.drop hi (by omega) (by omega)
  have hz : (numsOf x.s).drop (x.s.size : Int).toNat = [] := List.drop_eq_nil_of_le (by rw [numsOf_len]; omega)
  rw [hz, List.nil_append] at h2
  cases hs : suf with
  | nil =>
    have := E.size
    rw [hs] at this
    simp at this
    omega
  | cons c r =>
    rw [hs] at h2
    exact ⟨c, r, rfl, (byte_drop (by have := E.d0; omega) h2).1, E.sf c r hs⟩
theorem nums_inj {a b : ByteArray} (h : numsOf a = numsOf b) : a = b := by
  have hinj : ∀ a b : UInt8, ((a.toNat : Int)) = (b.toNat : Int) → a = b := fun a b h => UInt8.toNat_inj.1 (by omega)
  have hmi : ∀ a b : List UInt8, a.map (fun b : UInt8 => (b.toNat : Int)) = b.map (fun b : UInt8 => (b.toNat : Int)) → a = b := by
    intro a
    induction a with
    | nil => intro b h; cases b with
      | nil => rfl
      | cons _ _ => cases h
    | cons x a ih => intro b h; cases b with
      | nil => cases h
      | cons y b =>
        simp only [List.map_cons, List.cons.injEq] at h
        rw [hinj x y h.1, ih b h.2]
  have h2 := hmi _ _ h
  cases a; cases b
  simp only at h2
  congr 1
  exact Array.toList_inj.1 h2
theorem isP_nil (s : ByteArray) (i : Int) (t : ByteArray) (h0 : 0 ≤ i) (h1 : i ≤ s.size) (ht : t.size = 0) : isP s i t = true := by
  unfold isP
  have h : s.extract i.toNat (i + (t.size : Int)).toNat = t := by
    apply nums_inj
    rw [List.eq_nil_of_length_eq_zero (l := numsOf t) (by rw [numsOf_len, ht])]
    apply List.eq_nil_of_length_eq_zero
    rw [numsOf_len, ByteArray.size_extract, ht]
    omega
  rw [if_pos (by omega), h]
  simp
theorem pre_ext : ∀ (t l suf : List Int), (∀ c r, suf = c :: r → c ∉ t) → t.isPrefixOf (l ++ suf) = t.isPrefixOf l
  | [], l, suf, _ => by simp
  | a :: t, [], suf, h => by
    cases suf with
    | nil => rfl
    | cons c r =>
      have hc := h c r rfl
      simp only [List.nil_append, List.isPrefixOf]
      have : (a == c) = false := by
        simp only [List.mem_cons, not_or] at hc
        simp
        exact fun q => hc.1 q.symm
      rw [this]
      rfl
  | a :: t, b :: l, suf, h => by
    simp only [List.cons_append, List.isPrefixOf]
    rw [pre_ext t l suf (fun c r e => fun hm => h c r e (List.mem_cons_of_mem _ hm))]
/-- A text that holds none of the bytes that may come behind. -/
def Plain (t : ByteArray) : Prop := t.size ≠ 0 ∧ 10 ∉ numsOf t ∧ 41 ∉ numsOf t ∧ 124 ∉ numsOf t
instance (t : ByteArray) : Decidable (Plain t) := by unfold Plain; infer_instance
theorem Ext.is (E : Ext x x' d suf) {i i' : Int} {t : ByteArray} (hi : i' = i + d) (h0 : 0 ≤ i) (h1 : i ≤ x.s.size) (ht : Plain t) : isP x'.s i' t = isP x.s i t := by
  rw [isP_pre _ _ _ (by have := E.d0; omega) ht.1, isP_pre _ _ _ h0 ht.1, E.drop hi h0 h1]
  refine pre_ext _ _ _ (fun c r e => ?_)
  rcases E.sf c r e with rfl | rfl | rfl
  · exact ht.2.1
  · exact ht.2.2.1
  · exact ht.2.2.2
theorem Ext.isT (E : Ext x x' d suf) {i i' : Int} {t : ByteArray} (hi : i' = i + d) (h0 : 0 ≤ i) (h : isP x.s i t = true) : isP x'.s i' t = true := by
  have hle := isP_le h
  have hs := E.size
  have hd := E.d0
  by_cases ht : t.size = 0
  · exact isP_nil _ _ _ (by omega) (by omega) ht
  rw [isP_pre _ _ _ h0 ht] at h
  rw [isP_pre _ _ _ (by omega) ht, E.drop hi h0 (by omega)]
  rw [List.isPrefixOf_iff_prefix] at h ⊢
  exact List.prefix_append_of_prefix h
theorem Ext.is1 (E : Ext x x' d suf) {i i' : Int} {b : UInt8} (hi : i' = i + d) (h0 : 0 ≤ i) (h1 : i < x.s.size) : isP x'.s i' (bs [b]) = isP x.s i (bs [b]) := by
  have hb := bs1_size b
  rw [isP_pre _ _ _ (by have := E.d0; omega) hb, isP_pre _ _ _ h0 hb, E.drop hi h0 (by omega), drop_byte h0 h1]
  rfl
theorem nums_extract (s : ByteArray) (a b : Nat) : numsOf (s.extract a b) = ((numsOf s).drop a).take (b - a) := by
  unfold numsOf
  rw [ByteArray.data_extract, Array.toList_extract, List.extract_eq_take_drop, List.map_take, List.map_drop]
theorem Ext.ex (E : Ext x x' d suf) {i i' j j' : Int} (hi : i' = i + d) (hj : j' = j + d) (h0 : 0 ≤ i) (h1 : i ≤ x.s.size) (h2 : j ≤ x.s.size) : x'.s.extract i'.toNat j'.toNat = x.s.extract i.toNat j.toNat := by
  apply nums_inj
  have hd := E.d0
  rw [nums_extract, nums_extract, E.drop hi h0 h1]
  by_cases q : i ≤ j
  · rw [show j'.toNat - i'.toNat = j.toNat - i.toNat by omega, List.take_append_of_le_length (by rw [List.length_drop, numsOf_len]; omega)]
  · rw [show j'.toNat - i'.toNat = 0 by omega, show j.toNat - i.toNat = 0 by omega]
    simp
/-- A scan over bytes that are good, where those that may come behind are not. -/
theorem Ext.scan (E : Ext x x' d suf) (f : ByteArray → Nat → Int → Int) (good : Int → Bool) (hf0 : ∀ s i, f s 0 i = i)
    (hf : ∀ s k i, f s (k + 1) i = if i < s.size ∧ good (byteAt s i) = true then f s k (i + 1) else i)
    (hg : good 10 = false ∧ good 41 = false ∧ good 124 = false) : ∀ (k k' : Nat) (i i' : Int), i' = i + d → 0 ≤ i → i ≤ x.s.size → (x.s.size - i).toNat ≤ k → (x'.s.size - i').toNat ≤ k' → f x'.s k' i' = f x.s k i + d := by
  have hsz := E.size
  have hend : ∀ (k k' : Nat) (i i' : Int), i' = i + d → i = x.s.size → f x'.s k' i' = f x.s k i + d := by
    intro k k' i i' hi hl
    have h1 : f x.s k i = i := by
      cases k with
      | zero => exact hf0 _ _
      | succ k => rw [hf, if_neg (by omega)]
    rw [h1]
    cases k' with
    | zero => rw [hf0, hi]
    | succ k' =>
      rw [hf, if_neg]
      · exact hi
      · rintro ⟨h2, h3⟩
        obtain ⟨c, r, _, hb, hc⟩ := E.last (by omega) h2
        rw [hb] at h3
        rcases hc with rfl | rfl | rfl
        · rw [hg.1] at h3; cases h3
        · rw [hg.2.1] at h3; cases h3
        · rw [hg.2.2] at h3; cases h3
  intro k
  induction k with
  | zero => intro k' i i' hi h0 h1 hk hk'; exact hend _ _ _ _ hi (by omega)
  | succ k ih =>
    intro k' i i' hi h0 h1 hk hk'
    by_cases hl : i = x.s.size
    · exact hend _ _ _ _ hi hl
    have hlt : i < x.s.size := by omega
    obtain ⟨k', rfl⟩ : ∃ m, k' = m + 1 := ⟨k' - 1, by omega⟩
    rw [hf, hf, E.byte hi h0 hlt]
    by_cases hgd : good (byteAt x.s i) = true
    · rw [if_pos ⟨by omega, hgd⟩, if_pos ⟨hlt, hgd⟩]
      exact ih k' (i + 1) (i' + 1) (by omega) (by omega) (by omega) (by omega) (by omega)
    · rw [if_neg (fun h => hgd h.2), if_neg (fun h => hgd h.2)]
      exact hi
theorem Ext.name (E : Ext x x' d suf) {i i' : Int} (hi : i' = i + d) (h0 : 0 ≤ i) (h1 : i ≤ x.s.size) : nameTo x'.s i' = nameTo x.s i + d :=
  E.scan nameEnd nameCh (fun _ _ => rfl) (fun _ _ _ => rfl) (by decide) _ _ _ _ hi h0 h1 (Nat.le_refl _) (Nat.le_refl _)
theorem Ext.letters (E : Ext x x' d suf) {i i' : Int} (hi : i' = i + d) (h0 : 0 ≤ i) (h1 : i ≤ x.s.size) : letTo x'.s i' = letTo x.s i + d :=
  E.scan letL letterP (fun _ _ => rfl) (fun _ _ _ => rfl) (by decide) _ _ _ _ hi h0 h1 (Nat.le_refl _) (Nat.le_refl _)
theorem Ext.nameAt (E : Ext x x' d suf) {i i' : Int} (hi : i' = i + d) (h0 : 0 ≤ i) (h1 : i ≤ x.s.size) : nameAt x'.s i' = nameAt x.s i := by
  have hr := nameTo_rng x.s i
  unfold VC.nameAt
  exact E.ex hi (E.name hi h0 h1) h0 h1 (by omega)
theorem Ext.stop (E : Ext x x' d suf) {c i i' : Int} (hi : i' = i + d) (h0 : 0 ≤ i) (h1 : i ≤ x.s.size) (h : stopAt x.s c i < x.s.size) : stopAt x'.s c i' = stopAt x.s c i + d := by
  have hsz := E.size
  have key : ∀ (k k' : Nat) (i i' : Int), i' = i + d → 0 ≤ i → i ≤ x.s.size → (x.s.size - i).toNat ≤ k → (x'.s.size - i').toNat ≤ k' → stopL x.s c k i < x.s.size → stopL x'.s c k' i' = stopL x.s c k i + d := by
    intro k
    induction k with
    | zero => intro k' i i' hi h0 h1 hk hk' h; rw [stopL] at h; omega
    | succ k ih =>
      intro k' i i' hi h0 h1 hk hk' h
      by_cases hl : i < x.s.size
      · obtain ⟨k', rfl⟩ : ∃ m, k' = m + 1 := ⟨k' - 1, by omega⟩
        rw [stopL] at h
        rw [stopL, stopL, E.byte hi h0 hl]
        by_cases hgd : byteAt x.s i ≠ c
        · rw [if_pos ⟨hl, hgd⟩] at h
          rw [if_pos ⟨by omega, hgd⟩, if_pos ⟨hl, hgd⟩]
          exact ih k' (i + 1) (i' + 1) (by omega) (by omega) (by omega) (by omega) (by omega) h
        · rw [if_neg (fun h => hgd h.2), if_neg (fun h => hgd h.2)]
          exact hi
      · rw [stopL, if_neg (by omega)] at h
        omega
  exact key _ _ _ _ hi h0 h1 (Nat.le_refl _) (Nat.le_refl _) h
theorem Ext.num (E : Ext x x' d suf) {i i' : Int} (hi : i' = i + d) (h0 : 0 ≤ i) (h1 : i ≤ x.s.size) : numP x'.s i' = ((numP x.s i).1, (numP x.s i).2.1 + d, (numP x.s i).2.2) := by
  have hsz := E.size
  have hend : ∀ (k k' : Nat) (n : Int) (g : Bool) (i i' : Int), i' = i + d → i = x.s.size → numL x'.s k' n g i' = ((numL x.s k n g i).1, (numL x.s k n g i).2.1 + d, (numL x.s k n g i).2.2) := by
    intro k k' n g i i' hi hl
    have h1 : numL x.s k n g i = (n, i, g) := by
      cases k with
      | zero => rfl
      | succ k => rw [numL, if_neg (by omega)]
    rw [h1]
    cases k' with
    | zero => rw [numL, hi]
    | succ k' =>
      rw [numL, if_neg]
      · rw [hi]
      · rintro ⟨h2, h3⟩
        obtain ⟨c, r, _, hb, hc⟩ := E.last (by omega) h2
        rw [hb] at h3
        rcases hc with rfl | rfl | rfl <;> exact absurd h3 (by decide)
  have key : ∀ (k k' : Nat) (n : Int) (g : Bool) (i i' : Int), i' = i + d → 0 ≤ i → i ≤ x.s.size → (x.s.size - i).toNat ≤ k → (x'.s.size - i').toNat ≤ k' → numL x'.s k' n g i' = ((numL x.s k n g i).1, (numL x.s k n g i).2.1 + d, (numL x.s k n g i).2.2) := by
    intro k
    induction k with
    | zero => intro k' n g i i' hi h0 h1 hk hk'; exact hend _ _ _ _ _ _ hi (by omega)
    | succ k ih =>
      intro k' n g i i' hi h0 h1 hk hk'
      by_cases hl : i < x.s.size
      · obtain ⟨k', rfl⟩ : ∃ m, k' = m + 1 := ⟨k' - 1, by omega⟩
        by_cases hgd : digitP (byteAt x.s i) = true
        · have hA : numL x'.s (k' + 1) n g i' = if n * 10 + byteAt x.s i - 48 > 255 then numL x'.s k' 1000 true (i' + 1) else numL x'.s k' (n * 10 + byteAt x.s i - 48) g (i' + 1) := by
            rw [numL, E.byte hi h0 hl, if_pos ⟨by omega, hgd⟩]
          have hB : numL x.s (k + 1) n g i = if n * 10 + byteAt x.s i - 48 > 255 then numL x.s k 1000 true (i + 1) else numL x.s k (n * 10 + byteAt x.s i - 48) g (i + 1) := by
            rw [numL, if_pos ⟨hl, hgd⟩]
          rw [hA, hB]
          by_cases hc : n * 10 + byteAt x.s i - 48 > 255
          · rw [if_pos hc, if_pos hc]
            exact ih k' _ _ (i + 1) (i' + 1) (by omega) (by omega) (by omega) (by omega) (by omega)
          · rw [if_neg hc, if_neg hc]
            exact ih k' _ _ (i + 1) (i' + 1) (by omega) (by omega) (by omega) (by omega) (by omega)
        · rw [numL, numL, E.byte hi h0 hl, if_neg (fun h => hgd h.2), if_neg (fun h => hgd h.2), hi]
      · exact hend _ _ _ _ _ _ hi (by omega)
  exact key _ _ _ _ _ _ hi h0 h1 (Nat.le_refl _) (Nat.le_refl _)
theorem Ext.signed (E : Ext x x' d suf) {i i' : Int} (hi : i' = i + d) (h0 : 0 ≤ i) (h1 : i ≤ x.s.size) : signedP x'.s i' = ((signedP x.s i).1, (signedP x.s i).2.1, (signedP x.s i).2.2.1 + d, (signedP x.s i).2.2.2) := by
  have h45 : isP x.s i (bs [45]) = true → i + 1 ≤ x.s.size := fun h => by have := isP_le h; have hb : (bs [45]).size = 1 := rfl; omega
  have h43 : isP x.s i (bs [43]) = true → i + 1 ≤ x.s.size := fun h => by have := isP_le h; have hb : (bs [43]).size = 1 := rfl; omega
  have key : ∀ (q : Int × Int), 0 ≤ q.2 → q.2 ≤ x.s.size → (if (numP x'.s (q.2 + d)).2.1 = q.2 + d then ((0 : Int), q.1, i', false) else ((numP x'.s (q.2 + d)).1, q.1, (numP x'.s (q.2 + d)).2.1, (numP x'.s (q.2 + d)).2.2)) =
      ((if (numP x.s q.2).2.1 = q.2 then ((0 : Int), q.1, i, false) else ((numP x.s q.2).1, q.1, (numP x.s q.2).2.1, (numP x.s q.2).2.2)).1,
       (if (numP x.s q.2).2.1 = q.2 then ((0 : Int), q.1, i, false) else ((numP x.s q.2).1, q.1, (numP x.s q.2).2.1, (numP x.s q.2).2.2)).2.1,
       (if (numP x.s q.2).2.1 = q.2 then ((0 : Int), q.1, i, false) else ((numP x.s q.2).1, q.1, (numP x.s q.2).2.1, (numP x.s q.2).2.2)).2.2.1 + d,
       (if (numP x.s q.2).2.1 = q.2 then ((0 : Int), q.1, i, false) else ((numP x.s q.2).1, q.1, (numP x.s q.2).2.1, (numP x.s q.2).2.2)).2.2.2) := by
    intro q hq0 hq1
    rw [E.num (i := q.2) rfl hq0 hq1]
    simp only
    by_cases c : (numP x.s q.2).2.1 = q.2
    · rw [if_pos (by omega), if_pos c, hi]
    · rw [if_neg (by omega), if_neg c]
  unfold signedP
  simp only
  rw [E.is hi h0 h1 (t := bs [45]) (by decide), E.is hi h0 h1 (t := bs [43]) (by decide)]
  by_cases c1 : isP x.s i (bs [45]) = true
  · rw [if_pos c1, if_pos c1]
    have := key (1, i + 1) (by simp only; omega) (by simp only; have := h45 c1; omega)
    simp only at this ⊢
    rw [show i' + 1 = i + 1 + d by omega]
    exact this
  rw [if_neg c1, if_neg c1]
  by_cases c2 : isP x.s i (bs [43]) = true
  · rw [if_pos c2, if_pos c2]
    have := key (2, i + 1) (by simp only; omega) (by simp only; have := h43 c2; omega)
    simp only at this ⊢
    rw [show i' + 1 = i + 1 + d by omega]
    exact this
  · rw [if_neg c2, if_neg c2]
    have := key (0, i) h0 h1
    simp only at this ⊢
    rw [hi] at this ⊢
    exact this
theorem Ext.hex (E : Ext x x' d suf) {lim lim' : Int} (hlim : lim' = lim + d) : ∀ (k : Nat) (n i i' : Int), i' = i + d → 0 ≤ i → i ≤ x.s.size → hexRun x'.s lim' k n i' = ((hexRun x.s lim k n i).1, (hexRun x.s lim k n i).2 + d) := by
  have hsz := E.size
  intro k
  induction k with
  | zero => intro n i i' hi h0 h1; rw [hexRun, hexRun, hi]
  | succ k ih =>
    intro n i i' hi h0 h1
    rw [hexRun, hexRun]
    by_cases hl : i < x.s.size
    · rw [E.byte hi h0 hl]
      by_cases hgd : 0 ≤ hexP (byteAt x.s i) ∧ i < lim
      · rw [if_pos ⟨by omega, hgd.1, by omega⟩, if_pos ⟨hl, hgd.1, hgd.2⟩]
        exact ih _ (i + 1) (i' + 1) (by omega) (by omega) (by omega)
      · rw [if_neg (fun h => hgd ⟨h.2.1, by omega⟩), if_neg (fun h => hgd h.2), hi]
    · rw [if_neg (fun h : i < x.s.size ∧ _ => hl h.1), if_neg, hi]
      rintro ⟨h2, h3, _⟩
      obtain ⟨c, r, _, hb, hc⟩ := E.last (by omega) h2
      rw [hb] at h3
      rcases hc with rfl | rfl | rfl <;> exact absurd h3 (by decide)
theorem Ext.hexChk (E : Ext x x' d suf) {n i i' : Int} (hi : i' = i + d) : VC.hexChk x' n i' = ((VC.hexChk x n i).1, (VC.hexChk x n i).2 + d) := by
  unfold VC.hexChk
  rw [E.mo, E.ut]
  by_cases c1 : n > x.most
  · rw [if_pos c1, if_pos c1, hi]
  rw [if_neg c1, if_neg c1]
  by_cases c2 : x.utf = true ∧ 55296 ≤ n ∧ n ≤ 57343
  · rw [if_pos c2, if_pos c2, hi]
  · rw [if_neg c2, if_neg c2, hi]
theorem Ext.hexa (E : Ext x x' d suf) {i i' : Int} (hi : i' = i + d) (h0 : 0 ≤ i) (h1 : i ≤ x.s.size) : hexaP x' i' = ((hexaP x i).1, (hexaP x i).2 + d) := by
  unfold hexaP
  rw [E.is hi h0 h1 (t := bs [123]) (by decide)]
  by_cases c1 : isP x.s i (bs [123]) = true
  · have hle := isP_le c1
    have hb : (bs [123]).size = 1 := rfl
    have hr := hexRun_range x.s (i + 8) 7 0 (i + 1) (by omega)
    rw [if_pos c1, if_pos c1, E.hex (lim := i + 8) (lim' := i' + 8) (by omega) 7 0 (i + 1) (i' + 1) (by omega) (by omega) (by omega)]
    simp only
    rw [E.is (i := (hexRun x.s (i + 8) 7 0 (i + 1)).2) rfl (by omega) hr.2 (t := bs [125]) (by decide)]
    by_cases c2 : (hexRun x.s (i + 8) 7 0 (i + 1)).2 = i + 1 ∨ (hexRun x.s (i + 8) 7 0 (i + 1)).2 > i + 7 ∨ isP x.s (hexRun x.s (i + 8) 7 0 (i + 1)).2 (bs [125]) = false
    · rw [if_pos c2, if_pos (by rcases c2 with c | c | c; exact .inl (by omega); exact .inr (.inl (by omega)); exact .inr (.inr c)), hi]
    · rw [if_neg c2, if_neg (by intro h; apply c2; rcases h with c | c | c; exact .inl (by omega); exact .inr (.inl (by omega)); exact .inr (.inr c))]
      exact E.hexChk (by omega)
  · rw [if_neg c1, if_neg c1, E.hex (lim := i + 2) (lim' := i' + 2) (by omega) 2 0 i i' hi h0 h1]
    exact E.hexChk rfl
theorem take_pre {α : Type} (A B : List α) (n : Nat) (h : n ≤ A.length) : (A ++ B).take n = A.take n := List.take_append_of_le_length h
theorem Ext.char (E : Ext x x' d suf) {i i' : Int} (hi : i' = i + d) (h0 : 0 ≤ i) (h1 : i < x.s.size) : charP x' i' = ((charP x i).1, (charP x i).2 + d) := by
  have hsz := E.size
  have hl := numsOf_len x.s
  have hl' := numsOf_len x'.s
  have hd := E.d0
  have hrd : rdI (numsOf x'.s) i' = rdI (numsOf x.s) i := by
    have := E.byte hi h0 h1
    rw [byteAt_nums, byteAt_nums] at this
    exact this
  have hslice : ∀ (l : List Int) (a n : Int), 0 ≤ a → 0 ≤ n → (l.take (a + n).toNat).drop a.toNat = (l.drop a.toNat).take n.toNat := by
    intro l a n ha hn
    rw [List.drop_take, show (a + n).toNat - a.toNat = n.toNat by omega]
  have hat : ∀ (k : Nat) (n : Int), 1 ≤ n → n + k ≤ 5 → atL (numsOf x'.s) i' k n = atL (numsOf x.s) i k n := by
    intro k
    induction k with
    | zero => intro n hn hk; rfl
    | succ k ih =>
      intro n hn hk
      rw [atL, atL, hslice _ _ _ (by omega) (by omega), hslice _ _ _ h0 (by omega), E.drop hi h0 (by omega)]
      by_cases c1 : i + n ≤ (numsOf x.s).length
      · rw [if_pos (by omega), if_pos c1, take_pre _ _ _ (by rw [List.length_drop]; omega), ih (n + 1) (by omega) (by omega)]
      · rw [if_neg (show ¬ i + n ≤ (numsOf x.s).length from c1)]
        -- beyond the end no sequence is there
        have hno : ∀ (k : Nat) (n : Int), 1 ≤ n → n ≤ 4 → ¬ i + n ≤ (numsOf x.s).length → n + k ≤ 5 → atL (numsOf x'.s) i' k n = (-1, 0) := by
          intro k
          induction k with
          | zero => intro n _ _ _ _; rfl
          | succ k ih2 =>
            intro n hn hn4 hc hk
            rw [atL]
            by_cases c2 : i' + n ≤ (numsOf x'.s).length
            · rw [if_pos c2, if_neg]
              · by_cases hk0 : k = 0
                · subst hk0; rfl
                · exact ih2 (n + 1) (by omega) (by omega) (by omega) (by omega)
              · rw [hslice _ _ _ (by omega) (by omega), E.drop hi h0 (by omega)]
                intro h
                unfold ofP at h
                split at h
                · rename_i hs
                  have hmem : ∃ c, (c = 10 ∨ c = 41 ∨ c = 124) ∧ c ∈ ((((numsOf x.s).drop i.toNat ++ suf).take n.toNat).drop 1) := by
                    have hlen : ((numsOf x.s).drop i.toNat).length = (x.s.size - i).toNat := by rw [List.length_drop]; omega
                    cases hsf : suf with
                    | nil => rw [hsf] at hsz; simp at hsz; omega
                    | cons c r =>
                      refine ⟨c, E.sf c r hsf, ?_⟩
                      rw [List.mem_iff_getElem?]
                      refine ⟨(x.s.size - i).toNat - 1, ?_⟩
                      rw [List.getElem?_drop, List.getElem?_take, if_pos (by omega), List.getElem?_append_right (by omega), hlen, show 1 + ((x.s.size - i).toNat - 1) - (x.s.size - i).toNat = 0 by omega]
                      rfl
                  obtain ⟨c, hc1, hc2⟩ := hmem
                  generalize (((numsOf x.s).drop i.toNat ++ suf).take n.toNat) = L at *
                  have htail : ∀ y ∈ L.drop 1, 128 ≤ y := by
                    rw [← hs.1]
                    generalize codeOf L = z
                    unfold seqP
                    split
                    · simp
                    split
                    · simp
                    split
                    · simp; omega
                    split
                    · simp; omega
                    · simp; omega
                  have := htail c hc2
                  omega
                · omega
            · rw [if_neg c2]
        by_cases c2 : i' + n ≤ (numsOf x'.s).length
        · have h2 := hno (k + 1) n (by omega) (by omega) c1 (by omega)
          rw [atL, hslice _ _ _ (by omega) (by omega), E.drop hi h0 (by omega)] at h2
          exact h2
        · rw [if_neg c2]
  have hatP : atP (numsOf x'.s) i' = atP (numsOf x.s) i := hat 4 1 (by omega) (by omega)
  have hA : charP x' i' = if x.utf = true ∧ (atP (numsOf x.s) i).2 > 0 then ((atP (numsOf x.s) i).1, i' + (atP (numsOf x.s) i).2) else (rdI (numsOf x.s) i, i' + 1) := by
    unfold charP nextP
    rw [if_neg (by omega), E.ut, hatP, hrd]
  have hB : charP x i = if x.utf = true ∧ (atP (numsOf x.s) i).2 > 0 then ((atP (numsOf x.s) i).1, i + (atP (numsOf x.s) i).2) else (rdI (numsOf x.s) i, i + 1) := by
    unfold charP nextP
    rw [if_neg (by omega)]
  rw [hA, hB]
  by_cases c : x.utf = true ∧ (atP (numsOf x.s) i).2 > 0
  · rw [if_pos c, if_pos c]
    simp only
    rw [hi]
    congr 1
    omega
  · rw [if_neg c, if_neg c]
    simp only
    rw [hi]
    congr 1
    omega
end
end Go.Proofs.Ytnoohgiecnmajaa.VC

/- The lexer: behind the token of a condition that looks a bracket opens (plain). -/
namespace Go.Proofs.Ytnoohgiecnmajaa.VC
open Go Go.RowKit
set_option linter.unusedVariables false
set_option linter.unusedSimpArgs false
set_option maxHeartbeats 4000000

/-- What a token of a condition that looks tells of what comes. -/
def OpenAt (x : Text) (j : Int) : Prop := 0 ≤ j ∧ ∃ r, (numsOf x.s).drop j.toNat = 40 :: 63 :: r ∧ ∃ r', r = 61 :: r' ∨ r = 33 :: r' ∨ r = 60 :: 61 :: r' ∨ r = 60 :: 33 :: r'
def K13 (x : Text) (g : Got) : Prop := g.e = 0 → g.some = true → g.t.kind = 10 → g.t.n = 13 → OpenAt x g.to
theorem k13_bad {x : Text} (e a : Int) (he : e ≠ 0) : K13 x (badG e a) := fun h => absurd h he
theorem k13_end {x : Text} : K13 x (endG x) := k13_bad 20 _ (by decide)
theorem k13_skip {x : Text} {b : Int} : K13 x (skipG b) := fun _ h => by cases h
theorem k13_tok {x : Text} {i b : Int} {t : Tok} (h : ¬ (t.kind = 10 ∧ t.n = 13)) : K13 x (tokG t i b) := fun _ _ h1 h2 => absurd ⟨h1, h2⟩ h
theorem k13_ite {x : Text} {c : Prop} [Decidable c] {a b : Got} (h1 : c → K13 x a) (h2 : ¬ c → K13 x b) : K13 x (if c then a else b) := by
  by_cases h : c
  · rw [if_pos h]; exact h1 h
  · rw [if_neg h]; exact h2 h
theorem k13_shut {x : Text} {t : Tok} {a i : Int} {s : ByteArray} {e : Int} (he : e ≠ 0) (ht : t.kind ≠ 10) : K13 x (shutP x t a i s e) := by
  unfold shutP
  refine k13_ite (fun _ => k13_tok (fun h => ht h.1)) (fun _ => ?_)
  exact k13_ite (fun _ => k13_end) (fun _ => k13_bad _ _ he)
theorem k13_called {x : Text} {t : Tok} {a i : Int} {s : ByteArray} (ht : ¬ (t.kind = 10 ∧ t.n = 13)) : K13 x (calledP x t a i s) := by
  unfold calledP
  refine k13_ite (fun _ => k13_end) (fun _ => ?_)
  refine k13_ite (fun _ => k13_bad _ _ (by decide)) (fun _ => ?_)
  exact k13_ite (fun _ => k13_bad _ _ (by decide)) (fun _ => k13_tok ht)
theorem k13_flags {x : Text} {a : Int} : ∀ (k : Nat) (i : Int) (off : Bool) (p q : Int), K13 x (flagsL x a k i off p q)
  | 0, i, off, p, q => k13_end
  | k + 1, i, off, p, q => by
    unfold flagsL
    split
    · exact k13_end
    split
    · exact k13_tok (by simp [tokZ])
    split
    · exact k13_tok (by simp [tokZ])
    split
    · split
      · exact k13_bad _ _ (by decide)
      · exact k13_flags k _ _ _ _
    split
    · exact k13_bad _ _ (by decide)
    split
    · exact k13_flags k _ _ _ _
    · exact k13_flags k _ _ _ _
theorem k13_refer {x : Text} {a i : Int} : K13 x (referP x a i) := by
  have hk := referK_kind x.s i
  unfold referP
  simp only
  generalize referK x.s i = p at *
  obtain ⟨kind, cl⟩ := p
  simp only at *
  have hn : ∀ n m nm, ¬ (({ tokZ with kind := kind, n := n, m := m, name := nm } : Tok).kind = 10 ∧ ({ tokZ with kind := kind, n := n, m := m, name := nm } : Tok).n = 13) := fun n m nm h => by have := h.1; simp only at this; omega
  split
  · exact k13_bad _ _ (by decide)
  split
  · split
    · exact k13_bad _ _ (by decide)
    split
    · exact k13_bad _ _ (by decide)
    · exact k13_tok (fun h => by have := h.1; simp only at this; omega)
  split
  · exact k13_bad _ _ (by decide)
  split
  · exact k13_bad _ _ (by decide)
  split
  · exact k13_bad _ _ (by decide)
  · exact k13_tok (fun h => by have := h.1; simp only at this; omega)
theorem k13_verb {x : Text} {a : Int} : K13 x (verbP x a) := by
  unfold verbP
  simp only
  split
  · exact k13_end
  split
  · exact k13_bad _ _ (by decide)
  · exact k13_tok (by simp [tokZ])
theorem k13_condFin {x : Text} {a : Int} {t : Tok} {to : Int} {ok : Bool} (ht : t.n ≠ 13) : K13 x (condFin x a t to ok) := by
  unfold condFin
  split
  · exact k13_bad _ _ (by decide)
  split
  · exact k13_bad _ _ (by decide)
  split
  · exact k13_bad _ _ (by decide)
  · exact k13_tok (fun h => ht h.2)
theorem k13_condition {x : Text} {a : Int} (ha : 0 ≤ a) (hb : isP x.s (a + 2) (bs [40]) = true) : K13 x (conditionP x a (a + 2 + 1)) := by
  obtain ⟨r, hr⟩ := pre_of (by omega) (by decide) hb
  have hr : (numsOf x.s).drop (a + 2).toNat = 40 :: r := hr
  obtain ⟨h1, h2, h3⟩ := byte_drop (by omega) hr
  have key : ∀ t : ByteArray, t.size ≠ 0 → isP x.s (a + 2 + 1) t = true → ∃ r', r = numsOf t ++ r' := fun t ht h => by
    obtain ⟨r', q⟩ := pre_of (by omega) ht h
    exact ⟨r', by rw [← h3]; exact q⟩
  have hO : ∀ r', (r = 63 :: 61 :: r' ∨ r = 63 :: 33 :: r' ∨ r = 63 :: 60 :: 61 :: r' ∨ r = 63 :: 60 :: 33 :: r') → K13 x (tokG { tokZ with kind := 10, n := 13 } a (a + 2)) := by
    intro r' h _ _ _ _
    refine ⟨by show 0 ≤ a + 2; omega, ?_⟩
    show ∃ r, (numsOf x.s).drop (a + 2).toNat = 40 :: 63 :: r ∧ _
    rw [hr]
    rcases h with rfl | rfl | rfl | rfl
    · exact ⟨_, rfl, r', .inl rfl⟩
    · exact ⟨_, rfl, r', .inr (.inl rfl)⟩
    · exact ⟨_, rfl, r', .inr (.inr (.inl rfl))⟩
    · exact ⟨_, rfl, r', .inr (.inr (.inr rfl))⟩
  unfold conditionP
  refine k13_ite (fun hh => ?_) (fun _ => ?_)
  · obtain ⟨r', q⟩ := key _ (by decide) hh
    exact hO r' (.inl q)
  refine k13_ite (fun hh => ?_) (fun _ => ?_)
  · obtain ⟨r', q⟩ := key _ (by decide) hh
    exact hO r' (.inr (.inl q))
  refine k13_ite (fun hh => ?_) (fun _ => ?_)
  · obtain ⟨r', q⟩ := key _ (by decide) hh
    exact hO r' (.inr (.inr (.inl q)))
  refine k13_ite (fun hh => ?_) (fun _ => ?_)
  · obtain ⟨r', q⟩ := key _ (by decide) hh
    exact hO r' (.inr (.inr (.inr q)))
  unfold condRest
  split
  · exact k13_condFin (by simp)
  split
  · exact k13_condFin (by simp)
  split
  · exact k13_condFin (by simp)
  split
  · split
    · exact k13_bad _ _ (by decide)
    split
    · exact k13_condFin (by simp)
    · exact k13_condFin (by simp)
  split
  · exact k13_bad _ _ (by decide)
  · exact k13_condFin (by simp)
theorem k13_openL {x : Text} {a i : Int} {g : Got} (hg : K13 x g) : ∀ l : List (ByteArray × Int), (∀ p ∈ l, 1 ≤ p.2 ∧ p.2 ≤ 8) → K13 x (openL x a i g l)
  | [], _ => hg
  | p :: l, h => by
    have hp := h p (List.mem_cons_self ..)
    unfold openL
    refine k13_ite (fun _ => k13_tok (fun h => by have := h.2; simp only at this; omega)) (fun _ => ?_)
    exact k13_openL hg l (fun q hq => h q (List.mem_cons_of_mem _ hq))
theorem k13_open {x : Text} {a : Int} (h0 : 0 ≤ a) : K13 x (openP x a) := by
  unfold openP
  refine k13_ite (fun _ => k13_verb) (fun _ => ?_)
  refine k13_ite (fun _ => k13_tok (by simp [tokZ])) (fun _ => ?_)
  refine k13_ite (fun _ => k13_end) (fun _ => ?_)
  refine k13_openL ?_ _ (by decide)
  unfold openRest
  refine k13_ite (fun hb => ?_) (fun hb => ?_)
  · exact k13_ite (fun hb => k13_end) (fun hb => k13_skip)
  refine k13_ite (fun hb => k13_called (by simp [tokZ])) (fun hb => ?_)
  refine k13_ite (fun hb => k13_called (by simp [tokZ])) (fun hb => ?_)
  refine k13_ite (fun hb => k13_called (by simp [tokZ])) (fun hb => ?_)
  refine k13_ite (fun hb => k13_called (by simp [tokZ])) (fun hb => ?_)
  refine k13_ite (fun hb => k13_called (by simp [tokZ])) (fun hb => ?_)
  refine k13_ite (fun hb => k13_called (by simp [tokZ])) (fun hb => ?_)
  refine k13_ite (fun hb => k13_shut (by decide) (by simp)) (fun hb => ?_)
  refine k13_ite (fun hb => ?_) (fun hb => ?_)
  · exact k13_ite (fun hb => k13_bad _ _ (by decide)) (fun hb => k13_shut (by decide) (by simp))
  refine k13_ite (fun hb => k13_condition h0 hb) (fun hb => ?_)
  unfold openTail
  refine k13_ite (fun hb => ?_) (fun hb => k13_flags _ _ _ _ _)
  refine k13_ite (fun hb => k13_bad _ _ (by decide)) (fun hb => ?_)
  refine k13_ite (fun hb => ?_) (fun hb => ?_)
  · exact k13_ite (fun hb => k13_end) (fun hb => k13_bad _ _ (by decide))
  exact k13_ite (fun hb => k13_bad _ _ (by decide)) (fun hb => k13_shut (by decide) (by simp))
theorem k13_quant {x : Text} {i to n m : Int} : K13 x (quantP x i to n m) := by
  unfold quantP
  split
  · exact k13_tok (by simp [tokZ])
  split
  · exact k13_tok (by simp [tokZ])
  · exact k13_tok (by simp [tokZ])
theorem k13_escL {x : Text} {i to : Int} : ∀ l : List (ByteArray × ByteArray), K13 x (escL x i to l)
  | [] => k13_bad _ _ (by decide)
  | p :: l => by
    have ih := k13_escL (x := x) (i := i) (to := to) l
    unfold escL
    refine k13_ite (fun hb => ?_) (fun hb => ih)
    refine k13_ite (fun hb2 => ?_) (fun hb => ih)
    exact k13_ite (fun hb3 => k13_tok (by simp [tokZ])) (fun hb => ih)
theorem k13_escape {x : Text} {i : Int} : K13 x (escapeP x i) := by
  unfold escapeP
  refine k13_ite (fun hb => k13_end) (fun hb => ?_)
  generalize (charP x (i + 1)).1 = c at *
  generalize (charP x (i + 1)).2 = to at *
  have hT : K13 x (escT x i to c (manyP x c to)) := by
    unfold escT
    refine k13_ite (fun hb => k13_bad _ _ hb) (fun hb => ?_)
    refine k13_ite (fun hb => k13_tok (by simp [tokZ])) (fun hb => ?_)
    refine k13_ite (fun hb => k13_bad _ _ (by decide)) (fun hb => ?_)
    refine k13_ite (fun hb => ?_) (fun hb => k13_tok (by simp [tokZ]))
    exact k13_ite (fun hb => k13_bad _ _ (by decide)) (fun hb => k13_tok (by simp [tokZ]))
  have hR : K13 x (escR x i to c) := by
    unfold escR
    refine k13_ite (fun hb => k13_refer) (fun hb => ?_)
    exact k13_ite (fun hb => k13_escL _) (fun hb => hT)
  unfold escQ
  refine k13_ite (fun hb => k13_tok (by simp [tokZ])) (fun hb => ?_)
  refine k13_ite (fun hb => ?_) (fun hb => ?_)
  · exact k13_ite (fun hb => k13_bad _ _ (by decide)) (fun hb => k13_tok (by simp [tokZ]))
  refine k13_ite (fun hb => k13_tok (by simp [tokZ])) (fun hb => ?_)
  refine k13_ite (fun hb => k13_tok (by simp [tokZ])) (fun hb => ?_)
  refine k13_ite (fun hb => k13_tok (by simp [tokZ])) (fun hb => ?_)
  refine k13_ite (fun hb => k13_tok (by simp [tokZ])) (fun hb => ?_)
  refine k13_ite (fun hb => k13_skip) (fun hb => ?_)
  unfold escD
  refine k13_ite (fun hb => ?_) (fun hb => hR)
  refine k13_ite (fun hb => ?_) (fun hb => hR)
  exact k13_ite (fun hb => k13_bad _ _ (by decide)) (fun hb => k13_tok (by simp [tokZ]))
theorem k13_classL {x : Text} {a first : Int} {neg : Bool} : ∀ (k : Nat) (i : Int) (A : List (Int × Int)), K13 x (classL x a first neg k i A)
  | 0, i, A => k13_end
  | k + 1, i, A => by
    unfold classL
    refine k13_ite (fun hb => k13_end) (fun hb => ?_)
    have hin : K13 x (classI x i (classL x a first neg k) A (itemP x i)) := by
      unfold classI
      refine k13_ite (fun hb => k13_bad _ _ hb) (fun hb => ?_)
      refine k13_ite (fun hb => ?_) (fun hb => k13_classL k _ _)
      refine k13_ite (fun hb => ?_) (fun hb => k13_classL k _ _)
      refine k13_ite (fun hb => ?_) (fun hb => k13_classL k _ _)
      refine k13_ite (fun hb2 => ?_) (fun hb => k13_classL k _ _)
      unfold classR
      refine k13_ite (fun hb => k13_bad _ _ hb) (fun hb => ?_)
      refine k13_ite (fun hb => k13_bad _ _ (by decide)) (fun hb => ?_)
      refine k13_ite (fun hb => k13_bad _ _ (by decide)) (fun hb => ?_)
      exact k13_classL k _ _
    refine k13_ite (fun hb => ?_) (fun hb => hin)
    exact k13_ite (fun hb => k13_tok (by simp [tokZ])) (fun hb => hin)
theorem k13_brK {x : Text} {i c to n a m b : Int} {great : Bool} : K13 x (brK x i c to n a m b great) := by
  have hl : K13 x (litG i c to) := k13_tok (by simp [tokZ])
  unfold brK
  refine k13_ite (fun hb => hl) (fun hb => ?_)
  refine k13_ite (fun hb => ?_) (fun hb => hl)
  refine k13_ite (fun hb => k13_bad _ _ (by decide)) (fun hb => ?_)
  refine k13_ite (fun hb => ?_) (fun hb => k13_quant)
  exact k13_ite (fun hb => k13_bad _ _ (by decide)) (fun hb => k13_quant)
theorem k13_tokC {x : Text} {i c to : Int} (h0 : 0 ≤ i) : K13 x (tokC x i c to) := by
  unfold tokC
  refine k13_ite (fun hb => k13_escape) (fun hb => ?_)
  refine k13_ite (fun hb => by unfold classP; exact k13_classL _ _ _) (fun hb => ?_)
  refine k13_ite (fun hb => k13_open h0) (fun hb => ?_)
  refine k13_ite (fun hb => k13_tok (by simp [tokZ])) (fun hb => ?_)
  refine k13_ite (fun hb => k13_tok (by simp [tokZ])) (fun hb => ?_)
  refine k13_ite (fun hb => k13_tok (by simp [tokZ])) (fun hb => ?_)
  refine k13_ite (fun hb => k13_tok (by simp [tokZ])) (fun hb => ?_)
  refine k13_ite (fun hb => k13_tok (by simp [tokZ])) (fun hb => ?_)
  refine k13_ite (fun hb => k13_quant) (fun hb => ?_)
  refine k13_ite (fun hb => k13_quant) (fun hb => ?_)
  refine k13_ite (fun hb => k13_quant) (fun hb => ?_)
  refine k13_ite (fun hb => ?_) (fun hb => k13_tok (by simp [tokZ]))
  unfold brP
  refine k13_ite (fun hb => ?_) (fun hb => k13_brK)
  refine k13_ite (fun hb => ?_) (fun hb => k13_brK)
  unfold brM
  refine k13_ite (fun hb => ?_) (fun hb => ?_)
  · exact k13_ite (fun hb => k13_brK) (fun hb => k13_brK)
  · exact k13_ite (fun hb => k13_brK) (fun hb => k13_brK)
theorem k13_token {x : Text} {i : Int} (h0 : 0 ≤ i) : K13 x (tokenP x i) := by
  have hC := k13_tokC (x := x) (i := i) (c := (charP x i).1) (to := (charP x i).2) h0
  have hX : K13 x (tokX x i (charP x i).1 (charP x i).2) := by
    unfold tokX
    refine k13_ite (fun hb => k13_skip) (fun hb => ?_)
    exact k13_ite (fun hb => k13_skip) (fun hb => hC)
  unfold tokenP
  refine k13_ite (fun hb => ?_) (fun hb => hC)
  refine k13_ite (fun hb => ?_) (fun hb => hX)
  exact k13_ite (fun hb => k13_skip) (fun hb => hX)
theorem open_look {x : Text} {j : Int} (h : OpenAt x j) : j < x.s.size ∧ isP x.s j (bs [92, 81]) = false ∧ ∃ n b, tokenP x j = tokG { tokZ with kind := 10, n := n } j b ∧ 5 ≤ n ∧ n ≤ 8 := by
  obtain ⟨h0, r, hr, r', hr'⟩ := h
  obtain ⟨b1, b2, b3⟩ := byte_drop h0 hr
  obtain ⟨c1, c2, c3⟩ := byte_drop (by omega) b3
  have hne : j + 2 ≠ x.s.size := by
    intro e
    have : ((numsOf x.s).drop (j + 1 + 1).toNat).length = 0 := by rw [List.length_drop, numsOf_len]; omega
    rw [c3] at this
    rcases hr' with rfl | rfl | rfl | rfl <;> simp at this
  have hch := charP_ascii h0 hr (by decide)
  have k1 : ∀ t : ByteArray, t.size ≠ 0 → isP x.s (j + 1) t = (numsOf t).isPrefixOf (63 :: r) := fun t ht => by rw [isP_pre _ _ _ (by omega) ht, b3]
  have k2 : ∀ t : ByteArray, t.size ≠ 0 → isP x.s (j + 2) t = (numsOf t).isPrefixOf r := fun t ht => by rw [isP_pre _ _ _ (by omega) ht, show j + 2 = j + 1 + 1 by omega, c3]
  have hop : ∃ n b, openP x j = tokG { tokZ with kind := 10, n := n } j b ∧ 5 ≤ n ∧ n ≤ 8 := by
    have e1 : isP x.s (j + 1) (bs [42]) = false := by rw [k1 _ (by decide)]; rfl
    have e2 : isP x.s (j + 1) (bs [63]) = true := by rw [k1 _ (by decide)]; rfl
    unfold openP
    rw [if_neg (by rw [e1]; simp), if_neg (by rw [e2]; simp), if_neg hne]
    unfold openList openL
    have f58 : isP x.s (j + 2) (bs [58]) = false := by rw [k2 _ (by decide)]; rcases hr' with rfl | rfl | rfl | rfl <;> rfl
    have f124 : isP x.s (j + 2) (bs [124]) = false := by rw [k2 _ (by decide)]; rcases hr' with rfl | rfl | rfl | rfl <;> rfl
    have f62 : isP x.s (j + 2) (bs [62]) = false := by rw [k2 _ (by decide)]; rcases hr' with rfl | rfl | rfl | rfl <;> rfl
    rw [if_neg (by rw [f58]; simp), openL, if_neg (by rw [f124]; simp), openL, if_neg (by rw [f62]; simp), openL]
    rcases hr' with rfl | rfl | rfl | rfl
    · exact ⟨5, _, by rw [if_pos (by rw [k2 _ (by decide)]; rfl)], by decide, by decide⟩
    · refine ⟨6, _, by rw [if_neg (by rw [k2 _ (by decide)]; simp [show numsOf (bs [61]) = [61] from rfl, List.isPrefixOf]), openL, if_pos (by rw [k2 _ (by decide)]; rfl)], by decide, by decide⟩
    · refine ⟨7, _, by rw [if_neg (by rw [k2 _ (by decide)]; simp [show numsOf (bs [61]) = [61] from rfl, List.isPrefixOf]), openL, if_neg (by rw [k2 _ (by decide)]; simp [show numsOf (bs [33]) = [33] from rfl, List.isPrefixOf]), openL, if_pos (by rw [k2 _ (by decide)]; rfl)], by decide, by decide⟩
    · refine ⟨8, _, by rw [if_neg (by rw [k2 _ (by decide)]; simp [show numsOf (bs [61]) = [61] from rfl, List.isPrefixOf]), openL, if_neg (by rw [k2 _ (by decide)]; simp [show numsOf (bs [33]) = [33] from rfl, List.isPrefixOf]), openL, if_neg (by rw [k2 _ (by decide)]; simp [show numsOf (bs [60, 61]) = [60, 61] from rfl, List.isPrefixOf]), openL, if_pos (by rw [k2 _ (by decide)]; rfl)], by decide, by decide⟩
  refine ⟨b2, noQ h0 hr (by decide), ?_⟩
  have hC : tokC x j 40 (j + 1) = openP x j := by unfold tokC; rw [if_neg (by decide), if_neg (by decide), if_pos rfl]
  unfold tokenP
  rw [hch]
  simp only
  by_cases hx : x.x = true
  · rw [if_pos hx, if_pos (by decide), if_neg (by decide)]
    unfold tokX
    rw [if_neg (by decide), if_neg (by decide), hC]
    exact hop
  · rw [if_neg hx, hC]
    exact hop
/-- Behind each such token another one opens, or what comes opens. -/
def Looks (x : Text) (i : Int) (q : Bool) (A : List Tok) : Prop := ∀ (j : Nat) (t : Tok), A[j]? = some t → t.kind = 10 → t.n = 13 → (∃ u, A[j + 1]? = some u ∧ u.kind = 10 ∧ 5 ≤ u.n ∧ u.n ≤ 8) ∨ (j + 1 = A.length ∧ OpenAt x i ∧ q = false)
theorem looks_add {x : Text} {i i' : Int} {q q' : Bool} {A : List Tok} {t : Tok} (h : Looks x i q A) (h1 : OpenAt x i → q = false → t.kind = 10 ∧ 5 ≤ t.n ∧ t.n ≤ 8) (h2 : t.kind = 10 → t.n = 13 → OpenAt x i' ∧ q' = false) : Looks x i' q' (A ++ [t]) := by
  intro j u hj hk hn
  by_cases c : j < A.length
  · rw [List.getElem?_append_left c] at hj
    rcases h j u hj hk hn with ⟨v, hv, hv2⟩ | ⟨h3, h4, h5⟩
    · refine .inl ⟨v, ?_, hv2⟩
      have : j + 1 < A.length := by
        by_cases d : j + 1 < A.length
        · exact d
        · rw [List.getElem?_eq_none (by omega)] at hv; cases hv
      rw [List.getElem?_append_left this]
      exact hv
    · refine .inl ⟨t, ?_, h1 h4 h5⟩
      rw [h3]
      simp
  · have hj' : j = A.length := by
      by_cases d : j < (A ++ [t]).length
      · simp at d; omega
      · rw [List.getElem?_eq_none (by omega)] at hj; cases hj
    subst hj'
    simp at hj
    subst hj
    exact .inr ⟨by simp, h2 hk hn⟩
theorem looks_keep {x : Text} {i i' : Int} {q q' : Bool} {A : List Tok} (h : Looks x i q A) (h1 : ¬ (OpenAt x i ∧ q = false)) : Looks x i' q' A := by
  intro j u hj hk hn
  rcases h j u hj hk hn with h2 | ⟨_, h3⟩
  · exact .inl h2
  · exact absurd h3 h1
theorem lexGo_look {x : Text} (hm : x.most ≤ 1114111) (hx : x.s.size ≤ 1000) : ∀ (k : Nat) (i : Int) (q : Bool) (A : List Tok), 0 ≤ i → (x.s.size - i).toNat < k → Looks x i q A → (lexGo x k i q A).e = 0 → Looks x x.s.size false (lexGo x k i q A).toks
  | 0, i, q, A, h0, hf, hA => by omega
  | k + 1, i, q, A, h0, hf, hA => by
    intro he
    unfold lexGo at he ⊢
    by_cases hi : i < x.s.size
    · rw [if_pos hi] at he ⊢
      have hg := charP_gt x i h0 hi
      by_cases hq : q = true
      · rw [if_pos hq] at he ⊢
        by_cases hE : isP x.s i (bs [92, 69]) = true
        · rw [if_pos hE] at he ⊢
          exact lexGo_look hm hx k _ _ _ (by omega) (by omega) (looks_keep hA (by simp [hq])) he
        · rw [if_neg hE] at he ⊢
          exact lexGo_look hm hx k _ _ _ (by omega) (by omega) (looks_add hA (by simp [hq]) (by intro h; exact absurd h (by unfold litT; simp))) he
      rw [if_neg hq] at he ⊢
      by_cases hQ : isP x.s i (bs [92, 81]) = true
      · rw [if_pos hQ] at he ⊢
        refine lexGo_look hm hx k _ _ _ (by omega) (by omega) (looks_keep hA ?_) he
        rintro ⟨ho, _⟩
        rw [(open_look ho).2.1] at hQ
        cases hQ
      rw [if_neg hQ] at he ⊢
      by_cases hte : (tokenP x i).e ≠ 0
      · rw [if_pos hte] at he
        exact absurd he hte
      rw [if_neg hte] at he ⊢
      have hte : (tokenP x i).e = 0 := by simpa using hte
      have hok := gotOk_token hm hx h0 hi hte
      have hk13 := k13_token (x := x) h0 hte
      by_cases hs : (tokenP x i).some = true
      · rw [if_pos hs] at he ⊢
        refine lexGo_look hm hx k _ _ _ (by omega) (by omega) (looks_add hA ?_ ?_) he
        · intro ho _
          obtain ⟨_, _, n, b, e, e2⟩ := open_look ho
          rw [e]
          exact ⟨rfl, e2⟩
        · intro h1 h2
          exact ⟨hk13 hs h1 h2, by simpa using hq⟩
      · rw [if_neg hs] at he ⊢
        refine lexGo_look hm hx k _ _ _ (by omega) (by omega) (looks_keep hA ?_) he
        rintro ⟨ho, _⟩
        obtain ⟨_, _, n, b, e, _⟩ := open_look ho
        rw [e] at hs
        exact hs rfl
    · rw [if_neg hi] at he ⊢
      exact looks_keep hA (fun h => hi (open_look h.1).1)
theorem lexP_look (l : List Int) (o : Int) (he : (lexP l o).e = 0) : ∃ x : Text, Looks x x.s.size false (lexP l o).toks := by
  have hmost : (textOf l o).most ≤ 1114111 := by unfold textOf; simp only; split <;> omega
  have hsz : (textOf l o).s.size = l.length := strOf_size l
  have hnil : Looks (textOf l o) 0 false [] := by intro j t h; simp at h
  have hgo : ¬ (l.length : Int) > 1000 → (lexGo (textOf l o) ((textOf l o).s.size + 1) 0 false []).e = 0 → ∃ x : Text, Looks x x.s.size false (lexGo (textOf l o) ((textOf l o).s.size + 1) 0 false []).toks :=
    fun h1 h2 => ⟨_, lexGo_look hmost (by omega) _ _ _ _ (by omega) (by omega) hnil h2⟩
  unfold lexP at he ⊢
  by_cases c1 : o < 0
  · rw [if_pos c1] at he; exact absurd he (by decide)
  rw [if_neg c1] at he ⊢
  by_cases c2 : o > 65535
  · rw [if_pos c2] at he; exact absurd he (by decide)
  rw [if_neg c2] at he ⊢
  by_cases c3 : (l.length : Int) > 1000
  · rw [if_pos c3] at he; exact absurd he (by decide)
  rw [if_neg c3] at he ⊢
  by_cases c4 : bAnd o 32 ≠ 0
  · rw [if_pos c4] at he ⊢
    by_cases c5 : (validP l).2 = false
    · rw [if_pos c5] at he; exact absurd he (show ¬ (13 : Int) = 0 by decide)
    · rw [if_neg c5] at he ⊢
      exact hgo c3 he
  · rw [if_neg c4] at he ⊢
    exact hgo c3 he
/-- Behind a condition that looks a bracket opens that looks. -/
def LookC : List Tok → Prop
  | [] => True
  | t :: r => (t.kind = 10 → t.n = 13 → ∃ u r', r = u :: r' ∧ u.kind = 10 ∧ 5 ≤ u.n ∧ u.n ≤ 8) ∧ LookC r
theorem lookC_of : ∀ {A : List Tok}, (∀ (j : Nat) (t : Tok), A[j]? = some t → t.kind = 10 → t.n = 13 → ∃ u, A[j + 1]? = some u ∧ u.kind = 10 ∧ 5 ≤ u.n ∧ u.n ≤ 8) → LookC A
  | [], _ => trivial
  | t :: r, h => by
    refine ⟨fun h1 h2 => ?_, lookC_of (fun j u hj => ?_)⟩
    · obtain ⟨u, hu, hu2⟩ := h 0 t rfl h1 h2
      cases r with
      | nil => simp at hu
      | cons w r' => simp at hu; subst hu; exact ⟨w, r', rfl, hu2⟩
    · have := h (j + 1) u (by simpa using hj)
      simpa using this
theorem lexP_lookC (l : List Int) (o : Int) : LookC (lexP l o).toks := by
  by_cases he : (lexP l o).e = 0
  · obtain ⟨x, hx⟩ := lexP_look l o he
    refine lookC_of (fun j t hj hk hn => ?_)
    rcases hx j t hj hk hn with h | ⟨_, ho, _⟩
    · exact h
    · have := (open_look ho).1
      omega
  · rw [(lexP_ok l o).2.2 he]
    trivial
/-- What is known of the tokens of any text. -/
theorem lexP_tokS (l : List Int) (o : Int) : TokS (lexP l o).toks := by
  have hok := lexP_ok l o
  by_cases he : (lexP l o).e = 0
  · obtain ⟨x, hx⟩ := lexP_look l o he
    refine ⟨fun t ht => ((hok.2.1 he).2.2 t ht).may.kind, fun i h0 h1 hk hn => ?_⟩
    have hr : ∀ j : Int, 0 ≤ j → j < (lexP l o).toks.length → (lexP l o).toks[j.toNat]? = some (rdt (lexP l o).toks j) := by
      intro j h0 h1
      simp [rdt, List.getD_eq_getElem?_getD, List.getElem?_eq_getElem (show j.toNat < (lexP l o).toks.length by omega)]
    rcases hx i.toNat _ (hr i h0 h1) hk hn with ⟨u, hu, hu2⟩ | ⟨_, ho, _⟩
    · have hlt : i.toNat + 1 < (lexP l o).toks.length := by
        by_cases d : i.toNat + 1 < (lexP l o).toks.length
        · exact d
        · rw [List.getElem?_eq_none (by omega)] at hu; cases hu
      refine ⟨by omega, ?_⟩
      have h2 := hr (i + 1) (by omega) (by omega)
      rw [show (i + 1).toNat = i.toNat + 1 by omega, hu] at h2
      rw [← Option.some.inj h2]
      exact hu2.1
    · have := (open_look ho).1
      omega
  · rw [hok.2.2 he]
    exact ⟨by simp, fun i h0 h1 => by simp at h1; omega⟩
end Go.Proofs.Ytnoohgiecnmajaa.VC

/- Two trees that are one are the same, at the same places. -/
namespace Go.Proofs.Ytnoohgiecnmajaa.VC
open Go Go.RowKit
set_option linter.unusedVariables false
set_option linter.unusedSimpArgs false
set_option maxHeartbeats 4000000

set_option maxHeartbeats 16000000
def PlC (n : Node) : Prop := VCalls Try.prog 24 [n.enc, n.enc] (fun r => r = bv true)
theorem places_step (f : NodeF) (ks : List Node) (hk : ks.length ≤ 1000000) (ih : ∀ n ∈ ks, PlC n) : VCalls Try.prog 24 [(Node.mk f ks).enc, (Node.mk f ks).enc] (fun r => r = bv true) := by
  have hn := rowsN_len ks
  refine VCalls.ofr tabOk Try.func24 (by decide) rfl rfl ?_
  refine RWP.seqx tabOk orders ?_
  conv => whnf
  refine RWP.seqx tabOk orders ?_
  repeat' ((conv => whnf); (first
    | (with_reducible first | refine Spl.yes ?_ | refine Spl.no ?_ | refine Spl.dec (fun h => ?_) (fun h => ?_) | refine Spl.eq (fun h => ?_) (fun h => ?_) | refine Spl.ne (fun h => ?_) (fun h => ?_) | refine Spl.seq (fun h => ?_) (fun h => ?_) | refine Spl.not ?_ | refine Spl.any (fun h => ?_) (fun h => ?_))
    | ((with_reducible apply And.intro); first | omega | rfl | (dsimp only; omega))))
  all_goals (conv => whnf)
  · exact absurd rfl (by assumption)
  · exact absurd rfl (by assumption)
  refine RWP.weak (Wk.narrow _ [2, 3] [2, 3] []) ?_
  refine RWP.seq ?_
  refine RWP.seqx tabOk orders ?_
  conv => whnf
  refine RWP.block ?_
  refine RWP.loop (fun k st => ∃ (j : Int), st = ⟨41, [(2, .ptr 2 0), (3, .ptr 3 0), (5, .pv (iv j))], [(2, (27, nfe f ks)), (3, (27, nfe f ks))], [], []⟩ ∧ 0 ≤ j ∧ j ≤ ks.length ∧ k = (ks.length - j).toNat)
    ⟨_, _, Wk.narrow _ [2, 3, 5] [2, 3] [], 0, rfl, by omega, by omega, rfl⟩ ?_
  rintro k st ⟨j, rfl, hj0, hj1, hk⟩
  refine RWP.seqx tabOk orders ?_
  repeat' ((conv => whnf); (first
    | (with_reducible first | refine Spl.yes ?_ | refine Spl.no ?_ | refine Spl.dec (fun h => ?_) (fun h => ?_) | refine Spl.eq (fun h => ?_) (fun h => ?_) | refine Spl.ne (fun h => ?_) (fun h => ?_) | refine Spl.seq (fun h => ?_) (fun h => ?_) | refine Spl.not ?_ | refine Spl.any (fun h => ?_) (fun h => ?_))
    | ((with_reducible apply And.intro); first | omega | rfl | (dsimp only; omega))))
  all_goals (conv => whnf)
  rotate_left
  · refine RWP.of tabOk orders ?_
    conv => whnf
    rfl
  have hc := ih (rdn ks j) (rdn_mem (by omega))
  unfold PlC at hc
  obtain ⟨f3, k3, h3⟩ := (rdn ks j).ex
  rw [h3] at hc
  refine RWP.of tabOk orders ?_
  repeat' ((conv => whnf); (first
    | (with_reducible first | refine Spl.yes ?_ | refine Spl.no ?_ | refine Spl.dec (fun h => ?_) (fun h => ?_) | refine Spl.eq (fun h => ?_) (fun h => ?_) | refine Spl.ne (fun h => ?_) (fun h => ?_) | refine Spl.seq (fun h => ?_) (fun h => ?_) | refine Spl.not ?_ | refine Spl.any (fun h => ?_) (fun h => ?_))
    | refine drawn_text (by decide +kernel) ?_
    | (rw [rowsN_get (by omega)])
    | (rw [h3])
    | (refine VCalls.mono (hc) ?_; rintro _ rfl)
    | refine And.intro (Nat.le_of_ble_eq_true rfl) ?_
    | ((with_reducible apply And.intro); first | omega | rfl | (dsimp only; omega))))
  all_goals (conv => whnf)
  all_goals exact ⟨(ks.length - (j + 1)).toNat, _, by omega, Wk.narrow _ [2, 3, 5] [2, 3] [], j + 1, rfl, by omega, by omega, rfl⟩
theorem places_c : ∀ (k : Nat) (n : Node), n.w ≤ k → n.w ≤ 1000000 → PlC n := by
  intro k
  induction k with
  | zero => intro n h; have := w_pos n; omega
  | succ k ih =>
    intro n hk hw
    cases n with
    | mk f ks =>
      rw [Node.w] at hk hw
      have hl := wN_len ks
      exact places_step f ks (by omega) (fun n hn => ih n (by have := wN_mem hn; omega) (by have := wN_mem hn; omega))
def SetOk (n : Node) : Prop := n.f.set.length ≤ 4000000000
mutual
theorem fit_set : ∀ n : Node, n.all Fit → n.all SetOk
  | .mk f ks, h => by
    rw [Node.all] at h ⊢
    refine ⟨?_, fit_setL ks h.2⟩
    have : f.set.length ≤ 100000000 := h.1.1
    show f.set.length ≤ 4000000000
    omega
theorem fit_setL : ∀ l : List Node, allN Fit l → allN SetOk l
  | [], h => by rw [allN]; trivial
  | k :: l, h => by rw [allN] at h ⊢; exact ⟨fit_set k h.1, fit_setL l h.2⟩
end
theorem all_of_mem {P : Node → Prop} : ∀ {l : List Node}, (∀ n ∈ l, n.all P) → allN P l
  | [], _ => by rw [allN]; trivial
  | k :: l, h => by rw [allN]; exact ⟨h k (List.mem_cons_self ..), all_of_mem (fun n hn => h n (List.mem_cons_of_mem _ hn))⟩
theorem setN_all {a : Int} {l : List (Int × Int)} (h : l.length ≤ 4000000000) : (setN a l).all SetOk := by
  unfold setN; rw [Node.all, allN]; exact ⟨h, trivial⟩
theorem seqN_all {l : List Node} (h : allN SetOk l) : (seqN l).all SetOk := by
  unfold seqN
  split
  · rename_i h1
    exact allN_mem h (rdn_mem (by simp [h1]))
  · rw [Node.all]; exact ⟨Nat.zero_le _, h⟩
theorem list_all {l : List Node} (h : allN SetOk l) : allN SetOk (l.flatMap listN) := by
  refine all_of_mem (fun n hn => ?_)
  obtain ⟨k, hk, hn⟩ := List.mem_flatMap.1 hn
  have hka := allN_mem h hk
  unfold listN at hn
  split at hn
  · exact allN_mem (Node.all_kids hka) hn
  · have : n = k := by simpa using hn
    subst this; exact hka
theorem lineN_all (c : Ctx) (a : Int) : (lineN c a).all SetOk := by
  have hn := newP_len [(10, 13), (133, 133), (8232, 8233)] c.most
  simp only [List.length_cons, List.length_nil] at hn
  unfold lineN
  rw [Node.all, allN, allN, Node.all, allN, allN, allN]
  refine ⟨Nat.zero_le _, ⟨Nat.zero_le _, seqN_all ?_, setN_all (by omega), trivial⟩, trivial⟩
  rw [allN, allN, allN]
  exact ⟨setN_all (by simp), setN_all (by simp), trivial⟩
mutual
theorem nodeR_all (c : Ctx) : ∀ (n : Node) (g : Int), n.all Fit → (nodeR c n g).1.all SetOk
  | .mk f ks, g, ha => by
    rw [Node.all] at ha
    have h := rowR_all c ks
    have hf : f.set.length ≤ 100000000 := ha.1.1
    have hks : allN SetOk ks := all_of_mem (fun n hn => fit_set n (allN_mem ha.2 hn))
    have hs := fun l cl neg (q : l.length ≤ 100000000) => (show (setP c l cl neg).length ≤ 4000000000 by have := setP_len c l cl neg; omega)
    rw [nodeR]
    unfold nodeS
    by_cases q : f.kind = 1
    · rw [if_pos q]; exact setN_all (hs _ _ _ (by simp))
    rw [if_neg q]; clear q
    by_cases q : f.kind = 2
    · rw [if_pos q]; exact setN_all (hs _ _ _ hf)
    rw [if_neg q]; clear q
    by_cases q : f.kind = 3
    · rw [if_pos q]; split <;> exact setN_all (hs _ _ _ (by simp))
    rw [if_neg q]; clear q
    by_cases q : f.kind = 4
    · rw [if_pos q, Node.all]
      refine ⟨?_, hks⟩
      show (assertN f g).set.length ≤ 4000000000
      unfold assertN; split
      · show f.set.length ≤ _; omega
      split
      · show f.set.length ≤ _; omega
      · omega
    rw [if_neg q]; clear q
    by_cases q : f.kind = 6
    · rw [if_pos q]; exact lineN_all c _
    rw [if_neg q]; clear q
    by_cases q : f.kind = 7
    · rw [if_pos q, Node.all]; exact ⟨by show f.set.length ≤ _; omega, hks⟩
    rw [if_neg q]; clear q
    by_cases q : f.kind = 11
    · rw [if_pos q, Node.all, allN]; exact ⟨Nat.zero_le _, trivial⟩
    rw [if_neg q]; clear q
    by_cases q : f.kind = 12
    · rw [if_pos q]; exact seqN_all (list_all (h g ha.2))
    rw [if_neg q]; clear q
    by_cases q : f.kind = 13
    · rw [if_pos q, Node.all]; exact ⟨by show f.set.length ≤ _; omega, h g ha.2⟩
    rw [if_neg q]; clear q
    by_cases q : f.kind = 15
    · rw [if_pos q]
      simp only
      by_cases q : (0 : Int).toNat < (rowR c ks (turnP g f.on f.off)).1.length
      · exact allN_mem (h _ ha.2) (rdn_mem q)
      · have : rdn (rowR c ks (turnP g f.on f.off)).1 0 = nodeZ := by
          unfold rdn; rw [List.getD_eq_getElem?_getD, List.getElem?_eq_none (by omega)]; rfl
        rw [this]; unfold nodeZ; rw [Node.all, allN]; exact ⟨Nat.zero_le _, trivial⟩
    rw [if_neg q]; clear q
    rw [Node.all]
    refine ⟨?_, h g ha.2⟩
    show (greedN f g).set.length ≤ 4000000000
    unfold greedN; split
    · split
      · show f.set.length ≤ _; omega
      split
      · show f.set.length ≤ _; omega
      · omega
    · omega
theorem rowR_all (c : Ctx) : ∀ (l : List Node) (g : Int), allN Fit l → allN SetOk (rowR c l g).1
  | [], g, ha => by rw [rowR, allN]; trivial
  | k :: l, g, ha => by
    rw [allN] at ha
    rw [rowR]
    simp only
    rw [allN]
    exact ⟨nodeR_all c k g ha.1, rowR_all c l _ ha.2⟩
end
mutual
theorem nbN_all : ∀ (n : Node) (a : Int), n.all SetOk → (nbN n a).1.all SetOk
  | .mk f ks, a, h => by
    rw [Node.all] at h
    rw [nbN]
    simp only
    rw [Node.all]
    refine ⟨?_, nbL_all ks _ _ _ h.2⟩
    show (nbF f a).set.length ≤ _
    unfold nbF
    split <;> exact h.1
theorem nbL_all : ∀ (l : List Node) (rs : Bool) (a b : Int), allN SetOk l → allN SetOk (nbL l rs a b).1
  | [], rs, a, b, h => by rw [nbL, allN]; trivial
  | k :: l, rs, a, b, h => by
    rw [allN] at h
    rw [nbL]
    simp only
    rw [allN]
    exact ⟨nbN_all k _ h.1, nbL_all l _ _ _ h.2⟩
end
def SmC (n : Node) : Prop := VCalls Try.prog 23 [n.enc, n.enc] (fun r => r = bv true)
theorem same_step (f : NodeF) (ks : List Node) (hset : f.set.length ≤ 4000000000) (hk : ks.length ≤ 1000000) (ih : ∀ n ∈ ks, SmC n) : VCalls Try.prog 23 [(Node.mk f ks).enc, (Node.mk f ks).enc] (fun r => r = bv true) := by
  have hn := rowsN_len ks
  have hs := rows2_len f.set
  refine VCalls.ofr tabOk Try.func23 (by decide) rfl rfl ?_
  refine RWP.seqx tabOk orders ?_
  conv => whnf
  refine RWP.cut (fun st => st = ⟨125, [(2, .ptr 2 0), (3, .ptr 3 0)], [(2, (27, nfe f ks)), (3, (27, nfe f ks))], [], []⟩) tabOk orders ?_ ?_
  · repeat' ((conv => whnf); (first
    | (with_reducible first | refine Spl.yes ?_ | refine Spl.no ?_ | refine Spl.dec (fun h => ?_) (fun h => ?_) | refine Spl.eq (fun h => ?_) (fun h => ?_) | refine Spl.ne (fun h => ?_) (fun h => ?_) | refine Spl.seq (fun h => ?_) (fun h => ?_) | refine Spl.not ?_ | refine Spl.any (fun h => ?_) (fun h => ?_))
    | (exfalso; exact absurd rfl (by assumption))
    | ((with_reducible apply And.intro); first | omega | rfl | (dsimp only; omega))))
    all_goals (conv => whnf)
    all_goals first
      | (exfalso; exact absurd rfl (by assumption))
      | (have hb : (f.neg == f.neg) = false := by assumption
         simp at hb)
      | exact ⟨_, Wk.narrow _ [2, 3] [2, 3] [], rfl⟩
  rintro _ rfl
  refine RWP.cutr (fun st => st = ⟨125, [(2, .ptr 2 0), (3, .ptr 3 0)], [(2, (27, nfe f ks)), (3, (27, nfe f ks))], [], []⟩) ?_ ?_
  · refine RWP.seqx tabOk orders ?_
    conv => whnf
    refine RWP.block ?_
    refine RWP.loop (fun k st => ∃ (j : Int), st = ⟨125, [(2, .ptr 2 0), (3, .ptr 3 0), (5, .pv (iv j))], [(2, (27, nfe f ks)), (3, (27, nfe f ks))], [], []⟩ ∧ 0 ≤ j ∧ j ≤ f.set.length ∧ k = (f.set.length - j).toNat)
      ⟨_, _, Wk.narrow _ [2, 3, 5] [2, 3] [], 0, rfl, by omega, by omega, rfl⟩ ?_
    rintro k st ⟨j, rfl, hj0, hj1, hk⟩
    refine RWP.seqx tabOk orders ?_
    repeat' ((conv => whnf); (first
    | (with_reducible first | refine Spl.yes ?_ | refine Spl.no ?_ | refine Spl.dec (fun h => ?_) (fun h => ?_) | refine Spl.eq (fun h => ?_) (fun h => ?_) | refine Spl.ne (fun h => ?_) (fun h => ?_) | refine Spl.seq (fun h => ?_) (fun h => ?_) | refine Spl.not ?_ | refine Spl.any (fun h => ?_) (fun h => ?_))
    | ((with_reducible apply And.intro); first | omega | rfl | (dsimp only; omega))))
    all_goals (conv => whnf)
    rotate_left
    · exact ⟨_, Wk.narrow _ [2, 3] [2, 3] [], rfl⟩
    refine RWP.of tabOk orders ?_
    repeat' ((conv => whnf); (first
    | (with_reducible first | refine Spl.yes ?_ | refine Spl.no ?_ | refine Spl.dec (fun h => ?_) (fun h => ?_) | refine Spl.eq (fun h => ?_) (fun h => ?_) | refine Spl.ne (fun h => ?_) (fun h => ?_) | refine Spl.seq (fun h => ?_) (fun h => ?_) | refine Spl.not ?_ | refine Spl.any (fun h => ?_) (fun h => ?_))
    | refine drawn_text (by decide +kernel) ?_
    | (rw [rows2_get (by omega)])
    | refine And.intro (Nat.le_of_ble_eq_true rfl) ?_
    | refine ⟨_, eqS74 _ _ _ _, ?_⟩
    | ((with_reducible apply And.intro); first | omega | rfl | (dsimp only; omega))))
    all_goals (conv => whnf)
    all_goals first
      | exact ⟨(f.set.length - (j + 1)).toNat, _, by omega, Wk.narrow _ [2, 3, 5] [2, 3] [], j + 1, rfl, by omega, by omega, rfl⟩
      | (have hb : ((rdp f.set j).1 == (rdp f.set j).1 && ((rdp f.set j).2 == (rdp f.set j).2 && true)) = false := by assumption
         simp at hb)
  rintro _ rfl
  refine RWP.seq ?_
  refine RWP.seqx tabOk orders ?_
  conv => whnf
  refine RWP.block ?_
  refine RWP.loop (fun k st => ∃ (j : Int), st = ⟨125, [(2, .ptr 2 0), (3, .ptr 3 0), (6, .pv (iv j))], [(2, (27, nfe f ks)), (3, (27, nfe f ks))], [], []⟩ ∧ 0 ≤ j ∧ j ≤ ks.length ∧ k = (ks.length - j).toNat)
    ⟨_, _, Wk.narrow _ [2, 3, 6] [2, 3] [], 0, rfl, by omega, by omega, rfl⟩ ?_
  rintro k st ⟨j, rfl, hj0, hj1, hk⟩
  refine RWP.seqx tabOk orders ?_
  repeat' ((conv => whnf); (first
    | (with_reducible first | refine Spl.yes ?_ | refine Spl.no ?_ | refine Spl.dec (fun h => ?_) (fun h => ?_) | refine Spl.eq (fun h => ?_) (fun h => ?_) | refine Spl.ne (fun h => ?_) (fun h => ?_) | refine Spl.seq (fun h => ?_) (fun h => ?_) | refine Spl.not ?_ | refine Spl.any (fun h => ?_) (fun h => ?_))
    | ((with_reducible apply And.intro); first | omega | rfl | (dsimp only; omega))))
  all_goals (conv => whnf)
  rotate_left
  · refine RWP.of tabOk orders ?_
    conv => whnf
    rfl
  have hc := ih (rdn ks j) (rdn_mem (by omega))
  unfold SmC at hc
  obtain ⟨f3, k3, h3⟩ := (rdn ks j).ex
  rw [h3] at hc
  refine RWP.of tabOk orders ?_
  repeat' ((conv => whnf); (first
    | (with_reducible first | refine Spl.yes ?_ | refine Spl.no ?_ | refine Spl.dec (fun h => ?_) (fun h => ?_) | refine Spl.eq (fun h => ?_) (fun h => ?_) | refine Spl.ne (fun h => ?_) (fun h => ?_) | refine Spl.seq (fun h => ?_) (fun h => ?_) | refine Spl.not ?_ | refine Spl.any (fun h => ?_) (fun h => ?_))
    | refine drawn_text (by decide +kernel) ?_
    | (rw [rowsN_get (by omega)])
    | (rw [h3])
    | (refine VCalls.mono (hc) ?_; rintro _ rfl)
    | refine And.intro (Nat.le_of_ble_eq_true rfl) ?_
    | ((with_reducible apply And.intro); first | omega | rfl | (dsimp only; omega))))
  all_goals (conv => whnf)
  all_goals exact ⟨(ks.length - (j + 1)).toNat, _, by omega, Wk.narrow _ [2, 3, 6] [2, 3] [], j + 1, rfl, by omega, by omega, rfl⟩
theorem same_c : ∀ (k : Nat) (n : Node), n.w ≤ k → n.w ≤ 1000000 → n.all SetOk → SmC n := by
  intro k
  induction k with
  | zero => intro n h; have := w_pos n; omega
  | succ k ih =>
    intro n hk hw ha
    cases n with
    | mk f ks =>
      rw [Node.w] at hk hw
      rw [Node.all] at ha
      have hl := wN_len ks
      exact same_step f ks ha.1 (by omega) (fun n hn => ih n (by have := wN_mem hn; omega) (by have := wN_mem hn; omega) (allN_mem ha.2 hn))
end Go.Proofs.Ytnoohgiecnmajaa.VC

/- The laws of parse: parsed, awake, ParseSays. -/
namespace Go.Proofs.Ytnoohgiecnmajaa.VC
open Go Go.RowKit
set_option linter.unusedVariables false
set_option linter.unusedSimpArgs false
set_option maxHeartbeats 4000000

/-- The program's answer for tokens is the document's. -/
theorem parse7_c (l : List Int) (o en : Int) : VCalls Try.prog 39 [toksE (lexP l o).toks, iv en] (fun r => r = parE (parseP (lexP l o).toks en)) := by
  have h1 := lexP_ok l o
  have h2 := parse39_c (lexP l o).toks en (by omega) (lexP_tokS l o)
  rw [runS_parse (lexP_tokS l o)] at h2
  rw [toksE_tk]
  exact h2
def parsedP (s : ByteArray) : ParR :=
  if (lexP (numsOf s) 0).e ≠ 0 then ⟨nodeZ, (lexP (numsOf s) 0).e, (lexP (numsOf s) 0).at_⟩ else parseP (lexP (numsOf s) 0).toks s.size
theorem parsed7_c (s : ByteArray) (hs : s.size ≤ 1000000) : VCalls Try.prog 42 [sv s] (fun r => r = parE (parsedP s)) := by
  have h1 := lexP_ok (numsOf s) 0
  have hlex := lex_c (numsOf s) 0 (numsOf_bytes s)
  have hpar := parse7_c (numsOf s) 0 s.size
  obtain ⟨G, hG⟩ : ∃ G, parsedP s = G := ⟨_, rfl⟩
  rw [hG]
  unfold parsedP at hG
  generalize lexP (numsOf s) 0 = x at *
  obtain ⟨toks, e, at_⟩ := x
  simp only at *
  generalize parseP toks s.size = y at *
  obtain ⟨⟨f1, k1⟩, e2, at2⟩ := y
  refine VCalls.ofr tabOk Try.func42 (by decide) rfl rfl ?_
  refine RWP.of tabOk orders ?_
  repeat' ((conv => whnf); (first
    | (with_reducible first | refine Spl.yes ?_ | refine Spl.no ?_ | refine Spl.dec (fun h => ?_) (fun h => ?_) | refine Spl.eq (fun h => ?_) (fun h => ?_) | refine Spl.ne (fun h => ?_) (fun h => ?_) | refine Spl.seq (fun h => ?_) (fun h => ?_) | refine Spl.not ?_ | refine Spl.any (fun h => ?_) (fun h => ?_))
    | (refine VCalls.mono (hlex) ?_; rintro _ rfl)
    | (refine VCalls.mono (hpar) ?_; rintro _ rfl)
    | (dsimp only)
    | refine And.intro (Nat.le_of_ble_eq_true rfl) ?_
    | ((with_reducible apply And.intro); first | omega | rfl | (dsimp only; omega))))
  all_goals (conv => whnf)
  all_goals (try dsimp only at *)
  all_goals (subst hG)
  all_goals first | (exfalso; omega) | (apply fn_by (f := parE); (focus ((repeat (first | (apply ite_yes; (focus first | assumption | omega)) | (apply ite_no; (focus first | assumption | exact b_nt (by assumption) | exact b_nf (by assumption) | omega)) | (apply ite_yes; (focus (first | (simp [*]; done) | (simp [*, bs]; done)))) | (apply ite_no; (focus (first | (simp [*]; done) | (simp [*, bs]; done)))))); exact rfl)); rfl)
def pw1 : ByteArray := bs [97, 98, 42, 124, 99]
def pw2 : ByteArray := bs [97, 42, 42]
def pw3 : ByteArray := bs [40]
theorem pw1_is : (parsedP pw1).e = 0 ∧ (parsedP pw1).n.f.kind = 13 ∧ (parsedP pw1).n.kids.length = 2 ∧ (rdn (parsedP pw1).n.kids 0).f.kind = 12 ∧ (rdn (parsedP pw1).n.kids 0).kids.length = 2 ∧ (rdn (rdn (parsedP pw1).n.kids 0).kids 1).f.kind = 20 := by decide +kernel
theorem pw2_is : (parsedP pw2).e = 30 ∧ (parsedP pw2).at_ = 2 := by decide +kernel
theorem pw3_is : (parsedP pw3).e = 20 ∧ (parsedP pw3).at_ = 1 := by decide +kernel
attribute [local irreducible] parsedP
set_option maxHeartbeats 16000000
theorem awake7_c : VCalls Try.prog 37 [] (fun r => r = bv true) := by
  have h1 := parsed7_c pw1 (by decide)
  have h2 := parsed7_c pw2 (by decide)
  have h3 := parsed7_c pw3 (by decide)
  have a1 := pw1_is
  have a2 := pw2_is
  have a3 := pw3_is
  generalize parsedP pw1 = r1 at *
  generalize parsedP pw2 = r2 at *
  generalize parsedP pw3 = r3 at *
  obtain ⟨⟨f1, k1⟩, e1, at1⟩ := r1
  obtain ⟨⟨f2, k2⟩, e2, at2⟩ := r2
  obtain ⟨⟨f3, k3⟩, e3, at3⟩ := r3
  simp only [Node.f, Node.kids] at a1 a2 a3
  obtain ⟨rfl, hk, hl, hk0, hl0, hk1⟩ := a1
  obtain ⟨rfl, rfl⟩ := a2
  obtain ⟨rfl, rfl⟩ := a3
  have hrl := rowsN_len k1
  obtain ⟨f4, k4, h4⟩ := (rdn k1 0).ex
  rw [h4] at hk0 hl0 hk1
  simp only at hk0 hl0 hk1
  have hrl4 := rowsN_len k4
  obtain ⟨f5, k5, h5⟩ := (rdn k4 1).ex
  rw [h5] at hk1
  simp only at hk1
  refine VCalls.ofr tabOk Try.func37 (by decide) rfl rfl ?_
  refine RWP.of tabOk orders ?_
  repeat' ((conv => whnf); (first
    | (with_reducible first | refine Spl.yes ?_ | refine Spl.no ?_ | refine Spl.dec (fun h => ?_) (fun h => ?_) | refine Spl.eq (fun h => ?_) (fun h => ?_) | refine Spl.ne (fun h => ?_) (fun h => ?_) | refine Spl.seq (fun h => ?_) (fun h => ?_) | refine Spl.not ?_ | refine Spl.any (fun h => ?_) (fun h => ?_))
    | (refine VCalls.mono (h1) ?_; rintro _ rfl)
    | (refine VCalls.mono (h2) ?_; rintro _ rfl)
    | (refine VCalls.mono (h3) ?_; rintro _ rfl)
    | refine drawn_text (by decide +kernel) ?_
    | (rw [rowsN_get (by omega)])
    | (rw [h4])
    | (rw [h5])
    | refine And.intro (Nat.le_of_ble_eq_true rfl) ?_
    | ((with_reducible apply And.intro); first | omega | rfl | (dsimp only; omega))))
  all_goals (conv => whnf)
  all_goals first
    | (exfalso; omega)
    | (exfalso; exact absurd hk (by assumption))
    | (exfalso; exact absurd hk0 (by assumption))
    | (exfalso; exact absurd hk1 (by assumption))
    | (exfalso; exact absurd rfl (by assumption))
    | rfl
theorem parseP_err {L : List Tok} {en : Int} (h : (parseP L en).e ≠ 0) : (parseP L en).n = nodeZ := by
  unfold parseP at h ⊢
  split
  · rfl
  · split
    · rfl
    · rename_i h1 h2
      rw [if_neg h1, if_neg h2] at h
      exact absurd rfl h
theorem says7_c (l : List Int) (o : Int) (hb : Bytes l) : VCalls Try.prog 13 [ys l, iv o] (fun r => r = bv true) := by
  have hl1 := lexP_ok l o
  have hlex := lex_c l o hb
  have h39 := parse7_c l o l.length
  have h40 := parse_c (lexP l o).toks l.length (by omega)
  have hbl : (byteRows l).length = l.length := by simp [byteRows]
  have herr := parseP_err (L := (lexP l o).toks) (en := l.length)
  have hok : (lexP l o).e = 0 → (parseP (lexP l o).toks l.length).e = 0 → SmC (parseP (lexP l o).toks l.length).n ∧ PlC (parseP (lexP l o).toks l.length).n := by
    intro e1 e2
    have h2 := parse_all (fit_ph (hl1.2.1 e1).2.2) l.length e2
    have h4 := hl1.1
    exact ⟨same_c _ _ (Nat.le_refl _) (by omega) (fit_set _ h2.1), places_c _ _ (Nat.le_refl _) (by omega)⟩
  unfold SmC PlC at hok
  generalize lexP l o = x at *
  obtain ⟨toks, e, at_⟩ := x
  simp only at *
  generalize parseP toks l.length = y at *
  obtain ⟨⟨f1, k1⟩, e2, at2⟩ := y
  simp only at *
  have hrl := rowsN_len k1
  refine VCalls.ofr tabOk Try.func13 (by decide) rfl rfl ?_
  refine RWP.of tabOk orders ?_
  repeat' ((conv => whnf); (first
    | (with_reducible first | refine Spl.yes ?_ | refine Spl.no ?_ | refine Spl.dec (fun h => ?_) (fun h => ?_) | refine Spl.eq (fun h => ?_) (fun h => ?_) | refine Spl.ne (fun h => ?_) (fun h => ?_) | refine Spl.seq (fun h => ?_) (fun h => ?_) | refine Spl.not ?_ | refine Spl.any (fun h => ?_) (fun h => ?_))
    | (refine VCalls.mono (awake7_c) ?_; rintro _ rfl)
    | (refine VCalls.mono (hlex) ?_; rintro _ rfl)
    | (refine VCalls.mono (h39) ?_; rintro _ rfl)
    | (refine VCalls.mono (h40) ?_; rintro _ rfl)
    | (refine VCalls.mono ((hok (by assumption) (by assumption)).1) ?_; rintro _ rfl)
    | (refine VCalls.mono ((hok (by assumption) (by assumption)).2) ?_; rintro _ rfl)
    | (rw [hbl])
    | (dsimp only)
    | refine And.intro (Nat.le_of_ble_eq_true rfl) ?_
    | ((with_reducible apply And.intro); first | omega | rfl | (dsimp only; omega))))
  all_goals (conv => whnf)
  all_goals first
    | (exfalso; exact absurd rfl (by assumption))
    | (exfalso; omega)
    | rfl
    | (exfalso
       have hz := herr (by assumption)
       obtain ⟨hf, hk⟩ := Node.mk.inj hz
       subst hf
       subst hk
       exact absurd rfl (by assumption))
end Go.Proofs.Ytnoohgiecnmajaa.VC

