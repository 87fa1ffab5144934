/- A part of the ground of the proof. No condition. -/
import Derived.Test.YtnoohgiecnmajaaGE22

/- Flags by definition: a node. -/
namespace Go.Proofs.Ytnoohgiecnmajaa.VC
open Go Go.RowKit
set_option linter.unusedVariables false
set_option linter.unusedSimpArgs false
set_option maxHeartbeats 4000000

@[reducible] def nfe (f : NodeF) (ks : List Node) : List FE := [.pv (iv f.kind), .pv (iv f.at_), .pv (iv f.c), .pv (rs f.set), .pv (bv f.neg), .pv (iv f.n), .pv (iv f.m), .pv (iv f.mode), .pv (sv f.name), .pv (iv f.on), .pv (iv f.off), .pv (nodesE ks)]
def nfs (at_ : Int) (l : List (Int × Int)) : List FE := [.pv (iv 2), .pv (iv at_), .pv (iv 0), .pv (rs l), .pv (bv false), .pv (iv 0), .pv (iv 0), .pv (iv 0), .pv (sv (bs [])), .pv (iv 0), .pv (iv 0), .pv (.val (.slice none 0 0))]
def nfa (at_ : Int) (ks : List Node) : List FE := [.pv (iv 13), .pv (iv at_), .pv (iv 0), .pv (.val (.slice none 0 0)), .pv (bv false), .pv (iv 0), .pv (iv 0), .pv (iv 0), .pv (sv (bs [])), .pv (iv 0), .pv (iv 0), .pv (nodesE ks)]
theorem rowR_take_le (c : Ctx) : ∀ (l : List Node) (n : Nat) (g : Int), ((rowR c (l.take n) g).1.flatMap listN).length ≤ ((rowR c l g).1.flatMap listN).length
  | [], n, g => by simp
  | k :: l, 0, g => by simp [rowR]
  | k :: l, n + 1, g => by
    have := rowR_take_le c l n (nodeR c k g).2
    rw [List.take_succ_cons, rowR, rowR]
    simp only [List.flatMap_cons, List.length_append]
    omega
attribute [local irreducible] nodeR rowR setP newP bAnd bOr bAndNot
set_option maxHeartbeats 16000000
theorem nodeS_c (c : Ctx) (f : NodeF) (ks : List Node) (hs : f.set.length ≤ 100000000) (hk : ks.length ≤ 1000000) (h15 : f.kind = 15 → ks ≠ []) (ih : ∀ n ∈ ks, NodeC c n)
    (hq : f.kind = 12 → ∀ g, ((rowR c ks g).1.flatMap listN).length ≤ 10000000) (g : Int) : VCalls Try.prog 67 [c.enc, (Node.mk f ks).enc, iv g] (fun r => r = Ty2 (nodeS c f ks g (fun h => rowR c ks h))) := by
  have hn := rowsN_len ks
  have hrow := fun h => row_c c ks hk ih h
  have hset := fun l cl neg hl => set_c c l cl neg hl
  obtain ⟨utf, most⟩ := c
  obtain ⟨G, hG⟩ : ∃ G, nodeS ⟨utf, most⟩ f ks g (fun h => rowR ⟨utf, most⟩ ks h) = G := ⟨_, rfl⟩
  rw [hG]
  unfold nodeS at hG
  dsimp only at hG
  refine VCalls.ofr tabOk Try.func67 (by decide) rfl rfl ?_
  refine RWP.seqx tabOk orders ?_
  conv => whnf
  refine RWP.seqx tabOk orders ?_
  conv => whnf
  refine RWP.cutr (fun st => (Node.mk (greedN f g) (rowR ⟨utf, most⟩ ks g).1, g) = G ∧ st = ⟨227, [(2, .pv (iv g)), (3, .ptr 3 0), (4, .ptr 4 0), (6, .ptr 6 0)], [(3, (110, [.pv (bv utf), .pv (iv most)])), (4, (27, nfe (greedN f g) ks)), (6, (27, nzero))], [], []⟩) ?_ ?_
  rotate_left
  · rintro _ ⟨hG, rfl⟩
    subst hG
    have hrow := hrow g
    generalize rowR ⟨utf, most⟩ ks g = r at *
    generalize greedN f g = f2 at *
    obtain ⟨o, h⟩ := r
    simp only at hrow
    refine RWP.of tabOk orders ?_
    repeat' ((conv => whnf); (first
    | (with_reducible first | refine Spl.yes ?_ | refine Spl.no ?_ | refine Spl.dec (fun h => ?_) (fun h => ?_) | refine Spl.eq (fun h => ?_) (fun h => ?_) | refine Spl.ne (fun h => ?_) (fun h => ?_) | refine Spl.seq (fun h => ?_) (fun h => ?_) | refine Spl.not ?_ | refine Spl.any (fun h => ?_) (fun h => ?_))
    | (refine VCalls.mono (hrow) ?_; rintro _ rfl)
    | refine And.intro (Nat.le_of_ble_eq_true rfl) ?_
    | ((with_reducible apply And.intro); first | omega | rfl | (dsimp only; omega))))
    all_goals (conv => whnf)
    rfl
  refine RWP.seqx tabOk orders ?_
  conv => whnf
  refine RWP.weak (Wk.narrow _ [2, 3, 4, 6, 8, 24] [3, 4, 6] []) ?_
  refine RWP.block ?_
  refine RWP.seqx tabOk orders ?_
  conv => whnf
  refine RWP.cond ?_
  conv => whnf
  (with_reducible first | refine Spl.yes ?_ | refine Spl.no ?_ | refine Spl.dec (fun h => ?_) (fun h => ?_) | refine Spl.eq (fun h => ?_) (fun h => ?_) | refine Spl.ne (fun h => ?_) (fun h => ?_) | refine Spl.seq (fun h => ?_) (fun h => ?_) | refine Spl.not ?_ | refine Spl.any (fun h => ?_) (fun h => ?_))
  · have h1 : f.kind = 1 := by assumption
    rw [if_pos h1] at hG
    subst hG
    refine RWP.of tabOk orders ?_
    repeat' ((conv => whnf); (first
    | (with_reducible first | refine Spl.yes ?_ | refine Spl.no ?_ | refine Spl.dec (fun h => ?_) (fun h => ?_) | refine Spl.eq (fun h => ?_) (fun h => ?_) | refine Spl.ne (fun h => ?_) (fun h => ?_) | refine Spl.seq (fun h => ?_) (fun h => ?_) | refine Spl.not ?_ | refine Spl.any (fun h => ?_) (fun h => ?_))
    | (refine VCalls.mono (one8_c f.c) ?_; rintro _ rfl)
    | (refine VCalls.mono (hset [(f.c, f.c)] (bAnd g 1 != 0) false (by simp)) ?_; rintro _ rfl)
    | refine drawn_ord [0, 1, 2, 3, 4, 6, 9, 5, 7, 8, 10, 11] (by decide +kernel) ?_
    | refine And.intro (Nat.le_of_ble_eq_true rfl) ?_
    | ((with_reducible apply And.intro); first | omega | rfl | (dsimp only; omega))))
    all_goals (conv => whnf)
    rfl
  have h1 : ¬ f.kind = 1 := by assumption
  rw [if_neg h1] at hG
  refine RWP.seqx tabOk orders ?_
  conv => whnf
  refine RWP.cond ?_
  conv => whnf
  (with_reducible first | refine Spl.yes ?_ | refine Spl.no ?_ | refine Spl.dec (fun h => ?_) (fun h => ?_) | refine Spl.eq (fun h => ?_) (fun h => ?_) | refine Spl.ne (fun h => ?_) (fun h => ?_) | refine Spl.seq (fun h => ?_) (fun h => ?_) | refine Spl.not ?_ | refine Spl.any (fun h => ?_) (fun h => ?_))
  · have h1 : f.kind = 2 := by assumption
    rw [if_pos h1] at hG
    subst hG
    refine RWP.of tabOk orders ?_
    repeat' ((conv => whnf); (first
    | (with_reducible first | refine Spl.yes ?_ | refine Spl.no ?_ | refine Spl.dec (fun h => ?_) (fun h => ?_) | refine Spl.eq (fun h => ?_) (fun h => ?_) | refine Spl.ne (fun h => ?_) (fun h => ?_) | refine Spl.seq (fun h => ?_) (fun h => ?_) | refine Spl.not ?_ | refine Spl.any (fun h => ?_) (fun h => ?_))
    | (refine VCalls.mono (hset f.set (bAnd g 1 != 0) f.neg hs) ?_; rintro _ rfl)
    | refine drawn_ord [0, 1, 2, 3, 4, 5, 6, 7, 10, 8, 9, 11, 12] (by decide +kernel) ?_
    | refine And.intro (Nat.le_of_ble_eq_true rfl) ?_
    | ((with_reducible apply And.intro); first | omega | rfl | (dsimp only; omega))))
    all_goals (conv => whnf)
    rfl
  have h2 : ¬ f.kind = 2 := by assumption
  rw [if_neg h2] at hG
  refine RWP.seqx tabOk orders ?_
  conv => whnf
  refine RWP.cond ?_
  conv => whnf
  (with_reducible first | refine Spl.yes ?_ | refine Spl.no ?_ | refine Spl.dec (fun h => ?_) (fun h => ?_) | refine Spl.eq (fun h => ?_) (fun h => ?_) | refine Spl.ne (fun h => ?_) (fun h => ?_) | refine Spl.seq (fun h => ?_) (fun h => ?_) | refine Spl.not ?_ | refine Spl.any (fun h => ?_) (fun h => ?_))
  · have h1 : f.kind = 3 := by assumption
    rw [if_pos h1] at hG
    refine RWP.of tabOk orders ?_
    repeat' ((conv => whnf); (first
    | (with_reducible first | refine Spl.yes ?_ | refine Spl.no ?_ | refine Spl.dec (fun h => ?_) (fun h => ?_) | refine Spl.eq (fun h => ?_) (fun h => ?_) | refine Spl.ne (fun h => ?_) (fun h => ?_) | refine Spl.seq (fun h => ?_) (fun h => ?_) | refine Spl.not ?_ | refine Spl.any (fun h => ?_) (fun h => ?_))
    | (refine VCalls.mono (one8_c 10) ?_; rintro _ rfl)
    | (refine VCalls.mono (hset [(10, 10)] false true (by simp)) ?_; rintro _ rfl)
    | (refine VCalls.mono (hset [] false true (by simp)) ?_; rintro _ rfl)
    | refine drawn_ord [0, 1, 2, 3, 6, 4, 5, 7, 8] (by decide +kernel) ?_
    | refine And.intro (Nat.le_of_ble_eq_true rfl) ?_
    | ((with_reducible apply And.intro); first | omega | rfl | (dsimp only; omega))))
    all_goals (conv => whnf)
    · rw [if_pos (by assumption)] at hG; subst hG; rfl
    · rw [if_neg (by assumption)] at hG; subst hG; rfl
  have h3 : ¬ f.kind = 3 := by assumption
  rw [if_neg h3] at hG
  refine RWP.seqx tabOk orders ?_
  conv => whnf
  refine RWP.cond ?_
  conv => whnf
  (with_reducible first | refine Spl.yes ?_ | refine Spl.no ?_ | refine Spl.dec (fun h => ?_) (fun h => ?_) | refine Spl.eq (fun h => ?_) (fun h => ?_) | refine Spl.ne (fun h => ?_) (fun h => ?_) | refine Spl.seq (fun h => ?_) (fun h => ?_) | refine Spl.not ?_ | refine Spl.any (fun h => ?_) (fun h => ?_))
  · have h1 : f.kind = 4 := by assumption
    rw [if_pos h1] at hG
    unfold assertN at hG
    refine RWP.of tabOk orders ?_
    repeat' ((conv => whnf); (first
    | (with_reducible first | refine Spl.yes ?_ | refine Spl.no ?_ | refine Spl.dec (fun h => ?_) (fun h => ?_) | refine Spl.eq (fun h => ?_) (fun h => ?_) | refine Spl.ne (fun h => ?_) (fun h => ?_) | refine Spl.seq (fun h => ?_) (fun h => ?_) | refine Spl.not ?_ | refine Spl.any (fun h => ?_) (fun h => ?_))
    | refine And.intro (Nat.le_of_ble_eq_true rfl) ?_
    | ((with_reducible apply And.intro); first | omega | rfl | (dsimp only; omega))))
    all_goals (conv => whnf)
    all_goals first
      | (exfalso; omega)
      | (rw [if_pos (show bAnd g 2 ≠ 0 ∧ f.n = 1 from ⟨by assumption, by assumption⟩)] at hG; subst hG; rfl)
      | (rw [if_neg (show ¬ (bAnd g 2 ≠ 0 ∧ f.n = 1) by omega), if_pos (show bAnd g 2 ≠ 0 ∧ f.n = 2 from ⟨by assumption, by assumption⟩)] at hG; subst hG; rfl)
      | (rw [if_neg (show ¬ (bAnd g 2 ≠ 0 ∧ f.n = 1) by omega), if_neg (show ¬ (bAnd g 2 ≠ 0 ∧ f.n = 2) by omega)] at hG; subst hG; rfl)
  have h4 : ¬ f.kind = 4 := by assumption
  rw [if_neg h4] at hG
  refine RWP.seqx tabOk orders ?_
  conv => whnf
  refine RWP.cond ?_
  conv => whnf
  (with_reducible first | refine Spl.yes ?_ | refine Spl.no ?_ | refine Spl.dec (fun h => ?_) (fun h => ?_) | refine Spl.eq (fun h => ?_) (fun h => ?_) | refine Spl.ne (fun h => ?_) (fun h => ?_) | refine Spl.seq (fun h => ?_) (fun h => ?_) | refine Spl.not ?_ | refine Spl.any (fun h => ?_) (fun h => ?_))
  · have h1 : f.kind = 6 := by assumption
    rw [if_pos h1] at hG
    subst hG
    have hnew := new_c [(10, 13), (133, 133), (8232, 8233)] most (by simp)
    have hsq := seqN_c [setN f.at_ [(13, 13)], setN f.at_ [(10, 10)]] (by simp)
    unfold lineN
    refine RWP.cut (fun st => st = ⟨227, [(2, .pv (iv g)), (3, .ptr 3 0), (4, .ptr 4 0), (6, .ptr 6 0), (10, .ptr 10 0)], [(3, (110, [.pv (bv utf), .pv (iv most)])), (4, (27, nfe f ks)), (6, (27, nzero)), (10, (27, nfs f.at_ ([(13, 13)])))], [], []⟩) tabOk orders ?_ ?_
    · repeat' ((conv => whnf); (first
    | (with_reducible first | refine Spl.yes ?_ | refine Spl.no ?_ | refine Spl.dec (fun h => ?_) (fun h => ?_) | refine Spl.eq (fun h => ?_) (fun h => ?_) | refine Spl.ne (fun h => ?_) (fun h => ?_) | refine Spl.seq (fun h => ?_) (fun h => ?_) | refine Spl.not ?_ | refine Spl.any (fun h => ?_) (fun h => ?_))
    | (refine VCalls.mono (one8_c 13) ?_; rintro _ rfl)
    | refine drawn_plan (.one 0 (.one 1 (.two 2 (.ofList [3, 4, 5]) 4 (.ofList [2, 3, 5])))) (by decide +kernel) ?_
    | refine Fork.mk ?_ ?_
    | refine And.intro (Nat.le_of_ble_eq_true rfl) ?_
    | ((with_reducible apply And.intro); first | omega | rfl | (dsimp only; omega))))
      all_goals (conv => whnf)
      all_goals exact ⟨_, Wk.narrow _ [2, 3, 4, 6, 10] [3, 4, 6, 10] [], rfl⟩
    rintro _ rfl
    refine RWP.cut (fun st => st = ⟨227, [(2, .pv (iv g)), (3, .ptr 3 0), (4, .ptr 4 0), (6, .ptr 6 0), (10, .ptr 10 0), (11, .ptr 11 0)], [(3, (110, [.pv (bv utf), .pv (iv most)])), (4, (27, nfe f ks)), (6, (27, nzero)), (10, (27, nfs f.at_ ([(13, 13)]))), (11, (27, nfs f.at_ ([(10, 10)])))], [], []⟩) tabOk orders ?_ ?_
    · repeat' ((conv => whnf); (first
    | (with_reducible first | refine Spl.yes ?_ | refine Spl.no ?_ | refine Spl.dec (fun h => ?_) (fun h => ?_) | refine Spl.eq (fun h => ?_) (fun h => ?_) | refine Spl.ne (fun h => ?_) (fun h => ?_) | refine Spl.seq (fun h => ?_) (fun h => ?_) | refine Spl.not ?_ | refine Spl.any (fun h => ?_) (fun h => ?_))
    | (refine VCalls.mono (one8_c 10) ?_; rintro _ rfl)
    | refine drawn_plan (.one 0 (.one 1 (.two 2 (.ofList [3, 4, 5]) 4 (.ofList [2, 3, 5])))) (by decide +kernel) ?_
    | refine Fork.mk ?_ ?_
    | refine And.intro (Nat.le_of_ble_eq_true rfl) ?_
    | ((with_reducible apply And.intro); first | omega | rfl | (dsimp only; omega))))
      all_goals (conv => whnf)
      all_goals exact ⟨_, Wk.narrow _ [2, 3, 4, 6, 10, 11] [3, 4, 6, 10, 11] [], rfl⟩
    rintro _ rfl
    refine RWP.cut (fun st => st = ⟨227, [(2, .pv (iv g)), (3, .ptr 3 0), (4, .ptr 4 0), (6, .ptr 6 0), (10, .ptr 10 0), (11, .ptr 11 0), (12, .ptr 12 0)], [(3, (110, [.pv (bv utf), .pv (iv most)])), (4, (27, nfe f ks)), (6, (27, nzero)), (10, (27, nfs f.at_ ([(13, 13)]))), (11, (27, nfs f.at_ ([(10, 10)]))), (12, (27, nfs f.at_ (newP [(10, 13), (133, 133), (8232, 8233)] most)))], [], []⟩) tabOk orders ?_ ?_
    · repeat' ((conv => whnf); (first
    | (with_reducible first | refine Spl.yes ?_ | refine Spl.no ?_ | refine Spl.dec (fun h => ?_) (fun h => ?_) | refine Spl.eq (fun h => ?_) (fun h => ?_) | refine Spl.ne (fun h => ?_) (fun h => ?_) | refine Spl.seq (fun h => ?_) (fun h => ?_) | refine Spl.not ?_ | refine Spl.any (fun h => ?_) (fun h => ?_))
    | (refine VCalls.mono (hnew) ?_; rintro _ rfl)
    | refine drawn_plan (.one 0 (.one 1 (.one 2 (.one 3 (.one 4 (.one 6 (.one 7 (.two 5 (.two 8 (.ofList [9, 10, 11]) 10 (.ofList [8, 9, 11])) 10 (.ofList [5, 8, 9, 11]))))))))) (by decide +kernel) ?_
    | refine Fork.mk ?_ ?_
    | refine And.intro (Nat.le_of_ble_eq_true rfl) ?_
    | ((with_reducible apply And.intro); first | omega | rfl | (dsimp only; omega))))
      all_goals (conv => whnf)
      all_goals exact ⟨_, Wk.narrow _ [2, 3, 4, 6, 10, 11, 12] [3, 4, 6, 10, 11, 12] [], rfl⟩
    rintro _ rfl
    refine RWP.cut (fun st => st = ⟨227, [(2, .pv (iv g)), (3, .ptr 3 0), (4, .ptr 4 0), (6, .ptr 6 0), (13, .ptr 13 0)], [(3, (110, [.pv (bv utf), .pv (iv most)])), (4, (27, nfe f ks)), (6, (27, nzero)), (13, (27, nfa f.at_ [seqN [setN f.at_ [(13, 13)], setN f.at_ [(10, 10)]], setN f.at_ (newP [(10, 13), (133, 133), (8232, 8233)] most)]))], [], []⟩) tabOk orders ?_ ?_
    · repeat' ((conv => whnf); (first
    | (with_reducible first | refine Spl.yes ?_ | refine Spl.no ?_ | refine Spl.dec (fun h => ?_) (fun h => ?_) | refine Spl.eq (fun h => ?_) (fun h => ?_) | refine Spl.ne (fun h => ?_) (fun h => ?_) | refine Spl.seq (fun h => ?_) (fun h => ?_) | refine Spl.not ?_ | refine Spl.any (fun h => ?_) (fun h => ?_))
    | (refine VCalls.mono (hsq) ?_; rintro _ rfl)
    | refine drawn_plan (.one 0 (.one 1 (.one 2 (.one 3 (.one 6 (.two 4 (.two 5 (.two 7 (.ofList [8, 9, 10]) 9 (.ofList [7, 8, 10])) 9 (.ofList [5, 7, 8, 10])) 9 (.ofList [4, 5, 7, 8, 10]))))))) (by decide +kernel) ?_
    | refine Fork.mk ?_ ?_
    | refine And.intro (Nat.le_of_ble_eq_true rfl) ?_
    | ((with_reducible apply And.intro); first | omega | rfl | (dsimp only; omega))))
      all_goals (conv => whnf)
      all_goals exact ⟨_, Wk.narrow _ [2, 3, 4, 6, 13] [3, 4, 6, 13] [], rfl⟩
    rintro _ rfl
    refine RWP.of tabOk orders ?_
    repeat' ((conv => whnf); (first
    | (with_reducible first | refine Spl.yes ?_ | refine Spl.no ?_ | refine Spl.dec (fun h => ?_) (fun h => ?_) | refine Spl.eq (fun h => ?_) (fun h => ?_) | refine Spl.ne (fun h => ?_) (fun h => ?_) | refine Spl.seq (fun h => ?_) (fun h => ?_) | refine Spl.not ?_ | refine Spl.any (fun h => ?_) (fun h => ?_))
    | refine And.intro (Nat.le_of_ble_eq_true rfl) ?_
    | ((with_reducible apply And.intro); first | omega | rfl | (dsimp only; omega))))
    all_goals (conv => whnf)
    rfl
  have h6 : ¬ f.kind = 6 := by assumption
  rw [if_neg h6] at hG
  refine RWP.seqx tabOk orders ?_
  conv => whnf
  refine RWP.cond ?_
  conv => whnf
  (with_reducible first | refine Spl.yes ?_ | refine Spl.no ?_ | refine Spl.dec (fun h => ?_) (fun h => ?_) | refine Spl.eq (fun h => ?_) (fun h => ?_) | refine Spl.ne (fun h => ?_) (fun h => ?_) | refine Spl.seq (fun h => ?_) (fun h => ?_) | refine Spl.not ?_ | refine Spl.any (fun h => ?_) (fun h => ?_))
  · have h1 : f.kind = 7 := by assumption
    rw [if_pos h1] at hG
    subst hG
    refine RWP.of tabOk orders ?_
    repeat' ((conv => whnf); (first
    | (with_reducible first | refine Spl.yes ?_ | refine Spl.no ?_ | refine Spl.dec (fun h => ?_) (fun h => ?_) | refine Spl.eq (fun h => ?_) (fun h => ?_) | refine Spl.ne (fun h => ?_) (fun h => ?_) | refine Spl.seq (fun h => ?_) (fun h => ?_) | refine Spl.not ?_ | refine Spl.any (fun h => ?_) (fun h => ?_))
    | refine And.intro (Nat.le_of_ble_eq_true rfl) ?_
    | ((with_reducible apply And.intro); first | omega | rfl | (dsimp only; omega))))
    all_goals (conv => whnf)
    rfl
  have h7 : ¬ f.kind = 7 := by assumption
  rw [if_neg h7] at hG
  refine RWP.seqx tabOk orders ?_
  conv => whnf
  refine RWP.cond ?_
  conv => whnf
  (with_reducible first | refine Spl.yes ?_ | refine Spl.no ?_ | refine Spl.dec (fun h => ?_) (fun h => ?_) | refine Spl.eq (fun h => ?_) (fun h => ?_) | refine Spl.ne (fun h => ?_) (fun h => ?_) | refine Spl.seq (fun h => ?_) (fun h => ?_) | refine Spl.not ?_ | refine Spl.any (fun h => ?_) (fun h => ?_))
  · have h1 : f.kind = 11 := by assumption
    rw [if_pos h1] at hG
    subst hG
    refine RWP.of tabOk orders ?_
    repeat' ((conv => whnf); (first
    | (with_reducible first | refine Spl.yes ?_ | refine Spl.no ?_ | refine Spl.dec (fun h => ?_) (fun h => ?_) | refine Spl.eq (fun h => ?_) (fun h => ?_) | refine Spl.ne (fun h => ?_) (fun h => ?_) | refine Spl.seq (fun h => ?_) (fun h => ?_) | refine Spl.not ?_ | refine Spl.any (fun h => ?_) (fun h => ?_))
    | (refine VCalls.mono (turn_c _ _ _) ?_; rintro _ rfl)
    | refine And.intro (Nat.le_of_ble_eq_true rfl) ?_
    | ((with_reducible apply And.intro); first | omega | rfl | (dsimp only; omega))))
    all_goals (conv => whnf)
    rfl
  have h11 : ¬ f.kind = 11 := by assumption
  rw [if_neg h11] at hG
  refine RWP.seqx tabOk orders ?_
  conv => whnf
  refine RWP.cond ?_
  conv => whnf
  (with_reducible first | refine Spl.yes ?_ | refine Spl.no ?_ | refine Spl.dec (fun h => ?_) (fun h => ?_) | refine Spl.eq (fun h => ?_) (fun h => ?_) | refine Spl.ne (fun h => ?_) (fun h => ?_) | refine Spl.seq (fun h => ?_) (fun h => ?_) | refine Spl.not ?_ | refine Spl.any (fun h => ?_) (fun h => ?_))
  · have h1 : f.kind = 12 := by assumption
    rw [if_pos h1] at hG
    refine RWP.seqx tabOk orders ?_
    conv => whnf
    refine RWP.seq ?_
    refine RWP.seqx tabOk orders ?_
    conv => whnf
    refine RWP.block ?_
    refine RWP.loop (fun k st => ∃ (j : Int) (v : Bool), st = (⟨227, [(2, .pv (iv (rowR ⟨utf, most⟩ (ks.take j.toNat) g).2)), (3, .ptr 3 0), (4, .ptr 4 0), (6, .ptr 6 0), (14, .own 160), (15, .pv (iv j))], [(3, (110, [.pv (bv utf), .pv (iv most)])), (4, (27, nfe f ks)), (6, (27, nzero))], [(160, ⟨12, 27, v, rowsN ((rowR ⟨utf, most⟩ (ks.take j.toNat) g).1.flatMap listN)⟩)], []⟩ : St) ∧ 0 ≤ j ∧ j ≤ ks.length ∧ k = (ks.length - j).toNat)
      ⟨_, _, Wk.trans (Wk.ownNil (t := 14) (k := 160) (sz := 12) (e := 27) rfl) (Wk.narrow _ [2, 3, 4, 6, 14, 15] [3, 4, 6] [160]), 0, true, Eq.trans rfl (congrArg (fun (X : List Node × Int) => (⟨227, [(2, .pv (iv X.2)), (3, .ptr 3 0), (4, .ptr 4 0), (6, .ptr 6 0), (14, .own 160), (15, .pv (iv 0))], [(3, (110, [.pv (bv utf), .pv (iv most)])), (4, (27, nfe f ks)), (6, (27, nzero))], [(160, ⟨12, 27, true, rowsN (X.1.flatMap listN)⟩)], []⟩ : St)) (rowR_nil ⟨utf, most⟩ g).symm), by omega, by omega, rfl⟩ ?_
    rintro k st ⟨j, v, rfl, hj0, hj1, hk⟩
    refine RWP.seqx tabOk orders ?_
    repeat' ((conv => whnf); (first
    | (with_reducible first | refine Spl.yes ?_ | refine Spl.no ?_ | refine Spl.dec (fun h => ?_) (fun h => ?_) | refine Spl.eq (fun h => ?_) (fun h => ?_) | refine Spl.ne (fun h => ?_) (fun h => ?_) | refine Spl.seq (fun h => ?_) (fun h => ?_) | refine Spl.not ?_ | refine Spl.any (fun h => ?_) (fun h => ?_))
    | ((with_reducible apply And.intro); first | omega | rfl | (dsimp only; omega))))
    all_goals (conv => whnf)
    rotate_left
    · have e : j = ks.length := by omega
      subst e
      have hq2 := hq h1 g
      rw [Int.toNat_natCast, List.take_length]
      generalize rowR ⟨utf, most⟩ ks g = r at *
      obtain ⟨o, h⟩ := r
      simp only at hG hq2
      have hsq := seqN_c (o.flatMap listN) (by omega)
      obtain ⟨f5, k5, h5⟩ := (seqN (o.flatMap listN)).ex
      rw [h5] at hsq hG
      refine RWP.of tabOk orders ?_
      repeat' ((conv => whnf); (first
    | (with_reducible first | refine Spl.yes ?_ | refine Spl.no ?_ | refine Spl.dec (fun h => ?_) (fun h => ?_) | refine Spl.eq (fun h => ?_) (fun h => ?_) | refine Spl.ne (fun h => ?_) (fun h => ?_) | refine Spl.seq (fun h => ?_) (fun h => ?_) | refine Spl.not ?_ | refine Spl.any (fun h => ?_) (fun h => ?_))
    | (refine VCalls.mono (hsq) ?_; rintro _ rfl)
    | refine And.intro (Nat.le_of_ble_eq_true rfl) ?_
    | ((with_reducible apply And.intro); first | omega | rfl | (dsimp only; omega))))
      all_goals (conv => whnf)
      all_goals (subst hG; rfl)
    have hsn := rowR_snoc ⟨utf, most⟩ (rdn ks j) (ks.take j.toNat) g
    rw [← take_stepN hj0 (by omega)] at hsn
    have hc := ih (rdn ks j) (by unfold rdn; rw [List.getD_eq_getElem?_getD, List.getElem?_eq_getElem (show j.toNat < ks.length by omega)]; exact List.getElem_mem _) (rowR ⟨utf, most⟩ (ks.take j.toNat) g).2
    have hle := rowR_take_le ⟨utf, most⟩ ks (j + 1).toNat g
    have hq2 := hq h1 g
    rw [hsn] at hle
    simp only [List.flatMap_append, List.flatMap_cons, List.flatMap_nil, List.append_nil, List.length_append] at hle
    generalize rowR ⟨utf, most⟩ (ks.take j.toNat) g = r at *
    obtain ⟨o, h⟩ := r
    unfold Ty2 at hc
    simp only at hsn hc hle
    generalize nodeR ⟨utf, most⟩ (rdn ks j) h = r2 at *
    obtain ⟨⟨f2, k2⟩, g2⟩ := r2
    have hli := listN_c (.mk f2 k2)
    obtain ⟨f3, k3, h3⟩ := (rdn ks j).ex
    rw [h3] at hc
    simp only at hsn hc hle
    have hr1 := rowsN_len (o.flatMap listN)
    have hr2 := rowsN_len (listN (.mk f2 k2))
    refine RWP.of tabOk orders ?_
    repeat' ((conv => whnf); (first
    | (with_reducible first | refine Spl.yes ?_ | refine Spl.no ?_ | refine Spl.dec (fun h => ?_) (fun h => ?_) | refine Spl.eq (fun h => ?_) (fun h => ?_) | refine Spl.ne (fun h => ?_) (fun h => ?_) | refine Spl.seq (fun h => ?_) (fun h => ?_) | refine Spl.not ?_ | refine Spl.any (fun h => ?_) (fun h => ?_))
    | (rw [rowsN_get (by omega)])
    | (rw [h3])
    | (refine VCalls.mono (hc) ?_; rintro _ rfl)
    | (refine VCalls.mono (hli) ?_; rintro _ rfl)
    | refine drawn_plan (.one 0 (.one 1 (.one 2 (.one 3 (.one 4 (.one 5 (.one 6 (.two 7 (.ofList [8, 9, 10, 11, 12, 13]) 11 (.ofList [7, 8, 9, 10, 12, 13]))))))))) (by decide +kernel) ?_
    | refine Fork.mk ?_ ?_
    | refine And.intro (Nat.le_of_ble_eq_true rfl) ?_
    | refine And.intro (by show ((rowsN (o.flatMap listN)).length + (rowsN (listN (Node.mk f2 k2))).length) * 136 ≤ 140737488355328; omega) ?_
    | ((with_reducible apply And.intro); first | omega | rfl | (dsimp only; omega))))
    all_goals (conv => whnf)
    all_goals exact ⟨(ks.length - (j + 1)).toNat, _, by omega, Wk.narrow _ [2, 3, 4, 6, 14, 15] [3, 4, 6] [160], j + 1, v, Eq.trans rfl (congrArg (fun (X : List (List SV) × Int) => (⟨227, [(2, .pv (iv X.2)), (3, .ptr 3 0), (4, .ptr 4 0), (6, .ptr 6 0), (14, .own 160), (15, .pv (iv (j + 1)))], [(3, (110, [.pv (bv utf), .pv (iv most)])), (4, (27, nfe f ks)), (6, (27, nzero))], [(160, ⟨12, 27, v, X.1⟩)], []⟩ : St)) (show (rowsN (o.flatMap listN) ++ rowsN (listN (Node.mk f2 k2)), g2) = (rowsN ((rowR ⟨utf, most⟩ (ks.take (j + 1).toNat) g).1.flatMap listN), (rowR ⟨utf, most⟩ (ks.take (j + 1).toNat) g).2) by rw [hsn, rowsN_app, List.flatMap_append]; simp)), by omega, by omega, rfl⟩
  have h12 : ¬ f.kind = 12 := by assumption
  rw [if_neg h12] at hG
  refine RWP.seqx tabOk orders ?_
  conv => whnf
  refine RWP.cond ?_
  conv => whnf
  (with_reducible first | refine Spl.yes ?_ | refine Spl.no ?_ | refine Spl.dec (fun h => ?_) (fun h => ?_) | refine Spl.eq (fun h => ?_) (fun h => ?_) | refine Spl.ne (fun h => ?_) (fun h => ?_) | refine Spl.seq (fun h => ?_) (fun h => ?_) | refine Spl.not ?_ | refine Spl.any (fun h => ?_) (fun h => ?_))
  · have h1 : f.kind = 13 := by assumption
    rw [if_pos h1] at hG
    subst hG
    have hrow := hrow g
    generalize rowR ⟨utf, most⟩ ks g = r at *
    obtain ⟨o, h⟩ := r
    simp only at hrow
    refine RWP.of tabOk orders ?_
    repeat' ((conv => whnf); (first
    | (with_reducible first | refine Spl.yes ?_ | refine Spl.no ?_ | refine Spl.dec (fun h => ?_) (fun h => ?_) | refine Spl.eq (fun h => ?_) (fun h => ?_) | refine Spl.ne (fun h => ?_) (fun h => ?_) | refine Spl.seq (fun h => ?_) (fun h => ?_) | refine Spl.not ?_ | refine Spl.any (fun h => ?_) (fun h => ?_))
    | (refine VCalls.mono (hrow) ?_; rintro _ rfl)
    | refine And.intro (Nat.le_of_ble_eq_true rfl) ?_
    | ((with_reducible apply And.intro); first | omega | rfl | (dsimp only; omega))))
    all_goals (conv => whnf)
    rfl
  have h13 : ¬ f.kind = 13 := by assumption
  rw [if_neg h13] at hG
  refine RWP.seqx tabOk orders ?_
  conv => whnf
  refine RWP.cond ?_
  conv => whnf
  (with_reducible first | refine Spl.yes ?_ | refine Spl.no ?_ | refine Spl.dec (fun h => ?_) (fun h => ?_) | refine Spl.eq (fun h => ?_) (fun h => ?_) | refine Spl.ne (fun h => ?_) (fun h => ?_) | refine Spl.seq (fun h => ?_) (fun h => ?_) | refine Spl.not ?_ | refine Spl.any (fun h => ?_) (fun h => ?_))
  · have h1 : f.kind = 15 := by assumption
    rw [if_pos h1] at hG
    have hne := h15 h1
    have hlen : 0 < ks.length := List.length_pos_iff.2 hne
    have hkid := ih (rdn ks 0) (by unfold rdn; rw [List.getD_eq_getElem?_getD, List.getElem?_eq_getElem (show (0 : Int).toNat < ks.length by simpa using hlen)]; exact List.getElem_mem _) (turnP g f.on f.off)
    have hfst : rdn (rowR ⟨utf, most⟩ ks (turnP g f.on f.off)).1 0 = (nodeR ⟨utf, most⟩ (rdn ks 0) (turnP g f.on f.off)).1 := by
      cases ks with
      | nil => exact absurd rfl hne
      | cons k l => rw [rowR]; rfl
    simp only [hfst] at hG
    unfold Ty2 turnP at hkid
    unfold turnP at hG
    generalize nodeR ⟨utf, most⟩ (rdn ks 0) (bAndNot (bOr g f.on) f.off) = r2 at *
    obtain ⟨⟨f2, k2⟩, g2⟩ := r2
    obtain ⟨f3, k3, h3⟩ := (rdn ks 0).ex
    rw [h3] at hkid
    simp only at hG hkid
    refine RWP.of tabOk orders ?_
    repeat' ((conv => whnf); (first
    | (with_reducible first | refine Spl.yes ?_ | refine Spl.no ?_ | refine Spl.dec (fun h => ?_) (fun h => ?_) | refine Spl.eq (fun h => ?_) (fun h => ?_) | refine Spl.ne (fun h => ?_) (fun h => ?_) | refine Spl.seq (fun h => ?_) (fun h => ?_) | refine Spl.not ?_ | refine Spl.any (fun h => ?_) (fun h => ?_))
    | (refine VCalls.mono (turn_c _ _ _) ?_; rintro _ rfl)
    | (refine VCalls.mono (hkid) ?_; rintro _ rfl)
    | refine drawn_plan (.one 0 (.one 1 (.one 2 (.one 3 (.one 4 (.one 5 (.one 6 (.one 7 (.one 8 (.one 9 (.two 10 (.two 11 (.ofList [12, 13, 14, 15, 16, 17]) 15 (.ofList [11, 12, 13, 14, 16, 17])) 15 (.ofList [10, 11, 12, 13, 14, 16, 17])))))))))))) (by decide +kernel) ?_
    | refine Fork.mk ?_ ?_
    | (rw [rowsN_get (by simpa using hlen)])
    | (rw [h3])
    | refine And.intro (Nat.le_of_ble_eq_true rfl) ?_
    | ((with_reducible apply And.intro); first | omega | rfl | (dsimp only; omega))))
    all_goals (conv => whnf)
    all_goals (subst hG; rfl)
  have h15 : ¬ f.kind = 15 := by assumption
  rw [if_neg h15] at hG
  refine RWP.seqx tabOk orders ?_
  conv => whnf
  refine RWP.cond ?_
  conv => whnf
  (with_reducible first | refine Spl.yes ?_ | refine Spl.no ?_ | refine Spl.dec (fun h => ?_) (fun h => ?_) | refine Spl.eq (fun h => ?_) (fun h => ?_) | refine Spl.ne (fun h => ?_) (fun h => ?_) | refine Spl.seq (fun h => ?_) (fun h => ?_) | refine Spl.not ?_ | refine Spl.any (fun h => ?_) (fun h => ?_))
  · have h1 : f.kind = 20 := by assumption
    unfold greedN
    rw [if_pos h1]
    unfold greedN at hG
    rw [if_pos h1] at hG
    refine RWP.of tabOk orders ?_
    repeat' ((conv => whnf); (first
    | (with_reducible first | refine Spl.yes ?_ | refine Spl.no ?_ | refine Spl.dec (fun h => ?_) (fun h => ?_) | refine Spl.eq (fun h => ?_) (fun h => ?_) | refine Spl.ne (fun h => ?_) (fun h => ?_) | refine Spl.seq (fun h => ?_) (fun h => ?_) | refine Spl.not ?_ | refine Spl.any (fun h => ?_) (fun h => ?_))
    | refine And.intro (Nat.le_of_ble_eq_true rfl) ?_
    | ((with_reducible apply And.intro); first | omega | rfl | (dsimp only; omega))))
    all_goals (conv => whnf)
    all_goals first
      | (exfalso; omega)
      | (rw [if_pos (show bAnd g 16 ≠ 0 ∧ f.mode = 0 from ⟨by assumption, by assumption⟩)] at hG ⊢; exact ⟨_, Wk.narrow _ [2, 3, 4, 6] [3, 4, 6] [], hG, rfl⟩)
      | (rw [if_neg (show ¬ (bAnd g 16 ≠ 0 ∧ f.mode = 0) by omega), if_pos (show bAnd g 16 ≠ 0 ∧ f.mode = 1 from ⟨by assumption, by assumption⟩)] at hG ⊢; exact ⟨_, Wk.narrow _ [2, 3, 4, 6] [3, 4, 6] [], hG, rfl⟩)
      | (rw [if_neg (show ¬ (bAnd g 16 ≠ 0 ∧ f.mode = 0) by omega), if_neg (show ¬ (bAnd g 16 ≠ 0 ∧ f.mode = 1) by omega)] at hG ⊢; exact ⟨_, Wk.narrow _ [2, 3, 4, 6] [3, 4, 6] [], hG, rfl⟩)
  have h20 : ¬ f.kind = 20 := by assumption
  unfold greedN
  rw [if_neg h20]
  unfold greedN at hG
  rw [if_neg h20] at hG
  refine RWP.of tabOk orders ?_
  conv => whnf
  exact ⟨_, Wk.narrow _ [2, 3, 4, 6] [3, 4, 6] [], hG, rfl⟩
end Go.Proofs.Ytnoohgiecnmajaa.VC

/- The parser's tree: its size, and what is told of each of its nodes. -/
namespace Go.Proofs.Ytnoohgiecnmajaa.VC
open Go Go.RowKit
set_option linter.unusedVariables false
set_option linter.unusedSimpArgs false
set_option maxHeartbeats 4000000

mutual
def Node.w : Node → Nat
  | .mk _ ks => 1 + wN ks
def wN : List Node → Nat
  | [] => 0
  | k :: l => k.w + wN l
end
mutual
def Node.all (P : Node → Prop) : Node → Prop
  | .mk f ks => P (.mk f ks) ∧ allN P ks
def allN (P : Node → Prop) : List Node → Prop
  | [] => True
  | k :: l => k.all P ∧ allN P l
end
theorem wN_app : ∀ (l m : List Node), wN (l ++ m) = wN l + wN m
  | [], m => by simp [wN]
  | k :: l, m => by simp [wN, wN_app l m]; omega
theorem allN_app {P : Node → Prop} : ∀ {l m : List Node}, allN P l → allN P m → allN P (l ++ m)
  | [], m, h1, h2 => h2
  | k :: l, m, h1, h2 => by rw [allN] at h1; rw [List.cons_append, allN]; exact ⟨h1.1, allN_app h1.2 h2⟩
theorem allN_mem {P : Node → Prop} : ∀ {l : List Node}, allN P l → ∀ {n}, n ∈ l → n.all P
  | [], h, n, hn => by simp at hn
  | k :: l, h, n, hn => by
    rw [allN] at h
    rcases List.mem_cons.1 hn with rfl | hn
    · exact h.1
    · exact allN_mem h.2 hn
theorem Node.all_top {P : Node → Prop} {n : Node} (h : n.all P) : P n := by cases n; rw [Node.all] at h; exact h.1
theorem Node.all_kids {P : Node → Prop} {n : Node} (h : n.all P) : allN P n.kids := by cases n; rw [Node.all] at h; exact h.2
theorem w_pos (n : Node) : 1 ≤ n.w := by cases n; rw [Node.w]; omega
theorem wN_len : ∀ l : List Node, l.length ≤ wN l
  | [] => by simp
  | k :: l => by have := w_pos k; have := wN_len l; simp [wN]; omega
theorem wN_mem : ∀ {l : List Node} {n : Node}, n ∈ l → n.w ≤ wN l
  | [], n, h => by simp at h
  | k :: l, n, h => by
    rw [wN]
    rcases List.mem_cons.1 h with rfl | h
    · omega
    · have := wN_mem h; omega
theorem rdn_mem {l : List Node} {j : Int} (h : j.toNat < l.length) : rdn l j ∈ l := by
  unfold rdn; rw [List.getD_eq_getElem?_getD, List.getElem?_eq_getElem h]; exact List.getElem_mem _
theorem rdt_mem {L : List Tok} {j : Int} (h : j.toNat < L.length) : rdt L j ∈ L := by
  unfold rdt; rw [List.getD_eq_getElem?_getD, List.getElem?_eq_getElem h]; exact List.getElem_mem _
/-- What is told of a node holds of those that a parser makes. -/
structure PH (L : List Tok) (P : Node → Prop) : Prop where
  leaf : ∀ t ∈ L, t.kind ≠ 10 → P (leafN t)
  grp : ∀ t ∈ L, t.kind = 10 → ∀ look l, look.length ≤ 1 → l ≠ [] → allN P look → allN P l → (¬ (1 ≤ t.n ∧ t.n ≤ 8) → condBad t l = false) → P (groupN t look l)
  rep : ∀ t ∈ L, t.kind = 9 → ∀ n, n.all P → repeatableP n.f = true → P (repN t n)
  seq : ∀ l, l.length ≠ 1 → allN P l → P (.mk { fZ with kind := 12 } l)
  alt : ∀ l, l.length ≠ 1 → l ≠ [] → allN P l → P (.mk { fZ with kind := 13 } l)
theorem one_all {P : Node → Prop} {k : Int} {l : List Node} (h : l.length ≠ 1 → P (.mk { fZ with kind := k } l)) (ha : allN P l) : (oneN k l).all P ∧ (oneN k l).w ≤ 1 + wN l := by
  unfold oneN
  split
  · rename_i h1
    have hm : rdn l 0 ∈ l := rdn_mem (by simp [h1])
    exact ⟨allN_mem ha hm, by have := wN_mem hm; omega⟩
  · rename_i h1
    rw [Node.all, Node.w]
    exact ⟨⟨h h1, ha⟩, by omega⟩
theorem failP_e {p : Par} {e a : Int} (he : e ≠ 0) : (failP p e a).e ≠ 0 := by
  unfold failP
  split
  · exact he
  · assumption
theorem grp_all {P : Node → Prop} {t : Tok} {look l : List Node} (h1 : allN P look) (h2 : allN P l) (h3 : P (groupN t look l)) (h4 : l.length ≠ 1 → P (.mk { fZ with kind := 13 } l)) :
    (groupN t look l).all P ∧ (groupN t look l).w ≤ 2 + wN look + wN l := by
  have ho := one_all h4 h2
  have key : ∀ f ks, (groupN t look l) = .mk f ks → allN P ks → wN ks ≤ 1 + wN look + wN l → (groupN t look l).all P ∧ (groupN t look l).w ≤ 2 + wN look + wN l := by
    intro f ks e ha hw
    rw [e] at h3 ⊢
    rw [Node.all, Node.w]
    exact ⟨⟨h3, ha⟩, by omega⟩
  have k1 : allN P [oneN 13 l] := by rw [allN, allN]; exact ⟨ho.1, trivial⟩
  have k2 : wN [oneN 13 l] ≤ 1 + wN look + wN l := by rw [wN, wN]; omega
  by_cases q1 : t.n = 1
  · exact key _ _ (by rw [groupN, if_pos q1]) k1 k2
  by_cases q2 : t.n = 2
  · exact key _ _ (by rw [groupN, if_neg q1, if_pos q2]) k1 k2
  by_cases q3 : t.n = 4
  · exact key _ _ (by rw [groupN, if_neg q1, if_neg q2, if_pos q3]) k1 k2
  by_cases q4 : t.n = 5 ∨ t.n = 6 ∨ t.n = 7 ∨ t.n = 8
  · exact key _ _ (by rw [groupN, if_neg q1, if_neg q2, if_neg q3, if_pos q4]) k1 k2
  by_cases q5 : t.n = 3
  · exact key _ _ (by rw [groupN, if_neg q1, if_neg q2, if_neg q3, if_neg q4, if_pos q5]) h2 (by omega)
  · exact key _ _ (by rw [groupN, if_neg q1, if_neg q2, if_neg q3, if_neg q4, if_neg q5]) (allN_app h1 h2) (by rw [wN_app]; omega)
theorem quant_all {L : List Tok} {P : Node → Prop} (H : PH L P) {r : Node × Par} (ha : r.1.all P) (h0 : 0 ≤ r.2.i) : (quantN L r).1.all P ∧ ((quantN L r).1.w : Int) ≤ r.1.w + ((quantN L r).2.i - r.2.i) := by
  unfold quantN
  split
  · rename_i hk
    have hp := kindP_pos (L := L) (p := r.2) (by omega)
    split
    · rename_i hr
      have h3 := H.rep _ (rdt_mem (L := L) (j := r.2.i) (by omega)) (by omega) r.1 ha hr
      unfold repN at h3 ⊢
      simp only [Node.all, Node.w, allN, wN]
      exact ⟨⟨h3, ha, trivial⟩, by omega⟩
    · exact ⟨ha, by omega⟩
  · exact ⟨ha, by omega⟩
theorem par_all {L : List Tok} {P : Node → Prop} (H : PH L P) : ∀ k : Nat,
    (∀ p, ParOk L p → p.i < L.length → p.e = 0 → (thingF L k p).2.e = 0 → (thingF L k p).1.all P ∧ ((thingF L k p).1.w : Int) ≤ 3 * ((thingF L k p).2.i - p.i)) ∧
    (∀ t look p, t ∈ L → t.kind = 10 → look.length ≤ 1 → allN P look → ParOk L p → 1 ≤ p.op → (groupF L k t look p).2.e = 0 → (groupF L k t look p).1.all P ∧ ((groupF L k t look p).1.w : Int) ≤ wN look + 3 * ((groupF L k t look p).2.i - p.i)) ∧
    (∀ p, ParOk L p → (altF L k p).2.e = 0 → (altF L k p).1 ≠ [] ∧ allN P (altF L k p).1 ∧ (wN (altF L k p).1 : Int) ≤ 1 + 3 * ((altF L k p).2.i - p.i)) ∧
    (∀ p out, ParOk L p → allN P out → out ≠ [] → (altGo L k p out).2.e = 0 → (altGo L k p out).1 ≠ [] ∧ allN P (altGo L k p out).1 ∧ (wN (altGo L k p out).1 : Int) ≤ wN out + 3 * ((altGo L k p out).2.i - p.i)) ∧
    (∀ p l, ParOk L p → allN P l → (seqGo L k p l).2.e = 0 → (seqGo L k p l).1.all P ∧ ((seqGo L k p l).1.w : Int) ≤ 1 + wN l + 3 * ((seqGo L k p l).2.i - p.i)) := by
  intro k
  induction k with
  | zero =>
    refine ⟨fun p _ _ _ h => ?_, fun t look p _ _ _ _ _ _ h => ?_, fun p _ h => ?_, fun p out _ _ _ h => ?_, fun p l _ _ h => ?_⟩
    · rw [thingF] at h; simp at h
    · rw [groupF] at h; simp at h
    · rw [altF] at h; simp at h
    · rw [altGo] at h; simp at h
    · rw [seqGo] at h; simp at h
  | succ k ih =>
    obtain ⟨iT, iG, iA, iAG, iS⟩ := ih
    obtain ⟨oT, oG, oA, oAG, oS⟩ := par_ok L k
    refine ⟨?_, ?_, ?_, ?_, ?_⟩
    · intro p h hi he
      have hi0 := h.i0
      have hm := rdt_mem (L := L) (j := p.i) (by omega)
      rw [thingF]
      split
      · rename_i hk
        intro _
        refine ⟨?_, ?_⟩
        · have h1 := H.leaf _ hm hk
          unfold leafN at h1 ⊢
          rw [Node.all]
          exact ⟨h1, by rw [allN]; trivial⟩
        · unfold leafN
          rw [Node.w, wN]
          simp only
          omega
      split
      · intro e; exact absurd e (failP_e (by decide))
      rename_i hk hop
      have hk : (rdt L p.i).kind = 10 := by omega
      have hp1 : ParOk L { p with op := p.op + 1, i := p.i + 1 } := ⟨by have := h.i0; simp only; omega, by simp only; omega, by have := h.o0; simp only; omega, by have := h.o1; simp only; omega⟩
      split
      · rename_i hl
        have hk2 := kindP_pos (L := L) (p := { p with op := p.op + 1, i := p.i + 1 }) (by rw [hl.2]; decide)
        have h1 := oT _ hp1 hk2.1 hk2.2.1
        have h2 := iT _ hp1 hk2.1 hk2.2.1
        generalize thingF L k { p with op := p.op + 1, i := p.i + 1 } = r at h1 h2 ⊢
        obtain ⟨n, q⟩ := r
        have hg := h1.1.og
        have hle := h1.1.le
        have h0 := h.o0
        simp only at hg hle h1 h2 ⊢
        intro e
        have h3 := oG (rdt L p.i) [n] q h1.1.ok (by omega)
        have h4 := h2 (h3.2.2.2 e).2
        have h5 := iG (rdt L p.i) [n] q hm hk (by simp) (by rw [allN, allN]; exact ⟨h4.1, trivial⟩) h1.1.ok (by omega) e
        refine ⟨h5.1, ?_⟩
        have h6 := h5.2
        rw [wN, wN] at h6
        omega
      · intro e
        have h5 := iG (rdt L p.i) [] _ hm hk (by simp) (by rw [allN]; trivial) hp1 (by have := h.o0; simp only; omega) e
        refine ⟨h5.1, ?_⟩
        have h6 := h5.2
        rw [wN] at h6
        simp only at h6
        omega
    · intro t look p ht hk hlk hla h ho
      rw [groupF]
      have h1 := oA p h
      have h2 := iA p h
      generalize altF L k p = r at h1 h2 ⊢
      obtain ⟨l, q⟩ := r
      have hg := h1.og
      have hle := h1.le
      simp only at h2 hg hle ⊢
      split
      · intro e; exact absurd e (failP_e (by decide))
      · rename_i hk8
        have hk3 := kindP_pos (L := L) (p := q) (by omega)
        have h3 := h2 hk3.2.1
        simp only
        intro e
        have hcb : ¬ (1 ≤ t.n ∧ t.n ≤ 8) → condBad t l = false := by
          intro hn
          unfold groupP at e
          rw [if_neg hn] at e
          split at e
          · exact absurd e (failP_e (by decide))
          · rename_i hb
            simpa using hb
        have hgp := H.grp t ht hk look l hlk h3.1 hla h3.2.1 hcb
        have h4 := grp_all (look := look) hla h3.2.1 hgp (fun hl => H.alt l hl h3.1 h3.2.1)
        have hi : (groupP t l { q with i := q.i + 1, op := q.op - 1 }).i = q.i + 1 := by
          unfold groupP failP
          repeat' split
          all_goals rfl
        rw [hi]
        exact ⟨h4.1, by have := h4.2; have := h3.2.2; omega⟩
    · intro p h
      rw [altF]
      have h1 := oS p [] h
      have h2 := iS p [] h (by rw [allN]; trivial)
      generalize seqGo L k p [] = r at h1 h2 ⊢
      obtain ⟨n, q⟩ := r
      simp only at h1 h2 ⊢
      intro e
      have h3 := oAG q [n] h1.ok
      have h4 := h2 (h3.same e).2
      rw [wN] at h4
      have h5 := iAG q [n] h1.ok (by rw [allN, allN]; exact ⟨h4.1, trivial⟩) (by simp) e
      rw [wN, wN] at h5
      exact ⟨h5.1, h5.2.1, by have := h5.2.2; have := h4.2; omega⟩
    · intro p out h ha hne
      rw [altGo]
      split
      · rename_i hk
        have hk := kindP_pos (L := L) (p := p) (by omega)
        have hp1 : ParTo L p { p with i := p.i + 1 } := ⟨⟨by have := h.i0; simp only; omega, by simp only; omega, h.o0, h.o1⟩, by simp only; omega, by simp, fun e => ⟨rfl, e⟩⟩
        have h1 := oS _ [] hp1.ok
        have h2 := iS _ [] hp1.ok (by rw [allN]; trivial)
        generalize seqGo L k { p with i := p.i + 1 } [] = r at h1 h2 ⊢
        obtain ⟨n, q⟩ := r
        simp only at h1 h2 ⊢
        intro e
        have h3 := oAG q (out ++ [n]) h1.ok
        have h4 := h2 (h3.same e).2
        rw [wN] at h4
        have h5 := iAG q (out ++ [n]) h1.ok (allN_app ha (by rw [allN, allN]; exact ⟨h4.1, trivial⟩)) (by simp) e
        rw [wN_app, wN, wN] at h5
        exact ⟨h5.1, h5.2.1, by have := h5.2.2; have := h4.2; omega⟩
      · intro e
        exact ⟨hne, ha, by simp only; omega⟩
    · intro p l h ha
      rw [seqGo]
      split
      · intro e
        have h1 := one_all (k := 12) (fun hl => H.seq l hl ha) ha
        exact ⟨h1.1, by have := h1.2; simp only; omega⟩
      split
      · intro e; exact absurd e (failP_e (by decide))
      · rename_i hk _
        have hk := kindP_pos (L := L) (p := p) (fun e => hk (.inl e))
        have h1 := oT p h hk.1 hk.2.1
        have h2 := iT p h hk.1 hk.2.1
        have hqi := quant_i (L := L) (r := thingF L k p)
        have hqt := quant_to (p := p) (r := thingF L k p) h1.1
        generalize thingF L k p = r at h1 h2 hqi hqt ⊢
        intro e
        have h3 := oS _ (l ++ [(quantN L r).1]) hqt.ok
        have h4 := (h3.same e).2
        rw [hqi.2] at h4
        have h5 := h2 h4
        have h6 := quant_all H h5.1 h1.1.ok.i0
        have h7 := iS _ (l ++ [(quantN L r).1]) hqt.ok (allN_app ha (by rw [allN, allN]; exact ⟨h6.1, trivial⟩)) e
        rw [wN_app, wN, wN] at h7
        refine ⟨h7.1, ?_⟩
        have h8 := h7.2
        have h9 := h6.2
        have h10 := h5.2
        have h11 := hqi.1
        omega
end Go.Proofs.Ytnoohgiecnmajaa.VC

/- Flags by definition: sizes; the whole; the tree of a pattern without flags. -/
namespace Go.Proofs.Ytnoohgiecnmajaa.VC
open Go Go.RowKit
set_option linter.unusedVariables false
set_option linter.unusedSimpArgs false
set_option maxHeartbeats 4000000

theorem seqN_w (l : List Node) : (seqN l).w ≤ 1 + wN l := by
  unfold seqN
  split
  · rename_i h
    have := wN_mem (rdn_mem (l := l) (j := 0) (by simp [h]))
    omega
  · rw [Node.w]; omega
theorem listN_w (n : Node) : wN (listN n) ≤ n.w := by
  cases n with
  | mk f ks =>
    unfold listN
    split
    · rw [Node.w]; simp only [Node.kids]; omega
    · rw [wN, wN]; omega
theorem flat_wN : ∀ l : List Node, wN (l.flatMap listN) ≤ wN l
  | [] => by simp [wN]
  | k :: l => by have := listN_w k; have := flat_wN l; rw [List.flatMap_cons, wN_app, wN]; omega
theorem lineN_w (c : Ctx) (a : Int) : (lineN c a).w = 6 := by
  unfold lineN seqN setN
  simp [Node.w, wN]
mutual
theorem nodeR_w (c : Ctx) : ∀ (n : Node) (g : Int), (nodeR c n g).1.w ≤ 6 * n.w
  | .mk f ks, g => by
    have h := rowR_w c ks
    rw [nodeR, Node.w]
    unfold nodeS
    have hk : wN ks ≤ 6 * wN ks := by omega
    by_cases q : f.kind = 1
    · rw [if_pos q]; unfold setN; simp only [Node.w, wN]; omega
    rw [if_neg q]; clear q
    by_cases q : f.kind = 2
    · rw [if_pos q]; unfold setN; simp only [Node.w, wN]; omega
    rw [if_neg q]; clear q
    by_cases q : f.kind = 3
    · rw [if_pos q]; unfold setN; split <;> simp only [Node.w, wN] <;> omega
    rw [if_neg q]; clear q
    by_cases q : f.kind = 4
    · rw [if_pos q]; simp only [Node.w]; omega
    rw [if_neg q]; clear q
    by_cases q : f.kind = 6
    · rw [if_pos q]; simp only [lineN_w]; omega
    rw [if_neg q]; clear q
    by_cases q : f.kind = 7
    · rw [if_pos q]; simp only [Node.w]; omega
    rw [if_neg q]; clear q
    by_cases q : f.kind = 11
    · rw [if_pos q]; simp only [Node.w, wN]; omega
    rw [if_neg q]; clear q
    by_cases q : f.kind = 12
    · rw [if_pos q]
      have h1 := seqN_w ((rowR c ks g).1.flatMap listN)
      have h2 := flat_wN (rowR c ks g).1
      have h3 := h g
      simp only
      omega
    rw [if_neg q]; clear q
    by_cases q : f.kind = 13
    · rw [if_pos q]; have h3 := h g; simp only [Node.w]; omega
    rw [if_neg q]; clear q
    by_cases q : f.kind = 15
    · rw [if_pos q]
      have h3 := h (turnP g f.on f.off)
      simp only
      by_cases q : (0 : Int).toNat < (rowR c ks (turnP g f.on f.off)).1.length
      · have := wN_mem (rdn_mem q); omega
      · have : rdn (rowR c ks (turnP g f.on f.off)).1 0 = nodeZ := by
          unfold rdn; rw [List.getD_eq_getElem?_getD, List.getElem?_eq_none (by omega)]; rfl
        rw [this]; unfold nodeZ; simp only [Node.w, wN]; omega
    rw [if_neg q]; clear q
    have h3 := h g
    simp only [Node.w]; omega
theorem rowR_w (c : Ctx) : ∀ (l : List Node) (g : Int), wN (rowR c l g).1 ≤ 6 * wN l
  | [], g => by rw [rowR]; simp [wN]
  | k :: l, g => by
    have h1 := nodeR_w c k g
    have h2 := rowR_w c l (nodeR c k g).2
    rw [rowR]
    simp only [wN]
    omega
end
/-- What resolving asks of a node. -/
def Fit (n : Node) : Prop := n.f.set.length ≤ 100000000 ∧ (n.f.kind = 15 → n.kids ≠ [])
theorem nodeR_c (c : Ctx) : ∀ (k : Nat) (n : Node), n.w ≤ k → n.w ≤ 1000000 → n.all Fit → NodeC c n := by
  intro k
  induction k with
  | zero => intro n h; have := w_pos n; omega
  | succ k ih =>
    intro n hk hw ha
    cases n with
    | mk f ks =>
      rw [Node.all] at ha
      rw [Node.w] at hk hw
      intro g
      have hl := wN_len ks
      rw [nodeR]
      refine nodeS_c c f ks ha.1.1 (by omega) ha.1.2 (fun n hn => ih n (by have := wN_mem hn; omega) (by have := wN_mem hn; omega) (allN_mem ha.2 hn)) (fun _ g => ?_) g
      have h1 := wN_len ((rowR c ks g).1.flatMap listN)
      have h2 := flat_wN (rowR c ks g).1
      have h3 := rowR_w c ks g
      omega
def ctxOf (o : Int) : Ctx := ⟨bAnd o 32 != 0, if bAnd o 32 ≠ 0 then 1114111 else 255⟩
def resolveP (n : Node) (o : Int) : Node := (nodeR (ctxOf o) n (bAnd o 23)).1
attribute [local irreducible] nodeR rowR bAnd
theorem resolve_c (n : Node) (o : Int) (hw : n.w ≤ 1000000) (ha : n.all Fit) : VCalls Try.prog 44 [n.enc, iv o] (fun r => r = (resolveP n o).enc) := by
  have hc := nodeR_c (ctxOf o) n.w n (Nat.le_refl _) hw ha (bAnd o 23)
  unfold resolveP
  obtain ⟨f0, k0, h0⟩ := n.ex
  generalize hr : nodeR (ctxOf o) n (bAnd o 23) = r at *
  obtain ⟨⟨f2, k2⟩, g2⟩ := r
  unfold Ty2 ctxOf at hc
  rw [h0] at hc ⊢
  simp only at hc ⊢
  refine VCalls.ofr tabOk Try.func44 (by decide) rfl rfl ?_
  refine RWP.of tabOk orders ?_
  by_cases q : bAnd o 32 ≠ 0
  · rw [if_pos q] at hc
    repeat' ((conv => whnf); (first
    | (with_reducible first | refine Spl.yes ?_ | refine Spl.no ?_ | refine Spl.dec (fun h => ?_) (fun h => ?_) | refine Spl.eq (fun h => ?_) (fun h => ?_) | refine Spl.ne (fun h => ?_) (fun h => ?_) | refine Spl.seq (fun h => ?_) (fun h => ?_) | refine Spl.not ?_ | refine Spl.any (fun h => ?_) (fun h => ?_))
    | (refine VCalls.mono (hc) ?_; rintro _ rfl)
    | refine And.intro (Nat.le_of_ble_eq_true rfl) ?_
    | ((with_reducible apply And.intro); first | omega | rfl | (dsimp only; omega))))
    all_goals (conv => whnf)
    all_goals first | (exfalso; omega) | rfl
  · rw [if_neg q] at hc
    repeat' ((conv => whnf); (first
    | (with_reducible first | refine Spl.yes ?_ | refine Spl.no ?_ | refine Spl.dec (fun h => ?_) (fun h => ?_) | refine Spl.eq (fun h => ?_) (fun h => ?_) | refine Spl.ne (fun h => ?_) (fun h => ?_) | refine Spl.seq (fun h => ?_) (fun h => ?_) | refine Spl.not ?_ | refine Spl.any (fun h => ?_) (fun h => ?_))
    | (refine VCalls.mono (hc) ?_; rintro _ rfl)
    | refine And.intro (Nat.le_of_ble_eq_true rfl) ?_
    | ((with_reducible apply And.intro); first | omega | rfl | (dsimp only; omega))))
    all_goals (conv => whnf)
    all_goals first | (exfalso; omega) | rfl
theorem parse_all {L : List Tok} {P : Node → Prop} (H : PH L P) (end_ : Int) (h : (parseP L end_).e = 0) : (parseP L end_).n.all P ∧ (parseP L end_).n.w ≤ 2 + 3 * L.length := by
  have hok0 : ParOk L par0 := ⟨by decide, by show (0 : Int) ≤ _; omega, by decide, by decide⟩
  have h1 := alt_ok (parFuel L) hok0
  have h2 := (par_all H (parFuel L)).2.2.1 par0 hok0
  unfold parseP at h ⊢
  generalize altF L (parFuel L) par0 = r at h h1 h2 ⊢
  obtain ⟨l, q⟩ := r
  simp only at h h1 h2 ⊢
  by_cases e0 : (parDone L q).e = 0
  · rw [if_neg (by omega), if_neg (by simpa using e0)]
    have hq : q.e = 0 := by
      unfold parDone at e0
      split at e0
      · rename_i hc
        exact hc.1
      · exact e0
    have h3 := h2 hq
    have h4 := one_all (k := 13) (fun hl => H.alt l hl h3.1 h3.2.1) h3.2.1
    have h5 := h1.ok.i1
    refine ⟨h4.1, ?_⟩
    have h6 := h4.2
    have h7 := h3.2.2
    have : par0.i = 0 := rfl
    simp only
    omega
  · exfalso
    by_cases e1 : (parDone L q).e = 20
    · rw [if_pos e1] at h; exact e0 h
    · rw [if_neg e1, if_pos e0] at h; exact e0 h
theorem leafK_le (k : Int) : 1 ≤ leafK k ∧ leafK k ≤ 11 := by
  unfold leafK
  repeat' (first | (refine ⟨?_, ?_⟩ <;> decide) | split)
  all_goals omega
theorem fit_ph {m n : Int} {L : List Tok} (hL : ∀ t ∈ L, TokIn m n t) : PH L Fit := by
  refine ⟨fun t ht hk => ⟨?_, fun h => ?_⟩, fun t ht hk look l h1 h2 h3 h4 h5 => ?_, fun t ht hk n hn hr => ⟨Nat.zero_le _, fun h => absurd h (by show ¬ (20 : Int) = 15; decide)⟩, fun l h1 h2 => ⟨Nat.zero_le _, fun h => absurd h (by show ¬ (12 : Int) = 15; decide)⟩, fun l h1 h2 h3 => ⟨Nat.zero_le _, fun h => absurd h (by show ¬ (13 : Int) = 15; decide)⟩⟩
  · show t.set.length ≤ 100000000
    rcases (hL t ht).may.set with h | h | ⟨l, h, hl⟩
    · rw [h]; simp
    · rw [h]; simp
    · rw [h]; have := newP_len l m; omega
  · exfalso
    have := leafK_le t.kind
    have : leafK t.kind = 15 := h
    omega
  · unfold groupN
    by_cases q1 : t.n = 1
    · rw [if_pos q1]; exact ⟨Nat.zero_le _, fun _ => by simp [Node.kids]⟩
    by_cases q2 : t.n = 2
    · rw [if_neg q1, if_pos q2]; exact ⟨Nat.zero_le _, fun _ => by simp [Node.kids]⟩
    by_cases q3 : t.n = 4
    · rw [if_neg q1, if_neg q2, if_pos q3]; exact ⟨Nat.zero_le _, fun _ => by simp [Node.kids]⟩
    by_cases q4 : t.n = 5 ∨ t.n = 6 ∨ t.n = 7 ∨ t.n = 8
    · rw [if_neg q1, if_neg q2, if_neg q3, if_pos q4]; exact ⟨Nat.zero_le _, fun _ => by simp [Node.kids]⟩
    by_cases q5 : t.n = 3
    · rw [if_neg q1, if_neg q2, if_neg q3, if_neg q4, if_pos q5]; exact ⟨Nat.zero_le _, fun h => absurd h (by show ¬ (16 : Int) = 15; decide)⟩
    · rw [if_neg q1, if_neg q2, if_neg q3, if_neg q4, if_neg q5]; exact ⟨Nat.zero_le _, fun h => absurd h (by show ¬ (19 : Int) = 15; decide)⟩
def flatP (l : List Int) (o : Int) : Node × Bool :=
  if (lexP l o).e ≠ 0 then (nodeZ, false)
  else if (parseP (lexP l o).toks l.length).e ≠ 0 then (nodeZ, false)
  else (resolveP (parseP (lexP l o).toks l.length).n o, true)
theorem flatP_w (l : List Int) (o : Int) : (flatP l o).1.w ≤ 20000 := by
  have h1 := lexP_ok l o
  unfold flatP
  split
  · decide
  split
  · decide
  · rename_i e1 e2
    have h2 := parse_all (fit_ph (h1.2.1 (by simpa using e1)).2.2) l.length (by simpa using e2)
    have h3 := nodeR_w (ctxOf o) (parseP (lexP l o).toks l.length).n (bAnd o 23)
    have h4 := h1.1
    have h5 := h2.2
    unfold resolveP
    simp only
    omega
@[reducible] def flatE (r : Node × Bool) : SV := .tuple [r.1.enc, bv r.2]
attribute [local irreducible] lexP parseP resolveP
theorem flat_c (l : List Int) (o : Int) (hb : Bytes l) : VCalls Try.prog 20 [ys l, iv o] (fun r => r = flatE (flatP l o)) := by
  have h1 := lexP_ok l o
  have hlex := lex_c l o hb
  have hbl : (byteRows l).length = l.length := by simp [byteRows]
  have hpar := parse_c (lexP l o).toks l.length (by omega)
  have hall : (lexP l o).e = 0 → (parseP (lexP l o).toks l.length).e = 0 → VCalls Try.prog 44 [(parseP (lexP l o).toks l.length).n.enc, iv o] (fun r => r = (resolveP (parseP (lexP l o).toks l.length).n o).enc) := by
    intro e1 e2
    have h2 := parse_all (fit_ph (h1.2.1 e1).2.2) l.length e2
    have h4 := h1.1
    exact resolve_c _ o (by omega) h2.1
  obtain ⟨G, hG⟩ : ∃ G, flatP l o = G := ⟨_, rfl⟩
  rw [hG]
  unfold flatP at hG
  generalize lexP l o = x at *
  obtain ⟨toks, e, at_⟩ := x
  simp only at *
  generalize parseP toks l.length = y at *
  obtain ⟨⟨f1, k1⟩, e2, at2⟩ := y
  simp only at *
  generalize resolveP (Node.mk f1 k1) o = z at *
  obtain ⟨f2, k2⟩ := z
  refine VCalls.ofr tabOk Try.func20 (by decide) rfl rfl ?_
  refine RWP.of tabOk orders ?_
  repeat' ((conv => whnf); (first
    | (with_reducible first | refine Spl.yes ?_ | refine Spl.no ?_ | refine Spl.dec (fun h => ?_) (fun h => ?_) | refine Spl.eq (fun h => ?_) (fun h => ?_) | refine Spl.ne (fun h => ?_) (fun h => ?_) | refine Spl.seq (fun h => ?_) (fun h => ?_) | refine Spl.not ?_ | refine Spl.any (fun h => ?_) (fun h => ?_))
    | (refine VCalls.mono (hlex) ?_; rintro _ rfl)
    | (refine VCalls.mono (hpar) ?_; rintro _ rfl)
    | (refine VCalls.mono (hall (by assumption) (by assumption)) ?_; rintro _ rfl)
    | (rw [hbl])
    | (dsimp only)
    | refine And.intro (Nat.le_of_ble_eq_true rfl) ?_
    | ((with_reducible apply And.intro); first | omega | rfl | (dsimp only; omega))))
  all_goals (conv => whnf)
  all_goals (try dsimp only at *)
  all_goals (subst hG)
  all_goals first | (exfalso; omega) | (apply fn_by (f := flatE); (focus ((repeat (first | (apply ite_yes; (focus first | assumption | omega)) | (apply ite_no; (focus first | assumption | exact b_nt (by assumption) | exact b_nf (by assumption) | omega)) | (apply ite_yes; (focus (first | (simp [*]; done) | (simp [*, bs]; done)))) | (apply ite_no; (focus (first | (simp [*]; done) | (simp [*, bs]; done)))))); exact rfl)); rfl)
end Go.Proofs.Ytnoohgiecnmajaa.VC

/- Groups by definition: numbers one by one; the groups in order. -/
namespace Go.Proofs.Ytnoohgiecnmajaa.VC
open Go Go.RowKit
set_option linter.unusedVariables false
set_option linter.unusedSimpArgs false
set_option maxHeartbeats 4000000

def nbF (f : NodeF) (last : Int) : NodeF := if f.kind = 14 then { f with n := last + 1 } else f
def nbT (f : NodeF) (last : Int) : Int := if f.kind = 14 then last + 1 else last
def mxP (a b : Int) : Int := if a > b then a else b
mutual
def nbN : Node → Int → Node × Int
  | .mk f ks, last => (.mk (nbF f last) (nbL ks (decide (f.kind = 16)) (nbT f last) (nbT f last)).1, (nbL ks (decide (f.kind = 16)) (nbT f last) (nbT f last)).2)
def nbL : List Node → Bool → Int → Int → List Node × Int
  | [], _, _, most => ([], most)
  | k :: l, rs, last, most =>
    ((nbN k (if rs = true then last else most)).1 :: (nbL l rs last (mxP (nbN k (if rs = true then last else most)).2 most)).1,
     (nbL l rs last (mxP (nbN k (if rs = true then last else most)).2 most)).2)
end
theorem nbL_nil (rs : Bool) (a b : Int) : nbL [] rs a b = ([], b) := by rw [nbL]
theorem nbL_snoc (k : Node) : ∀ (l : List Node) (rs : Bool) (last most : Int), nbL (l ++ [k]) rs last most =
    ((nbL l rs last most).1 ++ [(nbN k (if rs = true then last else (nbL l rs last most).2)).1], mxP (nbN k (if rs = true then last else (nbL l rs last most).2)).2 (nbL l rs last most).2)
  | [], rs, a, b => by rw [List.nil_append, nbL, nbL, nbL]; rfl
  | x :: l, rs, a, b => by
    rw [List.cons_append, nbL, nbL, nbL_snoc k l]
    rfl
theorem nbL_len : ∀ (l : List Node) (rs : Bool) (a b : Int), (nbL l rs a b).1.length = l.length
  | [], rs, a, b => by rw [nbL]
  | k :: l, rs, a, b => by rw [nbL]; simp [nbL_len l]
mutual
theorem nbN_le : ∀ (n : Node) (a : Int), a ≤ (nbN n a).2 ∧ (nbN n a).2 ≤ a + n.w ∧ (nbN n a).1.w = n.w
  | .mk f ks, a => by
    have h := nbL_le ks (decide (f.kind = 16)) (nbT f a) (nbT f a) (by omega)
    have ht : a ≤ nbT f a ∧ nbT f a ≤ a + 1 := by unfold nbT; split <;> omega
    rw [nbN, Node.w, Node.w]
    simp only
    omega
theorem nbL_le : ∀ (l : List Node) (rs : Bool) (a b : Int), a ≤ b → b ≤ (nbL l rs a b).2 ∧ (nbL l rs a b).2 ≤ b + wN l ∧ wN (nbL l rs a b).1 = wN l
  | [], rs, a, b, h => by rw [nbL, wN]; simp [wN]
  | k :: l, rs, a, b, h => by
    have h1 := nbN_le k (if rs = true then a else b)
    have hs : a ≤ (if rs = true then a else b) ∧ (if rs = true then a else b) ≤ b := by split <;> omega
    rw [nbL, wN, wN]
    generalize nbN k (if rs = true then a else b) = r at *
    have hm : b ≤ mxP r.2 b ∧ mxP r.2 b ≤ b + k.w := by unfold mxP; split <;> omega
    have h2 := nbL_le l rs a (mxP r.2 b) (by omega)
    simp only
    omega
end
attribute [local irreducible] nbN nbL
def NumC (n : Node) : Prop := ∀ a : Int, 0 ≤ a → a + n.w ≤ 2000000000 → VCalls Try.prog 46 [n.enc, iv a] (fun r => r = Ty2 (nbN n a))
set_option maxHeartbeats 8000000
theorem num_step (f : NodeF) (ks : List Node) (hw : wN ks ≤ 1000000) (ih : ∀ n ∈ ks, NumC n) (a : Int) (h0 : 0 ≤ a) (h1 : a + 1 + wN ks ≤ 2000000000) : VCalls Try.prog 46 [(Node.mk f ks).enc, iv a] (fun r => r = Ty2 (nbN (.mk f ks) a)) := by
  have hn := rowsN_len ks
  have hl := wN_len ks
  obtain ⟨G, hG⟩ : ∃ G, nbN (.mk f ks) a = G := ⟨_, rfl⟩
  rw [hG]
  rw [nbN] at hG
  refine VCalls.ofr tabOk Try.func46 (by decide) rfl rfl ?_
  refine RWP.seqx tabOk orders ?_
  conv => whnf
  refine RWP.cut (fun st => st = ⟨54, [(1, .pv (iv (nbT f a))), (2, .ptr 2 0), (4, .ptr 4 0)], [(2, (27, nfe (nbF f a) ks)), (4, (27, nzero))], [], []⟩) tabOk orders ?_ ?_
  · repeat' ((conv => whnf); (first
    | (with_reducible first | refine Spl.yes ?_ | refine Spl.no ?_ | refine Spl.dec (fun h => ?_) (fun h => ?_) | refine Spl.eq (fun h => ?_) (fun h => ?_) | refine Spl.ne (fun h => ?_) (fun h => ?_) | refine Spl.seq (fun h => ?_) (fun h => ?_) | refine Spl.not ?_ | refine Spl.any (fun h => ?_) (fun h => ?_))
    | refine And.intro (Nat.le_of_ble_eq_true rfl) ?_
    | ((with_reducible apply And.intro); first | omega | rfl | (dsimp only; omega))))
    all_goals (conv => whnf)
    all_goals (unfold nbT nbF)
    · rw [if_pos (by assumption), if_pos (by assumption)]
      exact ⟨_, Wk.narrow _ [1, 2, 4] [2, 4] [], rfl⟩
    · rw [if_neg (by assumption), if_neg (by assumption)]
      exact ⟨_, Wk.narrow _ [1, 2, 4] [2, 4] [], rfl⟩
  rintro _ rfl
  have ht : a ≤ nbT f a ∧ nbT f a ≤ a + 1 := by unfold nbT; split <;> omega
  have hkind : (nbF f a).kind = f.kind := by unfold nbF; split <;> rfl
  generalize nbT f a = b at *
  generalize nbF f a = f2 at *
  refine RWP.seqx tabOk orders ?_
  conv => whnf
  refine RWP.seqx tabOk orders ?_
  conv => whnf
  refine RWP.seq ?_
  refine RWP.seqx tabOk orders ?_
  conv => whnf
  refine RWP.block ?_
  refine RWP.loop (fun k st => ∃ (j : Int) (v : Bool), st = ⟨54, [(1, .pv (iv b)), (2, .ptr 2 0), (4, .ptr 4 0), (6, .pv (iv (nbL (ks.take j.toNat) (decide (f.kind = 16)) b b).2)), (7, .own 45), (8, .pv (iv j))], [(2, (27, nfe f2 ks)), (4, (27, nzero))], [(45, ⟨12, 27, v, rowsN (nbL (ks.take j.toNat) (decide (f.kind = 16)) b b).1⟩)], []⟩ ∧ 0 ≤ j ∧ j ≤ ks.length ∧ k = (ks.length - j).toNat)
    ⟨_, _, Wk.trans (Wk.ownNil (t := 7) (k := 45) (sz := 12) (e := 27) rfl) (Wk.narrow _ [1, 2, 4, 6, 7, 8] [2, 4] [45]), 0, true, Eq.trans rfl (congrArg (fun (X : List Node × Int) => (⟨54, [(1, .pv (iv b)), (2, .ptr 2 0), (4, .ptr 4 0), (6, .pv (iv X.2)), (7, .own 45), (8, .pv (iv 0))], [(2, (27, nfe f2 ks)), (4, (27, nzero))], [(45, ⟨12, 27, true, rowsN X.1⟩)], []⟩ : St)) (nbL_nil (decide (f.kind = 16)) b b).symm), by omega, by omega, rfl⟩ ?_
  rintro k st ⟨j, v, rfl, hj0, hj1, hk⟩
  have hlj := nbL_len (ks.take j.toNat) (decide (f.kind = 16)) b b
  have hle := nbL_le (ks.take j.toNat) (decide (f.kind = 16)) b b (by omega)
  have hll := rowsN_len (nbL (ks.take j.toNat) (decide (f.kind = 16)) b b).1
  have hwt : wN (ks.take j.toNat) ≤ wN ks := by
    have := wN_app (ks.take j.toNat) (ks.drop j.toNat)
    rw [List.take_append_drop] at this
    omega
  rw [List.length_take] at hlj
  refine RWP.seqx tabOk orders ?_
  repeat' ((conv => whnf); (first
    | (with_reducible first | refine Spl.yes ?_ | refine Spl.no ?_ | refine Spl.dec (fun h => ?_) (fun h => ?_) | refine Spl.eq (fun h => ?_) (fun h => ?_) | refine Spl.ne (fun h => ?_) (fun h => ?_) | refine Spl.seq (fun h => ?_) (fun h => ?_) | refine Spl.not ?_ | refine Spl.any (fun h => ?_) (fun h => ?_))
    | ((with_reducible apply And.intro); first | omega | rfl | (dsimp only; omega))))
  all_goals (conv => whnf)
  rotate_left
  · have e : j = ks.length := by omega
    subst e
    rw [Int.toNat_natCast, List.take_length]
    refine RWP.of tabOk orders ?_
    repeat' ((conv => whnf); (first
    | (with_reducible first | refine Spl.yes ?_ | refine Spl.no ?_ | refine Spl.dec (fun h => ?_) (fun h => ?_) | refine Spl.eq (fun h => ?_) (fun h => ?_) | refine Spl.ne (fun h => ?_) (fun h => ?_) | refine Spl.seq (fun h => ?_) (fun h => ?_) | refine Spl.not ?_ | refine Spl.any (fun h => ?_) (fun h => ?_))
    | refine And.intro (Nat.le_of_ble_eq_true rfl) ?_
    | ((with_reducible apply And.intro); first | omega | rfl | (dsimp only; omega))))
    all_goals (conv => whnf)
    subst hG
    rfl
  have hsn := nbL_snoc (rdn ks j) (ks.take j.toNat) (decide (f.kind = 16)) b b
  rw [← take_stepN hj0 (by omega)] at hsn
  have hm := rdn_mem (l := ks) (j := j) (by omega)
  have hwk : wN (ks.take j.toNat) + (rdn ks j).w ≤ wN ks := by
    have h1 := wN_app (ks.take (j + 1).toNat) (ks.drop (j + 1).toNat)
    have h2 := wN_app (ks.take j.toNat) [rdn ks j]
    rw [List.take_append_drop] at h1
    rw [← take_stepN hj0 (by omega), wN, wN] at h2
    omega
  have hc := ih (rdn ks j) hm (if decide (f.kind = 16) = true then b else (nbL (ks.take j.toNat) (decide (f.kind = 16)) b b).2) (by split <;> omega) (by split <;> omega)
  generalize nbL (ks.take j.toNat) (decide (f.kind = 16)) b b = r at *
  obtain ⟨o, h⟩ := r
  unfold Ty2 at hc
  obtain ⟨f3, k3, h3⟩ := (rdn ks j).ex
  rw [h3] at hc hsn
  simp only at hsn hc hll hlj hle
  have hsn2 : (nbL (ks.take (j + 1).toNat) (decide (f.kind = 16)) b b) = (o ++ [(nbN (.mk f3 k3) (if decide (f.kind = 16) = true then b else h)).1], if (nbN (.mk f3 k3) (if decide (f.kind = 16) = true then b else h)).2 > h then (nbN (.mk f3 k3) (if decide (f.kind = 16) = true then b else h)).2 else h) := hsn
  clear hsn
  have fin : ∀ (f2' : NodeF) (k2 : List Node) (m : Int), nbN (.mk f3 k3) (if decide (f.kind = 16) = true then b else h) = (.mk f2' k2, m) → (rowsN o ++ [(Node.mk f2' k2).cells], if m > h then m else h) = (rowsN (nbL (ks.take (j + 1).toNat) (decide (f.kind = 16)) b b).1, (nbL (ks.take (j + 1).toNat) (decide (f.kind = 16)) b b).2) := by
    intro f2' k2 m e
    rw [hsn2, e, rowsN_snoc]
  by_cases q : f.kind = 16
  · have e : (if decide (f.kind = 16) = true then b else h) = b := by simp [q]
    rw [e] at hc fin
    generalize nbN (.mk f3 k3) b = r2 at *
    obtain ⟨⟨f4, k4⟩, m⟩ := r2
    have fin := fin f4 k4 m rfl
    simp only at hc
    refine RWP.of tabOk orders ?_
    repeat' ((conv => whnf); (first
    | (with_reducible first | refine Spl.yes ?_ | refine Spl.no ?_ | refine Spl.dec (fun h => ?_) (fun h => ?_) | refine Spl.eq (fun h => ?_) (fun h => ?_) | refine Spl.ne (fun h => ?_) (fun h => ?_) | refine Spl.seq (fun h => ?_) (fun h => ?_) | refine Spl.not ?_ | refine Spl.any (fun h => ?_) (fun h => ?_))
    | (rw [rowsN_get (by omega)])
    | (rw [h3])
    | (refine VCalls.mono (hc) ?_; rintro _ rfl)
    | refine And.intro (Nat.le_of_ble_eq_true rfl) ?_
    | refine And.intro (by show ((rowsN o).length + 1) * 136 ≤ 140737488355328; omega) ?_
    | ((with_reducible apply And.intro); first | omega | rfl | (dsimp only; omega))))
    all_goals (conv => whnf)
    all_goals first
      | (exfalso; omega)
      | (rw [if_pos (by assumption)] at fin; exact ⟨(ks.length - (j + 1)).toNat, _, by omega, Wk.narrow _ [1, 2, 4, 6, 7, 8] [2, 4] [45], j + 1, v, Eq.trans rfl (congrArg (fun (X : List (List SV) × Int) => (⟨54, [(1, .pv (iv b)), (2, .ptr 2 0), (4, .ptr 4 0), (6, .pv (iv X.2)), (7, .own 45), (8, .pv (iv (j + 1)))], [(2, (27, nfe f2 ks)), (4, (27, nzero))], [(45, ⟨12, 27, v, X.1⟩)], []⟩ : St)) fin), by omega, by omega, rfl⟩)
      | (rw [if_neg (by assumption)] at fin; exact ⟨(ks.length - (j + 1)).toNat, _, by omega, Wk.narrow _ [1, 2, 4, 6, 7, 8] [2, 4] [45], j + 1, v, Eq.trans rfl (congrArg (fun (X : List (List SV) × Int) => (⟨54, [(1, .pv (iv b)), (2, .ptr 2 0), (4, .ptr 4 0), (6, .pv (iv X.2)), (7, .own 45), (8, .pv (iv (j + 1)))], [(2, (27, nfe f2 ks)), (4, (27, nzero))], [(45, ⟨12, 27, v, X.1⟩)], []⟩ : St)) fin), by omega, by omega, rfl⟩)
  · have e : (if decide (f.kind = 16) = true then b else h) = h := by simp [q]
    rw [e] at hc fin
    generalize nbN (.mk f3 k3) h = r2 at *
    obtain ⟨⟨f4, k4⟩, m⟩ := r2
    have fin := fin f4 k4 m rfl
    simp only at hc
    refine RWP.of tabOk orders ?_
    repeat' ((conv => whnf); (first
    | (with_reducible first | refine Spl.yes ?_ | refine Spl.no ?_ | refine Spl.dec (fun h => ?_) (fun h => ?_) | refine Spl.eq (fun h => ?_) (fun h => ?_) | refine Spl.ne (fun h => ?_) (fun h => ?_) | refine Spl.seq (fun h => ?_) (fun h => ?_) | refine Spl.not ?_ | refine Spl.any (fun h => ?_) (fun h => ?_))
    | (rw [rowsN_get (by omega)])
    | (rw [h3])
    | (refine VCalls.mono (hc) ?_; rintro _ rfl)
    | refine And.intro (Nat.le_of_ble_eq_true rfl) ?_
    | refine And.intro (by show ((rowsN o).length + 1) * 136 ≤ 140737488355328; omega) ?_
    | ((with_reducible apply And.intro); first | omega | rfl | (dsimp only; omega))))
    all_goals (conv => whnf)
    all_goals first
      | (exfalso; omega)
      | (rw [if_pos (by assumption)] at fin; exact ⟨(ks.length - (j + 1)).toNat, _, by omega, Wk.narrow _ [1, 2, 4, 6, 7, 8] [2, 4] [45], j + 1, v, Eq.trans rfl (congrArg (fun (X : List (List SV) × Int) => (⟨54, [(1, .pv (iv b)), (2, .ptr 2 0), (4, .ptr 4 0), (6, .pv (iv X.2)), (7, .own 45), (8, .pv (iv (j + 1)))], [(2, (27, nfe f2 ks)), (4, (27, nzero))], [(45, ⟨12, 27, v, X.1⟩)], []⟩ : St)) fin), by omega, by omega, rfl⟩)
      | (rw [if_neg (by assumption)] at fin; exact ⟨(ks.length - (j + 1)).toNat, _, by omega, Wk.narrow _ [1, 2, 4, 6, 7, 8] [2, 4] [45], j + 1, v, Eq.trans rfl (congrArg (fun (X : List (List SV) × Int) => (⟨54, [(1, .pv (iv b)), (2, .ptr 2 0), (4, .ptr 4 0), (6, .pv (iv X.2)), (7, .own 45), (8, .pv (iv (j + 1)))], [(2, (27, nfe f2 ks)), (4, (27, nzero))], [(45, ⟨12, 27, v, X.1⟩)], []⟩ : St)) fin), by omega, by omega, rfl⟩)
theorem num_c : ∀ (k : Nat) (n : Node), n.w ≤ k → n.w ≤ 1000000 → NumC n := by
  intro k
  induction k with
  | zero => intro n h; have := w_pos n; omega
  | succ k ih =>
    intro n hk hw
    cases n with
    | mk f ks =>
      rw [Node.w] at hk hw
      intro a h0 h1
      exact num_step f ks (by omega) (fun n hn => ih n (by have := wN_mem hn; omega) (by have := wN_mem hn; omega)) a h0 (by rw [Node.w] at h1; omega)
mutual
def capsN : Node → List Node
  | .mk f ks => if f.kind = 14 then .mk f ks :: capsL ks else capsL ks
def capsL : List Node → List Node
  | [] => []
  | k :: l => capsN k ++ capsL l
end
theorem capsL_snoc (k : Node) : ∀ l : List Node, capsL (l ++ [k]) = capsL l ++ capsN k
  | [] => by simp [capsL]
  | x :: l => by rw [List.cons_append, capsL, capsL, capsL_snoc k l, List.append_assoc]
mutual
theorem capsN_len : ∀ n : Node, (capsN n).length ≤ n.w
  | .mk f ks => by
    have := capsL_len ks
    rw [capsN, Node.w]
    split
    · simp; omega
    · omega
theorem capsL_len : ∀ l : List Node, (capsL l).length ≤ wN l
  | [] => by simp [capsL]
  | k :: l => by
    have := capsN_len k
    have := capsL_len l
    rw [capsL, wN, List.length_append]
    omega
end
def CapC (n : Node) : Prop := VCalls Try.prog 47 [n.enc] (fun r => r = nodesE (capsN n))
def capH (f : NodeF) (ks : List Node) : List Node := if f.kind = 14 then [.mk f ks] else []
attribute [local irreducible] capsN capsL
theorem cap_step (f : NodeF) (ks : List Node) (hw : wN ks ≤ 1000000) (ih : ∀ n ∈ ks, CapC n) : VCalls Try.prog 47 [(Node.mk f ks).enc] (fun r => r = nodesE (capsN (.mk f ks))) := by
  have hn := rowsN_len ks
  have hl := wN_len ks
  have hcl := capsL_len ks
  have hG : capsN (.mk f ks) = capH f ks ++ capsL ks := by rw [capsN, capH]; split <;> rfl
  rw [hG]
  refine VCalls.ofr tabOk Try.func47 (by decide) rfl rfl ?_
  refine RWP.seqx tabOk orders ?_
  conv => whnf
  refine RWP.seqx tabOk orders ?_
  conv => whnf
  refine RWP.cut (fun st => ∃ v, st = ⟨28, [(1, .ptr 1 0), (3, .own 26)], [(1, (27, nfe f ks))], [(26, ⟨12, 27, v, rowsN (capH f ks)⟩)], []⟩) tabOk orders ?_ ?_
  · repeat' ((conv => whnf); (first
    | (with_reducible first | refine Spl.yes ?_ | refine Spl.no ?_ | refine Spl.dec (fun h => ?_) (fun h => ?_) | refine Spl.eq (fun h => ?_) (fun h => ?_) | refine Spl.ne (fun h => ?_) (fun h => ?_) | refine Spl.seq (fun h => ?_) (fun h => ?_) | refine Spl.not ?_ | refine Spl.any (fun h => ?_) (fun h => ?_))
    | refine And.intro (Nat.le_of_ble_eq_true rfl) ?_
    | ((with_reducible apply And.intro); first | omega | rfl | (dsimp only; omega))))
    all_goals (conv => whnf)
    all_goals (unfold capH)
    · rw [if_pos (by assumption)]
      exact ⟨_, Wk.trans (Wk.renOwn 3 26 (k := 11) rfl rfl rfl) (Wk.narrow _ [1, 3] [1] [26]), true, rfl⟩
    · rw [if_neg (by assumption)]
      exact ⟨_, Wk.trans (Wk.ownNil (t := 3) (k := 26) (sz := 12) (e := 27) rfl) (Wk.narrow _ [1, 3] [1] [26]), true, rfl⟩
  rintro _ ⟨v, rfl⟩
  have hh : (capH f ks).length ≤ 1 := by unfold capH; split <;> simp
  generalize capH f ks = H at *
  refine RWP.seq ?_
  refine RWP.seqx tabOk orders ?_
  conv => whnf
  refine RWP.block ?_
  refine RWP.loop (fun k st => ∃ (j : Int) (v : Bool), st = ⟨28, [(1, .ptr 1 0), (3, .own 26), (4, .pv (iv j))], [(1, (27, nfe f ks))], [(26, ⟨12, 27, v, rowsN (H ++ capsL (ks.take j.toNat))⟩)], []⟩ ∧ 0 ≤ j ∧ j ≤ ks.length ∧ k = (ks.length - j).toNat)
    ⟨_, _, Wk.narrow _ [1, 3, 4] [1] [26], 0, v, Eq.trans rfl (congrArg (fun (X : List Node) => (⟨28, [(1, .ptr 1 0), (3, .own 26), (4, .pv (iv 0))], [(1, (27, nfe f ks))], [(26, ⟨12, 27, v, rowsN X⟩)], []⟩ : St)) (by show H = H ++ capsL []; rw [capsL]; simp)), by omega, by omega, rfl⟩ ?_
  rintro k st ⟨j, v, rfl, hj0, hj1, hk⟩
  have hwt : wN (ks.take j.toNat) ≤ wN ks := by
    have := wN_app (ks.take j.toNat) (ks.drop j.toNat)
    rw [List.take_append_drop] at this
    omega
  have hct := capsL_len (ks.take j.toNat)
  refine RWP.seqx tabOk orders ?_
  repeat' ((conv => whnf); (first
    | (with_reducible first | refine Spl.yes ?_ | refine Spl.no ?_ | refine Spl.dec (fun h => ?_) (fun h => ?_) | refine Spl.eq (fun h => ?_) (fun h => ?_) | refine Spl.ne (fun h => ?_) (fun h => ?_) | refine Spl.seq (fun h => ?_) (fun h => ?_) | refine Spl.not ?_ | refine Spl.any (fun h => ?_) (fun h => ?_))
    | ((with_reducible apply And.intro); first | omega | rfl | (dsimp only; omega))))
  all_goals (conv => whnf)
  rotate_left
  · have e : j = ks.length := by omega
    subst e
    rw [Int.toNat_natCast, List.take_length]
    refine RWP.of tabOk orders ?_
    conv => whnf
    rfl
  have hsn := capsL_snoc (rdn ks j) (ks.take j.toNat)
  rw [← take_stepN hj0 (by omega)] at hsn
  have hm := rdn_mem (l := ks) (j := j) (by omega)
  have hc := ih (rdn ks j) hm
  have hcn := capsN_len (rdn ks j)
  have hwm := wN_mem hm
  have hr1 := rowsN_len (H ++ capsL (ks.take j.toNat))
  have hr2 := rowsN_len (capsN (rdn ks j))
  rw [List.length_append] at hr1
  unfold CapC at hc
  generalize capsN (rdn ks j) = C at *
  obtain ⟨f3, k3, h3⟩ := (rdn ks j).ex
  rw [h3] at hc
  refine RWP.of tabOk orders ?_
  repeat' ((conv => whnf); (first
    | (with_reducible first | refine Spl.yes ?_ | refine Spl.no ?_ | refine Spl.dec (fun h => ?_) (fun h => ?_) | refine Spl.eq (fun h => ?_) (fun h => ?_) | refine Spl.ne (fun h => ?_) (fun h => ?_) | refine Spl.seq (fun h => ?_) (fun h => ?_) | refine Spl.not ?_ | refine Spl.any (fun h => ?_) (fun h => ?_))
    | (rw [rowsN_get (by omega)])
    | (rw [h3])
    | (refine VCalls.mono (hc) ?_; rintro _ rfl)
    | refine And.intro (Nat.le_of_ble_eq_true rfl) ?_
    | refine And.intro (by show ((rowsN (H ++ capsL (ks.take j.toNat))).length + (rowsN C).length) * 136 ≤ 140737488355328; omega) ?_
    | ((with_reducible apply And.intro); first | omega | rfl | (dsimp only; omega))))
  all_goals (conv => whnf)
  exact ⟨(ks.length - (j + 1)).toNat, _, by omega, Wk.narrow _ [1, 3, 4] [1] [26], j + 1, v, Eq.trans rfl (congrArg (fun (X : List (List SV)) => (⟨28, [(1, .ptr 1 0), (3, .own 26), (4, .pv (iv (j + 1)))], [(1, (27, nfe f ks))], [(26, ⟨12, 27, v, X⟩)], []⟩ : St)) (show rowsN (H ++ capsL (ks.take j.toNat)) ++ rowsN C = rowsN (H ++ capsL (ks.take (j + 1).toNat)) by rw [hsn, rowsN_app, List.append_assoc])), by omega, by omega, rfl⟩
theorem cap_c : ∀ (k : Nat) (n : Node), n.w ≤ k → n.w ≤ 1000000 → CapC n := by
  intro k
  induction k with
  | zero => intro n h; have := w_pos n; omega
  | succ k ih =>
    intro n hk hw
    cases n with
    | mk f ks =>
      rw [Node.w] at hk hw
      exact cap_step f ks (by omega) (fun n hn => ih n (by have := wN_mem hn; omega) (by have := wN_mem hn; omega))
end Go.Proofs.Ytnoohgiecnmajaa.VC

