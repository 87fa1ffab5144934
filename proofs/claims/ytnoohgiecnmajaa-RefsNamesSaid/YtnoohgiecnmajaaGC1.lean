/- A part of the ground of the proof. No condition. -/
import Derived.Test.YtnoohgiecnmajaaGC0

/- The laws of references: RefsBack. -/
namespace Go.Proofs.Ytnoohgiecnmajaa.VC
open Go Go.RowKit
set_option linter.unusedVariables false
set_option linter.unusedSimpArgs false
set_option maxHeartbeats 4000000

theorem nums_app (a b : ByteArray) : numsOf (a ++ b) = numsOf a ++ numsOf b := by
  unfold numsOf
  rw [ByteArray.data_append, Array.toList_append, List.map_append]
theorem strOf_app (a b : List Int) : strOfNums a ++ strOfNums b = strOfNums (a ++ b) := by
  unfold strOfNums
  apply ByteArray.ext
  rw [ByteArray.data_append]
  simp
set_option maxHeartbeats 16000000
theorem strOf_sz (l : List Int) : (strOfNums l).size = l.length := strOf_size l
theorem digit1_c (k : Int) (h0 : 0 ≤ k) (h1 : k < 10) : VCalls Try.prog 35 [iv k] (fun r => r = sv (strOfNums [48 + k])) := by
  have hv : k = 0 ∨ k = 1 ∨ k = 2 ∨ k = 3 ∨ k = 4 ∨ k = 5 ∨ k = 6 ∨ k = 7 ∨ k = 8 ∨ k = 9 := by omega
  have hx : ({ data := #[48, 49, 50, 51, 52, 53, 54, 55, 56, 57] } : ByteArray).extract k.toNat (k + 1).toNat = strOfNums [48 + k] := by
    rcases hv with rfl | rfl | rfl | rfl | rfl | rfl | rfl | rfl | rfl | rfl <;> decide
  refine VCalls.ofr tabOk Try.func35 (by decide) rfl rfl ?_
  refine RWP.of tabOk orders ?_
  repeat' ((conv => whnf); (first
    | (with_reducible first | refine Spl.yes ?_ | refine Spl.no ?_ | refine Spl.dec (fun h => ?_) (fun h => ?_) | refine Spl.eq (fun h => ?_) (fun h => ?_) | refine Spl.ne (fun h => ?_) (fun h => ?_) | refine Spl.seq (fun h => ?_) (fun h => ?_) | refine Spl.not ?_ | refine Spl.any (fun h => ?_) (fun h => ?_))
    | refine And.intro (by have : ({ data := #[48, 49, 50, 51, 52, 53, 54, 55, 56, 57] } : ByteArray).size = 10 := rfl; omega) ?_
    | ((with_reducible apply And.intro); first | omega | rfl | (dsimp only; omega))))
  all_goals (conv => whnf)
  all_goals first
    | (exfalso; omega)
    | (rw [← hx]; rfl)
theorem digits_c (k : Int) (hk : 0 ≤ k ∧ k < 100) : VCalls Try.prog 35 [iv k] (fun r => r = sv (strOfNums (dig k))) := by
  unfold dig
  by_cases q : k < 10
  · rw [if_pos q]; exact digit1_c k hk.1 q
  rw [if_neg q]
  have h1 := digit1_c (k / 10) (by omega) (by omega)
  have h2 := digit1_c (k % 10) (by omega) (by omega)
  have z1 := strOf_sz [48 + k / 10]
  have z2 := strOf_sz [48 + k % 10]
  have e : strOfNums [48 + k / 10, 48 + k % 10] = strOfNums [48 + k / 10] ++ strOfNums [48 + k % 10] := by rw [strOf_app]; rfl
  rw [e]
  simp only [List.length_cons, List.length_nil] at z1 z2
  generalize strOfNums [48 + k / 10] = s1 at *
  generalize strOfNums [48 + k % 10] = s2 at *
  refine VCalls.ofr tabOk Try.func35 (by decide) rfl rfl ?_
  refine RWP.of tabOk orders ?_
  repeat' ((conv => whnf); (first
    | (with_reducible first | refine Spl.yes ?_ | refine Spl.no ?_ | refine Spl.dec (fun h => ?_) (fun h => ?_) | refine Spl.eq (fun h => ?_) (fun h => ?_) | refine Spl.ne (fun h => ?_) (fun h => ?_) | refine Spl.seq (fun h => ?_) (fun h => ?_) | refine Spl.not ?_ | refine Spl.any (fun h => ?_) (fun h => ?_))
    | (refine VCalls.mono (h1) ?_; rintro _ rfl)
    | (refine VCalls.mono (h2) ?_; rintro _ rfl)
    | refine And.intro (show s1.size + s2.size ≤ 9223372036854775807 by omega) ?_
    | refine And.intro (by have : ({ data := #[48, 49, 50, 51, 52, 53, 54, 55, 56, 57] } : ByteArray).size = 10 := rfl; omega) ?_
    | ((with_reducible apply And.intro); first | omega | rfl | (dsimp only; omega))))
  all_goals (conv => whnf)
  all_goals first
    | (exfalso; omega)
    | rfl
theorem signed_w1 (k : Int) (hk : 0 ≤ k ∧ k < 100) (s : ByteArray) (i : Int) (h0 : 0 ≤ i) (h : (numsOf s).drop i.toNat = (45 :: dig k) ++ [125]) : signedP s i = (k, 1, i + (45 :: dig k).length, false) := by
  rw [signed_of h0 hk (.inl ⟨rfl, rfl⟩) h (digitP_no (by omega)), List.length_cons]
  rw [show i + 1 + ((dig k).length : Int) = i + (((dig k).length + 1 : Nat) : Int) by omega]
theorem w_bytes {c k : Int} (hc : 0 ≤ c ∧ c ≤ 255) (hk : 0 ≤ k ∧ k < 100) : Bytes (c :: dig k) := by
  intro x hx
  rcases List.mem_cons.1 hx with rfl | h
  · exact hc
  · exact dig_bytes hk x h
theorem dig_len2 (k : Int) : 1 ≤ (dig k).length ∧ (dig k).length ≤ 2 := by
  unfold dig; split <;> simp
theorem setA_ok (n : Nat) (c : Ctx) (g : Int) (m : Nat) : ∀ (i b : Int), allN SetOk (capsB c g i b m) := by
  induction m with
  | zero => intro i b; rw [capsB, allN]; trivial
  | succ m ih =>
    intro i b
    rw [capsB, allN]
    refine ⟨?_, ih _ _⟩
    have hp := setP_len c [(97, 97)] (bAnd g 1 != 0) false
    simp only [List.length_cons, List.length_nil] at hp
    unfold capB litR setN
    rw [Node.all, allN, Node.all, allN]
    exact ⟨Nat.zero_le _, ⟨by show (setP c [(97, 97)] (bAnd g 1 != 0) false).length ≤ 4000000000; omega, trivial⟩, trivial⟩
theorem capsB_w (c : Ctx) (g : Int) (m : Nat) : ∀ (i b : Int), wN (capsB c g i b m) ≤ 4 * m := by
  induction m with
  | zero => intro i b; rw [capsB, wN]; omega
  | succ m ih =>
    intro i b
    have := ih (i + 3) (b + 1)
    rw [capsB, wN]
    unfold capB litR setN
    simp only [Node.w, wN]
    omega
theorem eqA_caps (c : Ctx) (g : Int) (m : Nat) : ∀ (i j b : Int), eqAL (capsB c g i b m) (capsB c g j b m) := by
  induction m with
  | zero => intro i j b; rw [capsB, capsB, eqAL]; trivial
  | succ m ih =>
    intro i j b
    rw [capsB, capsB, eqAL]
    refine ⟨?_, ih _ _ _⟩
    unfold capB litR setN
    rw [eqA, eqAL, eqA, eqAL]
    exact ⟨rfl, ⟨rfl, trivial⟩, trivial⟩
theorem setFN_lbF (g kind v k m k' m' a : Int) : setFN v (lbF g kind k m a) = setFN v (lbF g kind k' m' a) := by
  unfold lbF
  split <;> rfl
theorem setFN_set (g kind v k m a : Int) : (setFN v (lbF g kind k m a)).set = [] := by
  unfold lbF
  split <;> rfl
attribute [local irreducible] rdP fullPat dig
theorem back10_c (n k0 : Int) (hk0 : -9223372036854775808 ≤ k0 ∧ k0 ≤ 9223372036854775807) : VCalls Try.prog 10 [iv n, iv k0] (fun r => r = bv true) := by
  refine VCalls.ofr tabOk Try.func10 (by decide) rfl rfl ?_
  refine RWP.seqx tabOk orders ?_
  conv => whnf
  refine RWP.seqx tabOk orders ?_
  repeat' ((conv => whnf); (first
    | (with_reducible first | refine Spl.yes ?_ | refine Spl.no ?_ | refine Spl.dec (fun h => ?_) (fun h => ?_) | refine Spl.eq (fun h => ?_) (fun h => ?_) | refine Spl.ne (fun h => ?_) (fun h => ?_) | refine Spl.seq (fun h => ?_) (fun h => ?_) | refine Spl.not ?_ | refine Spl.any (fun h => ?_) (fun h => ?_))
    | (refine VCalls.mono (awake10_c) ?_; rintro _ rfl)
    | ((with_reducible apply And.intro); first | omega | rfl | (dsimp only; omega))))
  all_goals (conv => whnf)
  refine RWP.seqx tabOk orders ?_
  repeat' ((conv => whnf); (first
    | (with_reducible first | refine Spl.yes ?_ | refine Spl.no ?_ | refine Spl.dec (fun h => ?_) (fun h => ?_) | refine Spl.eq (fun h => ?_) (fun h => ?_) | refine Spl.ne (fun h => ?_) (fun h => ?_) | refine Spl.seq (fun h => ?_) (fun h => ?_) | refine Spl.not ?_ | refine Spl.any (fun h => ?_) (fun h => ?_))
    | ((with_reducible apply And.intro); first | omega | rfl | (dsimp only; omega))))
  all_goals (conv => whnf)
  refine RWP.cut (fun st => 1 ≤ n ∧ n ≤ 40 ∧ st = ⟨141, [(0, .pv (iv n)), (1, .pv (iv k0))], [], [], []⟩) tabOk orders ?_ ?_
  · repeat' ((conv => whnf); (first
    | (with_reducible first | refine Spl.yes ?_ | refine Spl.no ?_ | refine Spl.dec (fun h => ?_) (fun h => ?_) | refine Spl.eq (fun h => ?_) (fun h => ?_) | refine Spl.ne (fun h => ?_) (fun h => ?_) | refine Spl.seq (fun h => ?_) (fun h => ?_) | refine Spl.not ?_ | refine Spl.any (fun h => ?_) (fun h => ?_))
    | ((with_reducible apply And.intro); first | omega | rfl | (dsimp only; omega))))
    all_goals (conv => whnf)
    all_goals first
      | rfl
      | exact ⟨_, Wk.narrow _ [0, 1] [] [], by omega, by omega, rfl⟩
  rintro _ ⟨h1n, h40, rfl⟩
  refine RWP.cut (fun st => st = ⟨141, [(0, .pv (iv n)), (1, .pv (iv (if k0 < 0 then -(k0 + 1) else k0)))], [], [], []⟩) tabOk orders ?_ ?_
  · repeat' ((conv => whnf); (first
    | (with_reducible first | refine Spl.yes ?_ | refine Spl.no ?_ | refine Spl.dec (fun h => ?_) (fun h => ?_) | refine Spl.eq (fun h => ?_) (fun h => ?_) | refine Spl.ne (fun h => ?_) (fun h => ?_) | refine Spl.seq (fun h => ?_) (fun h => ?_) | refine Spl.not ?_ | refine Spl.any (fun h => ?_) (fun h => ?_))
    | ((with_reducible apply And.intro); first | omega | rfl | (dsimp only; omega))))
    all_goals (conv => whnf)
    · rw [if_pos (by assumption)]
      exact ⟨_, Wk.narrow _ [0, 1] [] [], by rw [show -(k0 + 1) = 0 - (k0 + 1) by omega]; rfl⟩
    · rw [if_neg (by assumption)]
      exact ⟨_, Wk.narrow _ [0, 1] [] [], rfl⟩
  rintro _ rfl
  have hk1 : 0 ≤ (if k0 < 0 then -(k0 + 1) else k0) ∧ (if k0 < 0 then -(k0 + 1) else k0) ≤ 9223372036854775807 := by split <;> omega
  generalize (if k0 < 0 then -(k0 + 1) else k0) = k1 at *
  have hm0 := Int.emod_nonneg k1 (show n ≠ 0 by omega)
  have hm1 := Int.emod_lt_of_pos k1 (show 0 < n by omega)
  refine RWP.seqx tabOk orders ?_
  repeat' ((conv => whnf); (first
    | (with_reducible first | refine Spl.yes ?_ | refine Spl.no ?_ | refine Spl.dec (fun h => ?_) (fun h => ?_) | refine Spl.eq (fun h => ?_) (fun h => ?_) | refine Spl.ne (fun h => ?_) (fun h => ?_) | refine Spl.seq (fun h => ?_) (fun h => ?_) | refine Spl.not ?_ | refine Spl.any (fun h => ?_) (fun h => ?_))
    | ((with_reducible apply And.intro); first | omega | rfl | (dsimp only; omega))))
  all_goals (conv => whnf)
  refine RWP.weak (Wk.narrow _ [0, 1] [] []) ?_
  obtain ⟨k, hk⟩ : ∃ k, 1 + k1 % n = k := ⟨_, rfl⟩
  have hkr : 1 ≤ k ∧ k ≤ n := by omega
  rw [hk]
  obtain ⟨N, hN⟩ : ∃ N : Nat, n = N := ⟨n.toNat, by omega⟩
  subst hN
  have hd1 := digits_c k (by omega)
  have hd2 := digits_c ((N : Int) - k + 1) (by omega)
  have hd3 := digits_c ((N : Int) + 1) (by omega)
  have z1 := strOf_sz (dig k)
  have z2 := strOf_sz (dig ((N : Int) - k + 1))
  have z3 := strOf_sz (dig ((N : Int) + 1))
  have l1 := dig_len2 k
  have l2 := dig_len2 ((N : Int) - k + 1)
  have l3 := dig_len2 ((N : Int) + 1)
  have b1 := dig_bytes (k := k) (by omega)
  have b2 := dig_bytes (k := (N : Int) - k + 1) (by omega)
  have b3 := dig_bytes (k := (N : Int) + 1) (by omega)
  have e1 : numsOf (((strOfNums (fullPat N) ++ { data := #[92, 103, 123, 45] }) ++ strOfNums (dig k)) ++ { data := #[125] }) = fullPat N ++ (92 :: 103 :: 123 :: ((45 :: dig k) ++ [125])) := by
    rw [nums_app, nums_app, nums_app, nums_strOf (full_bytes N), nums_strOf b1]
    show ((fullPat N ++ [92, 103, 123, 45]) ++ dig k) ++ [125] = _
    simp
  have e2 : numsOf (((strOfNums (fullPat N) ++ { data := #[92, 103, 123] }) ++ strOfNums (dig ((N : Int) - k + 1))) ++ { data := #[125] }) = fullPat N ++ (92 :: 103 :: 123 :: (dig ((N : Int) - k + 1) ++ [125])) := by
    rw [nums_app, nums_app, nums_app, nums_strOf (full_bytes N), nums_strOf b2]
    show ((fullPat N ++ [92, 103, 123]) ++ dig ((N : Int) - k + 1)) ++ [125] = _
    simp
  have e3 : numsOf ((({ data := #[40, 63, 43] } ++ strOfNums (dig k)) ++ { data := #[41] }) ++ strOfNums (fullPat N)) = 40 :: 63 :: ((43 :: dig k) ++ 41 :: fullPat N) := by
    rw [nums_app, nums_app, nums_app, nums_strOf (full_bytes N), nums_strOf b1]
    show (([40, 63, 43] ++ dig k) ++ [41]) ++ fullPat N = _
    simp
  have e4 : numsOf ((({ data := #[40, 63] } ++ strOfNums (dig k)) ++ { data := #[41] }) ++ strOfNums (fullPat N)) = 40 :: 63 :: (dig k ++ 41 :: fullPat N) := by
    rw [nums_app, nums_app, nums_app, nums_strOf (full_bytes N), nums_strOf b1]
    show (([40, 63] ++ dig k) ++ [41]) ++ fullPat N = _
    simp
  have e5 : numsOf (((strOfNums (fullPat N) ++ { data := #[92, 103, 123, 45] }) ++ strOfNums (dig ((N : Int) + 1))) ++ { data := #[125] }) = fullPat N ++ (92 :: 103 :: 123 :: ((45 :: dig ((N : Int) + 1)) ++ [125])) := by
    rw [nums_app, nums_app, nums_app, nums_strOf (full_bytes N), nums_strOf b3]
    show ((fullPat N ++ [92, 103, 123, 45]) ++ dig ((N : Int) + 1)) ++ [125] = _
    simp
  have hr1 := resolved_c (((strOfNums (fullPat N) ++ { data := #[92, 103, 123, 45] }) ++ strOfNums (dig k)) ++ { data := #[125] })
  have hr2 := resolved_c (((strOfNums (fullPat N) ++ { data := #[92, 103, 123] }) ++ strOfNums (dig ((N : Int) - k + 1))) ++ { data := #[125] })
  have hr3 := resolved_c ((({ data := #[40, 63, 43] } ++ strOfNums (dig k)) ++ { data := #[41] }) ++ strOfNums (fullPat N))
  have hr4 := resolved_c ((({ data := #[40, 63] } ++ strOfNums (dig k)) ++ { data := #[41] }) ++ strOfNums (fullPat N))
  have hr5 := resolved_c (((strOfNums (fullPat N) ++ { data := #[92, 103, 123, 45] }) ++ strOfNums (dig ((N : Int) + 1))) ++ { data := #[125] })
  have c1 : dig k = dig k := rfl
  obtain ⟨d, dl, hdd, hd48, hd57⟩ := dig_head (k := k) (by omega)
  have x1 := lex_back N (by omega) k 1 (45 :: dig k) (by omega) (by simp) (by simp; omega) (w_bytes (by omega) (by omega)) (signed_w1 k (by omega))
  have x2 := lex_back N (by omega) ((N : Int) - k + 1) 0 (dig ((N : Int) - k + 1)) (by omega) l2.1 (by omega) b2 (fun s i h0 h => signed_abs h0 (by omega) h (digitP_no (by omega)))
  have x3 := lex_forth N (by omega) k 2 43 (43 :: dig k) (dig k) (by omega) (by simp; omega) (w_bytes (by omega) (by omega)) rfl (.inl rfl) (fun s i r h0 h => by
    rw [signed_of h0 (by omega) (.inr ⟨rfl, rfl⟩) h (digitP_no (by omega)), List.length_cons]
    rw [show i + 1 + ((dig k).length : Int) = i + (((dig k).length + 1 : Nat) : Int) by omega])
  have x4 := lex_forth N (by omega) k 0 d (dig k) dl (by omega) (by omega) b1 hdd (.inr ⟨hd48, hd57⟩) (fun s i r h0 h => signed_abs h0 (by omega) h (digitP_no (by omega)))
  have x5 := lex_back N (by omega) ((N : Int) + 1) 1 (45 :: dig ((N : Int) + 1)) (by omega) (by simp) (by simp; omega) (w_bytes (by omega) (by omega)) (signed_w1 ((N : Int) + 1) (by omega))
  have v1 : meantP N [] N 1 k (bs []) = (N : Int) - k + 1 := by unfold meantP; rw [if_neg (by decide), if_pos rfl, if_neg (by omega)]
  have v2 : meantP N [] N 0 ((N : Int) - k + 1) (bs []) = (N : Int) - k + 1 := by unfold meantP; rw [if_neg (show ¬ (0 : Int) = 3 by decide), if_neg (show ¬ (0 : Int) = 1 by decide), if_neg (show ¬ (0 : Int) = 2 by decide), if_neg (by omega)]
  have v3 : meantP N [] 0 2 k (bs []) = k := by unfold meantP; rw [if_neg (show ¬ (2 : Int) = 3 by decide), if_neg (show ¬ (2 : Int) = 1 by decide), if_pos rfl, if_neg (by omega)]; omega
  have v4 : meantP N [] 0 0 k (bs []) = k := by unfold meantP; rw [if_neg (show ¬ (0 : Int) = 3 by decide), if_neg (show ¬ (0 : Int) = 1 by decide), if_neg (show ¬ (0 : Int) = 2 by decide), if_neg (by omega)]
  have v5 : meantP N [] N 1 ((N : Int) + 1) (bs []) = 0 := by unfold meantP; rw [if_neg (by decide), if_pos rfl, if_neg (by omega)]; omega
  rw [e1, rd_back (by omega) (by omega) x1, v1, if_neg (by omega)] at hr1
  rw [e2, rd_back (by omega) (by omega) x2, v2, if_neg (by omega)] at hr2
  rw [e3, rd_forth (by omega) (by omega) x3 (by rw [v3]; omega), v3] at hr3
  rw [e4, rd_forth (by omega) (by omega) x4 (by rw [v4]; omega), v4] at hr4
  rw [e5, rd_back (by omega) (by omega) x5, v5, if_pos (by decide)] at hr5
  rw [setFN_lbF _ _ _ ((N : Int) - k + 1) 0 k 1] at hr2
  have hsA : SmC (.mk { fZ with kind := 12 } (capsB (ctxOf 0) (bAnd 0 23) 0 0 N ++ [.mk (setFN ((N : Int) - k + 1) (lbF (bAnd 0 23) 7 k 1 (3 * N))) []])) := by
    have hw := capsB_w (ctxOf 0) (bAnd 0 23) N 0 0
    refine same_c _ _ (Nat.le_refl _) ?_ ?_
    · rw [Node.w, wN_app]; simp only [wN, Node.w]; omega
    · rw [Node.all]
      refine ⟨Nat.zero_le _, allN_app (setA_ok N _ _ N 0 0) ?_⟩
      rw [allN, allN, Node.all, allN]
      refine ⟨⟨?_, trivial⟩, trivial⟩
      show (setFN _ _).set.length ≤ _
      rw [setFN_set]; exact Nat.zero_le _
  have hsC : Sm2C (.mk { fZ with kind := 12 } (.mk (setFN k (lbF (bAnd 0 23) 8 k 2 0)) [] :: capsB (ctxOf 0) (bAnd 0 23) (3 + ((43 :: dig k).length : Int)) 0 N)) (.mk { fZ with kind := 12 } (.mk (setFN k (lbF (bAnd 0 23) 8 k 0 0)) [] :: capsB (ctxOf 0) (bAnd 0 23) (3 + ((dig k).length : Int)) 0 N)) := by
    have hw := capsB_w (ctxOf 0) (bAnd 0 23) N (3 + ((43 :: dig k).length : Int)) 0
    refine same2_c _ _ _ (Nat.le_refl _) ?_ ?_ ?_
    · simp only [wN, Node.w]; omega
    · rw [Node.all]
      refine ⟨Nat.zero_le _, ?_⟩
      rw [allN, Node.all, allN]
      refine ⟨⟨?_, trivial⟩, setA_ok N _ _ N _ 0⟩
      show (setFN _ _).set.length ≤ _
      rw [setFN_set]; exact Nat.zero_le _
    · rw [eqA, eqAL, eqA, eqAL]
      refine ⟨rfl, ⟨?_, trivial⟩, eqA_caps _ _ N _ _ 0⟩
      rw [setFN_lbF _ 8 k k 0 k 2 0]
  unfold SmC at hsA
  unfold Sm2C at hsC
  clear x1 x2 x3 x4 x5 v1 v2 v3 v4 v5 e1 e2 e3 e4 e5 b1 b2 b3 c1 hdd
  generalize capsB (ctxOf 0) (bAnd 0 23) 0 0 N ++ [.mk (setFN ((N : Int) - k + 1) (lbF (bAnd 0 23) 7 k 1 (3 * N))) []] = KA at *
  generalize (.mk (setFN k (lbF (bAnd 0 23) 8 k 2 0)) [] :: capsB (ctxOf 0) (bAnd 0 23) (3 + ((43 :: dig k).length : Int)) 0 N : List Node) = KC at *
  generalize (.mk (setFN k (lbF (bAnd 0 23) 8 k 0 0)) [] :: capsB (ctxOf 0) (bAnd 0 23) (3 + ((dig k).length : Int)) 0 N : List Node) = KD at *
  generalize ({ fZ with kind := 12 } : NodeF) = f0 at *
  unfold nodeZ at hr5
  generalize strOfNums (dig k) = D1 at *
  generalize strOfNums (dig ((N : Int) - k + 1)) = D2 at *
  generalize strOfNums (dig ((N : Int) + 1)) = D3 at *
  refine RWP.seqx tabOk orders ?_
  conv => whnf
  refine RWP.seq ?_
  refine RWP.seqx tabOk orders ?_
  conv => whnf
  refine RWP.block ?_
  refine RWP.loop (fun q st => ∃ (j : Nat), st = ⟨141, [(0, .pv (iv N)), (1, .pv (iv k)), (6, .pv (sv (strOfNums (fullPat j)))), (7, .pv (iv j))], [], [], []⟩ ∧ j ≤ N ∧ q = N - j)
    ⟨_, _, Wk.narrow _ [0, 1, 6, 7] [] [], 0, Eq.trans rfl (congrArg (fun (X : ByteArray) => (⟨141, [(0, .pv (iv N)), (1, .pv (iv k)), (6, .pv (sv X)), (7, .pv (iv 0))], [], [], []⟩ : St)) (show ({ data := #[] } : ByteArray) = strOfNums (fullPat 0) by rw [fullPat]; rfl)), by omega, rfl⟩ ?_
  rintro q st ⟨j, rfl, hj, hq⟩
  have hfs := strOf_sz (fullPat j)
  rw [full_len] at hfs
  refine RWP.seqx tabOk orders ?_
  repeat' ((conv => whnf); (first
    | (with_reducible first | refine Spl.yes ?_ | refine Spl.no ?_ | refine Spl.dec (fun h => ?_) (fun h => ?_) | refine Spl.eq (fun h => ?_) (fun h => ?_) | refine Spl.ne (fun h => ?_) (fun h => ?_) | refine Spl.seq (fun h => ?_) (fun h => ?_) | refine Spl.not ?_ | refine Spl.any (fun h => ?_) (fun h => ?_))
    | ((with_reducible apply And.intro); first | omega | rfl | (dsimp only; omega))))
  all_goals (conv => whnf)
  rotate_left
  · have e : j = N := by omega
    subst e
    generalize strOfNums (fullPat j) = P at *
    have y1 : ({ data := #[92, 103, 123, 45] } : ByteArray).size = 4 := rfl
    have y2 : ({ data := #[92, 103, 123] } : ByteArray).size = 3 := rfl
    have y3 : ({ data := #[125] } : ByteArray).size = 1 := rfl
    have y4 : ({ data := #[40, 63, 43] } : ByteArray).size = 3 := rfl
    have y5 : ({ data := #[40, 63] } : ByteArray).size = 2 := rfl
    have y6 : ({ data := #[41] } : ByteArray).size = 1 := rfl
    refine RWP.of tabOk orders ?_
    repeat' ((conv => whnf); (first
    | (with_reducible first | refine Spl.yes ?_ | refine Spl.no ?_ | refine Spl.dec (fun h => ?_) (fun h => ?_) | refine Spl.eq (fun h => ?_) (fun h => ?_) | refine Spl.ne (fun h => ?_) (fun h => ?_) | refine Spl.seq (fun h => ?_) (fun h => ?_) | refine Spl.not ?_ | refine Spl.any (fun h => ?_) (fun h => ?_))
    | (refine VCalls.mono (hd1) ?_; rintro _ rfl)
    | (refine VCalls.mono (hd2) ?_; rintro _ rfl)
    | (refine VCalls.mono (hd3) ?_; rintro _ rfl)
    | (refine VCalls.mono (hr1) ?_; rintro _ rfl)
    | (refine VCalls.mono (hr2) ?_; rintro _ rfl)
    | (refine VCalls.mono (hr3) ?_; rintro _ rfl)
    | (refine VCalls.mono (hr4) ?_; rintro _ rfl)
    | (refine VCalls.mono (hr5) ?_; rintro _ rfl)
    | (refine VCalls.mono (hsA) ?_; rintro _ rfl)
    | (refine VCalls.mono (hsC) ?_; rintro _ rfl)
    | refine drawn_text (by decide +kernel) ?_
    | refine And.intro (Nat.le_of_ble_eq_true rfl) ?_
    | refine And.intro (show _ ≤ (9223372036854775807 : Nat) by simp only [ByteArray.size_append, y1, y2, y3, y4, y5, y6]; omega) ?_
    | ((with_reducible apply And.intro); first | omega | rfl | (dsimp only; omega))))
    all_goals (conv => whnf)
    all_goals first
      | (exfalso; exact absurd rfl (by assumption))
      | rfl
      | (simp only [beq_self_eq_true]; rfl)
  refine RWP.of tabOk orders ?_
  repeat' ((conv => whnf); (first
    | (with_reducible first | refine Spl.yes ?_ | refine Spl.no ?_ | refine Spl.dec (fun h => ?_) (fun h => ?_) | refine Spl.eq (fun h => ?_) (fun h => ?_) | refine Spl.ne (fun h => ?_) (fun h => ?_) | refine Spl.seq (fun h => ?_) (fun h => ?_) | refine Spl.not ?_ | refine Spl.any (fun h => ?_) (fun h => ?_))
    | refine And.intro (show _ ≤ (9223372036854775807 : Nat) by have : ({ data := #[40, 97, 41] } : ByteArray).size = 3 := rfl; omega) ?_
    | ((with_reducible apply And.intro); first | omega | rfl | (dsimp only; omega))))
  all_goals (conv => whnf)
  exact ⟨N - (j + 1), _, by omega, Wk.narrow _ [0, 1, 6, 7] [] [], j + 1, Eq.trans rfl (congrArg (fun (X : ByteArray) => (⟨141, [(0, .pv (iv N)), (1, .pv (iv k)), (6, .pv (sv X)), (7, .pv (iv ((j + 1 : Nat) : Int)))], [], [], []⟩ : St)) (show strOfNums (fullPat j) ++ { data := #[40, 97, 41] } = strOfNums (fullPat (j + 1)) by rw [full_snoc, ← strOf_app]; rfl)), by omega, rfl⟩
end Go.Proofs.Ytnoohgiecnmajaa.VC

/- The laws of references: RefsNames. -/
namespace Go.Proofs.Ytnoohgiecnmajaa.VC
open Go Go.RowKit
set_option linter.unusedVariables false
set_option linter.unusedSimpArgs false
set_option maxHeartbeats 4000000

attribute [local irreducible] bAnd setP
def node7 (g k p : Int) : Node := .mk ⟨7, p, 0, [], false, k, 0, 0, bs [], bAnd g 1, 0⟩ []
def node8 (k p : Int) : Node := .mk ⟨8, p, 0, [], false, k, 0, 0, bs [], 0, 0⟩ []
def node19 (c : Ctx) (g k p q : Int) : Node := .mk ⟨19, p, 0, [], false, 9, 0, k, bs [], 0, 0⟩ [litX c g 98 q]
def f7 (n m : Int) (nm : ByteArray) (p : Int) : NodeF := ⟨7, p, 0, [], false, n, m, 0, nm, 0, 0⟩
def f8 (n m : Int) (nm : ByteArray) (p : Int) : NodeF := ⟨8, p, 0, [], false, n, m, 0, nm, 0, 0⟩
def f19 (n md : Int) (nm : ByteArray) (p : Int) : NodeF := ⟨19, p, 0, [], false, n, 0, md, nm, 0, 0⟩
theorem rd_names {l : List Int} {n : Nat} {k n1 m1 n3 md p1 b1 p2 b2 p3 b3 p4 b4 p5 b5 : Int} {nm : ByteArray} (hn : 1 ≤ n) (hn2 : n ≤ 60) (h3 : n3 = 9 ∨ n3 = 10)
    (hl : lexP l 0 = ⟨nTok 0 1 n ++ [tkF 11 0 n1 m1 0 nm p1 b1, tkF 12 0 n1 m1 0 nm p2 b2, tkF 10 0 n3 0 md nm p3 b3, tkF 1 98 0 0 0 (bs []) p4 b4, tkF 8 0 0 0 0 (bs []) p5 b5], 0, 0⟩)
    (hk : 1 ≤ k) (hv : meantP n (nmList 1 n) n m1 n1 nm = k) (hc : condF n (nmList 1 n) ⟨n, 0, 0⟩ (f19 n3 md nm p3) = (⟨19, p3, 0, [], false, 9, 0, k, bs [], 0, 0⟩, ⟨n, 0, 0⟩)) :
    rdP l = ⟨.mk { fZ with kind := 12 } (capsNB (ctxOf 0) (bAnd 0 23) 0 1 n ++ [node7 (bAnd 0 23) k p1, node8 k p2, node19 (ctxOf 0) (bAnd 0 23) k p3 p4]), 0, 0⟩ := by
  have hp := parse_names n hn (tkF 11 0 n1 m1 0 nm p1 b1) (tkF 12 0 n1 m1 0 nm p2 b2) (tkF 10 0 n3 0 md nm p3 b3) (tkF 1 98 0 0 0 (bs []) p4 b4) (tkF 8 0 0 0 0 (bs []) p5 b5) l.length rfl rfl rfl h3 rfl rfl
  have hg : groupN (tkF 10 0 n3 0 md nm p3 b3) [] [oneN 12 [leafN (tkF 1 98 0 0 0 (bs []) p4 b4)]] = .mk (f19 n3 md nm p3) [leafN (tkF 1 98 0 0 0 (bs []) p4 b4)] := by
    unfold groupN
    have e : (tkF 10 0 n3 0 md nm p3 b3).n = n3 := rfl
    rw [e, if_neg (by omega), if_neg (by omega), if_neg (by omega), if_neg (by omega), if_neg (by omega)]
    rfl
  have hl1 : leafN (tkF 11 0 n1 m1 0 nm p1 b1) = .mk (f7 n1 m1 nm p1) [] := rfl
  have hl2 : leafN (tkF 12 0 n1 m1 0 nm p2 b2) = .mk (f8 n1 m1 nm p2) [] := rfl
  rw [hg, hl1, hl2] at hp
  have hfl := flat_row (l := l) (n := n) (E := [.mk (f7 n1 m1 nm p1) [], .mk (f8 n1 m1 nm p2) [], .mk (f19 n3 md nm p3) [leafN (tkF 1 98 0 0 0 (bs []) p4 b4)]])
    (E' := [.mk { f7 n1 m1 nm p1 with on := bAnd (bAnd 0 23) 1 } [], .mk (f8 n1 m1 nm p2) [], .mk (f19 n3 md nm p3) [litX (ctxOf 0) (bAnd 0 23) 98 p4]]) (by simp) rfl (by rw [hl]; exact hp) (by rw [hl]) (by
      rw [rowR, rowR, rowR, rowR, (nodeR_leafG _ _ _).1 rfl]
      simp only
      rw [(nodeR_leafG _ _ _).2 rfl]
      simp only
      rw [nodeR_one _ _ 98 _ _ _ (.inr rfl)]) (by
      intro x hx
      simp only [List.mem_cons, List.mem_nil_iff, or_false] at hx
      rcases hx with rfl | rfl | rfl
      · show (7 : Int) ≠ 12; decide
      · show (8 : Int) ≠ 12; decide
      · show (19 : Int) ≠ 12; decide)
  have hnum := num_row n hn2 [.mk { f7 n1 m1 nm p1 with on := bAnd (bAnd 0 23) 1 } [], .mk (f8 n1 m1 nm p2) [], .mk (f19 n3 md nm p3) [litX (ctxOf 0) (bAnd 0 23) 98 p4]] (by
    intro b
    rw [nbL, nbL, nbL, nbL]
    simp only [Bool.false_eq_true, if_false]
    rw [nbN_leaf (by show (7 : Int) ≠ 14; decide)]
    simp only
    rw [mxP_self, nbN_leaf (by show (8 : Int) ≠ 14; decide)]
    simp only
    rw [mxP_self, nbN_one _ _ _ _ _ _ (by show (19 : Int) ≠ 14; decide)]
    simp only
    rw [mxP_self]) (by
    rw [capsL, capsL, capsL, capsL, capsN_leaf (by show (7 : Int) ≠ 14; decide), capsN_leaf (by show (8 : Int) ≠ 14; decide), capsN_one _ _ _ _ _ (by show (19 : Int) ≠ 14; decide)]
    rfl)
  have hnd : numdP l 0 = (⟨.mk { fZ with kind := 12 } (capsNB (ctxOf 0) (bAnd 0 23) 0 1 n ++ [.mk { f7 n1 m1 nm p1 with on := bAnd (bAnd 0 23) 1 } [], .mk (f8 n1 m1 nm p2) [], .mk (f19 n3 md nm p3) [litX (ctxOf 0) (bAnd 0 23) 98 p4]]), n, nmList 1 n, 0, 0⟩, true) := by
    unfold numdP
    rw [hfl]
    simp only
    rw [if_neg (by decide), hnum]
    rfl
  unfold rdP
  rw [hnd]
  simp only
  rw [if_neg (by decide)]
  unfold resP
  generalize ctxOf 0 = c at *
  generalize bAnd 0 23 = g at *
  have hkc := kidsP_capsN (cnt := (n : Int)) (A := nmList 1 n) c g n 0 1 0 0
  rw [show (1 : Int) - 1 = 0 by decide, Int.zero_add] at hkc
  have h7 : nodeP (n : Int) (nmList 1 n) (.mk { f7 n1 m1 nm p1 with on := bAnd g 1 } []) ⟨n, 0, 0⟩ = (node7 g k p1, ⟨n, 0, 0⟩) := by
    rw [nodeP_leaf _ _ rfl (.inl rfl)]
    have hv' : vN (n : Int) (nmList 1 n) ⟨n, 0, 0⟩ { f7 n1 m1 nm p1 with on := bAnd g 1 } = k := hv
    rw [hv', if_pos (show ({ f7 n1 m1 nm p1 with on := bAnd g 1 } : NodeF).kind = 7 from rfl)]
    unfold setS
    rw [if_neg (by omega)]
    rfl
  have h8 : nodeP (n : Int) (nmList 1 n) (.mk (f8 n1 m1 nm p2) []) ⟨n, 0, 0⟩ = (node8 k p2, ⟨n, 0, 0⟩) := by
    rw [nodeP_leaf _ _ rfl (.inr rfl)]
    have hv' : vN (n : Int) (nmList 1 n) ⟨n, 0, 0⟩ (f8 n1 m1 nm p2) = k := hv
    rw [hv', if_neg (by show ¬ (8 : Int) = 7; decide)]
    unfold setS
    rw [if_neg (by omega)]
    rfl
  have h19 : nodeP (n : Int) (nmList 1 n) (.mk (f19 n3 md nm p3) [litX c g 98 p4]) ⟨n, 0, 0⟩ = (node19 c g k p3 p4, ⟨n, 0, 0⟩) := by
    rw [nodeP, if_neg (by simp)]
    have hh : headP (n : Int) (nmList 1 n) (f19 n3 md nm p3) ⟨n, 0, 0⟩ = (⟨19, p3, 0, [], false, 9, 0, k, bs [], 0, 0⟩, ⟨n, 0, 0⟩) := by
      unfold headP
      rw [if_neg (by show ¬ (19 : Int) = 14; decide), if_neg (by show ¬ (19 : Int) = 7; decide), if_neg (by show ¬ (19 : Int) = 8; decide), if_pos (by rfl)]
      exact hc
    rw [hh, kidsP, kidsP]
    simp only
    have h3 : (if decide ((f19 n3 md nm p3).kind = 16) = true then (⟨n, 0, 0⟩ : Rs) else ⟨n, 0, 0⟩) = ⟨n, 0, 0⟩ := by split <;> rfl
    rw [h3, nodeP_litX c g 98 _ _ rfl]
    simp only
    rw [if_neg (by show ¬ (19 : Int) = 16; decide)]
    rfl
  have hnode : nodeP (n : Int) (nmList 1 n) (.mk { fZ with kind := 12 } (capsNB c g 0 1 n ++ [.mk { f7 n1 m1 nm p1 with on := bAnd g 1 } [], .mk (f8 n1 m1 nm p2) [], .mk (f19 n3 md nm p3) [litX c g 98 p4]])) ⟨0, 0, 0⟩ =
      (.mk { fZ with kind := 12 } (capsNB c g 0 1 n ++ [node7 g k p1, node8 k p2, node19 c g k p3 p4]), ⟨n, 0, 0⟩) := by
    rw [nodeP, if_neg (by decide), head12P]
    simp only
    rw [head12.2.2, kidsP_app, hkc]
    simp only
    rw [kidsP, kidsP, kidsP, kidsP]
    simp only [Bool.false_eq_true, if_false]
    rw [h7]
    simp only
    rw [h8]
    simp only
    rw [h19]
    simp only
    rw [if_neg (by decide)]
  rw [hnode]
  simp only
  rw [if_neg (by decide)]
/-- A reference to a name that is none. -/
theorem rd_none {l : List Int} {n : Nat} {p b : Int} (hn : 1 ≤ n) (hn2 : n ≤ 60) (hl : lexP l 0 = ⟨nTok 0 1 n ++ [tkF 11 0 0 3 0 (strOfNums [109]) p b], 0, 0⟩) : rdP l = ⟨nodeZ, 34, p⟩ := by
  have hp := parse_name1 n (tkF 11 0 0 3 0 (strOfNums [109]) p b) l.length (.inl rfl)
  have hl1 : leafN (tkF 11 0 0 3 0 (strOfNums [109]) p b) = .mk (f7 0 3 (strOfNums [109]) p) [] := rfl
  rw [hl1] at hp
  have hfl := flat_row (l := l) (n := n) (E := [.mk (f7 0 3 (strOfNums [109]) p) []]) (E' := [.mk { f7 0 3 (strOfNums [109]) p with on := bAnd (bAnd 0 23) 1 } []]) (by simp; omega) rfl (by rw [hl]; exact hp) (by rw [hl]) (by
      rw [rowR, rowR, (nodeR_leafG _ _ _).1 rfl]) (by
      intro x hx
      simp only [List.mem_cons, List.mem_nil_iff, or_false] at hx
      subst hx
      show (7 : Int) ≠ 12; decide)
  have hnum := num_row n hn2 [.mk { f7 0 3 (strOfNums [109]) p with on := bAnd (bAnd 0 23) 1 } []] (by
    intro b
    rw [nbL, nbL]
    simp only [Bool.false_eq_true, if_false]
    rw [nbN_leaf (by show (7 : Int) ≠ 14; decide)]
    simp only
    rw [mxP_self]) (by
    rw [capsL, capsL, capsN_leaf (by show (7 : Int) ≠ 14; decide)]
    rfl)
  have hnd : numdP l 0 = (⟨.mk { fZ with kind := 12 } (capsNB (ctxOf 0) (bAnd 0 23) 0 1 n ++ [.mk { f7 0 3 (strOfNums [109]) p with on := bAnd (bAnd 0 23) 1 } []]), n, nmList 1 n, 0, 0⟩, true) := by
    unfold numdP
    rw [hfl]
    simp only
    rw [if_neg (by decide), hnum]
    rfl
  unfold rdP
  rw [hnd]
  simp only
  rw [if_neg (by decide)]
  unfold resP
  generalize ctxOf 0 = c at *
  generalize bAnd 0 23 = g at *
  have hkc := kidsP_capsN (cnt := (n : Int)) (A := nmList 1 n) c g n 0 1 0 0
  rw [show (1 : Int) - 1 = 0 by decide, Int.zero_add] at hkc
  have hv : meantP (n : Int) (nmList 1 n) n 3 0 (strOfNums [109]) = -1 := by
    unfold meantP
    rw [if_pos rfl, find_m n 1 (by decide) (by omega)]
    rfl
  have h7 : (nodeP (n : Int) (nmList 1 n) (.mk { f7 0 3 (strOfNums [109]) p with on := bAnd g 1 } []) ⟨n, 0, 0⟩).2 = ⟨n, 34, p⟩ := by
    rw [nodeP_leaf _ _ rfl (.inl rfl)]
    have hv' : vN (n : Int) (nmList 1 n) ⟨n, 0, 0⟩ { f7 0 3 (strOfNums [109]) p with on := bAnd g 1 } = -1 := hv
    rw [hv', if_pos (show ({ f7 0 3 (strOfNums [109]) p with on := bAnd g 1 } : NodeF).kind = 7 from rfl)]
    rfl
  have hnode : (nodeP (n : Int) (nmList 1 n) (.mk { fZ with kind := 12 } (capsNB c g 0 1 n ++ [.mk { f7 0 3 (strOfNums [109]) p with on := bAnd g 1 } []])) ⟨0, 0, 0⟩).2 = ⟨n, 34, p⟩ := by
    rw [nodeP, if_neg (by decide), head12P]
    simp only
    rw [head12.2.2, if_neg (by decide), kidsP_app, hkc]
    simp only
    rw [kidsP, kidsP]
    simp only [Bool.false_eq_true, if_false]
    exact h7
  rw [hnode]
  simp only
  rw [if_pos (by decide)]
mutual
theorem eqA_self : ∀ n : Node, eqA n n
  | .mk f ks => by rw [eqA]; exact ⟨rfl, eqAL_self ks⟩
theorem eqAL_self : ∀ l : List Node, eqAL l l
  | [] => by rw [eqAL]; trivial
  | k :: l => by rw [eqAL]; exact ⟨eqA_self k, eqAL_self l⟩
end
theorem eqAL_app : ∀ {a b c d : List Node}, eqAL a b → eqAL c d → eqAL (a ++ c) (b ++ d)
  | [], [], c, d, _, h => h
  | [], _ :: _, c, d, h, _ => by rw [eqAL] at h; exact h.elim
  | _ :: _, [], c, d, h, _ => by rw [eqAL] at h; exact h.elim
  | x :: a, y :: b, c, d, h, h2 => by
    rw [eqAL] at h
    rw [List.cons_append, List.cons_append, eqAL]
    exact ⟨h.1, eqAL_app h.2 h2⟩
theorem litX_ok (c : Ctx) (g ch i : Int) : (litX c g ch i).all SetOk ∧ (litX c g ch i).w ≤ 2 := by
  have hp := setP_len c [(ch, ch)] (bAnd g 1 != 0) false
  simp only [List.length_cons, List.length_nil] at hp
  unfold litX setN
  rw [Node.all, allN, Node.w, wN]
  exact ⟨⟨by show (setP c [(ch, ch)] (bAnd g 1 != 0) false).length ≤ 4000000000; omega, trivial⟩, by omega⟩
theorem capsNB_ok (c : Ctx) (g : Int) : ∀ (m : Nat) (i k : Int), allN SetOk (capsNB c g i k m) ∧ wN (capsNB c g i k m) ≤ 4 * m
  | 0, i, k => by rw [capsNB, allN, wN]; exact ⟨trivial, by omega⟩
  | m + 1, i, k => by
    have h := capsNB_ok c g m (i + 6 + (nw k).length) (k + 1)
    have hl := litX_ok c g 97 (i + 4 + (nw k).length)
    rw [capsNB, allN, wN, Node.all, Node.w, allN, wN]
    refine ⟨⟨⟨Nat.zero_le _, hl.1, by rw [allN]; trivial⟩, h.1⟩, ?_⟩
    have : wN [] = 0 := by rw [wN]
    omega
theorem nm_snoc : ∀ (m : Nat) (k : Int), nmPat k (m + 1) = nmPat k m ++ (40 :: 63 :: 60 :: (nw (k + m) ++ [62, 97, 41]))
  | 0, k => by
    rw [nmPat, nmPat, nmPat, List.nil_append]
    simp
  | m + 1, k => by
    rw [nmPat, nm_snoc m (k + 1), nmPat, show k + 1 + (m : Int) = k + ((m + 1 : Nat) : Int) by omega]
    simp
end Go.Proofs.Ytnoohgiecnmajaa.VC

/- The laws of references: RefsNames. -/
namespace Go.Proofs.Ytnoohgiecnmajaa.VC
open Go Go.RowKit
set_option linter.unusedVariables false
set_option linter.unusedSimpArgs false
set_option maxHeartbeats 4000000

attribute [local irreducible] rdP nmPat dig bAnd
set_option maxHeartbeats 16000000
theorem nw_is (k : Int) : ({ data := #[110] } : ByteArray) ++ strOfNums (dig k) = strOfNums (nw k) := by
  unfold nw
  rw [show (110 :: dig k) = [110] ++ dig k from rfl, ← strOf_app]
  rfl
theorem names10_c (n k0 : Int) (hk0 : -9223372036854775808 ≤ k0 ∧ k0 ≤ 9223372036854775807) : VCalls Try.prog 11 [iv n, iv k0] (fun r => r = bv true) := by
  refine VCalls.ofr tabOk Try.func11 (by decide) rfl rfl ?_
  refine RWP.seqx tabOk orders ?_
  conv => whnf
  refine RWP.seqx tabOk orders ?_
  repeat' ((conv => whnf); (first
    | (with_reducible first | refine Spl.yes ?_ | refine Spl.no ?_ | refine Spl.dec (fun h => ?_) (fun h => ?_) | refine Spl.eq (fun h => ?_) (fun h => ?_) | refine Spl.ne (fun h => ?_) (fun h => ?_) | refine Spl.seq (fun h => ?_) (fun h => ?_) | refine Spl.not ?_ | refine Spl.any (fun h => ?_) (fun h => ?_))
    | (refine VCalls.mono (awake10_c) ?_; rintro _ rfl)
    | ((with_reducible apply And.intro); first | omega | rfl | (dsimp only; omega))))
  all_goals (conv => whnf)
  refine RWP.seqx tabOk orders ?_
  repeat' ((conv => whnf); (first
    | (with_reducible first | refine Spl.yes ?_ | refine Spl.no ?_ | refine Spl.dec (fun h => ?_) (fun h => ?_) | refine Spl.eq (fun h => ?_) (fun h => ?_) | refine Spl.ne (fun h => ?_) (fun h => ?_) | refine Spl.seq (fun h => ?_) (fun h => ?_) | refine Spl.not ?_ | refine Spl.any (fun h => ?_) (fun h => ?_))
    | ((with_reducible apply And.intro); first | omega | rfl | (dsimp only; omega))))
  all_goals (conv => whnf)
  refine RWP.cut (fun st => 1 ≤ n ∧ n ≤ 30 ∧ st = ⟨111, [(0, .pv (iv n)), (1, .pv (iv k0))], [], [], []⟩) tabOk orders ?_ ?_
  · repeat' ((conv => whnf); (first
    | (with_reducible first | refine Spl.yes ?_ | refine Spl.no ?_ | refine Spl.dec (fun h => ?_) (fun h => ?_) | refine Spl.eq (fun h => ?_) (fun h => ?_) | refine Spl.ne (fun h => ?_) (fun h => ?_) | refine Spl.seq (fun h => ?_) (fun h => ?_) | refine Spl.not ?_ | refine Spl.any (fun h => ?_) (fun h => ?_))
    | ((with_reducible apply And.intro); first | omega | rfl | (dsimp only; omega))))
    all_goals (conv => whnf)
    all_goals first
      | rfl
      | exact ⟨_, Wk.narrow _ [0, 1] [] [], by omega, by omega, rfl⟩
  rintro _ ⟨h1n, h30, rfl⟩
  refine RWP.cut (fun st => st = ⟨111, [(0, .pv (iv n)), (1, .pv (iv (if k0 < 0 then -(k0 + 1) else k0)))], [], [], []⟩) tabOk orders ?_ ?_
  · repeat' ((conv => whnf); (first
    | (with_reducible first | refine Spl.yes ?_ | refine Spl.no ?_ | refine Spl.dec (fun h => ?_) (fun h => ?_) | refine Spl.eq (fun h => ?_) (fun h => ?_) | refine Spl.ne (fun h => ?_) (fun h => ?_) | refine Spl.seq (fun h => ?_) (fun h => ?_) | refine Spl.not ?_ | refine Spl.any (fun h => ?_) (fun h => ?_))
    | ((with_reducible apply And.intro); first | omega | rfl | (dsimp only; omega))))
    all_goals (conv => whnf)
    · rw [if_pos (by assumption)]
      exact ⟨_, Wk.narrow _ [0, 1] [] [], by rw [show -(k0 + 1) = 0 - (k0 + 1) by omega]; rfl⟩
    · rw [if_neg (by assumption)]
      exact ⟨_, Wk.narrow _ [0, 1] [] [], rfl⟩
  rintro _ rfl
  have hk1 : 0 ≤ (if k0 < 0 then -(k0 + 1) else k0) ∧ (if k0 < 0 then -(k0 + 1) else k0) ≤ 9223372036854775807 := by split <;> omega
  generalize (if k0 < 0 then -(k0 + 1) else k0) = k1 at *
  have hm0 := Int.emod_nonneg k1 (show n ≠ 0 by omega)
  have hm1 := Int.emod_lt_of_pos k1 (show 0 < n by omega)
  refine RWP.seqx tabOk orders ?_
  repeat' ((conv => whnf); (first
    | (with_reducible first | refine Spl.yes ?_ | refine Spl.no ?_ | refine Spl.dec (fun h => ?_) (fun h => ?_) | refine Spl.eq (fun h => ?_) (fun h => ?_) | refine Spl.ne (fun h => ?_) (fun h => ?_) | refine Spl.seq (fun h => ?_) (fun h => ?_) | refine Spl.not ?_ | refine Spl.any (fun h => ?_) (fun h => ?_))
    | ((with_reducible apply And.intro); first | omega | rfl | (dsimp only; omega))))
  all_goals (conv => whnf)
  refine RWP.weak (Wk.narrow _ [0, 1] [] []) ?_
  obtain ⟨k, hk⟩ : ∃ k, 1 + k1 % n = k := ⟨_, rfl⟩
  have hkr : 1 ≤ k ∧ k ≤ n := by omega
  rw [hk]
  obtain ⟨N, hN⟩ : ∃ N : Nat, n = N := ⟨n.toNat, by omega⟩
  subst hN
  have hd1 := digits_c k (by omega)
  have z1 := strOf_sz (dig k)
  have z2 := strOf_sz (nw k)
  have l1 := dig_len2 k
  have l2 := nw_len (k := k)
  have b1 := dig_bytes (k := k) (by omega)
  have b2 := nw_bytes (k := k) (by omega)
  have bn := nm_bytes N 1 (by omega) (by omega)
  have e1 : numsOf (((((((strOfNums (nmPat 1 N) ++ { data := #[92, 107, 60] }) ++ strOfNums (nw k)) ++ { data := #[62, 40, 63, 38] }) ++ strOfNums (nw k)) ++ { data := #[41, 40, 63, 40, 60] }) ++ strOfNums (nw k)) ++ { data := #[62, 41, 98, 41] }) = nmPat 1 N ++ tA k := by
    rw [nums_app, nums_app, nums_app, nums_app, nums_app, nums_app, nums_app, nums_strOf bn, nums_strOf b2]
    show ((((((nmPat 1 N ++ [92, 107, 60]) ++ nw k) ++ [62, 40, 63, 38]) ++ nw k) ++ [41, 40, 63, 40, 60]) ++ nw k) ++ [62, 41, 98, 41] = _
    unfold tA
    simp
  have e2 : numsOf (((((((strOfNums (nmPat 1 N) ++ { data := #[92, 103, 123] }) ++ strOfNums (dig k)) ++ { data := #[125, 40, 63] }) ++ strOfNums (dig k)) ++ { data := #[41, 40, 63, 40] }) ++ strOfNums (dig k)) ++ { data := #[41, 98, 41] }) = nmPat 1 N ++ tB k := by
    rw [nums_app, nums_app, nums_app, nums_app, nums_app, nums_app, nums_app, nums_strOf bn, nums_strOf b1]
    show ((((((nmPat 1 N ++ [92, 103, 123]) ++ dig k) ++ [125, 40, 63]) ++ dig k) ++ [41, 40, 63, 40]) ++ dig k) ++ [41, 98, 41] = _
    unfold tB
    simp
  have e3 : numsOf (strOfNums (nmPat 1 N) ++ { data := #[92, 107, 60, 109, 62] }) = nmPat 1 N ++ tC := by
    rw [nums_app, nums_strOf bn]
    rfl
  have hr1 := resolved_c (((((((strOfNums (nmPat 1 N) ++ { data := #[92, 107, 60] }) ++ strOfNums (nw k)) ++ { data := #[62, 40, 63, 38] }) ++ strOfNums (nw k)) ++ { data := #[41, 40, 63, 40, 60] }) ++ strOfNums (nw k)) ++ { data := #[62, 41, 98, 41] })
  have hr2 := resolved_c (((((((strOfNums (nmPat 1 N) ++ { data := #[92, 103, 123] }) ++ strOfNums (dig k)) ++ { data := #[125, 40, 63] }) ++ strOfNums (dig k)) ++ { data := #[41, 40, 63, 40] }) ++ strOfNums (dig k)) ++ { data := #[41, 98, 41] })
  have hr3 := resolved_c (strOfNums (nmPat 1 N) ++ { data := #[92, 107, 60, 109, 62] })
  rw [e1] at hr1
  rw [e2] at hr2
  rw [e3] at hr3
  obtain ⟨p1, q1, p2, q2, p3, q3, p4, q4, p5, q5, x1⟩ := lexA N k (by omega) (by omega)
  obtain ⟨r1, s1, r2, s2, r3, s3, r4, s4, r5, s5, x2⟩ := lexB N k (by omega) (by omega)
  obtain ⟨p, q, hp0, x3⟩ := lexC N (by omega) (by omega)
  have fk := find_nm (k := k) (by omega) N 1 (by omega) (by omega) (by omega)
  have v1 : meantP N (nmList 1 N) N 3 0 (strOfNums (nw k)) = k := by unfold meantP; rw [if_pos rfl, fk]; rfl
  have v2 : meantP N (nmList 1 N) N 0 k (bs []) = k := by unfold meantP; rw [if_neg (show ¬ (0 : Int) = 3 by decide), if_neg (show ¬ (0 : Int) = 1 by decide), if_neg (show ¬ (0 : Int) = 2 by decide), if_neg (by omega)]
  have y1 := rd_names (k := k) (by omega) (by omega) (.inr rfl) x1 (by omega) v1 (by
    unfold condF
    rw [if_neg (show ¬ (f19 10 0 (strOfNums (nw k)) p3).n = 11 by show ¬ (10 : Int) = 11; decide), if_pos (show (f19 10 0 (strOfNums (nw k)) p3).n = 10 from rfl)]
    have hv : vM (N : Int) (nmList 1 N) ⟨N, 0, 0⟩ { f19 10 0 (strOfNums (nw k)) p3 with n := 9, m := 3 } = k := v1
    rw [hv]
    unfold setS
    rw [if_neg (by omega)]
    rfl)
  have y2 := rd_names (k := k) (by omega) (by omega) (.inl rfl) x2 (by omega) v2 (by
    unfold condF
    rw [if_neg (show ¬ (f19 9 k (bs []) r3).n = 11 by show ¬ (9 : Int) = 11; decide), if_neg (show ¬ (f19 9 k (bs []) r3).n = 10 by show ¬ (9 : Int) = 10; decide), if_pos (show (f19 9 k (bs []) r3).n = 9 from rfl)]
    have hv : vM (N : Int) (nmList 1 N) ⟨N, 0, 0⟩ (f19 9 k (bs []) r3) = k := v2
    rw [hv]
    unfold setS
    rw [if_neg (by omega)]
    rfl)
  have y3 := rd_none (by omega) (by omega) x3
  rw [y1] at hr1
  rw [y2] at hr2
  rw [y3] at hr3
  have hsA : Sm2C (.mk { fZ with kind := 12 } (capsNB (ctxOf 0) (bAnd 0 23) 0 1 N ++ [node7 (bAnd 0 23) k p1, node8 k p2, node19 (ctxOf 0) (bAnd 0 23) k p3 p4])) (.mk { fZ with kind := 12 } (capsNB (ctxOf 0) (bAnd 0 23) 0 1 N ++ [node7 (bAnd 0 23) k r1, node8 k r2, node19 (ctxOf 0) (bAnd 0 23) k r3 r4])) := by
    generalize ctxOf 0 = c
    generalize bAnd 0 23 = g
    have hw := capsNB_ok c g N 0 1
    have hx := litX_ok c g 98 p4
    refine same2_c _ _ _ (Nat.le_refl _) ?_ ?_ ?_
    · rw [Node.w, wN_app]
      unfold node7 node8 node19
      simp only [wN, Node.w]
      omega
    · rw [Node.all]
      refine ⟨Nat.zero_le _, allN_app hw.1 ?_⟩
      unfold node7 node8 node19
      simp only [allN, Node.all]
      exact ⟨⟨Nat.zero_le _, trivial⟩, ⟨Nat.zero_le _, trivial⟩, ⟨Nat.zero_le _, hx.1, trivial⟩, trivial⟩
    · rw [eqA]
      refine ⟨rfl, eqAL_app (eqAL_self _) ?_⟩
      unfold node7 node8 node19 litX setN
      simp only [eqA, eqAL, and_true]
  unfold Sm2C at hsA
  clear x1 x2 x3 y1 y2 y3 v1 v2 fk e1 e2 e3 b1 b2 bn
  generalize capsNB (ctxOf 0) (bAnd 0 23) 0 1 N ++ [node7 (bAnd 0 23) k p1, node8 k p2, node19 (ctxOf 0) (bAnd 0 23) k p3 p4] = KA at *
  generalize capsNB (ctxOf 0) (bAnd 0 23) 0 1 N ++ [node7 (bAnd 0 23) k r1, node8 k r2, node19 (ctxOf 0) (bAnd 0 23) k r3 r4] = KB at *
  generalize ({ fZ with kind := 12 } : NodeF) = f0 at *
  unfold nodeZ at hr3
  refine RWP.seqx tabOk orders ?_
  conv => whnf
  refine RWP.seq ?_
  refine RWP.seqx tabOk orders ?_
  conv => whnf
  refine RWP.block ?_
  refine RWP.loop (fun q st => ∃ (j : Nat), st = ⟨111, [(0, .pv (iv N)), (1, .pv (iv k)), (6, .pv (sv (strOfNums (nmPat 1 j)))), (7, .pv (iv (1 + j)))], [], [], []⟩ ∧ j ≤ N ∧ q = N - j)
    ⟨_, _, Wk.narrow _ [0, 1, 6, 7] [] [], 0, Eq.trans rfl (congrArg (fun (X : ByteArray) => (⟨111, [(0, .pv (iv N)), (1, .pv (iv k)), (6, .pv (sv X)), (7, .pv (iv 1))], [], [], []⟩ : St)) (show ({ data := #[] } : ByteArray) = strOfNums (nmPat 1 0) by rw [nmPat]; rfl)), by omega, rfl⟩ ?_
  rintro q st ⟨j, rfl, hj, hq⟩
  have hfs := strOf_sz (nmPat 1 j)
  have hnl := nm_len j 1
  refine RWP.seqx tabOk orders ?_
  repeat' ((conv => whnf); (first
    | (with_reducible first | refine Spl.yes ?_ | refine Spl.no ?_ | refine Spl.dec (fun h => ?_) (fun h => ?_) | refine Spl.eq (fun h => ?_) (fun h => ?_) | refine Spl.ne (fun h => ?_) (fun h => ?_) | refine Spl.seq (fun h => ?_) (fun h => ?_) | refine Spl.not ?_ | refine Spl.any (fun h => ?_) (fun h => ?_))
    | ((with_reducible apply And.intro); first | omega | rfl | (dsimp only; omega))))
  all_goals (conv => whnf)
  rotate_left
  · have e : j = N := by omega
    subst e
    generalize strOfNums (nmPat 1 j) = P at *
    have hnw := nw_is k
    generalize strOfNums (dig k) = D1 at *
    generalize strOfNums (nw k) = W1 at *
    have y0 : ({ data := #[110] } : ByteArray).size = 1 := rfl
    have y1 : ({ data := #[92, 107, 60] } : ByteArray).size = 3 := rfl
    have y2 : ({ data := #[62, 40, 63, 38] } : ByteArray).size = 4 := rfl
    have y3 : ({ data := #[41, 40, 63, 40, 60] } : ByteArray).size = 5 := rfl
    have y4 : ({ data := #[62, 41, 98, 41] } : ByteArray).size = 4 := rfl
    have y5 : ({ data := #[92, 103, 123] } : ByteArray).size = 3 := rfl
    have y6 : ({ data := #[125, 40, 63] } : ByteArray).size = 3 := rfl
    have y7 : ({ data := #[41, 40, 63, 40] } : ByteArray).size = 4 := rfl
    have y8 : ({ data := #[41, 98, 41] } : ByteArray).size = 3 := rfl
    have y9 : ({ data := #[92, 107, 60, 109, 62] } : ByteArray).size = 5 := rfl
    refine RWP.cut (fun st => st = ⟨111, [(0, .pv (iv j)), (1, .pv (iv k)), (6, .pv (sv P)), (8, .pv (sv W1))], [], [], []⟩) tabOk orders ?_ ?_
    · repeat' ((conv => whnf); (first
    | (with_reducible first | refine Spl.yes ?_ | refine Spl.no ?_ | refine Spl.dec (fun h => ?_) (fun h => ?_) | refine Spl.eq (fun h => ?_) (fun h => ?_) | refine Spl.ne (fun h => ?_) (fun h => ?_) | refine Spl.seq (fun h => ?_) (fun h => ?_) | refine Spl.not ?_ | refine Spl.any (fun h => ?_) (fun h => ?_))
    | (refine VCalls.mono (hd1) ?_; rintro _ rfl)
    | refine And.intro (show _ ≤ (9223372036854775807 : Nat) by simp only [ByteArray.size_append, y0]; omega) ?_
    | ((with_reducible apply And.intro); first | omega | rfl | (dsimp only; omega))))
      all_goals (conv => whnf)
      rw [← hnw]
      exact ⟨_, Wk.narrow _ [0, 1, 6, 8] [] [], rfl⟩
    rintro _ rfl
    refine RWP.of tabOk orders ?_
    repeat' ((conv => whnf); (first
    | (with_reducible first | refine Spl.yes ?_ | refine Spl.no ?_ | refine Spl.dec (fun h => ?_) (fun h => ?_) | refine Spl.eq (fun h => ?_) (fun h => ?_) | refine Spl.ne (fun h => ?_) (fun h => ?_) | refine Spl.seq (fun h => ?_) (fun h => ?_) | refine Spl.not ?_ | refine Spl.any (fun h => ?_) (fun h => ?_))
    | (refine VCalls.mono (hd1) ?_; rintro _ rfl)
    | (refine VCalls.mono (hr1) ?_; rintro _ rfl)
    | (refine VCalls.mono (hr2) ?_; rintro _ rfl)
    | (refine VCalls.mono (hr3) ?_; rintro _ rfl)
    | (refine VCalls.mono (hsA) ?_; rintro _ rfl)
    | refine drawn_text (by decide +kernel) ?_
    | refine And.intro (Nat.le_of_ble_eq_true rfl) ?_
    | refine And.intro (show _ ≤ (9223372036854775807 : Nat) by simp only [ByteArray.size_append, y0, y1, y2, y3, y4, y5, y6, y7, y8, y9]; omega) ?_
    | ((with_reducible apply And.intro); first | omega | rfl | (dsimp only; omega))))
    all_goals (conv => whnf)
    all_goals first
      | (exfalso; exact absurd rfl (by assumption))
      | rfl
      | (simp only [decide_eq_true (show p > 0 from hp0)]; rfl)
  have hdj := digits_c (1 + (j : Int)) (by omega)
  have zj := strOf_sz (dig (1 + (j : Int)))
  have lj := dig_len2 (1 + (j : Int))
  have hsn := nm_snoc j 1
  have hstr : strOfNums (nmPat 1 j) ++ (({ data := #[40, 63, 60, 110] } ++ strOfNums (dig (1 + (j : Int)))) ++ { data := #[62, 97, 41] }) = strOfNums (nmPat 1 (j + 1)) := by
    rw [hsn, ← strOf_app]
    congr 1
    have : (40 :: 63 :: 60 :: (nw (1 + (j : Int)) ++ [62, 97, 41])) = ([40, 63, 60, 110] ++ dig (1 + (j : Int))) ++ [62, 97, 41] := by unfold nw; simp
    rw [this, ← strOf_app, ← strOf_app]
    rfl
  generalize strOfNums (dig (1 + (j : Int))) = DJ at *
  generalize strOfNums (nmPat 1 j) = PJ at *
  have y1 : ({ data := #[40, 63, 60, 110] } : ByteArray).size = 4 := rfl
  have y2 : ({ data := #[62, 97, 41] } : ByteArray).size = 3 := rfl
  refine RWP.of tabOk orders ?_
  repeat' ((conv => whnf); (first
    | (with_reducible first | refine Spl.yes ?_ | refine Spl.no ?_ | refine Spl.dec (fun h => ?_) (fun h => ?_) | refine Spl.eq (fun h => ?_) (fun h => ?_) | refine Spl.ne (fun h => ?_) (fun h => ?_) | refine Spl.seq (fun h => ?_) (fun h => ?_) | refine Spl.not ?_ | refine Spl.any (fun h => ?_) (fun h => ?_))
    | (refine VCalls.mono (hdj) ?_; rintro _ rfl)
    | refine And.intro (show _ ≤ (9223372036854775807 : Nat) by simp only [ByteArray.size_append, y1, y2]; omega) ?_
    | ((with_reducible apply And.intro); first | omega | rfl | (dsimp only; omega))))
  all_goals (conv => whnf)
  exact ⟨N - (j + 1), _, by omega, Wk.narrow _ [0, 1, 6, 7] [] [], j + 1, Eq.trans rfl (congrArg (fun (X : ByteArray × Int) => (⟨111, [(0, .pv (iv N)), (1, .pv (iv k)), (6, .pv (sv X.1)), (7, .pv (iv X.2))], [], [], []⟩ : St)) (show ((PJ ++ (({ data := #[40, 63, 60, 110] } ++ DJ) ++ { data := #[62, 97, 41] }), 1 + (j : Int) + 1) : ByteArray × Int) = (strOfNums (nmPat 1 (j + 1)), 1 + ((j + 1 : Nat) : Int)) from Prod.ext hstr (show 1 + (j : Int) + 1 = 1 + ((j + 1 : Nat) : Int) by omega))), by omega, rfl⟩
end Go.Proofs.Ytnoohgiecnmajaa.VC

