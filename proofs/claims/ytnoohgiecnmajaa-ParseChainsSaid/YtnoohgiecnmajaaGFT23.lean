/- A part of the ground of the proof. No condition. -/
import Derived.Test.YtnoohgiecnmajaaGFT21

/- parse: things of their own, one behind the other (plain). -/
namespace Go.Proofs.Ytnoohgiecnmajaa.VC
open Go Go.RowKit
set_option linter.unusedVariables false
set_option linter.unusedSimpArgs false
set_option maxHeartbeats 4000000

theorem lexTo_one {x : Text} (hu : x.utf = false) (hx : x.x = false) {i c b : Int} {r : List Int} {t : Tok} (h0 : 0 ≤ i) (h : (numsOf x.s).drop i.toNat = c :: r) (hc : c ≠ 92) (hb : i < b) (ht : tokC x i c (i + 1) = tokG t i b) : LexTo x i b [{ t with at_ := i, to := b }] := by
  intro K out hK
  obtain ⟨b1, b2, b3⟩ := byte_drop h0 h
  obtain ⟨K, rfl⟩ : ∃ m, K = m + 1 := ⟨K - 1, by omega⟩
  exact ⟨K, by omega, lex_step hu hx h0 h hc ht⟩
/-- A character that is itself. -/
theorem lexTo_lit {x : Text} (hu : x.utf = false) (hx : x.x = false) {i c : Int} {r : List Int} (h0 : 0 ≤ i) (h : (numsOf x.s).drop i.toNat = c :: r) (hc : 97 ≤ c ∧ c ≤ 122) : LexTo x i (i + 1) [tq 1 0 c [] i (i + 1)] := by
  refine lexTo_one hu hx h0 h (by omega) (by omega) (t := { tokZ with kind := 1, c := c }) ?_
  unfold tokC litG
  rw [if_neg (by omega), if_neg (by omega), if_neg (by omega), if_neg (by omega), if_neg (by omega), if_neg (by omega), if_neg (by omega), if_neg (by omega), if_neg (by omega), if_neg (by omega), if_neg (by omega), if_neg (by omega)]
theorem lexTo_dot {x : Text} (hu : x.utf = false) (hx : x.x = false) {i : Int} {r : List Int} (h0 : 0 ≤ i) (h : (numsOf x.s).drop i.toNat = 46 :: r) : LexTo x i (i + 1) [tq 3 0 0 [] i (i + 1)] := by
  refine lexTo_one hu hx h0 h (by omega) (by omega) (t := { tokZ with kind := 3 }) ?_
  unfold tokC
  rw [if_neg (by decide), if_neg (by decide), if_neg (by decide), if_pos rfl]
theorem lexTo_bar {x : Text} (hu : x.utf = false) (hx : x.x = false) {i : Int} {r : List Int} (h0 : 0 ≤ i) (h : (numsOf x.s).drop i.toNat = 124 :: r) : LexTo x i (i + 1) [tq 7 0 0 [] i (i + 1)] := by
  refine lexTo_one hu hx h0 h (by omega) (by omega) (t := { tokZ with kind := 7 }) ?_
  unfold tokC
  rw [if_neg (by decide), if_neg (by decide), if_neg (by decide), if_neg (by decide), if_neg (by decide), if_neg (by decide), if_pos rfl]
theorem lexTo_close {x : Text} (hu : x.utf = false) (hx : x.x = false) {i : Int} {r : List Int} (h0 : 0 ≤ i) (h : (numsOf x.s).drop i.toNat = 41 :: r) : LexTo x i (i + 1) [tq 8 0 0 [] i (i + 1)] := by
  refine lexTo_one hu hx h0 h (by omega) (by omega) (t := { tokZ with kind := 8 }) ?_
  unfold tokC
  rw [if_neg (by decide), if_neg (by decide), if_neg (by decide), if_neg (by decide), if_neg (by decide), if_neg (by decide), if_neg (by decide), if_pos rfl]
/-- A bracket with a question mark and a letter behind it. -/
theorem lexTo_openQ {x : Text} (hu : x.utf = false) (hx : x.x = false) {i b c kn : Int} {r : List Int} {p : ByteArray} {l1 l2 : List (ByteArray × Int)} (h0 : 0 ≤ i) (h : (numsOf x.s).drop i.toNat = 40 :: 63 :: b :: c :: r) (hp : numsOf p = [b]) (hl : openList = l1 ++ (p, kn) :: l2) (hn : ∀ q ∈ l1, ∃ c r, numsOf q.1 = c :: r ∧ c ≠ b) :
    LexTo x i (i + 3) [tq 10 kn 0 [] i (i + 3)] := by
  refine lexTo_one hu hx h0 h (by omega) (by omega) (t := { tokZ with kind := 10, n := kn }) ?_
  obtain ⟨b1, b2, b3⟩ := byte_drop h0 h
  obtain ⟨c1, c2, c3⟩ := byte_drop (by omega) b3
  obtain ⟨d1, d2, d3⟩ := byte_drop (by omega) c3
  obtain ⟨g1, g2, g3⟩ := byte_drop (by omega) d3
  rw [show i + 1 + 1 = i + 2 by omega] at c3 d2
  have e1 : isP x.s (i + 1) (bs [42]) = false := by rw [isP_pre _ _ _ (by omega) (by decide), b3]; rfl
  have e2 : isP x.s (i + 1) (bs [63]) = true := by rw [isP_pre _ _ _ (by omega) (by decide), b3]; rfl
  have key : ∀ l g, (∀ q ∈ l, ∃ c r, numsOf q.1 = c :: r ∧ c ≠ b) → openL x i (i + 2) g (l ++ (p, kn) :: l2) = tokG { tokZ with kind := 10, n := kn } i (i + 2 + p.size) := by
    intro l g
    induction l with
    | nil =>
      intro _
      have hpz : p.size ≠ 0 := by rw [← numsOf_len, hp]; simp
      rw [List.nil_append, openL, if_pos]
      rw [isP_pre _ _ _ (by omega) hpz, c3, hp]
      simp [List.isPrefixOf]
    | cons q l ih =>
      intro hq
      obtain ⟨c0, r0, hq1, hq2⟩ := hq q (List.mem_cons_self ..)
      have hqz : q.1.size ≠ 0 := by rw [← numsOf_len, hq1]; simp
      rw [List.cons_append, openL, if_neg]
      · exact ih (fun q hq' => hq q (List.mem_cons_of_mem _ hq'))
      · rw [isP_pre _ _ _ (by omega) hqz, c3, hq1]
        simp [List.isPrefixOf, hq2]
  unfold tokC
  rw [if_neg (by decide), if_neg (by decide), if_pos rfl]
  unfold openP
  rw [if_neg (by rw [e1]; simp), if_neg (by rw [e2]; simp), if_neg (by omega), hl, key _ _ hn]
  have hpz : p.size = 1 := by rw [← numsOf_len, hp]; rfl
  rw [hpz, show i + 2 + ((1 : Nat) : Int) = i + 3 by omega]
theorem lexTo_open {x : Text} (hu : x.utf = false) (hx : x.x = false) {i c : Int} {r : List Int} (h0 : 0 ≤ i) (h : (numsOf x.s).drop i.toNat = 40 :: c :: r) (hc : 97 ≤ c ∧ c ≤ 122) : LexTo x i (i + 1) [tq 10 1 0 [] i (i + 1)] := by
  refine lexTo_one hu hx h0 h (by omega) (by omega) (t := { tokZ with kind := 10, n := 1 }) ?_
  unfold tokC
  rw [if_neg (by decide), if_neg (by decide), if_pos rfl]
  exact open_drop h0 h (by omega) (by omega)
def quantW : Int → List Int
  | 0 => []
  | 1 => [42]
  | 2 => [43, 63]
  | 3 => [123, 50, 125]
  | _ => [63, 43]
/-- A quantifier without one more sign. -/
theorem quant_plain {x : Text} {i to n m : Int} {R : List Int} (h0 : 0 ≤ to) (h : (numsOf x.s).drop to.toNat = R) (hR : ∀ c r, R = c :: r → c ≠ 63 ∧ c ≠ 43) : quantP x i to n m = tokG { tokZ with kind := 9, n := n, m := m } i to := by
  have e : ∀ b : UInt8, (b.toNat : Int) = 63 ∨ (b.toNat : Int) = 43 → isP x.s to (bs [b]) = false := by
    intro b hb
    rw [isP_pre _ _ _ h0 (bs1_size b), h]
    show List.isPrefixOf [(b.toNat : Int)] R = false
    cases R with
    | nil => rfl
    | cons c r =>
      have := hR c r rfl
      simp [List.isPrefixOf]
      omega
  unfold quantP
  rw [if_neg (by rw [e 63 (.inl rfl)]; simp), if_neg (by rw [e 43 (.inr rfl)]; simp)]
theorem class_one {x : Text} (hu : x.utf = false) {a f : Int} {neg : Bool} {k : Nat} {j c d : Int} {r : List Int} {A : List (Int × Int)} (h0 : 0 ≤ j) (h : (numsOf x.s).drop j.toNat = c :: d :: r) (hc : 97 ≤ c ∧ c ≤ 122) (hd : d ≠ 45) :
    classL x a f neg (k + 1) j A = classL x a f neg k (j + 1) (A ++ [(c, c)]) := by
  obtain ⟨b1, b2, b3⟩ := byte_drop h0 h
  have hit : itemP x j = ⟨[(c, c)], true, j + 1, 0, 0⟩ := by
    have h9 : isP x.s j (bs [91, 58]) = false := by
      rw [isP_pre _ _ _ h0 (by decide), h]
      show (List.isPrefixOf [91, 58] (c :: d :: r)) = false
      simp [List.isPrefixOf]
      omega
    unfold itemP
    rw [h9, if_neg (by decide)]
    unfold itemQ
    rw [charP_drop hu h0 h, if_pos (show c ≠ 92 by omega)]
  have h45 : isP x.s (j + 1) (bs [45]) = false := by
    rw [isP_pre _ _ _ (by omega) (by decide), b3]
    show (List.isPrefixOf [45] (d :: r)) = false
    simp [List.isPrefixOf]
    omega
  rw [classL, if_neg (by omega), b1, if_neg (by omega), hit]
  unfold classI
  rw [if_neg (by simp), if_pos rfl, if_neg (by simp only; rw [h45]; simp)]
theorem lexTo_class {x : Text} (hu : x.utf = false) (hx : x.x = false) {i : Int} {r : List Int} (h0 : 0 ≤ i) (h : (numsOf x.s).drop i.toNat = 91 :: 98 :: 99 :: 93 :: r) : LexTo x i (i + 1 + 1 + 1 + 1) [tq 2 0 0 (newP ([] ++ [(98, 98)] ++ [(99, 99)]) x.most) i (i + 1 + 1 + 1 + 1)] := by
  refine lexTo_one hu hx h0 h (by omega) (by omega) (t := { tokZ with kind := 2, set := newP ([] ++ [(98, 98)] ++ [(99, 99)]) x.most, neg := false }) ?_
  obtain ⟨_, _, b1⟩ := byte_drop h0 h
  obtain ⟨_, _, b2⟩ := byte_drop (by omega) b1
  obtain ⟨_, _, b3⟩ := byte_drop (by omega) b2
  obtain ⟨g1, g2, _⟩ := byte_drop (by omega) b3
  have h94 : isP x.s (i + 1) (bs [94]) = false := by rw [isP_pre _ _ _ (by omega) (by decide), b1]; rfl
  unfold tokC
  rw [if_neg (by decide), if_pos rfl]
  unfold classP classF
  rw [h94, if_neg (by decide)]
  obtain ⟨k, hk⟩ : ∃ k, x.s.size + 2 = k + 1 + 1 + 1 := ⟨x.s.size - 1, by omega⟩
  rw [hk, class_one hu (by omega) b1 (by decide) (by decide), class_one hu (by omega) b2 (by decide) (by decide), classL, if_neg (by omega), g1, if_pos rfl, if_pos (by omega)]
theorem num_one {s : ByteArray} {j c : Int} {R : List Int} (h0 : 0 ≤ j) (h : (numsOf s).drop j.toNat = c :: R) (hc : 48 ≤ c ∧ c ≤ 57) (hR : ∀ c r, R = c :: r → ¬ (48 ≤ c ∧ c ≤ 57)) : numP s j = (c - 48, j + 1, false) := by
  obtain ⟨b1, b2, b3⟩ := byte_drop h0 h
  have hd : digitP (byteAt s j) = true := by rw [b1]; simp [digitP, hc.1, hc.2]
  obtain ⟨k, hk⟩ : ∃ k, (s.size - j).toNat = k + 1 := ⟨(s.size - j).toNat - 1, by omega⟩
  unfold numP
  rw [hk, numL, if_pos ⟨b2, hd⟩, if_neg (by omega), b1, show 0 * 10 + c - 48 = c - 48 by omega]
  cases k with
  | zero => rfl
  | succ k =>
    rw [numL, if_neg]
    rintro ⟨h2, h3⟩
    have h4 := drop_byte (s := s) (i := j + 1) (by omega) h2
    rw [b3] at h4
    have := hR _ _ h4
    apply this
    simp only [digitP, Bool.and_eq_true, decide_eq_true_eq] at h3
    exact h3
theorem lexTo_back {x : Text} (hu : x.utf = false) (hx : x.x = false) {i : Int} {R : List Int} (h0 : 0 ≤ i) (h : (numsOf x.s).drop i.toNat = 92 :: 49 :: R) (hR : ∀ c r, R = c :: r → ¬ (48 ≤ c ∧ c ≤ 57)) : LexTo x i (i + 1 + 1) [tq 11 1 0 [] i (i + 1 + 1)] := by
  obtain ⟨b1, b2, b3⟩ := byte_drop h0 h
  obtain ⟨c1, c2, c3⟩ := byte_drop (by omega) b3
  have hq : isP x.s i (bs [92, 81]) = false := by rw [isP_pre _ _ _ h0 (by decide), h]; rfl
  have hn := num_one (by omega) b3 (by decide) hR
  have hne : i + 1 ≠ x.s.size := by omega
  have ht : tokenP x i = tokG { tokZ with kind := 11, n := 1 } i (i + 1 + 1) := by
    unfold tokenP
    rw [if_neg (by rw [hx]; simp), charP_drop hu h0 h]
    unfold tokC
    rw [if_pos rfl]
    unfold escapeP
    rw [if_neg hne, charP_drop hu (by omega) b3]
    show escQ x i (i + 1 + 1) 49 = _
    unfold escQ
    rw [if_neg (by decide), if_neg (by decide), if_neg (by decide), if_neg (by decide), if_neg (by decide), if_neg (by decide), if_neg (by decide)]
    unfold escD
    rw [if_pos (by decide), if_pos (by decide), hn, if_neg (by simp)]
    rfl
  intro K out hK
  obtain ⟨K, rfl⟩ : ∃ m, K = m + 1 := ⟨K - 1, by omega⟩
  refine ⟨K, by omega, ?_⟩
  rw [lexGo, if_pos b2, if_neg (by simp), if_neg (by rw [hq]; simp), ht, if_neg (by unfold tokG; simp), if_pos (by unfold tokG; rfl)]
  rfl
theorem lex_quant {x : Text} (hu : x.utf = false) (hx : x.x = false) {b i : Int} {R : List Int} (hb : 1 ≤ b ∧ b < 5) (h0 : 0 ≤ i) (h : (numsOf x.s).drop i.toNat = quantW b ++ R) (hR : ∀ c r, R = c :: r → c ≠ 63 ∧ c ≠ 43) : ∃ t : Tok, t.kind = 9 ∧ LexTo x i (i + (quantW b).length) [t] := by
  have : b = 1 ∨ b = 2 ∨ b = 3 ∨ b = 4 := by omega
  rcases this with rfl | rfl | rfl | rfl
  · have h : (numsOf x.s).drop i.toNat = 42 :: R := h
    obtain ⟨_, _, b1⟩ := byte_drop h0 h
    refine ⟨_, ?_, lexTo_one hu hx h0 h (by decide) (by show i < i + ((1 : Nat) : Int); omega) (t := { tokZ with kind := 9, n := 0, m := -1 }) ?_⟩
    · rfl
    unfold tokC
    rw [if_neg (by decide), if_neg (by decide), if_neg (by decide), if_neg (by decide), if_neg (by decide), if_neg (by decide), if_neg (by decide), if_neg (by decide), if_pos rfl, quant_plain (by omega) b1 hR]
    rfl
  · have h : (numsOf x.s).drop i.toNat = 43 :: 63 :: R := h
    obtain ⟨_, _, b1⟩ := byte_drop h0 h
    refine ⟨_, ?_, lexTo_one hu hx h0 h (by decide) (by show i < i + ((2 : Nat) : Int); omega) (t := { tokZ with kind := 9, n := 1, m := -1, mode := 1 }) ?_⟩
    · rfl
    have e1 : isP x.s (i + 1) (bs [63]) = true := by rw [isP_pre _ _ _ (by omega) (by decide), b1]; show List.isPrefixOf [63] (63 :: R) = true; simp [List.isPrefixOf]
    unfold tokC
    rw [if_neg (by decide), if_neg (by decide), if_neg (by decide), if_neg (by decide), if_neg (by decide), if_neg (by decide), if_neg (by decide), if_neg (by decide), if_neg (by decide), if_pos rfl]
    unfold quantP
    rw [if_pos e1, show i + 1 + 1 = i + ((2 : Nat) : Int) by omega]
    rfl
  · have h : (numsOf x.s).drop i.toNat = 123 :: 50 :: 125 :: R := h
    obtain ⟨_, _, b1⟩ := byte_drop h0 h
    obtain ⟨_, _, b2⟩ := byte_drop (by omega) b1
    obtain ⟨_, _, b3⟩ := byte_drop (by omega) b2
    refine ⟨_, ?_, lexTo_one hu hx h0 h (by decide) (by show i < i + ((3 : Nat) : Int); omega) (t := { tokZ with kind := 9, n := 2, m := 2 }) ?_⟩
    · rfl
    have hn := num_one (by omega) b1 (by decide) (by intro c r e; injection e with e _; subst e; decide)
    have e1 : isP x.s (i + 1 + 1) (bs [44]) = false := by rw [isP_pre _ _ _ (by omega) (by decide), b2]; rfl
    have e2 : isP x.s (i + 1 + 1) (bs [125]) = true := by rw [isP_pre _ _ _ (by omega) (by decide), b2]; show List.isPrefixOf [125] (125 :: R) = true; simp [List.isPrefixOf]
    unfold tokC
    rw [if_neg (by decide), if_neg (by decide), if_neg (by decide), if_neg (by decide), if_neg (by decide), if_neg (by decide), if_neg (by decide), if_neg (by decide), if_neg (by decide), if_neg (by decide), if_neg (by decide), if_pos rfl, hn]
    unfold brP
    simp only
    rw [if_pos (by omega), e1, if_neg (by decide)]
    unfold brK
    rw [if_neg (by omega), if_pos e2, if_neg (by decide), if_pos (by decide), if_neg (by decide), quant_plain (by omega) b3 hR, show i + 1 + 1 + 1 = i + ((3 : Nat) : Int) by omega]
    rfl
  · have h : (numsOf x.s).drop i.toNat = 63 :: 43 :: R := h
    obtain ⟨_, _, b1⟩ := byte_drop h0 h
    refine ⟨_, ?_, lexTo_one hu hx h0 h (by decide) (by show i < i + ((2 : Nat) : Int); omega) (t := { tokZ with kind := 9, n := 0, m := 1, mode := 2 }) ?_⟩
    · rfl
    have e1 : isP x.s (i + 1) (bs [63]) = false := by rw [isP_pre _ _ _ (by omega) (by decide), b1]; rfl
    have e2 : isP x.s (i + 1) (bs [43]) = true := by rw [isP_pre _ _ _ (by omega) (by decide), b1]; show List.isPrefixOf [43] (43 :: R) = true; simp [List.isPrefixOf]
    unfold tokC
    rw [if_neg (by decide), if_neg (by decide), if_neg (by decide), if_neg (by decide), if_neg (by decide), if_neg (by decide), if_neg (by decide), if_neg (by decide), if_neg (by decide), if_neg (by decide), if_pos rfl]
    unfold quantP
    rw [if_neg (by rw [e1]; simp), if_pos e2, show i + 1 + 1 = i + ((2 : Nat) : Int) by omega]
    rfl
/-- A thing's tokens: what the machine does with them. -/
def RunT (T : List Tok) (kn : Int) : Prop := ∃ n : Node, n.f.kind = kn ∧ ∀ (en : Int) (v : Lev) (R : List Tok), v.op.n ≠ 13 → runS en (T ++ R) v [] = runS en R { v with items := v.items ++ [n], fixed := false } []
theorem runT_leaf {t : Tok} {kn : Int} (k : Int) (hk0 : t.kind = k) (hk : k ≠ 7 ∧ k ≠ 8 ∧ k ≠ 9 ∧ k ≠ 10) (hn : leafK t.kind = kn) (hf : fixK kn = false) : RunT [t] kn := by
  subst hk0
  refine ⟨leafN t, hn, fun en v R hv => ?_⟩
  rw [List.cons_append, List.nil_append, runS_cons, if_neg hk.1, if_neg hk.2.2.1, if_neg hk.2.2.2, if_neg hk.2.1, addV_rdy (fun h => hv h.1)]
  show runS en R { v with items := v.items ++ [leafN t], fixed := fixK (leafK t.kind) } [] = _
  rw [hn, hf]
theorem runT_group {t0 t1 : Tok} {M : List Tok} {kn : Int} (h0 : t0.kind = 10) (m : Int) (hm0 : t0.n = m) (hn : 1 ≤ m ∧ m ≤ 8) (h1 : t1.kind = 8) (hM : ∃ v', v'.op = t0 ∧ ∀ (en : Int) (u : Lev) (R : List Tok), runS en (M ++ R) (levO t0) [u] = runS en R v' [u])
    (hk : ∀ look l, (groupN t0 look l).f.kind = kn) (hf : fixK kn = false) : RunT (t0 :: (M ++ [t1])) kn := by
  subst hm0
  obtain ⟨v', hv', hM⟩ := hM
  refine ⟨(madeV (VC.endL v')).1, ?_, fun en v R hv => ?_⟩
  · have e : (VC.endL v').op = t0 := hv'
    unfold madeV
    rw [e]
    exact hk _ _
  · have hm : (madeV (VC.endL v')).2 = true := by
      unfold madeV
      have e : (VC.endL v').op = t0 := hv'
      simp [e, hn.1, hn.2]
    have hkk : (madeV (VC.endL v')).1.f.kind = kn := by
      have e : (VC.endL v').op = t0 := hv'
      unfold madeV
      rw [e]
      exact hk _ _
    rw [List.cons_append, runS_cons, if_neg (by omega), if_neg (by omega), if_pos h0, if_neg (by simp), List.append_assoc, hM]
    rw [List.cons_append, List.nil_append, runS_cons, if_neg (by omega), if_neg (by omega), if_neg (by omega), if_pos h1]
    simp only
    rw [if_pos hm, addV_rdy (fun h => hv h.1), hkk, hf]
theorem run_lit {t0 t : Tok} (hk : t.kind = 1) : ∃ v' : Lev, v'.op = t0 ∧ ∀ (en : Int) (u : Lev) (R : List Tok), runS en ([t] ++ R) (levO t0) [u] = runS en R v' [u] := by
  refine ⟨addV (levO t0) (leafN t), by unfold addV; split <;> rfl, fun en u R => ?_⟩
  rw [List.cons_append, List.nil_append, runS_cons, if_neg (by omega), if_neg (by omega), if_neg (by omega), if_neg (by omega)]
theorem run_two {t0 t b c : Tok} (hk : t.kind = 1) (hb : b.kind = 7) (hc : c.kind = 1) : ∃ v' : Lev, v'.op = t0 ∧ ∀ (en : Int) (u : Lev) (R : List Tok), runS en ([t, b, c] ++ R) (levO t0) [u] = runS en R v' [u] := by
  refine ⟨addV (VC.endL (addV (levO t0) (leafN t))) (leafN c), ?_, fun en u R => ?_⟩
  · have : ∀ v n, (addV v n).op = v.op := fun v n => by unfold addV; split <;> rfl
    rw [this]
    show (addV (levO t0) (leafN t)).op = t0
    rw [this]
    rfl
  · rw [List.cons_append, List.cons_append, List.cons_append, List.nil_append, runS_cons, if_neg (by omega), if_neg (by omega), if_neg (by omega), if_neg (by omega), runS_cons, if_pos hb, runS_cons, if_neg (by omega), if_neg (by omega), if_neg (by omega), if_neg (by omega)]
def wordW : Int → List Int
  | 0 => [97]
  | 1 => [91, 98, 99, 93]
  | 2 => [40, 100, 41]
  | 3 => [40, 63, 58, 101, 124, 102, 41]
  | 4 => [46]
  | 5 => [92, 49]
  | 6 => [40, 63, 61, 103, 41]
  | _ => [40, 63, 62, 104, 41]
def wordK : Int → Int
  | 0 => 1
  | 1 => 2
  | 2 => 14
  | 3 => 15
  | 4 => 3
  | 5 => 7
  | 6 => 18
  | _ => 17
/-- What may come behind a thing. -/
def After (R : List Int) : Prop := ∀ c r, R = c :: r → ¬ (48 ≤ c ∧ c ≤ 57)
theorem group_k1 {t : Tok} {kn : Int} (h : (t.n = 1 ∧ kn = 14) ∨ (t.n = 2 ∧ kn = 15) ∨ (t.n = 4 ∧ kn = 17) ∨ (t.n = 5 ∧ kn = 18)) (look l : List Node) : (groupN t look l).f.kind = kn := by
  unfold groupN
  rcases h with ⟨h, rfl⟩ | ⟨h, rfl⟩ | ⟨h, rfl⟩ | ⟨h, rfl⟩
  · rw [if_pos h]; rfl
  · rw [if_neg (by omega), if_pos h]; rfl
  · rw [if_neg (by omega), if_neg (by omega), if_pos h]; rfl
  · rw [if_neg (by omega), if_neg (by omega), if_neg (by omega), if_pos (.inl h)]; rfl
theorem lex_word {x : Text} (hu : x.utf = false) (hx : x.x = false) {a i : Int} {R : List Int} (ha : 0 ≤ a ∧ a < 8) (h0 : 0 ≤ i) (h : (numsOf x.s).drop i.toNat = wordW a ++ R) (hR : After R) : ∃ T, LexTo x i (i + (wordW a).length) T ∧ RunT T (wordK a) := by
  have : a = 0 ∨ a = 1 ∨ a = 2 ∨ a = 3 ∨ a = 4 ∨ a = 5 ∨ a = 6 ∨ a = 7 := by omega
  rcases this with rfl | rfl | rfl | rfl | rfl | rfl | rfl | rfl
  · exact ⟨_, lexTo_lit hu hx h0 h (by decide), runT_leaf 1 rfl (by decide) rfl rfl⟩
  · have := lexTo_class hu hx h0 h
    rw [show i + (wordW 1).length = i + 1 + 1 + 1 + 1 by show i + ((4 : Nat) : Int) = _; omega]
    exact ⟨_, this, runT_leaf 2 rfl (by decide) rfl rfl⟩
  · have h : (numsOf x.s).drop i.toNat = 40 :: 100 :: 41 :: R := h
    obtain ⟨_, _, b3⟩ := byte_drop h0 h
    obtain ⟨_, _, c3⟩ := byte_drop (by omega) b3
    have s1 := lexTo_open hu hx h0 h (by decide)
    have s2 := lexTo_lit hu hx (by omega) b3 (by decide)
    have s3 := lexTo_close hu hx (by omega) c3
    refine ⟨_, ?_, runT_group (t0 := tq 10 1 0 [] i (i + 1)) (M := [tq 1 0 100 [] (i + 1) (i + 1 + 1)]) (t1 := tq 8 0 0 [] (i + 1 + 1) (i + 1 + 1 + 1)) rfl 1 rfl (by decide) rfl (run_lit rfl) (group_k1 (.inl ⟨rfl, rfl⟩)) rfl⟩
    have := s1.trans (s2.trans s3)
    rw [show i + (wordW 2).length = i + 1 + 1 + 1 by show i + ((3 : Nat) : Int) = _; omega]
    exact this
  · have h : (numsOf x.s).drop i.toNat = 40 :: 63 :: 58 :: 101 :: 124 :: 102 :: 41 :: R := h
    obtain ⟨_, _, b1⟩ := byte_drop h0 h
    obtain ⟨_, _, b2⟩ := byte_drop (by omega) b1
    obtain ⟨_, _, b3⟩ := byte_drop (by omega) b2
    rw [show i + 1 + 1 + 1 = i + 3 by omega] at b3
    obtain ⟨_, _, b4⟩ := byte_drop (by omega) b3
    obtain ⟨_, _, b5⟩ := byte_drop (by omega) b4
    obtain ⟨_, _, b6⟩ := byte_drop (by omega) b5
    have s1 := lexTo_openQ hu hx h0 h (p := bs [58]) (kn := 2) (l1 := []) (l2 := [(bs [124], 3), (bs [62], 4), (bs [61], 5), (bs [33], 6), (bs [60, 61], 7), (bs [60, 33], 8)]) rfl rfl (by simp)
    have s2 := lexTo_lit hu hx (by omega) b3 (by decide)
    have s3 := lexTo_bar hu hx (by omega) b4
    have s4 := lexTo_lit hu hx (by omega) b5 (by decide)
    have s5 := lexTo_close hu hx (by omega) b6
    refine ⟨_, ?_, runT_group (t0 := tq 10 2 0 [] i (i + 3)) (M := [tq 1 0 101 [] (i + 3) (i + 3 + 1), tq 7 0 0 [] (i + 3 + 1) (i + 3 + 1 + 1), tq 1 0 102 [] (i + 3 + 1 + 1) (i + 3 + 1 + 1 + 1)]) (t1 := tq 8 0 0 [] (i + 3 + 1 + 1 + 1) (i + 3 + 1 + 1 + 1 + 1)) rfl 2 rfl (by decide) rfl (run_two rfl rfl rfl) (group_k1 (.inr (.inl ⟨rfl, rfl⟩))) rfl⟩
    have := s1.trans (s2.trans (s3.trans (s4.trans s5)))
    rw [show i + (wordW 3).length = i + 3 + 1 + 1 + 1 + 1 by show i + ((7 : Nat) : Int) = _; omega]
    exact this
  · exact ⟨_, lexTo_dot hu hx h0 h, runT_leaf 3 rfl (by decide) rfl rfl⟩
  · have := lexTo_back hu hx h0 h hR
    rw [show i + (wordW 5).length = i + 1 + 1 by show i + ((2 : Nat) : Int) = _; omega]
    exact ⟨_, this, runT_leaf 11 rfl (by decide) rfl rfl⟩
  · have h : (numsOf x.s).drop i.toNat = 40 :: 63 :: 61 :: 103 :: 41 :: R := h
    obtain ⟨_, _, b1⟩ := byte_drop h0 h
    obtain ⟨_, _, b2⟩ := byte_drop (by omega) b1
    obtain ⟨_, _, b3⟩ := byte_drop (by omega) b2
    rw [show i + 1 + 1 + 1 = i + 3 by omega] at b3
    obtain ⟨_, _, b4⟩ := byte_drop (by omega) b3
    have s1 := lexTo_openQ hu hx h0 h (p := bs [61]) (kn := 5) (l1 := [(bs [58], 2), (bs [124], 3), (bs [62], 4)]) (l2 := [(bs [33], 6), (bs [60, 61], 7), (bs [60, 33], 8)]) rfl rfl (by
      intro q hq
      simp only [List.mem_cons, List.not_mem_nil, or_false] at hq
      rcases hq with rfl | rfl | rfl
      · exact ⟨58, [], rfl, by decide⟩
      · exact ⟨124, [], rfl, by decide⟩
      · exact ⟨62, [], rfl, by decide⟩)
    have s2 := lexTo_lit hu hx (by omega) b3 (by decide)
    have s3 := lexTo_close hu hx (by omega) b4
    refine ⟨_, ?_, runT_group (t0 := tq 10 5 0 [] i (i + 3)) (M := [tq 1 0 103 [] (i + 3) (i + 3 + 1)]) (t1 := tq 8 0 0 [] (i + 3 + 1) (i + 3 + 1 + 1)) rfl 5 rfl (by decide) rfl (run_lit rfl) (group_k1 (.inr (.inr (.inr ⟨rfl, rfl⟩)))) rfl⟩
    have := s1.trans (s2.trans s3)
    rw [show i + (wordW 6).length = i + 3 + 1 + 1 by show i + ((5 : Nat) : Int) = _; omega]
    exact this
  · have h : (numsOf x.s).drop i.toNat = 40 :: 63 :: 62 :: 104 :: 41 :: R := h
    obtain ⟨_, _, b1⟩ := byte_drop h0 h
    obtain ⟨_, _, b2⟩ := byte_drop (by omega) b1
    obtain ⟨_, _, b3⟩ := byte_drop (by omega) b2
    rw [show i + 1 + 1 + 1 = i + 3 by omega] at b3
    obtain ⟨_, _, b4⟩ := byte_drop (by omega) b3
    have s1 := lexTo_openQ hu hx h0 h (p := bs [62]) (kn := 4) (l1 := [(bs [58], 2), (bs [124], 3)]) (l2 := [(bs [61], 5), (bs [33], 6), (bs [60, 61], 7), (bs [60, 33], 8)]) rfl rfl (by
      intro q hq
      simp only [List.mem_cons, List.not_mem_nil, or_false] at hq
      rcases hq with rfl | rfl
      · exact ⟨58, [], rfl, by decide⟩
      · exact ⟨124, [], rfl, by decide⟩)
    have s2 := lexTo_lit hu hx (by omega) b3 (by decide)
    have s3 := lexTo_close hu hx (by omega) b4
    refine ⟨_, ?_, runT_group (t0 := tq 10 4 0 [] i (i + 3)) (M := [tq 1 0 104 [] (i + 3) (i + 3 + 1)]) (t1 := tq 8 0 0 [] (i + 3 + 1) (i + 3 + 1 + 1)) rfl 4 rfl (by decide) rfl (run_lit rfl) (group_k1 (.inr (.inr (.inl ⟨rfl, rfl⟩)))) rfl⟩
    have := s1.trans (s2.trans s3)
    rw [show i + (wordW 7).length = i + 3 + 1 + 1 by show i + ((5 : Nat) : Int) = _; omega]
    exact this
def unitW (p : Int × Int) : List Int := wordW p.1 ++ quantW p.2
def unitK (p : Int × Int) : Int := if p.2 > 0 then 20 else wordK p.1
def chainW : List (Int × Int) → List Int
  | [] => []
  | p :: l => unitW p ++ chainW l
def UnitOk (p : Int × Int) : Prop := 0 ≤ p.1 ∧ p.1 < 8 ∧ 0 ≤ p.2 ∧ p.2 < 5
theorem word_head {a : Int} (ha : 0 ≤ a ∧ a < 8) : ∃ c r, wordW a = c :: r ∧ (c = 97 ∨ c = 91 ∨ c = 40 ∨ c = 46 ∨ c = 92) := by
  have : a = 0 ∨ a = 1 ∨ a = 2 ∨ a = 3 ∨ a = 4 ∨ a = 5 ∨ a = 6 ∨ a = 7 := by omega
  rcases this with rfl | rfl | rfl | rfl | rfl | rfl | rfl | rfl <;> exact ⟨_, _, rfl, by decide⟩
theorem chain_head {l : List (Int × Int)} (hl : ∀ p ∈ l, UnitOk p) : ∀ c r, chainW l = c :: r → (c = 97 ∨ c = 91 ∨ c = 40 ∨ c = 46 ∨ c = 92) := by
  intro c r h
  cases l with
  | nil => cases h
  | cons p l =>
    have hp := hl p (List.mem_cons_self ..)
    obtain ⟨c0, r0, h1, h2⟩ := word_head (a := p.1) ⟨hp.1, hp.2.1⟩
    rw [chainW, unitW, h1] at h
    injection h with h _
    subst h
    exact h2
theorem lex_chain {x : Text} (hu : x.utf = false) (hx : x.x = false) : ∀ (l : List (Int × Int)) (i : Int), (∀ p ∈ l, UnitOk p) → 0 ≤ i → (numsOf x.s).drop i.toNat = chainW l →
    ∃ (T : List Tok) (ns : List Node), LexTo x i (i + (chainW l).length) T ∧ ns.map (fun n => n.f.kind) = l.map unitK ∧ ∀ (en : Int) (v : Lev) (R : List Tok), v.op.n ≠ 13 → ∃ fx, runS en (T ++ R) v [] = runS en R { v with items := v.items ++ ns, fixed := fx } []
  | [], i, _, h0, h => ⟨[], [], by have := LexTo.nil (x := x) (i := i); simpa [chainW] using this, rfl, fun en v R hv => ⟨v.fixed, by simp⟩⟩
  | p :: l, i, hl, h0, h => by
    obtain ⟨a, b⟩ := p
    have hp := hl (a, b) (List.mem_cons_self ..)
    have hl' : ∀ q ∈ l, UnitOk q := fun q hq => hl q (List.mem_cons_of_mem _ hq)
    have hch := chain_head hl'
    obtain ⟨ha0, ha1, hb0, hb1⟩ := hp
    simp only at ha0 ha1 hb0 hb1
    have h : (numsOf x.s).drop i.toNat = wordW a ++ (quantW b ++ chainW l) := by rw [h, chainW, unitW, List.append_assoc]
    have hA : After (quantW b ++ chainW l) := by
      intro c r e
      have : b = 0 ∨ b = 1 ∨ b = 2 ∨ b = 3 ∨ b = 4 := by omega
      rcases this with rfl | rfl | rfl | rfl | rfl
      · have e : chainW l = c :: r := e
        have := hch c r e
        omega
      · injection e with e _; subst e; decide
      · injection e with e _; subst e; decide
      · injection e with e _; subst e; decide
      · injection e with e _; subst e; decide
    obtain ⟨T1, s1, n, hn, r1⟩ := lex_word hu hx ⟨ha0, ha1⟩ h0 h hA
    have h2 := drop_add h0 h
    have hlen : ((chainW ((a, b) :: l)).length : Int) = (wordW a).length + (quantW b).length + (chainW l).length := by
      rw [chainW, unitW]
      simp
      omega
    by_cases hb : b = 0
    · subst hb
      have h3 : (numsOf x.s).drop (i + (wordW a).length).toNat = chainW l := h2
      obtain ⟨T2, ns, s2, hk, r2⟩ := lex_chain hu hx l (i + (wordW a).length) hl' (by omega) h3
      refine ⟨T1 ++ T2, n :: ns, ?_, ?_, fun en v R hv => ?_⟩
      · have := s1.trans s2
        rw [hlen]
        rw [show i + ((wordW a).length + (quantW 0).length + (chainW l).length : Int) = i + (wordW a).length + (chainW l).length by show i + ((wordW a).length + ((0 : Nat) : Int) + (chainW l).length : Int) = _; omega]
        exact this
      · rw [List.map_cons, List.map_cons, hk, hn]
        rfl
      · obtain ⟨fx, hfx⟩ := r2 en { v with items := v.items ++ [n], fixed := false } R hv
        refine ⟨fx, ?_⟩
        rw [List.append_assoc, r1 en v _ hv, hfx]
        simp
    · obtain ⟨t, ht, s2⟩ := lex_quant hu hx (b := b) (by omega) (by omega) h2 (fun c r e => by have := hch c r e; omega)
      have h3 := drop_add (by omega) h2
      obtain ⟨T2, ns, s3, hk, r2⟩ := lex_chain hu hx l (i + (wordW a).length + (quantW b).length) hl' (by omega) h3
      refine ⟨T1 ++ ([t] ++ T2), repN t n :: ns, ?_, ?_, fun en v R hv => ?_⟩
      · have := s1.trans (s2.trans s3)
        rw [hlen]
        rw [show i + ((wordW a).length + (quantW b).length + (chainW l).length : Int) = i + (wordW a).length + (quantW b).length + (chainW l).length by omega]
        exact this
      · rw [List.map_cons, List.map_cons, hk]
        unfold unitK
        rw [if_pos (by show b > 0; omega)]
        rfl
      · obtain ⟨fx, hfx⟩ := r2 en { v with items := v.items ++ [repN t n], fixed := true } R hv
        refine ⟨fx, ?_⟩
        have hq : quantV { v with items := v.items ++ [n], fixed := false } t = (true, { v with items := v.items ++ [repN t n], fixed := true }) := by
          unfold quantV
          simp
        rw [List.append_assoc, r1 en v _ hv, List.append_assoc, List.cons_append, List.nil_append, runS_cons, if_neg (by omega), if_pos ht, hq, if_pos rfl, hfx]
        simp
/-- Things of their own, one behind the other, are a sequence of them. -/
theorem chains_plain {s : ByteArray} {l : List (Int × Int)} (hl : ∀ p ∈ l, UnitOk p) (hs : s.size ≤ 1000) (h : numsOf s = 120 :: chainW l) :
    ∃ f ks, parsedP s = ⟨.mk f ks, 0, 0⟩ ∧ (l = [] → f.kind = 1) ∧ (l ≠ [] → f.kind = 12 ∧ ks.length = l.length + 1 ∧ ks.map (fun n => n.f.kind) = 1 :: l.map unitK) := by
  have hu := text0_utf s
  have hx := text0_x s
  have hsz := text0_size s
  have hnum := text0_nums s
  have hlen := congrArg List.length h
  rw [numsOf_len, List.length_cons] at hlen
  obtain ⟨T, ns, hT, hk, hr⟩ : ∃ (T : List Tok) (ns : List Node), lexP (numsOf s) 0 = ⟨tq 1 0 120 [] 0 1 :: T, 0, 0⟩ ∧ ns.map (fun n => n.f.kind) = l.map unitK ∧ ∀ (en : Int) (v : Lev) (R : List Tok), v.op.n ≠ 13 → ∃ fx, runS en (T ++ R) v [] = runS en R { v with items := v.items ++ ns, fixed := fx } [] := by
    rw [lex0 s hs]
    generalize textOf (numsOf s) 0 = x at *
    have hd : (numsOf x.s).drop (0 : Int).toNat = 120 :: chainW l := by rw [hnum, h]; rfl
    obtain ⟨_, _, hd1⟩ := byte_drop (by omega) hd
    have s1 := lexTo_lit hu hx (by omega) hd (by decide)
    obtain ⟨T, ns, s2, hk, hr⟩ := lex_chain hu hx l (0 + 1) hl (by omega) hd1
    obtain ⟨K', h1, h2⟩ := (s1.trans s2) (s.size + 1) [] (by omega)
    refine ⟨T, ns, ?_, hk, hr⟩
    rw [h2, lex_endq (by omega)]
    rfl
  have he : (lexP (numsOf s) 0).e = 0 := by rw [hT]
  rw [parsed_run s he, hT]
  simp only
  obtain ⟨fx, hfx⟩ := hr s.size { levO tokZ with items := [leafN (tq 1 0 120 [] 0 1)], fixed := fixK 1 } [] (by decide)
  have hrun : runS s.size (tq 1 0 120 [] 0 1 :: T) (levO tokZ) [] = ⟨oneN 13 [oneN 12 (leafN (tq 1 0 120 [] 0 1) :: ns)], 0, 0⟩ := by
    rw [runS_cons, if_neg (by decide), if_neg (by decide), if_neg (by decide), if_neg (by decide), addV_rdy (by rintro ⟨h, _⟩; exact absurd h (by decide))]
    rw [List.append_nil] at hfx
    refine Eq.trans hfx ?_
    rw [runS, if_neg (by simp)]
    rfl
  rw [hrun]
  have h13 : oneN 13 [oneN 12 (leafN (tq 1 0 120 [] 0 1) :: ns)] = oneN 12 (leafN (tq 1 0 120 [] 0 1) :: ns) := rfl
  rw [h13]
  have hnl : ns.length = l.length := by
    have := congrArg List.length hk
    simpa using this
  by_cases c : l = []
  · subst c
    have : ns = [] := List.eq_nil_of_length_eq_zero hnl
    subst this
    exact ⟨_, _, rfl, fun _ => rfl, fun h => absurd rfl h⟩
  · have hln : l.length ≠ 0 := by simpa using c
    refine ⟨{ fZ with kind := 12 }, leafN (tq 1 0 120 [] 0 1) :: ns, ?_, fun h => absurd h c, fun _ => ⟨rfl, by simp [hnl], ?_⟩⟩
    · unfold oneN
      rw [if_neg (by simp only [List.length_cons]; omega)]
    · rw [List.map_cons, hk]
      rfl
end Go.Proofs.Ytnoohgiecnmajaa.VC

/- The laws of parse: ParseChains. -/
namespace Go.Proofs.Ytnoohgiecnmajaa.VC
open Go Go.RowKit
set_option linter.unusedVariables false
set_option linter.unusedSimpArgs false
set_option maxHeartbeats 4000000

def wordsR : List (List SV) := [[sv (bs [97])], [sv (bs [91, 98, 99, 93])], [sv (bs [40, 100, 41])], [sv (bs [40, 63, 58, 101, 124, 102, 41])], [sv (bs [46])], [sv (bs [92, 49])], [sv (bs [40, 63, 61, 103, 41])], [sv (bs [40, 63, 62, 104, 41])]]
def quantsR : List (List SV) := [[sv (bs [])], [sv (bs [42])], [sv (bs [43, 63])], [sv (bs [123, 50, 125])], [sv (bs [63, 43])]]
def kindsR : List (List SV) := [[iv 1], [iv 2], [iv 14], [iv 15], [iv 3], [iv 7], [iv 18], [iv 17]]
theorem words_get (j : Int) (h0 : 0 ≤ j) (h1 : j < 8) : ∃ s, wordsR.getD j.toNat [] = [sv s] ∧ numsOf s = wordW j := by
  have : j = 0 ∨ j = 1 ∨ j = 2 ∨ j = 3 ∨ j = 4 ∨ j = 5 ∨ j = 6 ∨ j = 7 := by omega
  rcases this with rfl | rfl | rfl | rfl | rfl | rfl | rfl | rfl <;> exact ⟨_, rfl, rfl⟩
theorem quants_get (j : Int) (h0 : 0 ≤ j) (h1 : j < 5) : ∃ s, quantsR.getD j.toNat [] = [sv s] ∧ numsOf s = quantW j := by
  have : j = 0 ∨ j = 1 ∨ j = 2 ∨ j = 3 ∨ j = 4 := by omega
  rcases this with rfl | rfl | rfl | rfl | rfl <;> exact ⟨_, rfl, rfl⟩
theorem kinds_get7 (j : Int) (h0 : 0 ≤ j) (h1 : j < 8) : kindsR.getD j.toNat [] = [iv (wordK j)] := by
  have : j = 0 ∨ j = 1 ∨ j = 2 ∨ j = 3 ∨ j = 4 ∨ j = 5 ∨ j = 6 ∨ j = 7 := by omega
  rcases this with rfl | rfl | rfl | rfl | rfl | rfl | rfl | rfl <;> rfl
theorem chain_snoc (p : Int × Int) : ∀ l : List (Int × Int), chainW (l ++ [p]) = chainW l ++ unitW p
  | [] => by simp [chainW]
  | q :: l => by rw [List.cons_append, chainW, chain_snoc p l, chainW, List.append_assoc]
theorem unit_len {p : Int × Int} (h : UnitOk p) : (unitW p).length ≤ 10 := by
  obtain ⟨a, b⟩ := p
  obtain ⟨a0, a1, b0, b1⟩ := h
  simp only at a0 a1 b0 b1
  have ha : (wordW a).length ≤ 7 := by
    have : a = 0 ∨ a = 1 ∨ a = 2 ∨ a = 3 ∨ a = 4 ∨ a = 5 ∨ a = 6 ∨ a = 7 := by omega
    rcases this with rfl | rfl | rfl | rfl | rfl | rfl | rfl | rfl <;> decide
  have hb : (quantW b).length ≤ 3 := by
    have : b = 0 ∨ b = 1 ∨ b = 2 ∨ b = 3 ∨ b = 4 := by omega
    rcases this with rfl | rfl | rfl | rfl | rfl <;> decide
  show (wordW a ++ quantW b).length ≤ 10
  rw [List.length_append]
  omega
theorem chain_len : ∀ {l : List (Int × Int)}, (∀ p ∈ l, UnitOk p) → (chainW l).length ≤ 10 * l.length
  | [], _ => by simp [chainW]
  | p :: l, h => by
    have h1 := unit_len (h p (List.mem_cons_self ..))
    have h2 := chain_len (l := l) (fun q hq => h q (List.mem_cons_of_mem _ hq))
    rw [chainW, List.length_append, List.length_cons]
    omega
set_option maxHeartbeats 16000000
theorem chains7_c (l : List Int) (hw : ∀ x ∈ l, -9223372036854775808 ≤ x ∧ x ≤ 9223372036854775807) (hlm : l.length ≤ maxLen) : VCalls Try.prog 18 [is l] (fun r => r = bv true) := by
  have hrl := rows1_len l
  refine VCalls.ofr tabOk Try.func18 (by decide) rfl rfl ?_
  refine RWP.seqx tabOk orders ?_
  conv => whnf
  refine RWP.seqx tabOk orders ?_
  repeat' ((conv => whnf); (first
    | (with_reducible first | refine Spl.yes ?_ | refine Spl.no ?_ | refine Spl.dec (fun h => ?_) (fun h => ?_) | refine Spl.eq (fun h => ?_) (fun h => ?_) | refine Spl.ne (fun h => ?_) (fun h => ?_) | refine Spl.seq (fun h => ?_) (fun h => ?_) | refine Spl.not ?_ | refine Spl.any (fun h => ?_) (fun h => ?_))
    | (refine VCalls.mono (awake7_c) ?_; rintro _ rfl)
    | ((with_reducible apply And.intro); first | omega | rfl | (dsimp only; omega))))
  all_goals (conv => whnf)
  refine RWP.seqx tabOk orders ?_
  repeat' ((conv => whnf); (first
    | (with_reducible first | refine Spl.yes ?_ | refine Spl.no ?_ | refine Spl.dec (fun h => ?_) (fun h => ?_) | refine Spl.eq (fun h => ?_) (fun h => ?_) | refine Spl.ne (fun h => ?_) (fun h => ?_) | refine Spl.seq (fun h => ?_) (fun h => ?_) | refine Spl.not ?_ | refine Spl.any (fun h => ?_) (fun h => ?_))
    | ((with_reducible apply And.intro); first | omega | rfl | (dsimp only; omega))))
  all_goals (conv => whnf)
  refine RWP.seqx tabOk orders ?_
  repeat' ((conv => whnf); (first
    | (with_reducible first | refine Spl.yes ?_ | refine Spl.no ?_ | refine Spl.dec (fun h => ?_) (fun h => ?_) | refine Spl.eq (fun h => ?_) (fun h => ?_) | refine Spl.ne (fun h => ?_) (fun h => ?_) | refine Spl.seq (fun h => ?_) (fun h => ?_) | refine Spl.not ?_ | refine Spl.any (fun h => ?_) (fun h => ?_))
    | refine And.intro (Nat.le_of_ble_eq_true rfl) ?_
    | ((with_reducible apply And.intro); first | omega | rfl | (dsimp only; omega))))
  all_goals (conv => whnf)
  refine RWP.seqx tabOk orders ?_
  repeat' ((conv => whnf); (first
    | (with_reducible first | refine Spl.yes ?_ | refine Spl.no ?_ | refine Spl.dec (fun h => ?_) (fun h => ?_) | refine Spl.eq (fun h => ?_) (fun h => ?_) | refine Spl.ne (fun h => ?_) (fun h => ?_) | refine Spl.seq (fun h => ?_) (fun h => ?_) | refine Spl.not ?_ | refine Spl.any (fun h => ?_) (fun h => ?_))
    | refine And.intro (Nat.le_of_ble_eq_true rfl) ?_
    | ((with_reducible apply And.intro); first | omega | rfl | (dsimp only; omega))))
  all_goals (conv => whnf)
  refine RWP.seqx tabOk orders ?_
  conv => whnf
  refine RWP.seqx tabOk orders ?_
  conv => whnf
  refine RWP.seqx tabOk orders ?_
  conv => whnf
  refine RWP.seqx tabOk orders ?_
  repeat' ((conv => whnf); (first
    | (with_reducible first | refine Spl.yes ?_ | refine Spl.no ?_ | refine Spl.dec (fun h => ?_) (fun h => ?_) | refine Spl.eq (fun h => ?_) (fun h => ?_) | refine Spl.ne (fun h => ?_) (fun h => ?_) | refine Spl.seq (fun h => ?_) (fun h => ?_) | refine Spl.not ?_ | refine Spl.any (fun h => ?_) (fun h => ?_))
    | refine And.intro (Nat.le_of_ble_eq_true rfl) ?_
    | ((with_reducible apply And.intro); first | omega | rfl | (dsimp only; omega))))
  all_goals (conv => whnf)
  refine RWP.seqx tabOk orders ?_
  repeat' ((conv => whnf); (first
    | (with_reducible first | refine Spl.yes ?_ | refine Spl.no ?_ | refine Spl.dec (fun h => ?_) (fun h => ?_) | refine Spl.eq (fun h => ?_) (fun h => ?_) | refine Spl.ne (fun h => ?_) (fun h => ?_) | refine Spl.seq (fun h => ?_) (fun h => ?_) | refine Spl.not ?_ | refine Spl.any (fun h => ?_) (fun h => ?_))
    | refine And.intro (Nat.le_of_ble_eq_true rfl) ?_
    | ((with_reducible apply And.intro); first | omega | rfl | (dsimp only; omega))))
  all_goals (conv => whnf)
  refine RWP.weak (Wk.trans (Wk.freeze 4 (k := 19) rfl rfl) (Wk.trans (Wk.freeze 5 (k := 20) rfl rfl) (Wk.trans (Wk.freeze 9 (k := 24) rfl rfl) (Wk.narrow _ [0, 2, 4, 5, 6, 7, 8, 9] [] [23])))) ?_
  refine RWP.cutr (fun st => ∃ ps s vg n, st = ⟨114, [(2, .pv (bv false)), (6, .pv (sv s)), (7, .pv (iv n)), (8, .own 23)], [], [(23, ⟨1, 3, vg, rows1 (1 :: ps.map unitK)⟩)], []⟩ ∧ n = (ps.length : Int) + 1 ∧ (∀ p ∈ ps, UnitOk p) ∧ numsOf s = 120 :: chainW ps ∧ ps.length ≤ 20) ?_ ?_
  · refine RWP.seqx tabOk orders ?_
    conv => whnf
    refine RWP.block ?_
    refine RWP.loop (fun k st => ∃ (i : Int) (ps : List (Int × Int)) (s : ByteArray) (vg : Bool), st = ⟨114, [(0, .pv (is l)), (2, .pv (bv false)), (4, .pv (.sl 1 wordsR)), (5, .pv (.sl 1 quantsR)), (6, .pv (sv s)), (7, .pv (iv (i + 1))), (8, .own 23), (9, .pv (.sl 1 kindsR)), (10, .pv (iv i))], [], [(23, ⟨1, 3, vg, rows1 (1 :: ps.map unitK)⟩)], []⟩ ∧ 0 ≤ i ∧ i ≤ 20 ∧ (ps.length : Int) = i ∧ (∀ p ∈ ps, UnitOk p) ∧ numsOf s = 120 :: chainW ps ∧ k = (20 - i).toNat)
      ⟨_, _, Wk.narrow _ [0, 2, 4, 5, 6, 7, 8, 9, 10] [] [23], 0, [], bs [120], _, rfl, by omega, by omega, rfl, by simp, rfl, rfl⟩ ?_
    have hW := words_get
    have hQ := quants_get
    have hK := kinds_get7
    have hWl : wordsR.length = 8 := rfl
    have hQl : quantsR.length = 5 := rfl
    have hKl : kindsR.length = 8 := rfl
    generalize wordsR = WR at *
    generalize quantsR = QR at *
    generalize kindsR = KR at *
    rintro k st ⟨i, ps, s, vg, rfl, hi0, hi1, hpi, hps, hs, hk⟩
    refine RWP.seqx tabOk orders ?_
    repeat' ((conv => whnf); (first
    | (with_reducible first | refine Spl.yes ?_ | refine Spl.no ?_ | refine Spl.dec (fun h => ?_) (fun h => ?_) | refine Spl.eq (fun h => ?_) (fun h => ?_) | refine Spl.ne (fun h => ?_) (fun h => ?_) | refine Spl.seq (fun h => ?_) (fun h => ?_) | refine Spl.not ?_ | refine Spl.any (fun h => ?_) (fun h => ?_))
    | ((with_reducible apply And.intro); first | omega | rfl | (dsimp only; omega))))
    all_goals (conv => whnf)
    rotate_left
    · exact ⟨_, Wk.narrow _ [2, 6, 7, 8] [] [23], ps, s, _, _, rfl, by omega, hps, hs, by omega⟩
    · exact ⟨_, Wk.narrow _ [2, 6, 7, 8] [] [23], ps, s, _, _, rfl, by omega, hps, hs, by omega⟩
    have hil : i < l.length := by omega
    have hx := hw (rd1 l i) (by
      unfold rd1
      rw [List.getD_eq_getElem?_getD, List.getElem?_eq_getElem (by omega)]
      exact List.getElem_mem _)
    refine RWP.seq ?_
    refine RWP.block ?_
    refine RWP.seqx tabOk orders ?_
    repeat' ((conv => whnf); (first
    | (with_reducible first | refine Spl.yes ?_ | refine Spl.no ?_ | refine Spl.dec (fun h => ?_) (fun h => ?_) | refine Spl.eq (fun h => ?_) (fun h => ?_) | refine Spl.ne (fun h => ?_) (fun h => ?_) | refine Spl.seq (fun h => ?_) (fun h => ?_) | refine Spl.not ?_ | refine Spl.any (fun h => ?_) (fun h => ?_))
    | (rw [rows1_get (by omega)])
    | ((with_reducible apply And.intro); first | omega | rfl | (dsimp only; omega))))
    all_goals (conv => whnf)
    refine RWP.cutr (fun st => ∃ v, st = ⟨114, [(0, .pv (is l)), (2, .pv (bv false)), (4, .pv (.sl 1 WR)), (5, .pv (.sl 1 QR)), (6, .pv (sv s)), (7, .pv (iv (i + 1))), (8, .own 23), (9, .pv (.sl 1 KR)), (10, .pv (iv i)), (11, .pv (iv v))], [], [(23, ⟨1, 3, vg, rows1 (1 :: ps.map unitK)⟩)], []⟩ ∧ 0 ≤ v ∧ v ≤ 9223372036854775807) ?_ ?_
    · refine RWP.of tabOk orders ?_
      repeat' ((conv => whnf); (first
    | (with_reducible first | refine Spl.yes ?_ | refine Spl.no ?_ | refine Spl.dec (fun h => ?_) (fun h => ?_) | refine Spl.eq (fun h => ?_) (fun h => ?_) | refine Spl.ne (fun h => ?_) (fun h => ?_) | refine Spl.seq (fun h => ?_) (fun h => ?_) | refine Spl.not ?_ | refine Spl.any (fun h => ?_) (fun h => ?_))
    | ((with_reducible apply And.intro); first | omega | rfl | (dsimp only; omega))))
      all_goals (conv => whnf)
      all_goals (refine ⟨_, Wk.narrow _ [0, 2, 4, 5, 6, 7, 8, 9, 10, 11] [] [23], _, rfl, ?_, ?_⟩)
      all_goals omega
    rintro _ ⟨v, rfl, hv0, hv1⟩
    have hU : UnitOk (v % 8, v / 8 % 5) := ⟨by show 0 ≤ v % 8; omega, by show v % 8 < 8; omega, by show 0 ≤ v / 8 % 5; omega, by show v / 8 % 5 < 5; omega⟩
    obtain ⟨s1, hs1, hn1⟩ := hW (v % 8) hU.1 hU.2.1
    obtain ⟨s2, hs2, hn2⟩ := hQ (v / 8 % 5) hU.2.2.1 hU.2.2.2
    have hk1 := hK (v % 8) hU.1 hU.2.1
    have hul := unit_len hU
    have hsn : numsOf (s ++ (s1 ++ s2)) = 120 :: chainW (ps ++ [(v % 8, v / 8 % 5)]) := by
      rw [nums_app, nums_app, hs, hn1, hn2, chain_snoc]
      rfl
    have hsz : s.size ≤ 201 := by
      have h1 := congrArg List.length hs
      have h2 := chain_len hps
      rw [numsOf_len, List.length_cons] at h1
      omega
    have hsz2 : s1.size + s2.size ≤ 10 := by
      have h1 : numsOf (s1 ++ s2) = unitW (v % 8, v / 8 % 5) := by rw [nums_app, hn1, hn2]; rfl
      have h2 := congrArg List.length h1
      rw [numsOf_len, ByteArray.size_append] at h2
      omega
    have hz1 : s1.size + s2.size ≤ 9223372036854775807 := by omega
    have hz2 : s.size + (s1 ++ s2).size ≤ 9223372036854775807 := by rw [ByteArray.size_append]; omega
    have hps' : ∀ p ∈ ps ++ [(v % 8, v / 8 % 5)], UnitOk p := by
      intro p hp
      rcases List.mem_append.1 hp with hp | hp
      · exact hps p hp
      · simp at hp; subst hp; exact hU
    refine RWP.seqx tabOk orders ?_
    repeat' ((conv => whnf); (first
    | (with_reducible first | refine Spl.yes ?_ | refine Spl.no ?_ | refine Spl.dec (fun h => ?_) (fun h => ?_) | refine Spl.eq (fun h => ?_) (fun h => ?_) | refine Spl.ne (fun h => ?_) (fun h => ?_) | refine Spl.seq (fun h => ?_) (fun h => ?_) | refine Spl.not ?_ | refine Spl.any (fun h => ?_) (fun h => ?_))
    | refine drawn_text (by decide +kernel) ?_
    | (rw [hs1])
    | (rw [hs2])
    | refine And.intro hz1 ?_
    | refine And.intro hz2 ?_
    | ((with_reducible apply And.intro); first | omega | rfl | (dsimp only; omega))))
    all_goals (conv => whnf)
    refine RWP.seqx tabOk orders ?_
    repeat' ((conv => whnf); (first
    | (with_reducible first | refine Spl.yes ?_ | refine Spl.no ?_ | refine Spl.dec (fun h => ?_) (fun h => ?_) | refine Spl.eq (fun h => ?_) (fun h => ?_) | refine Spl.ne (fun h => ?_) (fun h => ?_) | refine Spl.seq (fun h => ?_) (fun h => ?_) | refine Spl.not ?_ | refine Spl.any (fun h => ?_) (fun h => ?_))
    | ((with_reducible apply And.intro); first | omega | rfl | (dsimp only; omega))))
    all_goals (conv => whnf)
    have hru : rows1 (1 :: ps.map unitK) ++ [[iv (unitK (v % 8, v / 8 % 5))]] = rows1 (1 :: (ps ++ [(v % 8, v / 8 % 5)]).map unitK) := by simp [rows1]
    have hrk : (rows1 (1 :: ps.map unitK)).length = ps.length + 1 := by simp [rows1]
    have hpl : ((ps ++ [(v % 8, v / 8 % 5)]).length : Int) = i + 1 := by simp; omega
    refine RWP.of tabOk orders ?_
    repeat' ((conv => whnf); (first
    | (with_reducible first | refine Spl.yes ?_ | refine Spl.no ?_ | refine Spl.dec (fun h => ?_) (fun h => ?_) | refine Spl.eq (fun h => ?_) (fun h => ?_) | refine Spl.ne (fun h => ?_) (fun h => ?_) | refine Spl.seq (fun h => ?_) (fun h => ?_) | refine Spl.not ?_ | refine Spl.any (fun h => ?_) (fun h => ?_))
    | (rw [hk1])
    | refine And.intro (by show ((rows1 (1 :: List.map unitK ps)).length + 1) * 8 ≤ 140737488355328; omega) ?_
    | refine And.intro (Nat.le_of_ble_eq_true rfl) ?_
    | ((with_reducible apply And.intro); first | omega | rfl | (dsimp only; omega))))
    all_goals (conv => whnf)
    · refine RWP.of tabOk orders ?_
      repeat' ((conv => whnf); (first
    | (with_reducible first | refine Spl.yes ?_ | refine Spl.no ?_ | refine Spl.dec (fun h => ?_) (fun h => ?_) | refine Spl.eq (fun h => ?_) (fun h => ?_) | refine Spl.ne (fun h => ?_) (fun h => ?_) | refine Spl.seq (fun h => ?_) (fun h => ?_) | refine Spl.not ?_ | refine Spl.any (fun h => ?_) (fun h => ?_))
    | ((with_reducible apply And.intro); first | omega | rfl | (dsimp only; omega))))
      all_goals (conv => whnf)
      have hu2 : unitK (v % 8, v / 8 % 5) = 20 := if_pos (by show v / 8 % 5 > 0; omega)
      rw [hu2] at hru
      exact ⟨(20 - (i + 1)).toNat, _, by omega, Wk.trans (Wk.rn 66 23 rfl rfl) (Wk.narrow _ [0, 2, 4, 5, 6, 7, 8, 9, 10] [] [23]), i + 1, ps ++ [(v % 8, v / 8 % 5)], s ++ (s1 ++ s2), _, Eq.trans rfl (congrArg (fun X => (⟨114, [(0, .pv (is l)), (2, .pv (bv false)), (4, .pv (.sl 1 WR)), (5, .pv (.sl 1 QR)), (6, .pv (sv (s ++ (s1 ++ s2)))), (7, .pv (iv (i + 1 + 1))), (8, .own 23), (9, .pv (.sl 1 KR)), (10, .pv (iv (i + 1)))], [], [(23, ⟨1, 3, _, X⟩)], []⟩ : St)) hru), by omega, by omega, hpl, hps', hsn, rfl⟩
    · refine RWP.of tabOk orders ?_
      repeat' ((conv => whnf); (first
    | (with_reducible first | refine Spl.yes ?_ | refine Spl.no ?_ | refine Spl.dec (fun h => ?_) (fun h => ?_) | refine Spl.eq (fun h => ?_) (fun h => ?_) | refine Spl.ne (fun h => ?_) (fun h => ?_) | refine Spl.seq (fun h => ?_) (fun h => ?_) | refine Spl.not ?_ | refine Spl.any (fun h => ?_) (fun h => ?_))
    | ((with_reducible apply And.intro); first | omega | rfl | (dsimp only; omega))))
      all_goals (conv => whnf)
      have hu2 : unitK (v % 8, v / 8 % 5) = wordK (v % 8) := if_neg (by show ¬ v / 8 % 5 > 0; omega)
      rw [hu2] at hru
      exact ⟨(20 - (i + 1)).toNat, _, by omega, Wk.trans (Wk.rn 74 23 rfl rfl) (Wk.narrow _ [0, 2, 4, 5, 6, 7, 8, 9, 10] [] [23]), i + 1, ps ++ [(v % 8, v / 8 % 5)], s ++ (s1 ++ s2), _, Eq.trans rfl (congrArg (fun X => (⟨114, [(0, .pv (is l)), (2, .pv (bv false)), (4, .pv (.sl 1 WR)), (5, .pv (.sl 1 QR)), (6, .pv (sv (s ++ (s1 ++ s2)))), (7, .pv (iv (i + 1 + 1))), (8, .own 23), (9, .pv (.sl 1 KR)), (10, .pv (iv (i + 1)))], [], [(23, ⟨1, 3, _, X⟩)], []⟩ : St)) hru), by omega, by omega, hpl, hps', hsn, rfl⟩
  rintro _ ⟨ps, s, vg, n, rfl, hn, hps, hs, hpl⟩
  have hsz : s.size ≤ 1000 := by
    have h1 := congrArg List.length hs
    have h2 := chain_len hps
    rw [numsOf_len, List.length_cons] at h1
    omega
  have h1 := parsed7_c s (by omega)
  obtain ⟨f, ks, hp, hp0, hp1⟩ := chains_plain hps hsz hs
  rw [hp] at h1
  have hrks := rowsN_len ks
  refine RWP.weak (Wk.trans (Wk.freeze 8 (k := 23) rfl rfl) (Wk.narrow _ [2, 6, 7, 8] [] [])) ?_
  have hrw := rows1_len (1 :: ps.map unitK)
  refine RWP.seqx tabOk orders ?_
  repeat' ((conv => whnf); (first
    | (with_reducible first | refine Spl.yes ?_ | refine Spl.no ?_ | refine Spl.dec (fun h => ?_) (fun h => ?_) | refine Spl.eq (fun h => ?_) (fun h => ?_) | refine Spl.ne (fun h => ?_) (fun h => ?_) | refine Spl.seq (fun h => ?_) (fun h => ?_) | refine Spl.not ?_ | refine Spl.any (fun h => ?_) (fun h => ?_))
    | (refine VCalls.mono (h1) ?_; rintro _ rfl)
    | refine And.intro (Nat.le_of_ble_eq_true rfl) ?_
    | ((with_reducible apply And.intro); first | omega | rfl | (dsimp only; omega))))
  all_goals (conv => whnf)
  refine RWP.seqx tabOk orders ?_
  repeat' ((conv => whnf); (first
    | (with_reducible first | refine Spl.yes ?_ | refine Spl.no ?_ | refine Spl.dec (fun h => ?_) (fun h => ?_) | refine Spl.eq (fun h => ?_) (fun h => ?_) | refine Spl.ne (fun h => ?_) (fun h => ?_) | refine Spl.seq (fun h => ?_) (fun h => ?_) | refine Spl.not ?_ | refine Spl.any (fun h => ?_) (fun h => ?_))
    | ((with_reducible apply And.intro); first | omega | rfl | (dsimp only; omega))))
  all_goals (conv => whnf)
  · exact absurd rfl (by assumption)
  by_cases c : ps = []
  · have hk1 := hp0 c
    have hn1 : n = 1 := by rw [hn, c]; rfl
    refine RWP.seqx tabOk orders ?_
    repeat' ((conv => whnf); (first
    | (with_reducible first | refine Spl.yes ?_ | refine Spl.no ?_ | refine Spl.dec (fun h => ?_) (fun h => ?_) | refine Spl.eq (fun h => ?_) (fun h => ?_) | refine Spl.ne (fun h => ?_) (fun h => ?_) | refine Spl.seq (fun h => ?_) (fun h => ?_) | refine Spl.not ?_ | refine Spl.any (fun h => ?_) (fun h => ?_))
    | ((with_reducible apply And.intro); first | omega | rfl | (dsimp only; omega))))
    all_goals (conv => whnf)
    · exact congrArg bv (beq_iff_eq.2 hk1)
    · exact absurd hn1 (by assumption)
  obtain ⟨hk12, hkl, hkm⟩ := hp1 c
  have hpn : ps.length ≠ 0 := by simpa using c
  refine RWP.seqx tabOk orders ?_
  repeat' ((conv => whnf); (first
    | (with_reducible first | refine Spl.yes ?_ | refine Spl.no ?_ | refine Spl.dec (fun h => ?_) (fun h => ?_) | refine Spl.eq (fun h => ?_) (fun h => ?_) | refine Spl.ne (fun h => ?_) (fun h => ?_) | refine Spl.seq (fun h => ?_) (fun h => ?_) | refine Spl.not ?_ | refine Spl.any (fun h => ?_) (fun h => ?_))
    | ((with_reducible apply And.intro); first | omega | rfl | (dsimp only; omega))))
  all_goals (conv => whnf)
  · exfalso; omega
  refine RWP.seqx tabOk orders ?_
  repeat' ((conv => whnf); (first
    | (with_reducible first | refine Spl.yes ?_ | refine Spl.no ?_ | refine Spl.dec (fun h => ?_) (fun h => ?_) | refine Spl.eq (fun h => ?_) (fun h => ?_) | refine Spl.ne (fun h => ?_) (fun h => ?_) | refine Spl.seq (fun h => ?_) (fun h => ?_) | refine Spl.not ?_ | refine Spl.any (fun h => ?_) (fun h => ?_))
    | ((with_reducible apply And.intro); first | omega | rfl | (dsimp only; omega))))
  all_goals (conv => whnf)
  · exact absurd hk12 (by assumption)
  · exfalso; omega
  have hkj : ∀ j : Int, 0 ≤ j → j < ks.length → (rdn ks j).f.kind = rd1 (1 :: ps.map unitK) j := by
    intro j h0 h1
    rw [← hkm]
    unfold rd1 rdn
    rw [List.getD_eq_getElem?_getD, List.getD_eq_getElem?_getD, List.getElem?_map, List.getElem?_eq_getElem (by omega)]
    rfl
  have hwl : (1 :: ps.map unitK).length = ks.length := by simp [hkl]
  generalize (1 :: ps.map unitK) = ws at *
  have hr1l := rows1_len ws
  refine RWP.seq ?_
  refine RWP.seqx tabOk orders ?_
  conv => whnf
  refine RWP.block ?_
  refine RWP.loop (fun k st => ∃ (j : Int), st = ⟨114, [(2, .pv (bv false)), (7, .pv (iv n)), (8, .pv (.sl 1 (rows1 ws))), (12, .ptr 12 0), (15, .pv (iv j))], [(12, (27, nfe f ks))], [], []⟩ ∧ 0 ≤ j ∧ j ≤ n ∧ k = (n - j).toNat)
    ⟨_, _, Wk.narrow _ [2, 7, 8, 12, 15] [12] [], 0, rfl, by omega, by omega, rfl⟩ ?_
  rintro k st ⟨j, rfl, hj0, hj1, hk⟩
  refine RWP.seqx tabOk orders ?_
  repeat' ((conv => whnf); (first
    | (with_reducible first | refine Spl.yes ?_ | refine Spl.no ?_ | refine Spl.dec (fun h => ?_) (fun h => ?_) | refine Spl.eq (fun h => ?_) (fun h => ?_) | refine Spl.ne (fun h => ?_) (fun h => ?_) | refine Spl.seq (fun h => ?_) (fun h => ?_) | refine Spl.not ?_ | refine Spl.any (fun h => ?_) (fun h => ?_))
    | ((with_reducible apply And.intro); first | omega | rfl | (dsimp only; omega))))
  all_goals (conv => whnf)
  rotate_left
  · refine RWP.of tabOk orders ?_
    conv => whnf
    rfl
  have hc := hkj j hj0 (by omega)
  obtain ⟨f3, k3, h3⟩ := (rdn ks j).ex
  rw [h3] at hc
  refine RWP.of tabOk orders ?_
  repeat' ((conv => whnf); (first
    | (with_reducible first | refine Spl.yes ?_ | refine Spl.no ?_ | refine Spl.dec (fun h => ?_) (fun h => ?_) | refine Spl.eq (fun h => ?_) (fun h => ?_) | refine Spl.ne (fun h => ?_) (fun h => ?_) | refine Spl.seq (fun h => ?_) (fun h => ?_) | refine Spl.not ?_ | refine Spl.any (fun h => ?_) (fun h => ?_))
    | refine drawn_text (by decide +kernel) ?_
    | (rw [rowsN_get (by omega)])
    | (rw [rows1_get (by omega)])
    | (rw [h3])
    | refine And.intro (Nat.le_of_ble_eq_true rfl) ?_
    | ((with_reducible apply And.intro); first | omega | rfl | (dsimp only; omega))))
  all_goals (conv => whnf)
  all_goals first
    | exact ⟨(n - (j + 1)).toNat, _, by omega, Wk.narrow _ [2, 7, 8, 12, 15] [12] [], j + 1, rfl, by omega, by omega, rfl⟩
    | exact absurd hc (by assumption)
end Go.Proofs.Ytnoohgiecnmajaa.VC

/- From contracts on bytes and numbers to the forms that rows ask. -/
namespace Go.Proofs.Ytnoohgiecnmajaa.VC
open Go Go.RowKit
set_option linter.unusedVariables false
set_option linter.unusedSimpArgs false
set_option maxHeartbeats 4000000

theorem bytes_in (a : Option Addr) (len cap : Nat) (z : List Int) (W : World) (hz : ((a = none ∧ len = 0 ∧ cap = 0 ∧ z = []) ∨ ∃ x, a = some x ∧ len ≤ cap ∧ cap ≤ maxLen ∧ z.length = cap ∧ (∀ i, i < z.length → W.cell? (x.add i) = some (.int .u8 (z.getD i 0))) ∧ ∀ n ∈ z, (Lit.int .u8 n).wf = true)) :
    Bytes (z.take len) ∧ VR (fun _ _ => False) W (ys (z.take len)) (.slice a len cap) := by
  have hb : Bytes (z.take len) := by
    intro n hn
    have hn := List.mem_of_mem_take hn
    rcases hz with ⟨_, _, _, rfl⟩ | ⟨x, _, _, _, _, _, hw⟩
    · simp at hn
    · have := hw n hn
      simp only [Lit.wf, Bool.and_eq_true, decide_eq_true_eq] at this
      exact ⟨this.1, this.2⟩
  have hlen : (byteRows (z.take len)).length = len := by
    rcases hz with ⟨_, rfl, _, rfl⟩ | ⟨x, _, h1, _, h2, _⟩
    · simp [byteRows]
    · simp [byteRows]; omega
  have hvr : VR (fun _ _ => False) W (ys (z.take len)) (.slice a len cap) := by
    simp only [VR]
    refine ⟨a, cap, by rw [hlen], ?_, ?_⟩
    · rw [hlen]
      rcases hz with ⟨_, rfl, rfl, _⟩ | ⟨x, _, h1, _⟩
      · exact Nat.le_refl _
      · exact h1
    · rcases hz with ⟨rfl, rfl, rfl, rfl⟩ | ⟨x, rfl, h1, h2, h3, h4, h5⟩
      · exact .inl (by simp [byteRows])
      · by_cases e : len = 0
        · exact .inl (by subst e; simp [byteRows])
        · obtain ⟨b, off, spot⟩ := x
          have h40 := h4 0 (by omega)
          have hs : spot = none := by
            cases spot with
            | none => rfl
            | some s =>
              exfalso
              have hn : W.cell? ⟨b, off, some s⟩ = none := by
                unfold World.cell?
                split
                · simp
                · rfl
              have ha : (⟨b, off, some s⟩ : Addr).add 0 = ⟨b, off, some s⟩ := by unfold Addr.add; rw [if_pos rfl]
              rw [ha, hn] at h40
              cases h40
          subst hs
          refine .inr ⟨b, off, rfl, rows_of_cells _ _ (fun i hi => ?_)⟩
          rw [List.length_take] at hi
          have := h4 i (by omega)
          have hadd : (⟨b, off, none⟩ : Addr).add i = ⟨b, off + i, none⟩ := by
            unfold Addr.add
            split
            · rename_i e0; subst e0; rfl
            · rfl
          rw [hadd] at this
          rw [this]
          simp [List.getD_eq_getElem?_getD, List.getElem?_take, show i < len by omega]
  exact ⟨hb, hvr⟩
theorem rows_of_ints {w : World} {b : Nat} : ∀ (l : List Int) (off : Nat), (∀ i, i < l.length → w.cell? ⟨b, off + i, none⟩ = some (.int .i64 (l.getD i 0))) → Rows (fun _ _ => False) w b 1 off (rows1 l)
  | [], off, h => by simp [rows1, Rows]
  | c :: l, off, h => by
    have h0 := h 0 (by simp)
    simp only [rows1, List.map_cons, Rows, Cells, and_true]
    refine ⟨rfl, ⟨_, by simpa using h0, fun h => h, rfl, rfl⟩, ?_⟩
    refine rows_of_ints l (off + 1) (fun i hi => ?_)
    have := h (i + 1) (by simp; omega)
    rw [show off + 1 + i = off + (i + 1) by omega, this]
    simp
theorem ints_in (a : Option Addr) (len cap : Nat) (z : List Int) (W : World) (hz : ((a = none ∧ len = 0 ∧ cap = 0 ∧ z = []) ∨ ∃ x, a = some x ∧ len ≤ cap ∧ cap ≤ maxLen ∧ z.length = cap ∧ (∀ i, i < z.length → W.cell? (x.add i) = some (.int .i64 (z.getD i 0))) ∧ ∀ n ∈ z, (Lit.int .i64 n).wf = true)) :
    (∀ x ∈ z.take len, -9223372036854775808 ≤ x ∧ x ≤ 9223372036854775807) ∧ VR (fun _ _ => False) W (is (z.take len)) (.slice a len cap) := by
  have hb : ∀ x ∈ z.take len, -9223372036854775808 ≤ x ∧ x ≤ 9223372036854775807 := by
    intro n hn
    have hn := List.mem_of_mem_take hn
    rcases hz with ⟨_, _, _, rfl⟩ | ⟨x, _, _, _, _, _, hw⟩
    · simp at hn
    · have := hw n hn
      simp only [Lit.wf, Bool.and_eq_true, decide_eq_true_eq] at this
      exact ⟨this.1, this.2⟩
  have hlen : (rows1 (z.take len)).length = len := by
    rcases hz with ⟨_, rfl, _, rfl⟩ | ⟨x, _, h1, _, h2, _⟩
    · simp [rows1]
    · simp [rows1]; omega
  have hvr : VR (fun _ _ => False) W (is (z.take len)) (.slice a len cap) := by
    simp only [VR]
    refine ⟨a, cap, by rw [hlen], ?_, ?_⟩
    · rw [hlen]
      rcases hz with ⟨_, rfl, rfl, _⟩ | ⟨x, _, h1, _⟩
      · exact Nat.le_refl _
      · exact h1
    · rcases hz with ⟨rfl, rfl, rfl, rfl⟩ | ⟨x, rfl, h1, h2, h3, h4, h5⟩
      · exact .inl (by simp [rows1])
      · by_cases e : len = 0
        · exact .inl (by subst e; simp [rows1])
        · obtain ⟨b, off, spot⟩ := x
          have h40 := h4 0 (by omega)
          have hs : spot = none := by
            cases spot with
            | none => rfl
            | some s =>
              exfalso
              have hn : W.cell? ⟨b, off, some s⟩ = none := by
                unfold World.cell?
                split
                · simp
                · rfl
              have ha : (⟨b, off, some s⟩ : Addr).add 0 = ⟨b, off, some s⟩ := by unfold Addr.add; rw [if_pos rfl]
              rw [ha, hn] at h40
              cases h40
          subst hs
          refine .inr ⟨b, off, rfl, rows_of_ints _ _ (fun i hi => ?_)⟩
          rw [List.length_take] at hi
          have := h4 i (by omega)
          have hadd : (⟨b, off, none⟩ : Addr).add i = ⟨b, off + i, none⟩ := by
            unfold Addr.add
            split
            · rename_i e0; subst e0; rfl
            · rfl
          rw [hadd] at this
          rw [this]
          simp [List.getD_eq_getElem?_getD, List.getElem?_take, show i < len by omega]
  exact ⟨hb, hvr⟩
theorem calls_rowB {f : FuncId} (h : ∀ l, Bytes l → VCalls Try.prog f [ys l] (fun r => r = bv true)) (a : Option Addr) (len cap : Nat) (z : List Int) (W : World) (hz : ((a = none ∧ len = 0 ∧ cap = 0 ∧ z = []) ∨ ∃ x, a = some x ∧ len ≤ cap ∧ cap ≤ maxLen ∧ z.length = cap ∧ (∀ i, i < z.length → W.cell? (x.add i) = some (.int .u8 (z.getD i 0))) ∧ ∀ n ∈ z, (Lit.int .u8 n).wf = true)) :
    Calls Try.prog f #[.slice a len cap] W (fun e W' => e = .returned (.bool true) ∧ Below W.heap.size W W') := by
  have hb := bytes_in a len cap z W hz
  refine ((h (z.take len) hb.1).calls (fun _ _ => False) W [.slice a len cap] (fun _ _ hf => hf.elim) ?_).mono fun e W' ⟨v, r, k1, k2, k3, k4⟩ => ?_
  · simp only [VRs]
    exact ⟨_, _, rfl, hb.2, rfl⟩
  · subst k4
    have k3 : v = .bool true := k3
    subst k3
    exact ⟨k1, k2⟩
theorem calls_rowBB {f : FuncId} (h : ∀ l m, Bytes l → Bytes m → VCalls Try.prog f [ys l, ys m] (fun r => r = bv true)) (a : Option Addr) (len cap : Nat) (z : List Int) (a2 : Option Addr) (len2 cap2 : Nat) (z2 : List Int) (W : World) (hz : ((a = none ∧ len = 0 ∧ cap = 0 ∧ z = []) ∨ ∃ x, a = some x ∧ len ≤ cap ∧ cap ≤ maxLen ∧ z.length = cap ∧ (∀ i, i < z.length → W.cell? (x.add i) = some (.int .u8 (z.getD i 0))) ∧ ∀ n ∈ z, (Lit.int .u8 n).wf = true)) (hz2 : ((a2 = none ∧ len2 = 0 ∧ cap2 = 0 ∧ z2 = []) ∨ ∃ x, a2 = some x ∧ len2 ≤ cap2 ∧ cap2 ≤ maxLen ∧ z2.length = cap2 ∧ (∀ i, i < z2.length → W.cell? (x.add i) = some (.int .u8 (z2.getD i 0))) ∧ ∀ n ∈ z2, (Lit.int .u8 n).wf = true)) :
    Calls Try.prog f #[.slice a len cap, .slice a2 len2 cap2] W (fun e W' => e = .returned (.bool true) ∧ Below W.heap.size W W') := by
  have hb := bytes_in a len cap z W hz
  have hb2 := bytes_in a2 len2 cap2 z2 W hz2
  refine ((h (z.take len) (z2.take len2) hb.1 hb2.1).calls (fun _ _ => False) W [.slice a len cap, .slice a2 len2 cap2] (fun _ _ hf => hf.elim) ?_).mono fun e W' ⟨v, r, k1, k2, k3, k4⟩ => ?_
  · simp only [VRs]
    exact ⟨_, _, rfl, hb.2, _, _, rfl, hb2.2, rfl⟩
  · subst k4
    have k3 : v = .bool true := k3
    subst k3
    exact ⟨k1, k2⟩
theorem calls_rowL {f : FuncId} (h : ∀ l : List Int, (∀ x ∈ l, -9223372036854775808 ≤ x ∧ x ≤ 9223372036854775807) → l.length ≤ maxLen → VCalls Try.prog f [is l] (fun r => r = bv true)) (a : Option Addr) (len cap : Nat) (z : List Int) (W : World) (hz : ((a = none ∧ len = 0 ∧ cap = 0 ∧ z = []) ∨ ∃ x, a = some x ∧ len ≤ cap ∧ cap ≤ maxLen ∧ z.length = cap ∧ (∀ i, i < z.length → W.cell? (x.add i) = some (.int .i64 (z.getD i 0))) ∧ ∀ n ∈ z, (Lit.int .i64 n).wf = true)) :
    Calls Try.prog f #[.slice a len cap] W (fun e W' => e = .returned (.bool true) ∧ Below W.heap.size W W') := by
  have hb := ints_in a len cap z W hz
  have hl : (z.take len).length ≤ maxLen := by
    rw [List.length_take]
    rcases hz with ⟨_, rfl, _, _⟩ | ⟨x, _, h1, h2, _⟩
    · omega
    · omega
  refine ((h (z.take len) hb.1 hl).calls (fun _ _ => False) W [.slice a len cap] (fun _ _ hf => hf.elim) ?_).mono fun e W' ⟨v, r, k1, k2, k3, k4⟩ => ?_
  · simp only [VRs]
    exact ⟨_, _, rfl, hb.2, rfl⟩
  · subst k4
    have k3 : v = .bool true := k3
    subst k3
    exact ⟨k1, k2⟩
theorem calls_rowBII {f : FuncId} (h : ∀ l o k, Bytes l → VCalls Try.prog f [ys l, iv o, iv k] (fun r => r = bv true)) (a : Option Addr) (len cap : Nat) (z : List Int) (o k : Int) (W : World) (hz : ((a = none ∧ len = 0 ∧ cap = 0 ∧ z = []) ∨ ∃ x, a = some x ∧ len ≤ cap ∧ cap ≤ maxLen ∧ z.length = cap ∧ (∀ i, i < z.length → W.cell? (x.add i) = some (.int .u8 (z.getD i 0))) ∧ ∀ n ∈ z, (Lit.int .u8 n).wf = true)) :
    Calls Try.prog f #[.slice a len cap, .int .i64 o, .int .i64 k] W (fun e W' => e = .returned (.bool true) ∧ Below W.heap.size W W') := by
  have hb := bytes_in a len cap z W hz
  refine ((h (z.take len) o k hb.1).calls (fun _ _ => False) W [.slice a len cap, .int .i64 o, .int .i64 k] (fun _ _ hf => hf.elim) ?_).mono fun e W' ⟨v, r, k1, k2, k3, k4⟩ => ?_
  · simp only [VRs]
    exact ⟨_, _, rfl, hb.2, _, _, rfl, rfl, _, _, rfl, rfl, rfl⟩
  · subst k4
    have k3 : v = .bool true := k3
    subst k3
    exact ⟨k1, k2⟩
end Go.Proofs.Ytnoohgiecnmajaa.VC

