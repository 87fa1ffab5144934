/- A part of the ground of the proof. No condition. -/
import Derived.Test.YtnoohgiecnmajaaGFT13

/- parse: groups within one another (plain). -/
namespace Go.Proofs.Ytnoohgiecnmajaa.VC
open Go Go.RowKit
set_option linter.unusedVariables false
set_option linter.unusedSimpArgs false
set_option maxHeartbeats 4000000

/-- What opens a group, and its kind. -/
structure Opens (x : Text) (w : List Int) (kn : Int) : Prop where
  h : ∀ (i c : Int) (r : List Int), 0 ≤ i → (numsOf x.s).drop i.toNat = w ++ c :: r → (c = 40 ∨ c = 97) → tokC x i 40 (i + 1) = tokG { tokZ with kind := 10, n := kn } i (i + w.length)
  hd : ∃ r, w = 40 :: r
  kn1 : 1 ≤ kn ∧ kn ≤ 8
theorem opens1 (x : Text) : Opens x [40] 1 := by
  refine ⟨fun i c r h0 h hc => ?_, ⟨_, rfl⟩, by decide⟩
  unfold tokC
  rw [if_neg (by decide), if_neg (by decide), if_pos rfl]
  exact open_drop h0 h (by omega) (by omega)
theorem opensQ (x : Text) (b kn : Int) (hkn : 1 ≤ kn ∧ kn ≤ 8) (l1 l2 : List (ByteArray × Int)) (p : ByteArray) (hp : numsOf p = [b]) (hl : openList = l1 ++ (p, kn) :: l2) (hn : ∀ q ∈ l1, ∃ c r, numsOf q.1 = c :: r ∧ c ≠ b) : Opens x [40, 63, b] kn := by
  refine ⟨fun i c r h0 h hc => ?_, ⟨_, rfl⟩, hkn⟩
  unfold tokC
  rw [if_neg (by decide), if_neg (by decide), if_pos rfl]
  have h : (numsOf x.s).drop i.toNat = 40 :: 63 :: b :: c :: r := h
  obtain ⟨b1, b2, b3⟩ := byte_drop h0 h
  obtain ⟨c1, c2, c3⟩ := byte_drop (by omega) b3
  obtain ⟨d1, d2, d3⟩ := byte_drop (by omega) c3
  rw [show i + 1 + 1 = i + 2 by omega] at c3 d2
  have e1 : isP x.s (i + 1) (bs [42]) = false := by rw [isP_pre _ _ _ (by omega) (by decide), b3]; rfl
  have e2 : isP x.s (i + 1) (bs [63]) = true := by rw [isP_pre _ _ _ (by omega) (by decide), b3]; rfl
  have key : ∀ l g, (∀ q ∈ l, ∃ c r, numsOf q.1 = c :: r ∧ c ≠ b) → openL x i (i + 2) g (l ++ (p, kn) :: l2) = tokG { tokZ with kind := 10, n := kn } i (i + 2 + p.size) := by
    intro l g
    induction l with
    | nil =>
      intro _
      have hpz : p.size ≠ 0 := by rw [← numsOf_len, hp]; simp
      rw [List.nil_append, openL, if_pos]
      rw [isP_pre _ _ _ (by omega) hpz, c3, hp]
      simp [List.isPrefixOf]
    | cons q l ih =>
      intro hq
      obtain ⟨c0, r0, hq1, hq2⟩ := hq q (List.mem_cons_self ..)
      have hqz : q.1.size ≠ 0 := by rw [← numsOf_len, hq1]; simp
      rw [List.cons_append, openL, if_neg]
      · exact ih (fun q hq' => hq q (List.mem_cons_of_mem _ hq'))
      · rw [isP_pre _ _ _ (by omega) hqz, c3, hq1]
        simp [List.isPrefixOf, hq2]
  unfold openP
  rw [if_neg (by rw [e1]; simp), if_neg (by rw [e2]; simp), if_neg (by omega), hl, key _ _ hn]
  have hpz : p.size = 1 := by rw [← numsOf_len, hp]; rfl
  rw [hpz]
  congr 1
  simp
  omega
def opW : Int → List Int
  | 0 => [40]
  | 1 => [40, 63, 58]
  | 2 => [40, 63, 61]
  | 3 => [40, 63, 62]
  | _ => [40, 63, 124]
theorem opens_all (x : Text) (j : Int) (h0 : 0 ≤ j) (h1 : j < 5) : ∃ kn, Opens x (opW j) kn := by
  have : j = 0 ∨ j = 1 ∨ j = 2 ∨ j = 3 ∨ j = 4 := by omega
  rcases this with rfl | rfl | rfl | rfl | rfl
  · exact ⟨1, opens1 x⟩
  · exact ⟨2, opensQ x 58 2 (by decide) [] _ (bs [58]) rfl rfl (by simp)⟩
  · exact ⟨5, opensQ x 61 5 (by decide) [(bs [58], 2), (bs [124], 3), (bs [62], 4)] _ (bs [61]) rfl rfl (by
      intro q hq
      simp only [List.mem_cons, List.not_mem_nil, or_false] at hq
      rcases hq with rfl | rfl | rfl
      · exact ⟨58, [], rfl, by decide⟩
      · exact ⟨124, [], rfl, by decide⟩
      · exact ⟨62, [], rfl, by decide⟩)⟩
  · exact ⟨4, opensQ x 62 4 (by decide) [(bs [58], 2), (bs [124], 3)] _ (bs [62]) rfl rfl (by
      intro q hq
      simp only [List.mem_cons, List.not_mem_nil, or_false] at hq
      rcases hq with rfl | rfl
      · exact ⟨58, [], rfl, by decide⟩
      · exact ⟨124, [], rfl, by decide⟩)⟩
  · exact ⟨3, opensQ x 124 3 (by decide) [(bs [58], 2)] _ (bs [124]) rfl rfl (by
      intro q hq
      simp only [List.mem_cons, List.not_mem_nil, or_false] at hq
      rcases hq with rfl
      exact ⟨58, [], rfl, by decide⟩)⟩
def opToks (kn n : Int) : Nat → Int → List Tok
  | 0, _ => []
  | m + 1, i => { ({ tokZ with kind := 10, n := kn } : Tok) with at_ := i, to := i + n } :: opToks kn n m (i + n)
def clToks : Nat → Int → List Tok
  | 0, _ => []
  | m + 1, i => { ({ tokZ with kind := 8 } : Tok) with at_ := i, to := i + 1 } :: clToks m (i + 1)
theorem lex_ops {x : Text} {w : List Int} {kn : Int} (hu : x.utf = false) (hx : x.x = false) (hO : Opens x w kn) : ∀ (m : Nat) (i : Int) (k : Nat) (out : List Tok) (R : List Int), 0 ≤ i → (numsOf x.s).drop i.toNat = rep m w ++ 97 :: R →
    lexGo x (k + m) i false out = lexGo x k (i + m * w.length) false (out ++ opToks kn w.length m i)
  | 0, i, k, out, R, h0, h => by simp [opToks]
  | m + 1, i, k, out, R, h0, h => by
    obtain ⟨r, hr⟩ := hO.hd
    rw [rep, List.append_assoc] at h
    have hnext : ∃ c r', rep m w ++ 97 :: R = c :: r' ∧ (c = 40 ∨ c = 97) := by
      cases m with
      | zero => exact ⟨97, R, rfl, .inr rfl⟩
      | succ m => rw [rep, hr]; exact ⟨40, _, rfl, .inl rfl⟩
    obtain ⟨c, r', hc1, hc2⟩ := hnext
    have ht := hO.h i c r' h0 (by rw [h, hc1]) hc2
    have hs := lex_step (k := k + m) (out := out) hu hx h0 (c := 40) (r := r ++ (rep m w ++ 97 :: R)) (by rw [h, hr]; rfl) (by decide) ht
    rw [show k + (m + 1) = k + m + 1 by omega, hs, lex_ops hu hx hO m (i + w.length) k _ R (by omega) (drop_add h0 h), opToks]
    rw [List.append_assoc]
    congr 1
    rw [Int.natCast_succ, Int.add_mul]
    omega
theorem lex_cls {x : Text} (hu : x.utf = false) (hx : x.x = false) : ∀ (m : Nat) (i : Int) (k : Nat) (out : List Tok), 0 ≤ i → (numsOf x.s).drop i.toNat = rep m [41] →
    lexGo x (k + m) i false out = lexGo x k (i + m) false (out ++ clToks m i)
  | 0, i, k, out, h0, h => by simp [clToks]
  | m + 1, i, k, out, h0, h => by
    have h : (numsOf x.s).drop i.toNat = 41 :: rep m [41] := h
    obtain ⟨b1, b2, b3⟩ := byte_drop h0 h
    have hs := lex_step (k := k + m) (out := out) hu hx h0 h (by decide) (t := { tokZ with kind := 8 }) (b := i + 1) (by unfold tokC; rw [if_neg (by decide), if_neg (by decide), if_neg (by decide), if_neg (by decide), if_neg (by decide), if_neg (by decide), if_neg (by decide), if_pos rfl])
    rw [show k + (m + 1) = k + m + 1 by omega, hs, lex_cls hu hx m (i + 1) k _ (by omega) b3, clToks]
    rw [List.append_assoc]
    congr 1
    omega
/-- Levels that may be closed. -/
def Clo : List Lev → Prop
  | [] => False
  | [_] => True
  | v :: u :: st => 1 ≤ v.op.n ∧ v.op.n ≤ 8 ∧ Clo (u :: st)
theorem Clo.put {v v' : Lev} {st : List Lev} (h : Clo (v :: st)) (e : v'.op = v.op) : Clo (v' :: st) := by
  cases st with
  | nil => trivial
  | cons u st => exact ⟨by rw [e]; exact h.1, by rw [e]; exact h.2.1, h.2.2⟩
theorem run_ops {en kn n : Int} {R : List Tok} (hk : 1 ≤ kn ∧ kn ≤ 8) : ∀ (m : Nat) (i : Int) (v : Lev) (st : List Lev), Clo (v :: st) → st.length ≤ 40 →
    (st.length + m ≤ 40 → ∃ v' st', runS en (opToks kn n m i ++ R) v st = runS en R v' st' ∧ Clo (v' :: st') ∧ st'.length = st.length + m) ∧
    (¬ st.length + m ≤ 40 → runS en (opToks kn n m i ++ R) v st = ⟨nodeZ, 11, i + (40 - st.length) * n⟩)
  | 0, i, v, st, hc, hl => ⟨fun _ => ⟨v, st, rfl, hc, rfl⟩, fun h => by omega⟩
  | m + 1, i, v, st, hc, hl => by
    rw [opToks, List.cons_append, runS_cons, if_neg (by simp), if_neg (by simp), if_pos rfl]
    by_cases c : (st.length : Int) ≥ 40
    · rw [if_pos c]
      refine ⟨fun h => by omega, fun _ => ?_⟩
      have : (st.length : Int) = 40 := by omega
      rw [this]
      simp
    · rw [if_neg c]
      have ih := run_ops (R := R) (en := en) (n := n) hk m (i + n) (levO { ({ tokZ with kind := 10, n := kn } : Tok) with at_ := i, to := i + n }) (v :: st) ⟨hk.1, hk.2, hc⟩ (by simp; omega)
      simp only [List.length_cons] at ih
      refine ⟨fun h => ?_, fun h => ?_⟩
      · obtain ⟨v', st', h1, h2, h3⟩ := ih.1 (by omega)
        exact ⟨v', st', h1, h2, by omega⟩
      · rw [ih.2 (by omega)]
        congr 1
        rw [show (40 - (st.length : Int)) = (40 - ((st.length + 1 : Nat) : Int)) + 1 by omega, Int.add_mul]
        omega
theorem run_cls {en : Int} : ∀ (m : Nat) (i : Int) (v : Lev) (st : List Lev), Clo (v :: st) → st.length = m → (runS en (clToks m i) v st).e = 0 ∧ (runS en (clToks m i) v st).at_ = 0
  | 0, i, v, st, hc, hl => by
    have : st = [] := List.eq_nil_of_length_eq_zero hl
    subst this
    rw [clToks, runS, if_neg (by simp)]
    exact ⟨rfl, rfl⟩
  | m + 1, i, v, st, hc, hl => by
    cases st with
    | nil => simp at hl
    | cons u st =>
      rw [clToks, runS_cons, if_neg (by simp), if_neg (by simp), if_neg (by simp), if_pos rfl]
      simp only
      have hm : (madeV (VC.endL v)).2 = true := by
        unfold madeV
        have e : (VC.endL v).op = v.op := rfl
        simp [e, hc.1, hc.2.1]
      rw [if_pos hm]
      refine run_cls m (i + 1) _ st (hc.2.2.put ?_) (by simpa using hl)
      unfold addV; split <;> rfl
/-- Groups may lie so deep in one another, and no deeper. -/
theorem deep_plain {s : ByteArray} {n : Nat} {j : Int} (hj0 : 0 ≤ j) (hj1 : j < 5) (hn : n ≤ 100) (h : numsOf s = rep n (opW j) ++ 97 :: rep n [41]) :
    (n > 40 → (parsedP s).e = 11 ∧ (parsedP s).at_ = 40 * (opW j).length) ∧ (¬ n > 40 → (parsedP s).e = 0 ∧ (parsedP s).at_ = 0) := by
  have hw3 : (opW j).length ≤ 3 := by
    have : j = 0 ∨ j = 1 ∨ j = 2 ∨ j = 3 ∨ j = 4 := by omega
    rcases this with rfl | rfl | rfl | rfl | rfl <;> decide
  have hw1 : 1 ≤ (opW j).length := by
    have : j = 0 ∨ j = 1 ∨ j = 2 ∨ j = 3 ∨ j = 4 := by omega
    rcases this with rfl | rfl | rfl | rfl | rfl <;> decide
  have hmul1 : n * 1 ≤ n * (opW j).length := Nat.mul_le_mul_left _ hw1
  have hlen := congrArg List.length h
  rw [List.length_append, List.length_cons, rep_len, rep_len, numsOf_len] at hlen
  have hmul : n * (opW j).length ≤ n * 3 := Nat.mul_le_mul_left _ hw3
  have h41 : n * [(41 : Int)].length = n := by simp
  rw [h41] at hlen
  have hs1 : s.size ≤ 1000 := by omega
  have hu := text0_utf s
  have hx := text0_x s
  have hsz := text0_size s
  have hnum := text0_nums s
  obtain ⟨kn, hO⟩ := opens_all (textOf (numsOf s) 0) j hj0 hj1
  have hlex : lexP (numsOf s) 0 = ⟨opToks kn (opW j).length n 0 ++ ({ ({ tokZ with kind := 1, c := 97 } : Tok) with at_ := n * (opW j).length, to := n * (opW j).length + 1 } :: clToks n (n * (opW j).length + 1)), 0, 0⟩ := by
    rw [lex0 s hs1]
    generalize textOf (numsOf s) 0 = x at *
    have hd : (numsOf x.s).drop (0 : Int).toNat = rep n (opW j) ++ 97 :: rep n [41] := by rw [hnum, h]; rfl
    have s1 := lex_ops hu hx hO n 0 (s.size + 1 - n) [] _ (by omega) hd
    have hnn : n ≤ s.size := by omega
    rw [show s.size + 1 - n + n = s.size + 1 by omega] at s1
    rw [s1, Int.zero_add, List.nil_append]
    have hd2 : (numsOf x.s).drop (n * (opW j).length : Int).toNat = 97 :: rep n [41] := by
      have := drop_add (i := 0) (by omega) hd
      rw [rep_len] at this
      simpa using this
    have s2 := lex_step (k := s.size - n) (out := opToks kn (opW j).length n 0) hu hx (by omega) hd2 (by decide) (t := { tokZ with kind := 1, c := 97 }) (b := n * (opW j).length + 1) (by
      unfold tokC litG
      rw [if_neg (by decide), if_neg (by decide), if_neg (by decide), if_neg (by decide), if_neg (by decide), if_neg (by decide), if_neg (by decide), if_neg (by decide), if_neg (by decide), if_neg (by decide), if_neg (by decide), if_neg (by decide)])
    rw [show s.size + 1 - n = s.size - n + 1 by omega, s2]
    obtain ⟨_, _, hd3⟩ := byte_drop (by omega) hd2
    have s3 := lex_cls hu hx n (n * (opW j).length + 1) (s.size - n - n) (opToks kn (opW j).length n 0 ++ [{ ({ tokZ with kind := 1, c := 97 } : Tok) with at_ := n * (opW j).length, to := n * (opW j).length + 1 }]) (by omega) hd3
    have hnn2 : n + n ≤ s.size := by omega
    rw [show s.size - n - n + n = s.size - n by omega] at s3
    have hcast := Int.natCast_mul n (opW j).length
    rw [s3, lex_endq (by omega)]
    simp
  have he : (lexP (numsOf s) 0).e = 0 := by rw [hlex]
  rw [parsed_run s he, hlex]
  have hrun := run_ops (en := s.size) (n := (opW j).length) (R := ({ ({ tokZ with kind := 1, c := 97 } : Tok) with at_ := n * (opW j).length, to := n * (opW j).length + 1 } :: clToks n (n * (opW j).length + 1))) hO.kn1 n 0 (levO tokZ) [] trivial (by simp)
  simp only [List.length_nil] at hrun
  refine ⟨fun hgt => ?_, fun hle => ?_⟩
  · simp only
    rw [hrun.2 (by omega)]
    exact ⟨rfl, by simp⟩
  · obtain ⟨v', st', h1, h2, h3⟩ := hrun.1 (by omega)
    simp only
    rw [h1, runS_cons, if_neg (by simp), if_neg (by simp), if_neg (by simp), if_neg (by simp)]
    refine run_cls n _ _ st' (h2.put ?_) (by omega)
    unfold addV; split <;> rfl
end Go.Proofs.Ytnoohgiecnmajaa.VC

