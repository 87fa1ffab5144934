/- A part of the ground of the proof. No condition. -/
import Derived.Test.YtnoohgiecnmajaaGFT13

/- The laws of parse: ParseWithin. -/
namespace Go.Proofs.Ytnoohgiecnmajaa.VC
open Go Go.RowKit
set_option linter.unusedVariables false
set_option linter.unusedSimpArgs false
set_option maxHeartbeats 4000000

set_option maxHeartbeats 16000000
theorem nums_str {l : List Int} (hb : Bytes l) : numsOf (strOfNums l) = l := nums_strOf hb
theorem parsedP_nodes {s : ByteArray} (he : (parsedP s).e = 0) : (parsedP s).n.all SetOk ∧ (parsedP s).n.w ≤ 4000 := by
  have hl := parsed_lex he
  have h1 := lexP_ok (numsOf s) 0
  have hp : parsedP s = parseP (lexP (numsOf s) 0).toks s.size := by
    unfold parsedP
    rw [if_neg (by rw [hl]; simp)]
  rw [hp] at he ⊢
  have h2 := parse_all (fit_ph (h1.2.1 hl).2.2) s.size he
  have h4 := h1.1
  exact ⟨fit_set _ h2.1, by omega⟩
theorem within7_c (l : List Int) (hb : Bytes l) : VCalls Try.prog 15 [ys l] (fun r => r = bv true) := by
  have hbl := byteRows_len l
  have hn := nums_str hb
  have hsz : (strOfNums l).size = l.length := strOf_size l
  refine VCalls.ofr tabOk Try.func15 (by decide) rfl rfl ?_
  refine RWP.seqx tabOk orders ?_
  conv => whnf
  refine RWP.seqx tabOk orders ?_
  repeat' ((conv => whnf); (first
    | (with_reducible first | refine Spl.yes ?_ | refine Spl.no ?_ | refine Spl.dec (fun h => ?_) (fun h => ?_) | refine Spl.eq (fun h => ?_) (fun h => ?_) | refine Spl.ne (fun h => ?_) (fun h => ?_) | refine Spl.seq (fun h => ?_) (fun h => ?_) | refine Spl.not ?_ | refine Spl.any (fun h => ?_) (fun h => ?_))
    | (refine VCalls.mono (awake7_c) ?_; rintro _ rfl)
    | ((with_reducible apply And.intro); first | omega | rfl | (dsimp only; omega))))
  all_goals (conv => whnf)
  refine RWP.seqx tabOk orders ?_
  repeat' ((conv => whnf); (first
    | (with_reducible first | refine Spl.yes ?_ | refine Spl.no ?_ | refine Spl.dec (fun h => ?_) (fun h => ?_) | refine Spl.eq (fun h => ?_) (fun h => ?_) | refine Spl.ne (fun h => ?_) (fun h => ?_) | refine Spl.seq (fun h => ?_) (fun h => ?_) | refine Spl.not ?_ | refine Spl.any (fun h => ?_) (fun h => ?_))
    | ((with_reducible apply And.intro); first | omega | rfl | (dsimp only; omega))))
  all_goals (conv => whnf)
  refine RWP.seqx tabOk orders ?_
  repeat' ((conv => whnf); (first
    | (with_reducible first | refine Spl.yes ?_ | refine Spl.no ?_ | refine Spl.dec (fun h => ?_) (fun h => ?_) | refine Spl.eq (fun h => ?_) (fun h => ?_) | refine Spl.ne (fun h => ?_) (fun h => ?_) | refine Spl.seq (fun h => ?_) (fun h => ?_) | refine Spl.not ?_ | refine Spl.any (fun h => ?_) (fun h => ?_))
    | ((with_reducible apply And.intro); first | omega | rfl | (dsimp only; omega))))
  all_goals (conv => whnf)
  · rfl
  refine RWP.cutr (fun st => st = ⟨82, [(0, .pv (ys l)), (2, .pv (bv false))], [], [], []⟩ ∧ NoQQ l) ?_ ?_
  · refine RWP.seqx tabOk orders ?_
    conv => whnf
    refine RWP.block ?_
    refine RWP.loop (fun k st => ∃ (j : Int), st = ⟨82, [(0, .pv (ys l)), (2, .pv (bv false)), (4, .pv (iv j))], [], [], []⟩ ∧ 0 ≤ j ∧ j ≤ l.length ∧ k = (l.length - j).toNat ∧ ∀ i : Nat, (i : Int) < j → ¬ (l.getD i 0 = 92 ∧ l.getD (i + 1) 0 = 81))
      ⟨_, _, Wk.narrow _ [0, 2, 4] [] [], 0, rfl, by omega, by omega, rfl, by omega⟩ ?_
    rintro k st ⟨j, rfl, hj0, hj1, hk, hI⟩
    refine RWP.seqx tabOk orders ?_
    repeat' ((conv => whnf); (first
    | (with_reducible first | refine Spl.yes ?_ | refine Spl.no ?_ | refine Spl.dec (fun h => ?_) (fun h => ?_) | refine Spl.eq (fun h => ?_) (fun h => ?_) | refine Spl.ne (fun h => ?_) (fun h => ?_) | refine Spl.seq (fun h => ?_) (fun h => ?_) | refine Spl.not ?_ | refine Spl.any (fun h => ?_) (fun h => ?_))
    | ((with_reducible apply And.intro); first | omega | rfl | (dsimp only; omega))))
    all_goals (conv => whnf)
    rotate_left
    · exact ⟨_, Wk.narrow _ [0, 2] [] [], rfl, fun i hi => hI i (by omega)⟩
    have hstep : ¬ (rdI l j = 92 ∧ rdI l (j + 1) = 81) → ∀ i : Nat, (i : Int) < j + 1 → ¬ (l.getD i 0 = 92 ∧ l.getD (i + 1) 0 = 81) := by
      intro h i hi
      by_cases c : (i : Int) < j
      · exact hI i c
      · have e : i = j.toNat := by omega
        subst e
        have e2 : (j + 1).toNat = j.toNat + 1 := by omega
        unfold rdI at h
        rw [e2] at h
        exact h
    refine RWP.of tabOk orders ?_
    repeat' ((conv => whnf); (first
    | (with_reducible first | refine Spl.yes ?_ | refine Spl.no ?_ | refine Spl.dec (fun h => ?_) (fun h => ?_) | refine Spl.eq (fun h => ?_) (fun h => ?_) | refine Spl.ne (fun h => ?_) (fun h => ?_) | refine Spl.seq (fun h => ?_) (fun h => ?_) | refine Spl.not ?_ | refine Spl.any (fun h => ?_) (fun h => ?_))
    | refine drawn_text (by decide +kernel) ?_
    | (rw [byteRows_get (by omega)])
    | refine And.intro (Nat.le_of_ble_eq_true rfl) ?_
    | ((with_reducible apply And.intro); first | omega | rfl | (dsimp only; omega))))
    all_goals (conv => whnf)
    all_goals first
      | rfl
      | exact ⟨(l.length - (j + 1)).toNat, _, by omega, Wk.narrow _ [0, 2, 4] [] [], j + 1, rfl, by omega, by omega, rfl, hstep (by omega)⟩
  rintro _ ⟨rfl, hq⟩
  have hl9 : l.length ≤ 900 := by omega
  have h1 := parsed7_c (strOfNums l) (by omega)
  have h2 := parsed7_c (bs [40, 63, 58] ++ strOfNums l ++ bs [41]) (by
    rw [ByteArray.size_append, ByteArray.size_append, hsz]
    show 3 + l.length + 1 ≤ 1000000
    omega)
  have hnum : numsOf (bs [40, 63, 58] ++ strOfNums l ++ bs [41]) = [40, 63, 58] ++ numsOf (strOfNums l) ++ [41] := by
    rw [nums_app, nums_app]
    rfl
  have hp := fun he => within_plain hnum (by omega) (by rw [hn]; exact hq) he
  have hnd := fun he => parsedP_nodes (s := bs [40, 63, 58] ++ strOfNums l ++ bs [41]) he
  have sz1 : (bs [40, 63, 58]).size + (strOfNums l).size ≤ 9223372036854775807 := by
    rw [hsz]
    show 3 + l.length ≤ 9223372036854775807
    omega
  have sz2 : (bs [40, 63, 58] ++ strOfNums l).size + (bs [41]).size ≤ 9223372036854775807 := by
    rw [ByteArray.size_append, hsz]
    show 3 + l.length + 1 ≤ 9223372036854775807
    omega
  clear hn hnum
  have hst : strOfNums l = strOfNums l := rfl
  generalize parsedP (strOfNums l) = r1 at *
  generalize parsedP (bs [40, 63, 58] ++ strOfNums l ++ bs [41]) = r2 at *
  obtain ⟨⟨f1, k1⟩, e1, at1⟩ := r1
  obtain ⟨⟨f2, k2⟩, e2, at2⟩ := r2
  simp only at hp hnd
  by_cases he1 : e1 = 0
  rotate_left
  · refine RWP.of tabOk orders ?_
    repeat' ((conv => whnf); (first
    | (with_reducible first | refine Spl.yes ?_ | refine Spl.no ?_ | refine Spl.dec (fun h => ?_) (fun h => ?_) | refine Spl.eq (fun h => ?_) (fun h => ?_) | refine Spl.ne (fun h => ?_) (fun h => ?_) | refine Spl.seq (fun h => ?_) (fun h => ?_) | refine Spl.not ?_ | refine Spl.any (fun h => ?_) (fun h => ?_))
    | (refine VCalls.mono (h1) ?_; rintro _ rfl)
    | (exfalso; exact he1 (by assumption))
    | refine drawn_text (by decide +kernel) ?_
    | refine ⟨l, rfl, ?_⟩
    | refine And.intro sz1 ?_
    | refine And.intro sz2 ?_
    | refine And.intro (Nat.le_of_ble_eq_true rfl) ?_
    | ((with_reducible apply And.intro); first | omega | rfl | (dsimp only; omega))))
    all_goals (conv => whnf)
    all_goals first
      | rfl
      | (exfalso; omega)
  rcases hp he1 with he2 | ⟨he2, ha2, f, m, hm, hk, hs⟩
  · subst he1
    subst he2
    refine RWP.of tabOk orders ?_
    repeat' ((conv => whnf); (first
    | (with_reducible first | refine Spl.yes ?_ | refine Spl.no ?_ | refine Spl.dec (fun h => ?_) (fun h => ?_) | refine Spl.eq (fun h => ?_) (fun h => ?_) | refine Spl.ne (fun h => ?_) (fun h => ?_) | refine Spl.seq (fun h => ?_) (fun h => ?_) | refine Spl.not ?_ | refine Spl.any (fun h => ?_) (fun h => ?_))
    | (refine VCalls.mono (h1) ?_; rintro _ rfl)
    | (refine VCalls.mono (h2) ?_; rintro _ rfl)
    | refine drawn_text (by decide +kernel) ?_
    | refine ⟨l, rfl, ?_⟩
    | refine And.intro sz1 ?_
    | refine And.intro sz2 ?_
    | refine And.intro (Nat.le_of_ble_eq_true rfl) ?_
    | ((with_reducible apply And.intro); first | omega | rfl | (dsimp only; omega))))
    all_goals (conv => whnf)
    all_goals first
      | rfl
      | (exfalso; omega)
      | (exfalso; exact absurd rfl (by assumption))
  have hnd2 := hnd he2
  clear hnd hp
  subst he1
  subst he2
  subst ha2
  injection hm with hm1 hm2
  subst hm1
  subst hm2
  rw [Node.all, allN, Node.w, wN] at hnd2
  have hc := same2_c m.w m _ (Nat.le_refl _) (by omega) hnd2.1.2.1 hs
  unfold SmD at hc
  obtain ⟨f3, k3⟩ := m
  refine RWP.of tabOk orders ?_
  repeat' ((conv => whnf); (first
    | (with_reducible first | refine Spl.yes ?_ | refine Spl.no ?_ | refine Spl.dec (fun h => ?_) (fun h => ?_) | refine Spl.eq (fun h => ?_) (fun h => ?_) | refine Spl.ne (fun h => ?_) (fun h => ?_) | refine Spl.seq (fun h => ?_) (fun h => ?_) | refine Spl.not ?_ | refine Spl.any (fun h => ?_) (fun h => ?_))
    | (refine VCalls.mono (h1) ?_; rintro _ rfl)
    | (refine VCalls.mono (h2) ?_; rintro _ rfl)
    | (refine VCalls.mono (hc) ?_; rintro _ rfl)
    | refine drawn_text (by decide +kernel) ?_
    | refine ⟨l, rfl, ?_⟩
    | refine And.intro sz1 ?_
    | refine And.intro sz2 ?_
    | refine And.intro (Nat.le_of_ble_eq_true rfl) ?_
    | ((with_reducible apply And.intro); first | omega | rfl | (dsimp only; omega))))
  all_goals (conv => whnf)
  all_goals first
    | rfl
    | (exfalso; omega)
    | (exfalso; exact absurd rfl (by assumption))
    | (exfalso; exact absurd hk (by assumption))
end Go.Proofs.Ytnoohgiecnmajaa.VC

/- The laws of parse: ParseJoins. -/
namespace Go.Proofs.Ytnoohgiecnmajaa.VC
open Go Go.RowKit
set_option linter.unusedVariables false
set_option linter.unusedSimpArgs false
set_option maxHeartbeats 4000000

set_option maxHeartbeats 16000000
theorem parts_c (n : Node) : VCalls Try.prog 43 [n.enc] (fun r => r = nodesE (partsP n)) := by
  obtain ⟨G, hG⟩ : ∃ G, partsP n = G := ⟨_, rfl⟩
  rw [hG]
  obtain ⟨f, ks⟩ := n
  have hy : f.kind = 13 → G = ks := fun h => hG.symm.trans (if_pos h)
  have hz : f.kind ≠ 13 → G = [.mk f ks] := fun h => hG.symm.trans (if_neg h)
  clear hG
  refine VCalls.ofr tabOk Try.func43 (by decide) rfl rfl ?_
  refine RWP.of tabOk orders ?_
  repeat' ((conv => whnf); (first
    | (with_reducible first | refine Spl.yes ?_ | refine Spl.no ?_ | refine Spl.dec (fun h => ?_) (fun h => ?_) | refine Spl.eq (fun h => ?_) (fun h => ?_) | refine Spl.ne (fun h => ?_) (fun h => ?_) | refine Spl.seq (fun h => ?_) (fun h => ?_) | refine Spl.not ?_ | refine Spl.any (fun h => ?_) (fun h => ?_))
    | refine And.intro (Nat.le_of_ble_eq_true rfl) ?_
    | ((with_reducible apply And.intro); first | omega | rfl | (dsimp only; omega))))
  all_goals (conv => whnf)
  · rw [hy (by assumption)]
    rfl
  · rw [hz (by assumption)]
    rfl
def f13 : NodeF := ⟨13, 0, 0, [], false, 0, 0, 0, bs [], 0, 0⟩
theorem parts_len (n : Node) : (partsP n).length ≤ n.w := by
  cases n with
  | mk f ks =>
    have := wN_len ks
    rw [Node.w]
    unfold partsP
    split
    · show ks.length ≤ 1 + wN ks; omega
    · show 1 ≤ 1 + wN ks; omega
attribute [local irreducible] partsP
theorem joins7_c (la lb : List Int) (hba : Bytes la) (hbb : Bytes lb) : VCalls Try.prog 17 [ys la, ys lb] (fun r => r = bv true) := by
  have hbl := byteRows_len la
  have hbl2 := byteRows_len lb
  have hna := nums_str hba
  have hnb := nums_str hbb
  have hsa : (strOfNums la).size = la.length := strOf_size la
  have hsb : (strOfNums lb).size = lb.length := strOf_size lb
  refine VCalls.ofr tabOk Try.func17 (by decide) rfl rfl ?_
  refine RWP.seqx tabOk orders ?_
  conv => whnf
  refine RWP.seqx tabOk orders ?_
  repeat' ((conv => whnf); (first
    | (with_reducible first | refine Spl.yes ?_ | refine Spl.no ?_ | refine Spl.dec (fun h => ?_) (fun h => ?_) | refine Spl.eq (fun h => ?_) (fun h => ?_) | refine Spl.ne (fun h => ?_) (fun h => ?_) | refine Spl.seq (fun h => ?_) (fun h => ?_) | refine Spl.not ?_ | refine Spl.any (fun h => ?_) (fun h => ?_))
    | (refine VCalls.mono (awake7_c) ?_; rintro _ rfl)
    | ((with_reducible apply And.intro); first | omega | rfl | (dsimp only; omega))))
  all_goals (conv => whnf)
  refine RWP.seqx tabOk orders ?_
  repeat' ((conv => whnf); (first
    | (with_reducible first | refine Spl.yes ?_ | refine Spl.no ?_ | refine Spl.dec (fun h => ?_) (fun h => ?_) | refine Spl.eq (fun h => ?_) (fun h => ?_) | refine Spl.ne (fun h => ?_) (fun h => ?_) | refine Spl.seq (fun h => ?_) (fun h => ?_) | refine Spl.not ?_ | refine Spl.any (fun h => ?_) (fun h => ?_))
    | ((with_reducible apply And.intro); first | omega | rfl | (dsimp only; omega))))
  all_goals (conv => whnf)
  refine RWP.seqx tabOk orders ?_
  repeat' ((conv => whnf); (first
    | (with_reducible first | refine Spl.yes ?_ | refine Spl.no ?_ | refine Spl.dec (fun h => ?_) (fun h => ?_) | refine Spl.eq (fun h => ?_) (fun h => ?_) | refine Spl.ne (fun h => ?_) (fun h => ?_) | refine Spl.seq (fun h => ?_) (fun h => ?_) | refine Spl.not ?_ | refine Spl.any (fun h => ?_) (fun h => ?_))
    | ((with_reducible apply And.intro); first | omega | rfl | (dsimp only; omega))))
  all_goals (conv => whnf)
  · rfl
  · rfl
  refine RWP.cutr (fun st => st = ⟨100, [(0, .pv (ys la)), (1, .pv (ys lb)), (4, .pv (bv false))], [], [], []⟩ ∧ NoQQ la) ?_ ?_
  · refine RWP.seqx tabOk orders ?_
    conv => whnf
    refine RWP.block ?_
    refine RWP.loop (fun k st => ∃ (j : Int), st = ⟨100, [(0, .pv (ys la)), (1, .pv (ys lb)), (4, .pv (bv false)), (6, .pv (iv j))], [], [], []⟩ ∧ 0 ≤ j ∧ j ≤ la.length ∧ k = (la.length - j).toNat ∧ ∀ i : Nat, (i : Int) < j → ¬ (la.getD i 0 = 92 ∧ la.getD (i + 1) 0 = 81))
      ⟨_, _, Wk.narrow _ [0, 1, 4, 6] [] [], 0, rfl, by omega, by omega, rfl, by omega⟩ ?_
    rintro k st ⟨j, rfl, hj0, hj1, hk, hI⟩
    refine RWP.seqx tabOk orders ?_
    repeat' ((conv => whnf); (first
    | (with_reducible first | refine Spl.yes ?_ | refine Spl.no ?_ | refine Spl.dec (fun h => ?_) (fun h => ?_) | refine Spl.eq (fun h => ?_) (fun h => ?_) | refine Spl.ne (fun h => ?_) (fun h => ?_) | refine Spl.seq (fun h => ?_) (fun h => ?_) | refine Spl.not ?_ | refine Spl.any (fun h => ?_) (fun h => ?_))
    | ((with_reducible apply And.intro); first | omega | rfl | (dsimp only; omega))))
    all_goals (conv => whnf)
    rotate_left
    · exact ⟨_, Wk.narrow _ [0, 1, 4] [] [], rfl, fun i hi => hI i (by omega)⟩
    have hstep : ¬ (rdI la j = 92 ∧ rdI la (j + 1) = 81) → ∀ i : Nat, (i : Int) < j + 1 → ¬ (la.getD i 0 = 92 ∧ la.getD (i + 1) 0 = 81) := by
      intro h i hi
      by_cases c : (i : Int) < j
      · exact hI i c
      · have e : i = j.toNat := by omega
        subst e
        have e2 : (j + 1).toNat = j.toNat + 1 := by omega
        unfold rdI at h
        rw [e2] at h
        exact h
    refine RWP.of tabOk orders ?_
    repeat' ((conv => whnf); (first
    | (with_reducible first | refine Spl.yes ?_ | refine Spl.no ?_ | refine Spl.dec (fun h => ?_) (fun h => ?_) | refine Spl.eq (fun h => ?_) (fun h => ?_) | refine Spl.ne (fun h => ?_) (fun h => ?_) | refine Spl.seq (fun h => ?_) (fun h => ?_) | refine Spl.not ?_ | refine Spl.any (fun h => ?_) (fun h => ?_))
    | refine drawn_text (by decide +kernel) ?_
    | (rw [byteRows_get (by omega)])
    | refine And.intro (Nat.le_of_ble_eq_true rfl) ?_
    | ((with_reducible apply And.intro); first | omega | rfl | (dsimp only; omega))))
    all_goals (conv => whnf)
    all_goals first
      | rfl
      | exact ⟨(la.length - (j + 1)).toNat, _, by omega, Wk.narrow _ [0, 1, 4, 6] [] [], j + 1, rfl, by omega, by omega, rfl, hstep (by omega)⟩
  rintro _ ⟨rfl, hq⟩
  have hla : la.length ≤ 450 := by omega
  have hlb : lb.length ≤ 450 := by omega
  have h1 := parsed7_c (strOfNums la) (by omega)
  have h2 := parsed7_c (strOfNums lb) (by omega)
  have h3 := parsed7_c (strOfNums la ++ bs [124] ++ strOfNums lb) (by
    rw [ByteArray.size_append, ByteArray.size_append, hsa, hsb]
    show la.length + 1 + lb.length ≤ 1000000
    omega)
  have hnum : numsOf (strOfNums la ++ bs [124] ++ strOfNums lb) = numsOf (strOfNums la) ++ [124] ++ numsOf (strOfNums lb) := by
    rw [nums_app, nums_app]
    rfl
  have hp := fun hea heb => joins_plain hnum (by omega) (by omega) (by rw [hna]; exact hq) hea heb
  have hnd := fun he => parsedP_nodes (s := strOfNums la ++ bs [124] ++ strOfNums lb) he
  have sz1 : (strOfNums la).size + (bs [124]).size ≤ 9223372036854775807 := by
    rw [hsa]
    show la.length + 1 ≤ 9223372036854775807
    omega
  have sz2 : (strOfNums la ++ bs [124]).size + (strOfNums lb).size ≤ 9223372036854775807 := by
    rw [ByteArray.size_append, hsa, hsb]
    show la.length + 1 + lb.length ≤ 9223372036854775807
    omega
  clear hna hnb hnum
  have hw1 := fun he => parsedP_nodes (s := strOfNums la) he
  have hw2 := fun he => parsedP_nodes (s := strOfNums lb) he
  generalize parsedP (strOfNums la) = r1 at *
  generalize parsedP (strOfNums lb) = r2 at *
  generalize parsedP (strOfNums la ++ bs [124] ++ strOfNums lb) = r3 at *
  obtain ⟨⟨f1, k1⟩, e1, at1⟩ := r1
  obtain ⟨⟨f2, k2⟩, e2, at2⟩ := r2
  obtain ⟨⟨f3, k3⟩, e3, at3⟩ := r3
  simp only at hp hnd hw1 hw2
  have hp1 := parts_c (.mk f1 k1)
  have hp2 := parts_c (.mk f2 k2)
  by_cases he : e1 = 0 ∧ e2 = 0
  rotate_left
  · refine RWP.of tabOk orders ?_
    repeat' ((conv => whnf); (first
    | (with_reducible first | refine Spl.yes ?_ | refine Spl.no ?_ | refine Spl.dec (fun h => ?_) (fun h => ?_) | refine Spl.eq (fun h => ?_) (fun h => ?_) | refine Spl.ne (fun h => ?_) (fun h => ?_) | refine Spl.seq (fun h => ?_) (fun h => ?_) | refine Spl.not ?_ | refine Spl.any (fun h => ?_) (fun h => ?_))
    | (refine VCalls.mono (h1) ?_; rintro _ rfl)
    | (refine VCalls.mono (h2) ?_; rintro _ rfl)
    | (exfalso; exact he ⟨by assumption, by assumption⟩)
    | refine drawn_text (by decide +kernel) ?_
    | refine ⟨la, rfl, ?_⟩
    | refine ⟨lb, rfl, ?_⟩
    | refine And.intro sz1 ?_
    | refine And.intro sz2 ?_
    | refine And.intro (Nat.le_of_ble_eq_true rfl) ?_
    | ((with_reducible apply And.intro); first | omega | rfl | (dsimp only; omega))))
    all_goals (conv => whnf)
    all_goals first
      | rfl
      | (exfalso; omega)
  obtain ⟨he1, he2⟩ := he
  obtain ⟨he3, K, hm, hs⟩ := hp he1 he2
  have hnd2 := hnd he3
  clear hnd hp
  subst he1
  subst he2
  subst he3
  injection hm with hm1 hm2
  have hm1 : f3 = f13 := hm1
  subst hm1
  subst hm2
  have hw1 := hw1 rfl
  have hw2 := hw2 rfl
  have hz1 := parts_len (.mk f1 k1)
  have hz2 := parts_len (.mk f2 k2)
  have hr1 := rowsN_len (partsP (.mk f1 k1))
  have hr2 := rowsN_len (partsP (.mk f2 k2))
  generalize partsP (.mk f1 k1) = p1 at *
  generalize partsP (.mk f2 k2) = p2 at *
  have hc := same2_c (Node.mk f13 k3).w (.mk f13 k3) (.mk f13 (p1 ++ p2)) (Nat.le_refl _) (by omega) hnd2.1 (by rw [Sim]; exact ⟨rfl, hs⟩)
  unfold SmD at hc
  refine RWP.of tabOk orders ?_
  repeat' ((conv => whnf); (first
    | (with_reducible first | refine Spl.yes ?_ | refine Spl.no ?_ | refine Spl.dec (fun h => ?_) (fun h => ?_) | refine Spl.eq (fun h => ?_) (fun h => ?_) | refine Spl.ne (fun h => ?_) (fun h => ?_) | refine Spl.seq (fun h => ?_) (fun h => ?_) | refine Spl.not ?_ | refine Spl.any (fun h => ?_) (fun h => ?_))
    | (refine VCalls.mono (h1) ?_; rintro _ rfl)
    | (refine VCalls.mono (h2) ?_; rintro _ rfl)
    | (refine VCalls.mono (h3) ?_; rintro _ rfl)
    | (refine VCalls.mono (hp1) ?_; rintro _ rfl)
    | (refine VCalls.mono (hp2) ?_; rintro _ rfl)
    | (refine VCalls.mono (hc) ?_; rintro _ rfl)
    | refine drawn_text (by decide +kernel) ?_
    | refine And.intro (by show (rowsN p1).length * 136 ≤ 140737488355328; omega) ?_
    | refine And.intro (by show ((rowsN p1).length + (rowsN p2).length) * 136 ≤ 140737488355328; omega) ?_
    | (rw [rowsN_app])
    | refine ⟨la, rfl, ?_⟩
    | refine ⟨lb, rfl, ?_⟩
    | refine And.intro sz1 ?_
    | refine And.intro sz2 ?_
    | refine And.intro (Nat.le_of_ble_eq_true rfl) ?_
    | ((with_reducible apply And.intro); first | omega | rfl | (dsimp only; omega))))
  all_goals (conv => whnf)
  all_goals first
    | rfl
    | (exfalso; omega)
    | (exfalso; exact absurd rfl (by assumption))
end Go.Proofs.Ytnoohgiecnmajaa.VC

/- From contracts on bytes and numbers to the forms that rows ask. -/
namespace Go.Proofs.Ytnoohgiecnmajaa.VC
open Go Go.RowKit
set_option linter.unusedVariables false
set_option linter.unusedSimpArgs false
set_option maxHeartbeats 4000000

theorem bytes_in (a : Option Addr) (len cap : Nat) (z : List Int) (W : World) (hz : ((a = none ∧ len = 0 ∧ cap = 0 ∧ z = []) ∨ ∃ x, a = some x ∧ len ≤ cap ∧ cap ≤ maxLen ∧ z.length = cap ∧ (∀ i, i < z.length → W.cell? (x.add i) = some (.int .u8 (z.getD i 0))) ∧ ∀ n ∈ z, (Lit.int .u8 n).wf = true)) :
    Bytes (z.take len) ∧ VR (fun _ _ => False) W (ys (z.take len)) (.slice a len cap) := by
  have hb : Bytes (z.take len) := by
    intro n hn
    have hn := List.mem_of_mem_take hn
    rcases hz with ⟨_, _, _, rfl⟩ | ⟨x, _, _, _, _, _, hw⟩
    · simp at hn
    · have := hw n hn
      simp only [Lit.wf, Bool.and_eq_true, decide_eq_true_eq] at this
      exact ⟨this.1, this.2⟩
  have hlen : (byteRows (z.take len)).length = len := by
    rcases hz with ⟨_, rfl, _, rfl⟩ | ⟨x, _, h1, _, h2, _⟩
    · simp [byteRows]
    · simp [byteRows]; omega
  have hvr : VR (fun _ _ => False) W (ys (z.take len)) (.slice a len cap) := by
    simp only [VR]
    refine ⟨a, cap, by rw [hlen], ?_, ?_⟩
    · rw [hlen]
      rcases hz with ⟨_, rfl, rfl, _⟩ | ⟨x, _, h1, _⟩
      · exact Nat.le_refl _
      · exact h1
    · rcases hz with ⟨rfl, rfl, rfl, rfl⟩ | ⟨x, rfl, h1, h2, h3, h4, h5⟩
      · exact .inl (by simp [byteRows])
      · by_cases e : len = 0
        · exact .inl (by subst e; simp [byteRows])
        · obtain ⟨b, off, spot⟩ := x
          have h40 := h4 0 (by omega)
          have hs : spot = none := by
            cases spot with
            | none => rfl
            | some s =>
              exfalso
              have hn : W.cell? ⟨b, off, some s⟩ = none := by
                unfold World.cell?
                split
                · simp
                · rfl
              have ha : (⟨b, off, some s⟩ : Addr).add 0 = ⟨b, off, some s⟩ := by unfold Addr.add; rw [if_pos rfl]
              rw [ha, hn] at h40
              cases h40
          subst hs
          refine .inr ⟨b, off, rfl, rows_of_cells _ _ (fun i hi => ?_)⟩
          rw [List.length_take] at hi
          have := h4 i (by omega)
          have hadd : (⟨b, off, none⟩ : Addr).add i = ⟨b, off + i, none⟩ := by
            unfold Addr.add
            split
            · rename_i e0; subst e0; rfl
            · rfl
          rw [hadd] at this
          rw [this]
          simp [List.getD_eq_getElem?_getD, List.getElem?_take, show i < len by omega]
  exact ⟨hb, hvr⟩
theorem rows_of_ints {w : World} {b : Nat} : ∀ (l : List Int) (off : Nat), (∀ i, i < l.length → w.cell? ⟨b, off + i, none⟩ = some (.int .i64 (l.getD i 0))) → Rows (fun _ _ => False) w b 1 off (rows1 l)
  | [], off, h => by simp [rows1, Rows]
  | c :: l, off, h => by
    have h0 := h 0 (by simp)
    simp only [rows1, List.map_cons, Rows, Cells, and_true]
    refine ⟨rfl, ⟨_, by simpa using h0, fun h => h, rfl, rfl⟩, ?_⟩
    refine rows_of_ints l (off + 1) (fun i hi => ?_)
    have := h (i + 1) (by simp; omega)
    rw [show off + 1 + i = off + (i + 1) by omega, this]
    simp
theorem ints_in (a : Option Addr) (len cap : Nat) (z : List Int) (W : World) (hz : ((a = none ∧ len = 0 ∧ cap = 0 ∧ z = []) ∨ ∃ x, a = some x ∧ len ≤ cap ∧ cap ≤ maxLen ∧ z.length = cap ∧ (∀ i, i < z.length → W.cell? (x.add i) = some (.int .i64 (z.getD i 0))) ∧ ∀ n ∈ z, (Lit.int .i64 n).wf = true)) :
    (∀ x ∈ z.take len, -9223372036854775808 ≤ x ∧ x ≤ 9223372036854775807) ∧ VR (fun _ _ => False) W (is (z.take len)) (.slice a len cap) := by
  have hb : ∀ x ∈ z.take len, -9223372036854775808 ≤ x ∧ x ≤ 9223372036854775807 := by
    intro n hn
    have hn := List.mem_of_mem_take hn
    rcases hz with ⟨_, _, _, rfl⟩ | ⟨x, _, _, _, _, _, hw⟩
    · simp at hn
    · have := hw n hn
      simp only [Lit.wf, Bool.and_eq_true, decide_eq_true_eq] at this
      exact ⟨this.1, this.2⟩
  have hlen : (rows1 (z.take len)).length = len := by
    rcases hz with ⟨_, rfl, _, rfl⟩ | ⟨x, _, h1, _, h2, _⟩
    · simp [rows1]
    · simp [rows1]; omega
  have hvr : VR (fun _ _ => False) W (is (z.take len)) (.slice a len cap) := by
    simp only [VR]
    refine ⟨a, cap, by rw [hlen], ?_, ?_⟩
    · rw [hlen]
      rcases hz with ⟨_, rfl, rfl, _⟩ | ⟨x, _, h1, _⟩
      · exact Nat.le_refl _
      · exact h1
    · rcases hz with ⟨rfl, rfl, rfl, rfl⟩ | ⟨x, rfl, h1, h2, h3, h4, h5⟩
      · exact .inl (by simp [rows1])
      · by_cases e : len = 0
        · exact .inl (by subst e; simp [rows1])
        · obtain ⟨b, off, spot⟩ := x
          have h40 := h4 0 (by omega)
          have hs : spot = none := by
            cases spot with
            | none => rfl
            | some s =>
              exfalso
              have hn : W.cell? ⟨b, off, some s⟩ = none := by
                unfold World.cell?
                split
                · simp
                · rfl
              have ha : (⟨b, off, some s⟩ : Addr).add 0 = ⟨b, off, some s⟩ := by unfold Addr.add; rw [if_pos rfl]
              rw [ha, hn] at h40
              cases h40
          subst hs
          refine .inr ⟨b, off, rfl, rows_of_ints _ _ (fun i hi => ?_)⟩
          rw [List.length_take] at hi
          have := h4 i (by omega)
          have hadd : (⟨b, off, none⟩ : Addr).add i = ⟨b, off + i, none⟩ := by
            unfold Addr.add
            split
            · rename_i e0; subst e0; rfl
            · rfl
          rw [hadd] at this
          rw [this]
          simp [List.getD_eq_getElem?_getD, List.getElem?_take, show i < len by omega]
  exact ⟨hb, hvr⟩
theorem calls_rowB {f : FuncId} (h : ∀ l, Bytes l → VCalls Try.prog f [ys l] (fun r => r = bv true)) (a : Option Addr) (len cap : Nat) (z : List Int) (W : World) (hz : ((a = none ∧ len = 0 ∧ cap = 0 ∧ z = []) ∨ ∃ x, a = some x ∧ len ≤ cap ∧ cap ≤ maxLen ∧ z.length = cap ∧ (∀ i, i < z.length → W.cell? (x.add i) = some (.int .u8 (z.getD i 0))) ∧ ∀ n ∈ z, (Lit.int .u8 n).wf = true)) :
    Calls Try.prog f #[.slice a len cap] W (fun e W' => e = .returned (.bool true) ∧ Below W.heap.size W W') := by
  have hb := bytes_in a len cap z W hz
  refine ((h (z.take len) hb.1).calls (fun _ _ => False) W [.slice a len cap] (fun _ _ hf => hf.elim) ?_).mono fun e W' ⟨v, r, k1, k2, k3, k4⟩ => ?_
  · simp only [VRs]
    exact ⟨_, _, rfl, hb.2, rfl⟩
  · subst k4
    have k3 : v = .bool true := k3
    subst k3
    exact ⟨k1, k2⟩
theorem calls_rowBB {f : FuncId} (h : ∀ l m, Bytes l → Bytes m → VCalls Try.prog f [ys l, ys m] (fun r => r = bv true)) (a : Option Addr) (len cap : Nat) (z : List Int) (a2 : Option Addr) (len2 cap2 : Nat) (z2 : List Int) (W : World) (hz : ((a = none ∧ len = 0 ∧ cap = 0 ∧ z = []) ∨ ∃ x, a = some x ∧ len ≤ cap ∧ cap ≤ maxLen ∧ z.length = cap ∧ (∀ i, i < z.length → W.cell? (x.add i) = some (.int .u8 (z.getD i 0))) ∧ ∀ n ∈ z, (Lit.int .u8 n).wf = true)) (hz2 : ((a2 = none ∧ len2 = 0 ∧ cap2 = 0 ∧ z2 = []) ∨ ∃ x, a2 = some x ∧ len2 ≤ cap2 ∧ cap2 ≤ maxLen ∧ z2.length = cap2 ∧ (∀ i, i < z2.length → W.cell? (x.add i) = some (.int .u8 (z2.getD i 0))) ∧ ∀ n ∈ z2, (Lit.int .u8 n).wf = true)) :
    Calls Try.prog f #[.slice a len cap, .slice a2 len2 cap2] W (fun e W' => e = .returned (.bool true) ∧ Below W.heap.size W W') := by
  have hb := bytes_in a len cap z W hz
  have hb2 := bytes_in a2 len2 cap2 z2 W hz2
  refine ((h (z.take len) (z2.take len2) hb.1 hb2.1).calls (fun _ _ => False) W [.slice a len cap, .slice a2 len2 cap2] (fun _ _ hf => hf.elim) ?_).mono fun e W' ⟨v, r, k1, k2, k3, k4⟩ => ?_
  · simp only [VRs]
    exact ⟨_, _, rfl, hb.2, _, _, rfl, hb2.2, rfl⟩
  · subst k4
    have k3 : v = .bool true := k3
    subst k3
    exact ⟨k1, k2⟩
theorem calls_rowL {f : FuncId} (h : ∀ l : List Int, (∀ x ∈ l, -9223372036854775808 ≤ x ∧ x ≤ 9223372036854775807) → l.length ≤ maxLen → VCalls Try.prog f [is l] (fun r => r = bv true)) (a : Option Addr) (len cap : Nat) (z : List Int) (W : World) (hz : ((a = none ∧ len = 0 ∧ cap = 0 ∧ z = []) ∨ ∃ x, a = some x ∧ len ≤ cap ∧ cap ≤ maxLen ∧ z.length = cap ∧ (∀ i, i < z.length → W.cell? (x.add i) = some (.int .i64 (z.getD i 0))) ∧ ∀ n ∈ z, (Lit.int .i64 n).wf = true)) :
    Calls Try.prog f #[.slice a len cap] W (fun e W' => e = .returned (.bool true) ∧ Below W.heap.size W W') := by
  have hb := ints_in a len cap z W hz
  have hl : (z.take len).length ≤ maxLen := by
    rw [List.length_take]
    rcases hz with ⟨_, rfl, _, _⟩ | ⟨x, _, h1, h2, _⟩
    · omega
    · omega
  refine ((h (z.take len) hb.1 hl).calls (fun _ _ => False) W [.slice a len cap] (fun _ _ hf => hf.elim) ?_).mono fun e W' ⟨v, r, k1, k2, k3, k4⟩ => ?_
  · simp only [VRs]
    exact ⟨_, _, rfl, hb.2, rfl⟩
  · subst k4
    have k3 : v = .bool true := k3
    subst k3
    exact ⟨k1, k2⟩
theorem calls_rowBII {f : FuncId} (h : ∀ l o k, Bytes l → VCalls Try.prog f [ys l, iv o, iv k] (fun r => r = bv true)) (a : Option Addr) (len cap : Nat) (z : List Int) (o k : Int) (W : World) (hz : ((a = none ∧ len = 0 ∧ cap = 0 ∧ z = []) ∨ ∃ x, a = some x ∧ len ≤ cap ∧ cap ≤ maxLen ∧ z.length = cap ∧ (∀ i, i < z.length → W.cell? (x.add i) = some (.int .u8 (z.getD i 0))) ∧ ∀ n ∈ z, (Lit.int .u8 n).wf = true)) :
    Calls Try.prog f #[.slice a len cap, .int .i64 o, .int .i64 k] W (fun e W' => e = .returned (.bool true) ∧ Below W.heap.size W W') := by
  have hb := bytes_in a len cap z W hz
  refine ((h (z.take len) o k hb.1).calls (fun _ _ => False) W [.slice a len cap, .int .i64 o, .int .i64 k] (fun _ _ hf => hf.elim) ?_).mono fun e W' ⟨v, r, k1, k2, k3, k4⟩ => ?_
  · simp only [VRs]
    exact ⟨_, _, rfl, hb.2, _, _, rfl, rfl, _, _, rfl, rfl, rfl⟩
  · subst k4
    have k3 : v = .bool true := k3
    subst k3
    exact ⟨k1, k2⟩
end Go.Proofs.Ytnoohgiecnmajaa.VC

