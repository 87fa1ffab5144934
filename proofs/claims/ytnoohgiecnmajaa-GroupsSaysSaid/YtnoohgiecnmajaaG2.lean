/- A part of the ground of the proof. No condition. -/
import Derived.Test.YtnoohgiecnmajaaGE21

/- Cases: those of a set; a set of ranges by definition. -/
namespace Go.Proofs.Ytnoohgiecnmajaa.VC
open Go Go.RowKit
set_option linter.unusedVariables false
set_option linter.unusedSimpArgs false
set_option maxHeartbeats 4000000

def addL (l : List (Int × Int)) (n : List Int) : List (Int × Int) := l ++ n.map (fun c => (c, c))
theorem addL_len (l : List (Int × Int)) (n : List Int) : (addL l n).length = l.length + n.length := by simp [addL]
def HA (v : Bool) (l : List (Int × Int)) : St := ⟨0, [], [], [(1000000, ⟨2, 74, v, rows2 l⟩)], []⟩
theorem add_h (v : Bool) (l : List (Int × Int)) (n : List Int) (hl : l.length ≤ 4000000000) (hn : n.length ≤ 4000000000) :
    HCalls Try.prog 126 (HA v l) [.own 1000000, .pv (is n)] (fun fe H' => fe = .own 1000000 ∧ ∃ v', H' = HA v' (addL l n)) := by
  have hn1 := rows1_len n
  refine HCalls.ofr tabOk Try.func126 (by decide) rfl rfl ?_
  refine RWP.seqx tabOk orders ?_
  conv => whnf
  refine RWP.seq ?_
  refine RWP.seqx tabOk orders ?_
  conv => whnf
  refine RWP.block ?_
  refine RWP.loop (fun k st => ∃ (j : Int) (v : Bool), st = ⟨25, [(0, .own 23), (1, .pv (is n)), (5, .pv (iv j))], [], [(23, ⟨2, 74, v, rows2 (addL l (n.take j.toNat))⟩)], []⟩ ∧ 0 ≤ j ∧ j ≤ n.length ∧ k = (n.length - j).toNat)
    ⟨_, _, Wk.trans (Wk.renOwn 0 23 (k := 1000000) rfl rfl rfl) (Wk.narrow _ [0, 1, 5] [] [23]), 0, v, Eq.trans rfl (congrArg (fun X => (⟨25, [(0, .own 23), (1, .pv (is n)), (5, .pv (iv 0))], [], [(23, ⟨2, 74, v, X⟩)], []⟩ : St)) (by simp [addL])), by omega, by omega, rfl⟩ ?_
  rintro k st ⟨j, v1, rfl, hj0, hj1, hk⟩
  have hla : (rows2 (addL l (n.take j.toNat))).length ≤ 8000000000 := by rw [rows2_len, addL_len, List.length_take]; omega
  refine RWP.seqx tabOk orders ?_
  repeat' ((conv => whnf); (first
    | (with_reducible first | refine Spl.yes ?_ | refine Spl.no ?_ | refine Spl.dec (fun h => ?_) (fun h => ?_) | refine Spl.eq (fun h => ?_) (fun h => ?_) | refine Spl.ne (fun h => ?_) (fun h => ?_) | refine Spl.seq (fun h => ?_) (fun h => ?_) | refine Spl.not ?_ | refine Spl.any (fun h => ?_) (fun h => ?_))
    | ((with_reducible apply And.intro); first | omega | rfl | (dsimp only; omega))))
  all_goals (conv => whnf)
  rotate_left
  · have e : j = n.length := by omega
    subst e
    refine RWP.of tabOk orders ?_
    conv => whnf
    refine ⟨_, Wk.trans (Wk.renOwn 4 1000000 (k := 23) rfl rfl rfl) (Wk.narrow _ [4] [] [1000000]), .inr ?_⟩
    conv => whnf
    refine ⟨rfl, v1, ?_⟩
    exact congrArg (fun X => (⟨0, [], [], [(1000000, ⟨2, 74, v1, rows2 (addL l X)⟩)], []⟩ : St)) (by rw [Int.toNat_natCast, List.take_length])
  refine RWP.of tabOk orders ?_
  repeat' ((conv => whnf); (first
    | (with_reducible first | refine Spl.yes ?_ | refine Spl.no ?_ | refine Spl.dec (fun h => ?_) (fun h => ?_) | refine Spl.eq (fun h => ?_) (fun h => ?_) | refine Spl.ne (fun h => ?_) (fun h => ?_) | refine Spl.seq (fun h => ?_) (fun h => ?_) | refine Spl.not ?_ | refine Spl.any (fun h => ?_) (fun h => ?_))
    | refine drawn_text (by decide +kernel) ?_
    | (rw [rows1_get (by omega)])
    | refine And.intro (by show ((rows2 (addL l (n.take j.toNat))).length + 1) * 16 ≤ 140737488355328; omega) ?_
    | ((with_reducible apply And.intro); first | omega | rfl | (dsimp only; omega))))
  all_goals (conv => whnf)
  exact ⟨(n.length - (j + 1)).toNat, _, by omega, Wk.narrow _ [0, 1, 5] [] [23], j + 1, v1, Eq.trans rfl (congrArg (fun X => (⟨25, [(0, .own 23), (1, .pv (is n)), (5, .pv (iv (j + 1)))], [], [(23, ⟨2, 74, v1, X⟩)], []⟩ : St)) (by
    show rows2 (addL l (n.take j.toNat)) ++ [[iv (rd1 n j), iv (rd1 n j)]] = _
    rw [take_step1 hj0 (by omega)]; simp [addL, rows2])), by omega, by omega, rfl⟩
def casesTo (l : List (Int × Int)) (utf : Bool) : Nat → List (Int × Int)
  | 0 => l
  | k + 1 => if inP l k then addL (casesTo l utf k) (othersP k utf) else casesTo l utf k
theorem casesTo_len (l : List (Int × Int)) (utf : Bool) : ∀ k, (casesTo l utf k).length ≤ l.length + 2 * k
  | 0 => by simp [casesTo]
  | k + 1 => by
    have := casesTo_len l utf k
    have := othersP_len k utf
    unfold casesTo
    split
    · rw [addL_len]; omega
    · omega
def casesP (l : List (Int × Int)) (utf : Bool) : List (Int × Int) :=
  newP (if inP l 8490 then addL (casesTo l utf 1201) (othersP 8490 utf) else casesTo l utf 1201) 1114111
theorem casesP_len (l : List (Int × Int)) (utf : Bool) : (casesP l utf).length ≤ 2 * l.length + 5000 := by
  have := casesTo_len l utf 1201
  have := othersP_len 8490 utf
  unfold casesP
  refine Nat.le_trans (newP_len _ _) ?_
  split
  · rw [addL_len]; omega
  · omega
attribute [local irreducible] newP inP othersP casesTo addL
theorem caseless_c (l : List (Int × Int)) (utf : Bool) (hl : l.length ≤ 1000000000) : VCalls Try.prog 116 [rs l, bv utf] (fun r => r = rs (casesP l utf)) := by
  have hl2 := rows2_len l
  refine VCalls.ofr tabOk Try.func116 (by decide) rfl rfl ?_
  refine RWP.seqx tabOk orders ?_
  conv => whnf
  refine RWP.seqx tabOk orders ?_
  conv => whnf
  refine RWP.seqx tabOk orders ?_
  repeat' ((conv => whnf); (first
    | (with_reducible first | refine Spl.yes ?_ | refine Spl.no ?_ | refine Spl.dec (fun h => ?_) (fun h => ?_) | refine Spl.eq (fun h => ?_) (fun h => ?_) | refine Spl.ne (fun h => ?_) (fun h => ?_) | refine Spl.seq (fun h => ?_) (fun h => ?_) | refine Spl.not ?_ | refine Spl.any (fun h => ?_) (fun h => ?_))
    | refine And.intro (by show ((rows2 l).length) * 16 ≤ 140737488355328; omega) ?_
    | ((with_reducible apply And.intro); first | omega | rfl | (dsimp only; omega))))
  all_goals (conv => whnf)
  refine RWP.seq ?_
  refine RWP.seqx tabOk orders ?_
  conv => whnf
  refine RWP.block ?_
  refine RWP.loop (fun k st => ∃ (j : Nat) (v : Bool), st = ⟨34, [(0, .pv (rs l)), (1, .pv (bv utf)), (5, .own 11), (6, .pv (iv j))], [], [(11, ⟨2, 74, v, rows2 (casesTo l utf j)⟩)], []⟩ ∧ j ≤ 1201 ∧ k = 1201 - j)
    ⟨_, _, Wk.narrow _ [0, 1, 5, 6] [] [11], 0, true, Eq.trans rfl (congrArg (fun X => (⟨34, [(0, .pv (rs l)), (1, .pv (bv utf)), (5, .own 11), (6, .pv (iv 0))], [], [(11, ⟨2, 74, true, rows2 X⟩)], []⟩ : St)) (by rw [casesTo])), by omega, rfl⟩ ?_
  rintro k st ⟨j, v1, rfl, hj, hk⟩
  have hlj := casesTo_len l utf j
  have hlo := othersP_len j utf
  refine RWP.seqx tabOk orders ?_
  repeat' ((conv => whnf); (first
    | (with_reducible first | refine Spl.yes ?_ | refine Spl.no ?_ | refine Spl.dec (fun h => ?_) (fun h => ?_) | refine Spl.eq (fun h => ?_) (fun h => ?_) | refine Spl.ne (fun h => ?_) (fun h => ?_) | refine Spl.seq (fun h => ?_) (fun h => ?_) | refine Spl.not ?_ | refine Spl.any (fun h => ?_) (fun h => ?_))
    | ((with_reducible apply And.intro); first | omega | rfl | (dsimp only; omega))))
  all_goals (conv => whnf)
  · refine RWP.of tabOk orders ?_
    repeat' ((conv => whnf); (first
    | (with_reducible first | refine Spl.yes ?_ | refine Spl.no ?_ | refine Spl.dec (fun h => ?_) (fun h => ?_) | refine Spl.eq (fun h => ?_) (fun h => ?_) | refine Spl.ne (fun h => ?_) (fun h => ?_) | refine Spl.seq (fun h => ?_) (fun h => ?_) | refine Spl.not ?_ | refine Spl.any (fun h => ?_) (fun h => ?_))
    | (refine VCalls.mono (in_c _ _ (by omega)) ?_; rintro _ rfl)
    | (refine VCalls.mono (others_c _ _ (by omega)) ?_; rintro _ rfl)
    | (refine HQ.use (add_h v1 (casesTo l utf j) (othersP j utf) (by omega) (by omega)) ⟨id, fun _ => 11, id⟩ ⟨rfl, rfl⟩ rfl rfl (by first | exact trivial) (by first | exact ⟨⟨rfl, rfl⟩, trivial⟩) (by first | exact trivial) ?_; rintro _ _ ⟨rfl, v', rfl⟩; refine ⟨⟨rfl, rfl, rfl⟩, ?_⟩)
    | ((with_reducible apply And.intro); first | omega | rfl | (dsimp only; omega))))
    all_goals (conv => whnf)
    · exact ⟨1201 - (j + 1), _, by omega, Wk.narrow _ [0, 1, 5, 6] [] [11], j + 1, v', Eq.trans rfl (congrArg (fun X => (⟨34, [(0, .pv (rs l)), (1, .pv (bv utf)), (5, .own 11), (6, .pv (iv ((j : Int) + 1)))], [], [(11, ⟨2, 74, v', rows2 X⟩)], []⟩ : St)) (by rw [casesTo, if_pos (by assumption)])), by omega, rfl⟩
    · exact ⟨1201 - (j + 1), _, by omega, Wk.narrow _ [0, 1, 5, 6] [] [11], j + 1, v1, Eq.trans rfl (congrArg (fun X => (⟨34, [(0, .pv (rs l)), (1, .pv (bv utf)), (5, .own 11), (6, .pv (iv ((j : Int) + 1)))], [], [(11, ⟨2, 74, v1, rows2 X⟩)], []⟩ : St)) (by rw [casesTo, if_neg (by simp [*])])), by omega, rfl⟩
  · have e : j = 1201 := by omega
    subst e
    have hlo := othersP_len 8490 utf
    refine RWP.of tabOk orders ?_
    repeat' ((conv => whnf); (first
    | (with_reducible first | refine Spl.yes ?_ | refine Spl.no ?_ | refine Spl.dec (fun h => ?_) (fun h => ?_) | refine Spl.eq (fun h => ?_) (fun h => ?_) | refine Spl.ne (fun h => ?_) (fun h => ?_) | refine Spl.seq (fun h => ?_) (fun h => ?_) | refine Spl.not ?_ | refine Spl.any (fun h => ?_) (fun h => ?_))
    | (refine VCalls.mono (in_c _ _ (by omega)) ?_; rintro _ rfl)
    | (refine VCalls.mono (others_c _ _ (by omega)) ?_; rintro _ rfl)
    | (refine HQ.use (add_h v1 (casesTo l utf 1201) (othersP 8490 utf) (by omega) (by omega)) ⟨id, fun _ => 11, id⟩ ⟨rfl, rfl⟩ rfl rfl (by first | exact trivial) (by first | exact ⟨⟨rfl, rfl⟩, trivial⟩) (by first | exact trivial) ?_; rintro _ _ ⟨rfl, v', rfl⟩; refine ⟨⟨rfl, rfl, rfl⟩, ?_⟩)
    | (refine VCalls.mono (new_c _ _ (by rw [addL_len]; omega)) ?_; rintro _ rfl)
    | (refine VCalls.mono (new_c _ _ (by omega)) ?_; rintro _ rfl)
    | ((with_reducible apply And.intro); first | omega | rfl | (dsimp only; omega))))
    all_goals (conv => whnf)
    · rw [casesP, if_pos (by assumption)]; rfl
    · rw [casesP, if_neg (by simp [*])]; rfl
structure Ctx where
  utf : Bool
  most : Int
def Ctx.enc (c : Ctx) : SV := .agg [bv c.utf, iv c.most]
def set1 (c : Ctx) (l : List (Int × Int)) (cl : Bool) : List (Int × Int) := if cl = true then newP (casesP (newP l c.most) c.utf) c.most else newP l c.most
def setP (c : Ctx) (l : List (Int × Int)) (cl neg : Bool) : List (Int × Int) := if neg = true then joinP 2 (set1 c l cl) [] c.most else set1 c l cl
theorem set1_len (c : Ctx) (l : List (Int × Int)) (cl : Bool) : (set1 c l cl).length ≤ 8 * l.length + 12000 := by
  have h1 := newP_len l c.most
  have h2 := casesP_len (newP l c.most) c.utf
  have h3 := newP_len (casesP (newP l c.most) c.utf) c.most
  unfold set1
  split <;> omega
theorem setP_len (c : Ctx) (l : List (Int × Int)) (cl neg : Bool) : (setP c l cl neg).length ≤ 16 * l.length + 24002 := by
  have h1 := set1_len c l cl
  have h2 := joinP_len 2 (set1 c l cl) [] c.most
  simp only [List.length_nil] at h2
  unfold setP
  split <;> omega
attribute [local irreducible] casesP joinP
theorem set_c (c : Ctx) (l : List (Int × Int)) (cl neg : Bool) (hl : l.length ≤ 100000000) : VCalls Try.prog 87 [c.enc, rs l, bv cl, bv neg] (fun r => r = rs (setP c l cl neg)) := by
  have h1 := newP_len l c.most
  have h2 := casesP_len (newP l c.most) c.utf
  have h3 := newP_len (casesP (newP l c.most) c.utf) c.most
  obtain ⟨utf, most⟩ := c
  obtain ⟨G, hG⟩ : ∃ G, setP ⟨utf, most⟩ l cl neg = G := ⟨_, rfl⟩
  rw [hG]
  unfold setP set1 at hG
  simp only at h1 h2 h3 hG
  cases cl <;> cases neg
  all_goals (refine VCalls.ofr tabOk Try.func87 (by decide) rfl rfl ?_)
  all_goals (refine RWP.of tabOk orders ?_)
  repeat' ((conv => whnf); (first
    | (with_reducible first | refine Spl.yes ?_ | refine Spl.no ?_ | refine Spl.dec (fun h => ?_) (fun h => ?_) | refine Spl.eq (fun h => ?_) (fun h => ?_) | refine Spl.ne (fun h => ?_) (fun h => ?_) | refine Spl.seq (fun h => ?_) (fun h => ?_) | refine Spl.not ?_ | refine Spl.any (fun h => ?_) (fun h => ?_))
    | (refine VCalls.mono (new_c l most (by omega)) ?_; rintro _ rfl)
    | (refine VCalls.mono (caseless_c (newP l most) utf (by omega)) ?_; rintro _ rfl)
    | (refine VCalls.mono (new_c (casesP (newP l most) utf) most (by omega)) ?_; rintro _ rfl)
    | (refine VCalls.mono (join_c 2 _ [] most (by omega) (by simp)) ?_; rintro _ rfl)
    | refine drawn_text (by decide +kernel) ?_
    | refine drawn_ord [0, 1, 2, 4, 5, 3, 6, 7] (by decide +kernel) ?_
    | refine And.intro (Nat.le_of_ble_eq_true rfl) ?_
    | ((with_reducible apply And.intro); first | omega | rfl | (dsimp only; omega))))
  all_goals (conv => whnf)
  all_goals (subst hG; rfl)
end Go.Proofs.Ytnoohgiecnmajaa.VC

/- The lexer of the document: escapes. -/
namespace Go.Proofs.Ytnoohgiecnmajaa.VC
open Go Go.RowKit
set_option linter.unusedVariables false
set_option linter.unusedSimpArgs false
set_option maxHeartbeats 4000000

theorem atL_neg (l : List Int) (a : Int) : ∀ (k : Nat) (n : Int), 1 ≤ n → ((atL l a k n).2 = 0 ∨ 0 ≤ (atL l a k n).1)
  | 0, n, h => by simp [atL]
  | k + 1, n, h => by
    unfold atL
    split
    · split
      · right; simp only; assumption
      · exact atL_neg l a k (n + 1) (by omega)
    · left; rfl
theorem atP_neg (l : List Int) (a : Int) : (atP l a).1 = -1 → (atP l a).2 = 0 := by
  intro h
  rcases atL_neg l a 4 1 (by omega) with q | q
  · exact q
  · unfold atP at h; omega
theorem charP_val (x : Text) (i : Int) : -1 ≤ (charP x i).1 ∧ (charP x i).1 ≤ 1114111 ∧ (0 ≤ i → i < x.s.size → 0 ≤ (charP x i).1) := by
  have hr := atP_range (numsOf x.s) i
  have hb : Bytes (numsOf x.s) := by
    intro y hy
    simp only [numsOf, List.mem_map] at hy
    obtain ⟨b, _, rfl⟩ := hy
    have := b.toNat_lt
    omega
  have hd := rdI_range hb i
  unfold charP nextP
  split
  · rename_i h
    rw [numsOf_len] at h
    exact ⟨by simp, by simp, fun h0 h1 => by omega⟩
  split
  · rename_i h
    refine ⟨hr.1, hr.2.1, fun _ _ => ?_⟩
    have : (atP (numsOf x.s) i).1 = -1 → (atP (numsOf x.s) i).2 = 0 := atP_neg (numsOf x.s) i
    omega
  · exact ⟨by simp only; omega, by simp only; omega, fun _ _ => hd.1⟩
def escL (x : Text) (i to : Int) : List (ByteArray × ByteArray) → Got
  | [] => badG 27 i
  | p :: l => if isP x.s to p.1 = true then
      (if nameOk (nameAt x.s (to + 1)) = true then (if isP x.s (nameTo x.s (to + 1)) p.2 = true then tokG { tokZ with kind := 11, name := nameAt x.s (to + 1), m := 3 } i (nameTo x.s (to + 1) + 1) else escL x i to l) else escL x i to l)
      else escL x i to l
def escT (x : Text) (i to c : Int) (m : Many) : Got :=
  if m.e ≠ 0 then badG m.e i
  else if m.there = true then tokG { tokZ with kind := 2, set := m.l, neg := m.neg } i m.to
  else if c = 48 then badG 21 i
  else if c < 128 then (if letterP c = true then badG 21 i else tokG { tokZ with kind := 1, c := c } i to)
  else tokG { tokZ with kind := 1, c := c } i to
def escR (x : Text) (i to c : Int) : Got :=
  if c = 103 then referP x i to
  else if c = 107 then escL x i to [(bs [123], bs [125]), (bs [60], bs [62]), (bs [39], bs [39])]
  else escT x i to c (manyP x c to)
def escD (x : Text) (i to c : Int) : Got :=
  if c ≥ 49 then
    (if c ≤ 57 then (if (numP x.s (i + 1)).2.2 = true then badG 25 i else tokG { tokZ with kind := 11, n := (numP x.s (i + 1)).1 } i (numP x.s (i + 1)).2.1)
     else escR x i to c)
  else escR x i to c
def escQ (x : Text) (i to c : Int) : Got :=
  if simpleP c ≥ 0 then tokG { tokZ with kind := 1, c := simpleP c } i to
  else if c = 120 then (if (hexaP x to).1 < 0 then badG 21 i else tokG { tokZ with kind := 1, c := (hexaP x to).1 } i (hexaP x to).2)
  else if c = 78 then tokG { tokZ with kind := 2, set := [(10, 10)], neg := true } i to
  else if assertP c > 0 then tokG { tokZ with kind := 4, n := assertP c } i to
  else if c = 75 then tokG { tokZ with kind := 5 } i to
  else if c = 82 then tokG { tokZ with kind := 6 } i to
  else if c = 69 then skipG to
  else escD x i to c
def escapeP (x : Text) (i : Int) : Got :=
  if i + 1 = x.s.size then endG x else escQ x i (charP x (i + 1)).2 (charP x (i + 1)).1
attribute [local irreducible] isP numP signedP nameTo nameAt nameOk byteAt charP stopAt hexaP seqP atP nextP codeOf
attribute [local irreducible] manyP referP simpleP assertP letterP
theorem escape_c (x : Text) (i : Int) (hx : x.s.size ≤ 100000) (h0 : 0 ≤ i) (h1 : i < x.s.size) :
    VCalls Try.prog 75 [x.enc, iv i] (fun r => r = (escapeP x i).enc) := by
  refine VCalls.ofr tabOk Try.func75 (by decide) rfl rfl ?_
  refine RWP.seqx tabOk orders ?_
  conv => whnf
  refine RWP.seqx tabOk orders ?_
  repeat' ((conv => whnf); (first
    | (with_reducible first | refine Spl.yes ?_ | refine Spl.no ?_ | refine Spl.dec (fun h => ?_) (fun h => ?_) | refine Spl.eq (fun h => ?_) (fun h => ?_) | refine Spl.ne (fun h => ?_) (fun h => ?_) | refine Spl.seq (fun h => ?_) (fun h => ?_) | refine Spl.not ?_ | refine Spl.any (fun h => ?_) (fun h => ?_))
    | (refine VCalls.mono (end_c x) ?_; rintro _ rfl)
    | ((with_reducible apply And.intro); first | omega | rfl | (dsimp only; omega))))
  all_goals (conv => whnf)
  · unfold escapeP
    (apply enc_by; (focus ((repeat (first | (apply ite_yes; (focus first | assumption | omega)) | (apply ite_no; (focus first | assumption | exact b_nt (by assumption) | exact b_nf (by assumption) | omega)) | (apply ite_yes; (focus (first | (simp [*]; done) | (simp [*, bs]; done)))) | (apply ite_no; (focus (first | (simp [*]; done) | (simp [*, bs]; done)))))); exact rfl)); rfl)
  have hc := charP_rng x (i + 1) (by omega)
  have hv := charP_val x (i + 1)
  have e0 : escapeP x i = escQ x i (charP x (i + 1)).2 (charP x (i + 1)).1 := by
    unfold escapeP; rw [if_neg (by assumption)]
  rw [e0]
  clear e0
  refine RWP.seqx tabOk orders ?_
  repeat' ((conv => whnf); (first
    | (with_reducible first | refine Spl.yes ?_ | refine Spl.no ?_ | refine Spl.dec (fun h => ?_) (fun h => ?_) | refine Spl.eq (fun h => ?_) (fun h => ?_) | refine Spl.ne (fun h => ?_) (fun h => ?_) | refine Spl.seq (fun h => ?_) (fun h => ?_) | refine Spl.not ?_ | refine Spl.any (fun h => ?_) (fun h => ?_))
    | (refine VCalls.mono (char_c x (i + 1) (by omega)) ?_; rintro _ rfl)
    | ((with_reducible apply And.intro); first | omega | rfl | (dsimp only; omega))))
  all_goals (conv => whnf)
  generalize hC : (charP x (i + 1)).1 = c at *
  generalize hT : (charP x (i + 1)).2 = to at *
  refine RWP.seqx tabOk orders ?_
  repeat' ((conv => whnf); (first
    | (with_reducible first | refine Spl.yes ?_ | refine Spl.no ?_ | refine Spl.dec (fun h => ?_) (fun h => ?_) | refine Spl.eq (fun h => ?_) (fun h => ?_) | refine Spl.ne (fun h => ?_) (fun h => ?_) | refine Spl.seq (fun h => ?_) (fun h => ?_) | refine Spl.not ?_ | refine Spl.any (fun h => ?_) (fun h => ?_))
    | (refine VCalls.mono (simple_c c) ?_; rintro _ rfl)
    | (refine VCalls.mono (tok_c { tokZ with kind := 1, c := simpleP c } i to) ?_; rintro _ rfl)
    | (refine VCalls.mono (hexa_c x to (by omega) (by omega) (by omega)) ?_; rintro _ rfl)
    | (refine VCalls.mono (bad_c 21 i) ?_; rintro _ rfl)
    | (refine VCalls.mono (tok_c { tokZ with kind := 1, c := (hexaP x to).1 } i (hexaP x to).2) ?_; rintro _ rfl)
    | (refine VCalls.mono (tok_c { tokZ with kind := 2, set := [(10, 10)], neg := true } i to) ?_; rintro _ rfl)
    | (refine VCalls.mono (assert_c c) ?_; rintro _ rfl)
    | (refine VCalls.mono (tok_c { tokZ with kind := 4, n := assertP c } i to) ?_; rintro _ rfl)
    | (refine VCalls.mono (tok_c { tokZ with kind := 5 } i to) ?_; rintro _ rfl)
    | (refine VCalls.mono (tok_c { tokZ with kind := 6 } i to) ?_; rintro _ rfl)
    | (refine VCalls.mono (number_c x (i + 1) (by omega) (by omega) (by omega)) ?_; rintro _ rfl)
    | (refine VCalls.mono (bad_c 25 i) ?_; rintro _ rfl)
    | (refine VCalls.mono (tok_c { tokZ with kind := 11, n := (numP x.s (i + 1)).1 } i (numP x.s (i + 1)).2.1) ?_; rintro _ rfl)
    | (refine VCalls.mono (refer_c x i to (by omega) (by omega) (by omega)) ?_; rintro _ rfl)
    | ((with_reducible apply And.intro); first | omega | rfl | (dsimp only; omega))))
  all_goals (conv => whnf)
  all_goals first | (exfalso; omega) | (unfold escQ escD escR; (apply enc_by; (focus ((repeat (first | (apply ite_yes; (focus first | assumption | omega)) | (apply ite_no; (focus first | assumption | exact b_nt (by assumption) | exact b_nf (by assumption) | omega)) | (apply ite_yes; (focus (first | (simp [*]; done) | (simp [*, bs]; done)))) | (apply ite_no; (focus (first | (simp [*]; done) | (simp [*, bs]; done)))))); exact rfl)); rfl)) | skip
  · have e : escQ x i to c = escL x i to [(bs [123], bs [125]), (bs [60], bs [62]), (bs [39], bs [39])] := by
      symm
      unfold escQ escD escR
      (repeat (first | (apply ite_yes; (focus first | assumption | omega)) | (apply ite_no; (focus first | assumption | exact b_nt (by assumption) | exact b_nf (by assumption) | omega)) | (apply ite_yes; (focus (first | (simp [*]; done) | (simp [*, bs]; done)))) | (apply ite_no; (focus (first | (simp [*]; done) | (simp [*, bs]; done))))))
      rfl
    rw [e]
    clear e
    refine ⟨fun k st => ∃ (j : Nat), st = ⟨216, [(1, .pv (iv i)), (2, .ptr 2 0), (4, .ptr 4 0), (6, .pv (iv to)), (12, .pv (sv (bs [123, 60, 39]))), (13, .pv (sv (bs [125, 62, 39]))), (14, .pv (iv j))], [(2, (82, x.cells)), (4, (90, gzero))], [], []⟩ ∧ j ≤ 3 ∧ k = 3 - j ∧ escL x i to [(bs [123], bs [125]), (bs [60], bs [62]), (bs [39], bs [39])] = escL x i to ([(bs [123], bs [125]), (bs [60], bs [62]), (bs [39], bs [39])].drop j),
      ⟨_, _, Wk.narrow _ [1, 2, 4, 6, 12, 13, 14] [2, 4] [], 0, rfl, by omega, rfl, rfl⟩, ?_⟩
    rintro k st ⟨j, rfl, hj, hk, hP⟩
    rw [hP]
    have hnr := nameTo_rng x.s (to + 1)
    have h7 : j = 0 ∨ j = 1 ∨ j = 2 ∨ j = 3 := by omega
    have hb3 : ((bs [123, 60, 39]).size : Int) = 3 := rfl
    have hb4 : ((bs [125, 62, 39]).size : Int) = 3 := rfl
    rcases h7 with rfl | rfl | rfl | rfl
    · have hle : isP x.s to (bs [123]) = true → to + 1 ≤ x.s.size := fun h => by have := isP_le h; have hb : (bs [123]).size = 1 := rfl; omega
      repeat' ((conv => whnf); (first
        | (with_reducible first | refine Spl.yes ?_ | refine Spl.no ?_ | refine Spl.dec (fun h => ?_) (fun h => ?_) | refine Spl.eq (fun h => ?_) (fun h => ?_) | refine Spl.ne (fun h => ?_) (fun h => ?_) | refine Spl.seq (fun h => ?_) (fun h => ?_) | refine Spl.not ?_ | refine Spl.any (fun h => ?_) (fun h => ?_))
        | refine drawn_text (by decide +kernel) ?_
        | (refine VCalls.mono (is_c x to (bs [123]) (by omega) (by omega) (by omega) (by decide)) ?_; rintro _ rfl)
        | (refine VCalls.mono (name_c x (to + 1) (by omega) (by omega) (hle (by assumption))) ?_; rintro _ rfl)
        | (refine VCalls.mono (is_c x (nameTo x.s (to + 1)) (bs [125]) (by omega) (by omega) (by omega) (by decide)) ?_; rintro _ rfl)
        | (refine VCalls.mono (tok_c { tokZ with kind := 11, name := nameAt x.s (to + 1), m := 3 } i (nameTo x.s (to + 1) + 1)) ?_; rintro _ rfl)
        | refine And.intro (by simp only [hb3, hb4]; omega) ?_
        | ((with_reducible apply And.intro); first | omega | rfl| (apply And.intro <;> exact Int.NonNeg.mk _) | exact And.intro rfl (Nat.le_of_ble_eq_true rfl))))
      all_goals (conv => whnf)
      all_goals first
        | (exfalso; omega)
        | exact enc_by ((if_pos (by assumption)).trans ((if_pos (by assumption)).trans (if_pos (by assumption)))).symm rfl
        | exact ⟨2, _, by omega, Wk.narrow _ [1, 2, 4, 6, 12, 13, 14] [2, 4] [], 1, rfl, by omega, by omega, by first | exact (if_neg (b_nt (by assumption))) | exact (if_pos (by assumption)).trans (if_neg (b_nt (by assumption))) | exact (if_pos (by assumption)).trans ((if_pos (by assumption)).trans (if_neg (b_nt (by assumption))))⟩
    · have hle : isP x.s to (bs [60]) = true → to + 1 ≤ x.s.size := fun h => by have := isP_le h; have hb : (bs [60]).size = 1 := rfl; omega
      repeat' ((conv => whnf); (first
        | (with_reducible first | refine Spl.yes ?_ | refine Spl.no ?_ | refine Spl.dec (fun h => ?_) (fun h => ?_) | refine Spl.eq (fun h => ?_) (fun h => ?_) | refine Spl.ne (fun h => ?_) (fun h => ?_) | refine Spl.seq (fun h => ?_) (fun h => ?_) | refine Spl.not ?_ | refine Spl.any (fun h => ?_) (fun h => ?_))
        | refine drawn_text (by decide +kernel) ?_
        | (refine VCalls.mono (is_c x to (bs [60]) (by omega) (by omega) (by omega) (by decide)) ?_; rintro _ rfl)
        | (refine VCalls.mono (name_c x (to + 1) (by omega) (by omega) (hle (by assumption))) ?_; rintro _ rfl)
        | (refine VCalls.mono (is_c x (nameTo x.s (to + 1)) (bs [62]) (by omega) (by omega) (by omega) (by decide)) ?_; rintro _ rfl)
        | (refine VCalls.mono (tok_c { tokZ with kind := 11, name := nameAt x.s (to + 1), m := 3 } i (nameTo x.s (to + 1) + 1)) ?_; rintro _ rfl)
        | refine And.intro (by simp only [hb3, hb4]; omega) ?_
        | ((with_reducible apply And.intro); first | omega | rfl| (apply And.intro <;> exact Int.NonNeg.mk _) | exact And.intro rfl (Nat.le_of_ble_eq_true rfl))))
      all_goals (conv => whnf)
      all_goals first
        | (exfalso; omega)
        | exact enc_by ((if_pos (by assumption)).trans ((if_pos (by assumption)).trans (if_pos (by assumption)))).symm rfl
        | exact ⟨1, _, by omega, Wk.narrow _ [1, 2, 4, 6, 12, 13, 14] [2, 4] [], 2, rfl, by omega, by omega, by first | exact (if_neg (b_nt (by assumption))) | exact (if_pos (by assumption)).trans (if_neg (b_nt (by assumption))) | exact (if_pos (by assumption)).trans ((if_pos (by assumption)).trans (if_neg (b_nt (by assumption))))⟩
    · have hle : isP x.s to (bs [39]) = true → to + 1 ≤ x.s.size := fun h => by have := isP_le h; have hb : (bs [39]).size = 1 := rfl; omega
      repeat' ((conv => whnf); (first
        | (with_reducible first | refine Spl.yes ?_ | refine Spl.no ?_ | refine Spl.dec (fun h => ?_) (fun h => ?_) | refine Spl.eq (fun h => ?_) (fun h => ?_) | refine Spl.ne (fun h => ?_) (fun h => ?_) | refine Spl.seq (fun h => ?_) (fun h => ?_) | refine Spl.not ?_ | refine Spl.any (fun h => ?_) (fun h => ?_))
        | refine drawn_text (by decide +kernel) ?_
        | (refine VCalls.mono (is_c x to (bs [39]) (by omega) (by omega) (by omega) (by decide)) ?_; rintro _ rfl)
        | (refine VCalls.mono (name_c x (to + 1) (by omega) (by omega) (hle (by assumption))) ?_; rintro _ rfl)
        | (refine VCalls.mono (is_c x (nameTo x.s (to + 1)) (bs [39]) (by omega) (by omega) (by omega) (by decide)) ?_; rintro _ rfl)
        | (refine VCalls.mono (tok_c { tokZ with kind := 11, name := nameAt x.s (to + 1), m := 3 } i (nameTo x.s (to + 1) + 1)) ?_; rintro _ rfl)
        | refine And.intro (by simp only [hb3, hb4]; omega) ?_
        | ((with_reducible apply And.intro); first | omega | rfl| (apply And.intro <;> exact Int.NonNeg.mk _) | exact And.intro rfl (Nat.le_of_ble_eq_true rfl))))
      all_goals (conv => whnf)
      all_goals first
        | (exfalso; omega)
        | exact enc_by ((if_pos (by assumption)).trans ((if_pos (by assumption)).trans (if_pos (by assumption)))).symm rfl
        | exact ⟨0, _, by omega, Wk.narrow _ [1, 2, 4, 6, 12, 13, 14] [2, 4] [], 3, rfl, by omega, by omega, by first | exact (if_neg (b_nt (by assumption))) | exact (if_pos (by assumption)).trans (if_neg (b_nt (by assumption))) | exact (if_pos (by assumption)).trans ((if_pos (by assumption)).trans (if_neg (b_nt (by assumption))))⟩
    · repeat' ((conv => whnf); (first
    | (with_reducible first | refine Spl.yes ?_ | refine Spl.no ?_ | refine Spl.dec (fun h => ?_) (fun h => ?_) | refine Spl.eq (fun h => ?_) (fun h => ?_) | refine Spl.ne (fun h => ?_) (fun h => ?_) | refine Spl.seq (fun h => ?_) (fun h => ?_) | refine Spl.not ?_ | refine Spl.any (fun h => ?_) (fun h => ?_))
    | (refine VCalls.mono (bad_c 27 i) ?_; rintro _ rfl)
    | ((with_reducible apply And.intro); first | omega | rfl | (dsimp only; omega))))
      all_goals (conv => whnf)
      all_goals first
        | (exfalso; omega)
        | rfl
  all_goals (
    have e : escQ x i to c = escT x i to c (manyP x c to) := by
      symm
      unfold escQ escD escR
      (repeat (first | (apply ite_yes; (focus first | assumption | omega)) | (apply ite_no; (focus first | assumption | exact b_nt (by assumption) | exact b_nf (by assumption) | omega)) | (apply ite_yes; (focus (first | (simp [*]; done) | (simp [*, bs]; done)))) | (apply ite_no; (focus (first | (simp [*]; done) | (simp [*, bs]; done))))))
      rfl
    rw [e]
    clear e)
  all_goals (refine RWP.of tabOk orders ?_)
  all_goals (
    repeat' ((conv => whnf); (first
    | (with_reducible first | refine Spl.yes ?_ | refine Spl.no ?_ | refine Spl.dec (fun h => ?_) (fun h => ?_) | refine Spl.eq (fun h => ?_) (fun h => ?_) | refine Spl.ne (fun h => ?_) (fun h => ?_) | refine Spl.seq (fun h => ?_) (fun h => ?_) | refine Spl.not ?_ | refine Spl.any (fun h => ?_) (fun h => ?_))
    | (refine VCalls.mono (many_c x c to (by omega) (by omega) (by omega) (by omega)) ?_; rintro _ rfl)
    | (refine VCalls.mono (bad_c _ i) ?_; rintro _ rfl)
    | (refine VCalls.mono (letter_c c) ?_; rintro _ rfl)
    | (refine VCalls.mono (tok_c { tokZ with kind := 2, set := (manyP x c to).l, neg := (manyP x c to).neg } i (manyP x c to).to) ?_; rintro _ rfl)
    | (refine VCalls.mono (tok_c { tokZ with kind := 1, c := c } i to) ?_; rintro _ rfl)
    | ((with_reducible apply And.intro); first | omega | rfl | (dsimp only; omega))))
    all_goals (conv => whnf)
    all_goals (unfold escT)
    all_goals first | (exfalso; omega) | (apply enc_by; (focus ((repeat (first | (apply ite_yes; (focus first | assumption | omega)) | (apply ite_no; (focus first | assumption | exact b_nt (by assumption) | exact b_nf (by assumption) | omega)) | (apply ite_yes; (focus (first | (simp [*]; done) | (simp [*, bs]; done)))) | (apply ite_no; (focus (first | (simp [*]; done) | (simp [*, bs]; done)))))); exact rfl)); rfl))
end Go.Proofs.Ytnoohgiecnmajaa.VC

/- The lexer of the document: one of a class. -/
namespace Go.Proofs.Ytnoohgiecnmajaa.VC
open Go Go.RowKit
set_option linter.unusedVariables false
set_option linter.unusedSimpArgs false
set_option maxHeartbeats 4000000

def letL (s : ByteArray) : Nat → Int → Int
  | 0, i => i
  | k + 1, i => if i < s.size ∧ letterP (byteAt s i) = true then letL s k (i + 1) else i
def letTo (s : ByteArray) (i : Int) : Int := letL s (s.size - i).toNat i
theorem letL_range (s : ByteArray) : ∀ (k : Nat) (i : Int), i ≤ s.size → i ≤ letL s k i ∧ letL s k i ≤ s.size
  | 0, i, h => by simp [letL]; omega
  | k + 1, i, h => by
    unfold letL
    split
    · have := letL_range s k (i + 1) (by omega)
      omega
    · omega
theorem letTo_range (s : ByteArray) (i : Int) (h : i ≤ s.size) : i ≤ letTo s i ∧ letTo s i ≤ s.size := letL_range s _ i h
theorem letL_end {s : ByteArray} {k : Nat} {i : Int} (hk : k = (s.size - i).toNat) (h : ¬ i < s.size ∨ letterP (byteAt s i) = false) : letL s k i = i := by
  cases k with
  | zero => rfl
  | succ k => rw [letL, if_neg (by rcases h with q | q
                                   · omega
                                   · simp [q])]
theorem letL_go {s : ByteArray} {k : Nat} {i : Int} (h1 : i < s.size) (h : letterP (byteAt s i) = true) : letL s (k + 1) i = letL s k (i + 1) := by
  rw [letL, if_pos ⟨h1, h⟩]
structure Item where
  l : List (Int × Int)
  single : Bool
  to : Int
  e : Int
  at_ : Int
@[reducible] def itemE (m : Item) : SV := .tuple [rs m.l, bv m.single, iv m.to, iv m.e, iv m.at_]
def itemM (x : Text) (i c to : Int) (m : Many) : Item :=
  if m.e ≠ 0 then ⟨[], false, i, m.e, i⟩
  else if m.there = true then (if m.neg = true then ⟨joinP 2 m.l [] x.most, false, m.to, 0, 0⟩ else ⟨m.l, false, m.to, 0, 0⟩)
  else if c < 128 then (if letterP c = true then ⟨[], false, i, 21, i⟩ else if digitP c = true then ⟨[], false, i, 21, i⟩ else ⟨[(c, c)], true, to, 0, 0⟩)
  else ⟨[(c, c)], true, to, 0, 0⟩
def itemS (x : Text) (i c to : Int) : Item :=
  if c = 120 then (if (hexaP x to).1 < 0 then ⟨[], false, i, 21, i⟩ else ⟨[((hexaP x to).1, (hexaP x to).1)], true, (hexaP x to).2, 0, 0⟩)
  else if simpleP c ≥ 0 then ⟨[(simpleP c, simpleP c)], true, to, 0, 0⟩
  else if c = 98 then ⟨[(8, 8)], true, to, 0, 0⟩
  else itemM x i c to (manyP x c to)
def itemQ (x : Text) (i : Int) : Item :=
  if (charP x i).1 ≠ 92 then ⟨[((charP x i).1, (charP x i).1)], true, (charP x i).2, 0, 0⟩
  else if (charP x i).2 = x.s.size then ⟨[], false, i, 20, x.s.size⟩
  else itemS x i (charP x (charP x i).2).1 (charP x (charP x i).2).2
def itemK (x : Text) (i k : Int) (neg : Bool) : Item :=
  if isP x.s (letTo x.s k) (bs [58, 93]) = true then
    (if (posixP (x.s.extract k.toNat (letTo x.s k).toNat)).2 = false then ⟨[], false, i, 22, i⟩
     else if neg = true then ⟨joinP 2 (posixP (x.s.extract k.toNat (letTo x.s k).toNat)).1 [] x.most, false, letTo x.s k + 2, 0, 0⟩
     else ⟨(posixP (x.s.extract k.toNat (letTo x.s k).toNat)).1, false, letTo x.s k + 2, 0, 0⟩)
  else itemQ x i
def itemP (x : Text) (i : Int) : Item :=
  if isP x.s i (bs [91, 58]) = true then (if isP x.s (i + 2) (bs [94]) = true then itemK x i (i + 2 + 1) true else itemK x i (i + 2) false) else itemQ x i
attribute [local irreducible] isP numP signedP nameTo nameAt nameOk byteAt charP stopAt hexaP seqP atP nextP codeOf
attribute [local irreducible] manyP referP simpleP assertP letterP posixP itemQ joinP
theorem item_c (x : Text) (i : Int) (hx : x.s.size ≤ 100000) (h0 : 0 ≤ i) (h1 : i < x.s.size) :
    VCalls Try.prog 105 [x.enc, iv i] (fun r => r = itemE (itemP x i)) := by
  refine VCalls.ofr tabOk Try.func105 (by decide) rfl rfl ?_
  refine RWP.seqx tabOk orders ?_
  conv => whnf
  refine RWP.cut (fun st => st = ⟨173, [(1, .pv (iv i)), (2, .ptr 2 0)], [(2, (82, x.cells))], [], []⟩ ∧ itemP x i = itemQ x i) tabOk orders ?_ ?_
  · have hz1 : (bs [91, 58]).size = 2 := rfl
    have hz2 : (bs [94]).size = 1 := rfl
    have l1 : isP x.s i (bs [91, 58]) = true → i + 2 ≤ x.s.size := fun h => by have := isP_le h; omega
    have l2 : isP x.s (i + 2) (bs [94]) = true → i + 2 + 1 ≤ x.s.size := fun h => by have := isP_le h; omega
    repeat' ((conv => whnf); (first
    | (with_reducible first | refine Spl.yes ?_ | refine Spl.no ?_ | refine Spl.dec (fun h => ?_) (fun h => ?_) | refine Spl.eq (fun h => ?_) (fun h => ?_) | refine Spl.ne (fun h => ?_) (fun h => ?_) | refine Spl.seq (fun h => ?_) (fun h => ?_) | refine Spl.not ?_ | refine Spl.any (fun h => ?_) (fun h => ?_))
    | (refine VCalls.mono (is_c x i (bs [91, 58]) (by omega) (by omega) (by omega) (by decide)) ?_; rintro _ rfl)
    | (refine VCalls.mono (is_c x (i + 2) (bs [94]) (by omega) (by omega) (by omega) (by decide)) ?_; rintro _ rfl)
    | ((with_reducible apply And.intro); first | omega | rfl | (dsimp only; omega))))
    all_goals (conv => whnf)
    all_goals (try (have l1' := l1 (by assumption)))
    all_goals (try (have l2' := l2 (by assumption)))
    all_goals (clear l1 l2)
    · have hP0 : itemP x i = itemK x i (i + 2 + 1) true := by
        symm
        unfold itemP
        (repeat (first | (apply ite_yes; (focus first | assumption | omega)) | (apply ite_no; (focus first | assumption | exact b_nt (by assumption) | exact b_nf (by assumption) | omega)) | (apply ite_yes; (focus (first | (simp [*]; done) | (simp [*, bs]; done)))) | (apply ite_no; (focus (first | (simp [*]; done) | (simp [*, bs]; done))))))
        rfl
      rw [hP0]
      have hr := letTo_range x.s (i + 2 + 1) (by omega)
      refine ⟨fun k st => ∃ j, st = ⟨173, [(1, .pv (iv i)), (2, .ptr 2 0), (9, .pv (iv j)), (10, .pv (bv (isP x.s (i + 2) (bs [94])))), (11, .pv (iv (i + 2 + 1)))], [(2, (82, x.cells))], [], []⟩ ∧ (i + 2 + 1) ≤ j ∧ j ≤ x.s.size ∧ k = (x.s.size - j).toNat ∧ letTo x.s (i + 2 + 1) = letL x.s k j,
        ⟨_, _, Wk.narrow _ [1, 2, 9, 10, 11] [2] [], (i + 2 + 1), rfl, by omega, by omega, rfl, rfl⟩, ?_⟩
      rintro k st ⟨j, rfl, hj0, hj1, hk, hP⟩
      repeat' ((conv => whnf); (first
        | (with_reducible first | refine Spl.yes ?_ | refine Spl.no ?_ | refine Spl.dec (fun h => ?_) (fun h => ?_) | refine Spl.eq (fun h => ?_) (fun h => ?_) | refine Spl.ne (fun h => ?_) (fun h => ?_) | refine Spl.seq (fun h => ?_) (fun h => ?_) | refine Spl.not ?_ | refine Spl.any (fun h => ?_) (fun h => ?_))
        | (refine VCalls.mono (letter_c (byteAt x.s j)) ?_; rintro _ rfl)
        | ((with_reducible apply And.intro); first | omega | rfl | (dsimp only; omega))
        | (have e : letTo x.s (i + 2 + 1) = j := by rw [hP]; exact letL_end hk (by first | exact .inl (by assumption) | exact .inr (by assumption))
           clear hP hk
           subst e
           refine VCalls.mono (is_c x (letTo x.s (i + 2 + 1)) (bs [58, 93]) (by omega) (by omega) (by omega) (by decide)) ?_; rintro _ rfl)
        | (refine VCalls.mono (posix_c _ (by first | omega | (simp only [ByteArray.size_extract]; omega))) ?_; rintro _ rfl)
        | (refine VCalls.mono (not_c x _ (by have := posixP_len (x.s.extract ((i + 2 + 1)).toNat (letTo x.s (i + 2 + 1)).toNat); omega)) ?_; rintro _ rfl)))
      all_goals (conv => whnf)
      all_goals first
        | (obtain ⟨k, rfl⟩ : ∃ m, k = m + 1 := ⟨k - 1, by omega⟩
           rw [letL_go (by assumption) (by assumption)] at hP
           exact ⟨k, _, by omega, Wk.narrow _ [1, 2, 9, 10, 11] [2] [], j + 1, rfl, by omega, by omega, by omega, hP⟩)
        | (exfalso; have q : isP x.s (i + 2) (bs [94]) = true := by assumption
           have q2 : isP x.s (i + 2) (bs [94]) = false := by assumption
           rw [q] at q2; cases q2)
        | (unfold itemK; (apply fn_by (f := itemE); (focus ((repeat (first | (apply ite_yes; (focus first | assumption | omega)) | (apply ite_no; (focus first | assumption | exact b_nt (by assumption) | exact b_nf (by assumption) | omega)) | (apply ite_yes; (focus (first | (simp [*]; done) | (simp [*, bs]; done)))) | (apply ite_no; (focus (first | (simp [*]; done) | (simp [*, bs]; done)))))); exact rfl)); rfl))
        | (exact ⟨_, Wk.narrow _ [1, 2] [2] [], rfl, by unfold itemK; rw [if_neg (b_nt (by assumption))]⟩)
    · have hP0 : itemP x i = itemK x i (i + 2) false := by
        symm
        unfold itemP
        (repeat (first | (apply ite_yes; (focus first | assumption | omega)) | (apply ite_no; (focus first | assumption | exact b_nt (by assumption) | exact b_nf (by assumption) | omega)) | (apply ite_yes; (focus (first | (simp [*]; done) | (simp [*, bs]; done)))) | (apply ite_no; (focus (first | (simp [*]; done) | (simp [*, bs]; done))))))
        rfl
      rw [hP0]
      have hr := letTo_range x.s (i + 2) (by omega)
      refine ⟨fun k st => ∃ j, st = ⟨173, [(1, .pv (iv i)), (2, .ptr 2 0), (9, .pv (iv j)), (10, .pv (bv (isP x.s (i + 2) (bs [94])))), (11, .pv (iv (i + 2)))], [(2, (82, x.cells))], [], []⟩ ∧ (i + 2) ≤ j ∧ j ≤ x.s.size ∧ k = (x.s.size - j).toNat ∧ letTo x.s (i + 2) = letL x.s k j,
        ⟨_, _, Wk.narrow _ [1, 2, 9, 10, 11] [2] [], (i + 2), rfl, by omega, by omega, rfl, rfl⟩, ?_⟩
      rintro k st ⟨j, rfl, hj0, hj1, hk, hP⟩
      repeat' ((conv => whnf); (first
        | (with_reducible first | refine Spl.yes ?_ | refine Spl.no ?_ | refine Spl.dec (fun h => ?_) (fun h => ?_) | refine Spl.eq (fun h => ?_) (fun h => ?_) | refine Spl.ne (fun h => ?_) (fun h => ?_) | refine Spl.seq (fun h => ?_) (fun h => ?_) | refine Spl.not ?_ | refine Spl.any (fun h => ?_) (fun h => ?_))
        | (refine VCalls.mono (letter_c (byteAt x.s j)) ?_; rintro _ rfl)
        | ((with_reducible apply And.intro); first | omega | rfl | (dsimp only; omega))
        | (have e : letTo x.s (i + 2) = j := by rw [hP]; exact letL_end hk (by first | exact .inl (by assumption) | exact .inr (by assumption))
           clear hP hk
           subst e
           refine VCalls.mono (is_c x (letTo x.s (i + 2)) (bs [58, 93]) (by omega) (by omega) (by omega) (by decide)) ?_; rintro _ rfl)
        | (refine VCalls.mono (posix_c _ (by first | omega | (simp only [ByteArray.size_extract]; omega))) ?_; rintro _ rfl)
        | (refine VCalls.mono (not_c x _ (by have := posixP_len (x.s.extract ((i + 2)).toNat (letTo x.s (i + 2)).toNat); omega)) ?_; rintro _ rfl)))
      all_goals (conv => whnf)
      all_goals first
        | (obtain ⟨k, rfl⟩ : ∃ m, k = m + 1 := ⟨k - 1, by omega⟩
           rw [letL_go (by assumption) (by assumption)] at hP
           exact ⟨k, _, by omega, Wk.narrow _ [1, 2, 9, 10, 11] [2] [], j + 1, rfl, by omega, by omega, by omega, hP⟩)
        | (exfalso; have q : isP x.s (i + 2) (bs [94]) = true := by assumption
           have q2 : isP x.s (i + 2) (bs [94]) = false := by assumption
           rw [q] at q2; cases q2)
        | (unfold itemK; (apply fn_by (f := itemE); (focus ((repeat (first | (apply ite_yes; (focus first | assumption | omega)) | (apply ite_no; (focus first | assumption | exact b_nt (by assumption) | exact b_nf (by assumption) | omega)) | (apply ite_yes; (focus (first | (simp [*]; done) | (simp [*, bs]; done)))) | (apply ite_no; (focus (first | (simp [*]; done) | (simp [*, bs]; done)))))); exact rfl)); rfl))
        | (exact ⟨_, Wk.narrow _ [1, 2] [2] [], rfl, by unfold itemK; rw [if_neg (b_nt (by assumption))]⟩)
    · exact ⟨_, Wk.narrow _ [1, 2] [2] [], rfl, by unfold itemP; rw [if_neg (b_nt (by assumption))]⟩
  rintro _ ⟨rfl, e⟩
  rw [e]
  clear e
  have hc := charP_rng x i (by omega)
  have hc2 := charP_rng x (charP x i).2 (by omega)
  have hv := charP_val x (charP x i).2
  have hv1 := charP_val x i
  refine RWP.of tabOk orders ?_
  repeat' ((conv => whnf); (first
    | (with_reducible first | refine Spl.yes ?_ | refine Spl.no ?_ | refine Spl.dec (fun h => ?_) (fun h => ?_) | refine Spl.eq (fun h => ?_) (fun h => ?_) | refine Spl.ne (fun h => ?_) (fun h => ?_) | refine Spl.seq (fun h => ?_) (fun h => ?_) | refine Spl.not ?_ | refine Spl.any (fun h => ?_) (fun h => ?_))
    | (refine VCalls.mono (char_c x i (by omega)) ?_; rintro _ rfl)
    | (refine VCalls.mono (char_c x (charP x i).2 (by omega)) ?_; rintro _ rfl)
    | (refine VCalls.mono (hexa_c x (charP x (charP x i).2).2 (by omega) (by omega) (by omega)) ?_; rintro _ rfl)
    | (refine VCalls.mono (simple_c (charP x (charP x i).2).1) ?_; rintro _ rfl)
    | (refine VCalls.mono (many_c x (charP x (charP x i).2).1 (charP x (charP x i).2).2 (by omega) (by omega) (by omega) (by omega)) ?_; rintro _ rfl)
    | (refine VCalls.mono (not_c x _ (by have := manyP_len x (charP x (charP x i).2).1 (charP x (charP x i).2).2; omega)) ?_; rintro _ rfl)
    | (refine VCalls.mono (letter_c _) ?_; rintro _ rfl)
    | (refine VCalls.mono (digit_c _) ?_; rintro _ rfl)
    | refine drawn_text (by decide +kernel) ?_
    | ((with_reducible apply And.intro); first | omega | rfl | (dsimp only; omega))))
  all_goals (conv => whnf)
  all_goals (unfold itemQ itemS itemM)
  all_goals first | (exfalso; omega) | (apply fn_by (f := itemE); (focus ((repeat (first | (apply ite_yes; (focus first | assumption | omega)) | (apply ite_no; (focus first | assumption | exact b_nt (by assumption) | exact b_nf (by assumption) | omega)) | (apply ite_yes; (focus (first | (simp [*]; done) | (simp [*, bs]; done)))) | (apply ite_no; (focus (first | (simp [*]; done) | (simp [*, bs]; done)))))); exact rfl)); rfl)
end Go.Proofs.Ytnoohgiecnmajaa.VC

/- The lexer of the document: classes. -/
namespace Go.Proofs.Ytnoohgiecnmajaa.VC
open Go Go.RowKit
set_option linter.unusedVariables false
set_option linter.unusedSimpArgs false
set_option maxHeartbeats 4000000

theorem nextP_gt (l : List Int) (a : Int) (u : Bool) (h0 : 0 ≤ a) (h : a < l.length) : a < (nextP l a u).2 := by
  have hr := atP_range l a
  unfold nextP
  split
  · omega
  split
  · simp only; omega
  · simp only; omega
theorem charP_gt (x : Text) (i : Int) (h0 : 0 ≤ i) (h : i < x.s.size) : i < (charP x i).2 := by
  have := nextP_gt (numsOf x.s) i x.utf h0 (by rw [numsOf_len]; exact h)
  exact this
theorem hexRun_range (s : ByteArray) (lim : Int) : ∀ (k : Nat) (n j : Int), j ≤ s.size → j ≤ (hexRun s lim k n j).2 ∧ (hexRun s lim k n j).2 ≤ s.size
  | 0, n, j, h => by simp [hexRun]; omega
  | k + 1, n, j, h => by
    unfold hexRun
    split
    · have := hexRun_range s lim k (n * 16 + hexP (byteAt s j)) (j + 1) (by omega)
      omega
    · simp only; omega
theorem hexaP_range (x : Text) (i : Int) (h : i ≤ x.s.size) : i ≤ (hexaP x i).2 ∧ (hexaP x i).2 ≤ x.s.size := by
  have hchk : ∀ n j, i ≤ j → j ≤ x.s.size → i ≤ (hexChk x n j).2 ∧ (hexChk x n j).2 ≤ x.s.size := by
    intro n j h1 h2
    unfold hexChk
    split
    · exact ⟨h1, h2⟩
    split
    · exact ⟨h1, h2⟩
    · exact ⟨h1, h2⟩
  unfold hexaP
  split
  · rename_i hb
    have hl := isP_le hb
    have hz : (bs [123]).size = 1 := rfl
    have h7 := hexRun_range x.s (i + 8) 7 0 (i + 1) (by omega)
    split
    · exact ⟨by simp, h⟩
    · rename_i hn
      have hi : isP x.s (hexRun x.s (i + 8) 7 0 (i + 1)).2 (bs [125]) = true := by
        cases hq : isP x.s (hexRun x.s (i + 8) 7 0 (i + 1)).2 (bs [125]) with
        | true => rfl
        | false => exact absurd (.inr (.inr hq)) hn
      have hl2 := isP_le hi
      have hz2 : (bs [125]).size = 1 := rfl
      exact hchk _ _ (by omega) (by omega)
  · have h2 := hexRun_range x.s (i + 2) 2 0 i h
    exact hchk _ _ h2.1 h2.2
/-- What is known of an item. -/
structure ItemOk (x : Text) (i : Int) (m : Item) : Prop where
  len : m.l.length ≤ 20002
  go : m.e = 0 → i < m.to ∧ m.to ≤ x.s.size ∧ (m.single = true → m.l.length = 1)
theorem itemOk_bad {x : Text} {i : Int} (a t e b : Int) (he : e ≠ 0) (u : Bool) : ItemOk x i ⟨[], u, t, e, b⟩ := ⟨by simp, fun h => absurd h he⟩
theorem itemM_ok (x : Text) (i c to : Int) (m : Many) (hm : m.l.length ≤ 10000) (hmt : i < m.to ∧ m.to ≤ x.s.size) (ht : i < to ∧ to ≤ x.s.size) : ItemOk x i (itemM x i c to m) := by
  unfold itemM
  split
  · exact itemOk_bad 0 _ _ _ (by assumption) _
  split
  · split
    · have := joinP_len 2 m.l [] x.most
      simp only [List.length_nil] at this
      exact ⟨by simp only; omega, fun _ => ⟨hmt.1, hmt.2, fun h => by cases h⟩⟩
    · exact ⟨by simp only; omega, fun _ => ⟨hmt.1, hmt.2, fun h => by cases h⟩⟩
  split
  · split
    · exact itemOk_bad 0 _ _ _ (by decide) _
    split
    · exact itemOk_bad 0 _ _ _ (by decide) _
    · exact ⟨by simp, fun _ => ⟨ht.1, ht.2, fun _ => rfl⟩⟩
  · exact ⟨by simp, fun _ => ⟨ht.1, ht.2, fun _ => rfl⟩⟩
theorem itemQ_ok (x : Text) (i : Int) (h0 : 0 ≤ i) (h1 : i < x.s.size) : ItemOk x i (itemQ x i) := by
  have hg := charP_gt x i h0 h1
  have hr := charP_rng x i (by omega)
  unfold itemQ
  split
  · exact ⟨by simp, fun _ => ⟨hg, hr.2, fun _ => rfl⟩⟩
  split
  · exact itemOk_bad 0 _ _ _ (by decide) _
  · have hr2 := charP_rng x (charP x i).2 (by omega)
    have hmt := manyP_to x (charP x (charP x i).2).1 (charP x (charP x i).2).2 (by omega) (by omega)
    have hh := hexaP_range x (charP x (charP x i).2).2 (by omega)
    unfold itemS
    split
    · split
      · exact itemOk_bad 0 _ _ _ (by decide) _
      · exact ⟨by simp, fun _ => ⟨by simp only; omega, by simp only; omega, fun _ => rfl⟩⟩
    split
    · exact ⟨by simp, fun _ => ⟨by simp only; omega, by simp only; omega, fun _ => rfl⟩⟩
    split
    · exact ⟨by simp, fun _ => ⟨by simp only; omega, by simp only; omega, fun _ => rfl⟩⟩
    · exact itemM_ok x i _ _ _ (manyP_len _ _ _) ⟨by omega, by omega⟩ ⟨by omega, by omega⟩
theorem itemP_ok (x : Text) (i : Int) (h0 : 0 ≤ i) (h1 : i < x.s.size) : ItemOk x i (itemP x i) := by
  have hK : ∀ k neg, i ≤ k → k ≤ x.s.size → ItemOk x i (itemK x i k neg) := by
    intro k neg q1 q2
    unfold itemK
    split
    · rename_i hb
      have hl := isP_le hb
      have hz : (bs [58, 93]).size = 2 := rfl
      have hr := letTo_range x.s k q2
      have hp := posixP_len (x.s.extract k.toNat (letTo x.s k).toNat)
      split
      · exact itemOk_bad 0 _ _ _ (by decide) _
      split
      · have := joinP_len 2 (posixP (x.s.extract k.toNat (letTo x.s k).toNat)).1 [] x.most
        simp only [List.length_nil] at this
        exact ⟨by simp only; omega, fun _ => ⟨by simp only; omega, by simp only; omega, fun h => by cases h⟩⟩
      · exact ⟨by simp only; omega, fun _ => ⟨by simp only; omega, by simp only; omega, fun h => by cases h⟩⟩
    · exact itemQ_ok x i h0 h1
  unfold itemP
  split
  · rename_i hb
    have hl := isP_le hb
    have hz : (bs [91, 58]).size = 2 := rfl
    split
    · rename_i hb2
      have hl2 := isP_le hb2
      have hz2 : (bs [94]).size = 1 := rfl
      exact hK _ _ (by omega) (by omega)
    · exact hK _ _ (by omega) (by omega)
  · exact itemQ_ok x i h0 h1
def classR (x : Text) (i : Int) (next : Int → List (Int × Int) → Got) (A : List (Int × Int)) (m n : Item) : Got :=
  if n.e ≠ 0 then badG n.e n.at_
  else if n.single = false then badG 23 i
  else if (rdp n.l 0).1 < (rdp m.l 0).1 then badG 23 i
  else next n.to (A ++ [((rdp m.l 0).1, (rdp n.l 0).1)])
def classI (x : Text) (i : Int) (next : Int → List (Int × Int) → Got) (A : List (Int × Int)) (m : Item) : Got :=
  if m.e ≠ 0 then badG m.e m.at_
  else if m.single = true then (if isP x.s m.to (bs [45]) = true then (if m.to + 1 < x.s.size then (if byteAt x.s (m.to + 1) ≠ 93 then classR x i next A m (itemP x (m.to + 1)) else next m.to (A ++ m.l)) else next m.to (A ++ m.l)) else next m.to (A ++ m.l))
  else next m.to (A ++ m.l)
def classL (x : Text) (at_ first : Int) (neg : Bool) : Nat → Int → List (Int × Int) → Got
  | 0, _, _ => endG x
  | k + 1, i, A =>
    if i ≥ x.s.size then endG x
    else if byteAt x.s i = 93 then (if i > first then tokG { tokZ with kind := 2, set := newP A x.most, neg := neg } at_ (i + 1) else classI x i (classL x at_ first neg k) A (itemP x i))
    else classI x i (classL x at_ first neg k) A (itemP x i)
def classF (x : Text) (a : Int) : Int := if isP x.s (a + 1) (bs [94]) = true then a + 1 + 1 else a + 1
def classP (x : Text) (a : Int) : Got := classL x a (classF x a) (isP x.s (a + 1) (bs [94])) (x.s.size + 2) (classF x a) []
attribute [local irreducible] isP numP signedP nameTo nameAt nameOk byteAt charP stopAt hexaP seqP atP nextP codeOf
attribute [local irreducible] itemP
set_option maxHeartbeats 8000000
theorem class_c (x : Text) (a : Int) (hx : x.s.size ≤ 1000) (h0 : 0 ≤ a) (h1 : a < x.s.size) :
    VCalls Try.prog 76 [x.enc, iv a] (fun r => r = (classP x a).enc) := by
  refine VCalls.ofr tabOk Try.func76 (by decide) rfl rfl ?_
  refine RWP.seqx tabOk orders ?_
  conv => whnf
  refine RWP.seqx tabOk orders ?_
  repeat' ((conv => whnf); (first
    | (with_reducible first | refine Spl.yes ?_ | refine Spl.no ?_ | refine Spl.dec (fun h => ?_) (fun h => ?_) | refine Spl.eq (fun h => ?_) (fun h => ?_) | refine Spl.ne (fun h => ?_) (fun h => ?_) | refine Spl.seq (fun h => ?_) (fun h => ?_) | refine Spl.not ?_ | refine Spl.any (fun h => ?_) (fun h => ?_))
    | ((with_reducible apply And.intro); first | omega | rfl | (dsimp only; omega))))
  all_goals (conv => whnf)
  refine RWP.seqx tabOk orders ?_
  repeat' ((conv => whnf); (first
    | (with_reducible first | refine Spl.yes ?_ | refine Spl.no ?_ | refine Spl.dec (fun h => ?_) (fun h => ?_) | refine Spl.eq (fun h => ?_) (fun h => ?_) | refine Spl.ne (fun h => ?_) (fun h => ?_) | refine Spl.seq (fun h => ?_) (fun h => ?_) | refine Spl.not ?_ | refine Spl.any (fun h => ?_) (fun h => ?_))
    | (refine VCalls.mono (is_c x (a + 1) (bs [94]) (by omega) (by omega) (by omega) (by decide)) ?_; rintro _ rfl)
    | ((with_reducible apply And.intro); first | omega | rfl | (dsimp only; omega))))
  all_goals (conv => whnf)
  unfold classP
  have hF : a < classF x a ∧ classF x a ≤ x.s.size := by
    unfold classF
    split
    · rename_i hb
      have := isP_le hb
      have hz : (bs [94]).size = 1 := rfl
      omega
    · omega
  refine RWP.cut (fun st => st = ⟨135, [(1, .pv (iv a)), (2, .ptr 2 0), (4, .ptr 4 0), (5, .pv (iv (classF x a))), (6, .pv (bv (isP x.s (a + 1) (bs [94]))))], [(2, (82, x.cells)), (4, (90, gzero))], [], []⟩) tabOk orders ?_ ?_
  · repeat' ((conv => whnf); (first
    | (with_reducible first | refine Spl.yes ?_ | refine Spl.no ?_ | refine Spl.dec (fun h => ?_) (fun h => ?_) | refine Spl.eq (fun h => ?_) (fun h => ?_) | refine Spl.ne (fun h => ?_) (fun h => ?_) | refine Spl.seq (fun h => ?_) (fun h => ?_) | refine Spl.not ?_ | refine Spl.any (fun h => ?_) (fun h => ?_))
    | ((with_reducible apply And.intro); first | omega | rfl | (dsimp only; omega))))
    all_goals (conv => whnf)
    · exact ⟨_, Wk.narrow _ [1, 2, 4, 5, 6] [2, 4] [], by unfold classF; rw [if_pos h]; rfl⟩
    · exact ⟨_, Wk.narrow _ [1, 2, 4, 5, 6] [2, 4] [], by unfold classF; rw [if_neg (b_nt h)]; rfl⟩
  rintro _ rfl
  generalize hf : classF x a = first at *
  generalize isP x.s (a + 1) (bs [94]) = neg
  refine RWP.seqx tabOk orders ?_
  conv => whnf
  refine RWP.seqx tabOk orders ?_
  conv => whnf
  refine RWP.block ?_
  refine RWP.loop (fun k st => ∃ (i : Int) (A : List (Int × Int)) (v : Bool), st = ⟨135, [(1, .pv (iv a)), (2, .ptr 2 0), (4, .ptr 4 0), (5, .pv (iv i)), (6, .pv (bv neg)), (7, .pv (iv first)), (8, .own 133)], [(2, (82, x.cells)), (4, (90, gzero))], [(133, ⟨2, 74, v, rows2 A⟩)], []⟩ ∧ first ≤ i ∧ i ≤ x.s.size ∧ (x.s.size - i).toNat + 1 < k ∧ (A.length : Int) ≤ 20002 * i ∧ classL x a first neg (x.s.size + 2) first [] = classL x a first neg k i A)
    ⟨_, _, Wk.trans (Wk.ownNil (t := 8) (k := 133) (sz := 2) (e := 74) rfl) (Wk.narrow _ [1, 2, 4, 5, 6, 7, 8] [2, 4] [133]), first, [], true, rfl, by omega, by omega, by omega, by simp; omega, rfl⟩ ?_
  rintro k st ⟨i, A, v, rfl, hi0, hi1, hk, hA, hP⟩
  obtain ⟨k, rfl⟩ : ∃ m, k = m + 1 := ⟨k - 1, by omega⟩
  have hAl := rows2_len A
  refine RWP.block ?_
  refine RWP.seqx tabOk orders ?_
  repeat' ((conv => whnf); (first
    | (with_reducible first | refine Spl.yes ?_ | refine Spl.no ?_ | refine Spl.dec (fun h => ?_) (fun h => ?_) | refine Spl.eq (fun h => ?_) (fun h => ?_) | refine Spl.ne (fun h => ?_) (fun h => ?_) | refine Spl.seq (fun h => ?_) (fun h => ?_) | refine Spl.not ?_ | refine Spl.any (fun h => ?_) (fun h => ?_))
    | (refine VCalls.mono (end_c x) ?_; rintro _ rfl)
    | ((with_reducible apply And.intro); first | omega | rfl | (dsimp only; omega))))
  all_goals (conv => whnf)
  · have e : classL x a first neg (x.s.size + 2) first [] = endG x := by rw [hP, classL, if_pos (by assumption)]
    rw [e]
    (apply enc_by; (focus ((repeat (first | (apply ite_yes; (focus first | assumption | omega)) | (apply ite_no; (focus first | assumption | exact b_nt (by assumption) | exact b_nf (by assumption) | omega)) | (apply ite_yes; (focus (first | (simp [*]; done) | (simp [*, bs]; done)))) | (apply ite_no; (focus (first | (simp [*]; done) | (simp [*, bs]; done)))))); exact rfl)); rfl)
  have hi2 : i < x.s.size := by omega
  refine RWP.seqx tabOk orders ?_
  repeat' ((conv => whnf); (first
    | (with_reducible first | refine Spl.yes ?_ | refine Spl.no ?_ | refine Spl.dec (fun h => ?_) (fun h => ?_) | refine Spl.eq (fun h => ?_) (fun h => ?_) | refine Spl.ne (fun h => ?_) (fun h => ?_) | refine Spl.seq (fun h => ?_) (fun h => ?_) | refine Spl.not ?_ | refine Spl.any (fun h => ?_) (fun h => ?_))
    | (refine VCalls.mono (cut_c x A (by omega)) ?_; rintro _ rfl)
    | (refine VCalls.mono (tok_c { tokZ with kind := 2, set := newP A x.most, neg := neg } a (i + 1)) ?_; rintro _ rfl)
    | ((with_reducible apply And.intro); first | omega | rfl | (dsimp only; omega))))
  all_goals (conv => whnf)
  · have e : classL x a first neg (x.s.size + 2) first [] = tokG { tokZ with kind := 2, set := newP A x.most, neg := neg } a (i + 1) := by rw [hP, classL, if_neg (by omega), if_pos (by assumption), if_pos (by assumption)]
    rw [e]
    (apply enc_by; (focus ((repeat (first | (apply ite_yes; (focus first | assumption | omega)) | (apply ite_no; (focus first | assumption | exact b_nt (by assumption) | exact b_nf (by assumption) | omega)) | (apply ite_yes; (focus (first | (simp [*]; done) | (simp [*, bs]; done)))) | (apply ite_no; (focus (first | (simp [*]; done) | (simp [*, bs]; done)))))); exact rfl)); rfl)
  all_goals (
    replace hP : classL x a first neg (x.s.size + 2) first [] = classI x i (classL x a first neg k) A (itemP x i) := by
      rw [hP, classL, if_neg (by omega)]
      first
        | rw [if_neg (by assumption)]
        | rw [if_pos (by assumption), if_neg (by assumption)]
    have hI := itemP_ok x i (by omega) (by omega)
    refine RWP.seqx tabOk orders ?_
    repeat' ((conv => whnf); (first
    | (with_reducible first | refine Spl.yes ?_ | refine Spl.no ?_ | refine Spl.dec (fun h => ?_) (fun h => ?_) | refine Spl.eq (fun h => ?_) (fun h => ?_) | refine Spl.ne (fun h => ?_) (fun h => ?_) | refine Spl.seq (fun h => ?_) (fun h => ?_) | refine Spl.not ?_ | refine Spl.any (fun h => ?_) (fun h => ?_))
    | (refine VCalls.mono (item_c x i (by omega) (by omega) (by omega)) ?_; rintro _ rfl)
    | ((with_reducible apply And.intro); first | omega | rfl | (dsimp only; omega))))
    all_goals (conv => whnf)
    generalize hM : itemP x i = m at *
    have hI2 := hI.go
    have hI1 := hI.len
    refine RWP.of tabOk orders ?_
    have hml := rows2_len m.l
    have hnl := rows2_len (itemP x (m.to + 1)).l
    have hJ : m.e = 0 → m.to + 1 < x.s.size → ItemOk x (m.to + 1) (itemP x (m.to + 1)) := fun h1 h2 => itemP_ok x (m.to + 1) (by have := hI2 h1; omega) h2
    repeat' ((conv => whnf); (first
    | (with_reducible first | refine Spl.yes ?_ | refine Spl.no ?_ | refine Spl.dec (fun h => ?_) (fun h => ?_) | refine Spl.eq (fun h => ?_) (fun h => ?_) | refine Spl.ne (fun h => ?_) (fun h => ?_) | refine Spl.seq (fun h => ?_) (fun h => ?_) | refine Spl.not ?_ | refine Spl.any (fun h => ?_) (fun h => ?_))
    | (refine VCalls.mono (is_c x m.to (bs [45]) (by have := hI2 (by assumption); omega) (by have := hI2 (by assumption); omega) (by omega) (by decide)) ?_; rintro _ rfl)
    | (refine VCalls.mono (item_c x (m.to + 1) (by omega) (by have := hI2 (by assumption); omega) (by omega)) ?_; rintro _ rfl)
    | (refine VCalls.mono (bad_c _ _) ?_; rintro _ rfl)
    | refine drawn_text (by decide +kernel) ?_
    | refine And.intro (by have q := ((hJ (by assumption) (by assumption)).go (by assumption)).2.2 (by assumption); have q2 := (hI2 (by assumption)).2.2 (by assumption); omega) ?_
    | refine And.intro (by have q2 := (hI2 (by assumption)).2.2 (by assumption); omega) ?_
    | refine And.intro (by show ((rows2 A).length + (rows2 m.l).length) * 16 ≤ 140737488355328; omega) ?_
    | refine And.intro (by show ((rows2 A).length + 1) * 16 ≤ 140737488355328; omega) ?_
    | (rw [rows2_get (by have := (hI2 (by assumption)).2.2 (by assumption); simp; omega)])
    | (rw [rows2_get (by have := ((hJ (by assumption) (by assumption)).go (by assumption)).2.2 (by assumption); simp; omega)])
    | ((with_reducible apply And.intro); first | omega | rfl | (dsimp only; omega))))
    all_goals (conv => whnf)
    all_goals (try have hg1 := hI2 (by assumption))
    all_goals (try have hg2 := (hJ (by assumption) (by assumption)).go (by assumption))
    all_goals (unfold classI classR at hP)
    all_goals first
      | (rw [hP]; clear hP hJ hI2 hI; (apply enc_by; (focus ((repeat (first | (apply ite_yes; (focus first | assumption | omega)) | (apply ite_no; (focus first | assumption | exact b_nt (by assumption) | exact b_nf (by assumption) | omega)) | (apply ite_yes; (focus (first | (simp [*]; done) | (simp [*, bs]; done)))) | (apply ite_no; (focus (first | (simp [*]; done) | (simp [*, bs]; done)))))); exact rfl)); rfl))
      | (have hP' : classL x a first neg (x.s.size + 2) first [] = classL x a first neg k m.to (A ++ m.l) := by
           rw [hP]
           symm
           (repeat (first | (apply ite_yes; (focus first | assumption | omega)) | (apply ite_no; (focus first | assumption | exact b_nt (by assumption) | exact b_nf (by assumption) | omega)) | (apply ite_yes; (focus (first | (simp [*]; done) | (simp [*, bs]; done)))) | (apply ite_no; (focus (first | (simp [*]; done) | (simp [*, bs]; done))))))
           rfl
         have e : rows2 A ++ rows2 m.l = rows2 (A ++ m.l) := by simp [rows2]
         exact ⟨k, _, by omega, Wk.narrow _ [1, 2, 4, 5, 6, 7, 8] [2, 4] [133], m.to, A ++ m.l, v, Eq.trans rfl (congrArg (fun X => (⟨135, [(1, .pv (iv a)), (2, .ptr 2 0), (4, .ptr 4 0), (5, .pv (iv m.to)), (6, .pv (bv neg)), (7, .pv (iv first)), (8, .own 133)], [(2, (82, x.cells)), (4, (90, gzero))], [(133, ⟨2, 74, v, X⟩)], []⟩ : St)) e), by omega, by omega, by omega, by rw [List.length_append]; omega, hP'⟩)
      | (have hP' : classL x a first neg (x.s.size + 2) first [] = classL x a first neg k (itemP x (m.to + 1)).to (A ++ [((rdp m.l 0).1, (rdp (itemP x (m.to + 1)).l 0).1)]) := by
           rw [hP]
           symm
           (repeat (first | (apply ite_yes; (focus first | assumption | omega)) | (apply ite_no; (focus first | assumption | exact b_nt (by assumption) | exact b_nf (by assumption) | omega)) | (apply ite_yes; (focus (first | (simp [*]; done) | (simp [*, bs]; done)))) | (apply ite_no; (focus (first | (simp [*]; done) | (simp [*, bs]; done))))))
           rfl
         exact ⟨k, _, by omega, Wk.narrow _ [1, 2, 4, 5, 6, 7, 8] [2, 4] [133], (itemP x (m.to + 1)).to, _, v, Eq.trans rfl (congrArg (fun X => (⟨135, [(1, .pv (iv a)), (2, .ptr 2 0), (4, .ptr 4 0), (5, .pv (iv (itemP x (m.to + 1)).to)), (6, .pv (bv neg)), (7, .pv (iv first)), (8, .own 133)], [(2, (82, x.cells)), (4, (90, gzero))], [(133, ⟨2, 74, v, X⟩)], []⟩ : St)) (rows2_snoc A ((rdp m.l 0).1, (rdp (itemP x (m.to + 1)).l 0).1))), by omega, by omega, by omega, by rw [List.length_append]; simp only [List.length_cons, List.length_nil]; omega, hP'⟩))
end Go.Proofs.Ytnoohgiecnmajaa.VC

/- The lexer of the document: a token. -/
namespace Go.Proofs.Ytnoohgiecnmajaa.VC
open Go Go.RowKit
set_option linter.unusedVariables false
set_option linter.unusedSimpArgs false
set_option maxHeartbeats 4000000

def lineL (s : ByteArray) : Nat → Int → Int
  | 0, i => i
  | k + 1, i => if i < s.size ∧ byteAt s (i - 1) ≠ 10 then lineL s k (i + 1) else i
def lineTo (s : ByteArray) (i : Int) : Int := lineL s (s.size - i).toNat i
theorem lineL_range (s : ByteArray) : ∀ (k : Nat) (i : Int), i ≤ s.size → i ≤ lineL s k i ∧ lineL s k i ≤ s.size
  | 0, i, h => by simp [lineL]; omega
  | k + 1, i, h => by
    unfold lineL
    split
    · have := lineL_range s k (i + 1) (by omega)
      omega
    · omega
theorem lineTo_range (s : ByteArray) (i : Int) (h : i ≤ s.size) : i ≤ lineTo s i ∧ lineTo s i ≤ s.size := lineL_range s _ i h
theorem lineL_end {s : ByteArray} {k : Nat} {i : Int} (hk : k = (s.size - i).toNat) (h : ¬ i < s.size ∨ byteAt s (i - 1) = 10) : lineL s k i = i := by
  cases k with
  | zero => rfl
  | succ k => rw [lineL, if_neg (by rcases h with q | q
                                    · omega
                                    · simp [q])]
theorem lineL_go {s : ByteArray} {k : Nat} {i : Int} (h1 : i < s.size) (h : byteAt s (i - 1) ≠ 10) : lineL s (k + 1) i = lineL s k (i + 1) := by
  rw [lineL, if_pos ⟨h1, h⟩]
def litG (i c to : Int) : Got := tokG { tokZ with kind := 1, c := c } i to
def brK (x : Text) (i c to n a m b : Int) (great : Bool) : Got :=
  if a = i + 1 then litG i c to
  else if isP x.s b (bs [125]) = true then
    (if great = true then badG 25 i
     else if m ≥ 0 then (if m < n then badG 23 i else quantP x i (b + 1) n m)
     else quantP x i (b + 1) n m)
  else litG i c to
def brM (x : Text) (i c to n a : Int) (great : Bool) (q : Int × Int × Bool) : Got :=
  if great = true then (if q.2.1 = a + 1 then brK x i c to n a (-1) q.2.1 true else brK x i c to n a q.1 q.2.1 true)
  else if q.2.1 = a + 1 then brK x i c to n a (-1) q.2.1 q.2.2 else brK x i c to n a q.1 q.2.1 q.2.2
def brP (x : Text) (i c to : Int) (p : Int × Int × Bool) : Got :=
  if p.2.1 > i + 1 then
    (if isP x.s p.2.1 (bs [44]) = true then brM x i c to p.1 p.2.1 p.2.2 (numP x.s (p.2.1 + 1))
     else brK x i c to p.1 p.2.1 p.1 p.2.1 p.2.2)
  else brK x i c to p.1 p.2.1 p.1 p.2.1 p.2.2
def tokC (x : Text) (i c to : Int) : Got :=
  if c = 92 then escapeP x i else if c = 91 then classP x i else if c = 40 then openP x i
  else if c = 46 then tokG { tokZ with kind := 3 } i to
  else if c = 94 then tokG { tokZ with kind := 4, n := 1 } i to
  else if c = 36 then tokG { tokZ with kind := 4, n := 2 } i to
  else if c = 124 then tokG { tokZ with kind := 7 } i to
  else if c = 41 then tokG { tokZ with kind := 8 } i to
  else if c = 42 then quantP x i to 0 (-1)
  else if c = 43 then quantP x i to 1 (-1)
  else if c = 63 then quantP x i to 0 1
  else if c = 123 then brP x i c to (numP x.s (i + 1))
  else litG i c to
def tokX (x : Text) (i c to : Int) : Got :=
  if c = 32 then skipG to else if c = 35 then skipG (lineTo x.s to) else tokC x i c to
def tokenP (x : Text) (i : Int) : Got :=
  if x.x = true then
    (if (charP x i).1 ≥ 9 then (if (charP x i).1 ≤ 13 then skipG (charP x i).2 else tokX x i (charP x i).1 (charP x i).2) else tokX x i (charP x i).1 (charP x i).2)
  else tokC x i (charP x i).1 (charP x i).2
attribute [local irreducible] isP numP signedP nameTo nameAt nameOk byteAt charP stopAt hexaP seqP atP nextP codeOf
attribute [local irreducible] escapeP classP openP quantP tokC
theorem token_c (x : Text) (i : Int) (hx : x.s.size ≤ 1000) (h0 : 0 ≤ i) (h1 : i < x.s.size) :
    VCalls Try.prog 53 [x.enc, iv i] (fun r => r = (tokenP x i).enc) := by
  have hc := charP_rng x i (by omega)
  have hg := charP_gt x i h0 h1
  refine VCalls.ofr tabOk Try.func53 (by decide) rfl rfl ?_
  refine RWP.seqx tabOk orders ?_
  conv => whnf
  refine RWP.seqx tabOk orders ?_
  repeat' ((conv => whnf); (first
    | (with_reducible first | refine Spl.yes ?_ | refine Spl.no ?_ | refine Spl.dec (fun h => ?_) (fun h => ?_) | refine Spl.eq (fun h => ?_) (fun h => ?_) | refine Spl.ne (fun h => ?_) (fun h => ?_) | refine Spl.seq (fun h => ?_) (fun h => ?_) | refine Spl.not ?_ | refine Spl.any (fun h => ?_) (fun h => ?_))
    | (refine VCalls.mono (char_c x i (by omega)) ?_; rintro _ rfl)
    | ((with_reducible apply And.intro); first | omega | rfl | (dsimp only; omega))))
  all_goals (conv => whnf)
  unfold tokenP
  generalize (charP x i).1 = c at *
  generalize (charP x i).2 = to at *
  refine RWP.cut (fun st => st = ⟨191, [(1, .pv (iv i)), (2, .ptr 2 0), (4, .ptr 4 0), (5, .pv (iv c)), (6, .pv (iv to))], [(2, (82, x.cells)), (4, (90, gzero))], [], []⟩ ∧ (if x.x = true then
    (if c ≥ 9 then (if c ≤ 13 then skipG to else tokX x i c to) else tokX x i c to) else tokC x i c to) = tokC x i c to) tabOk orders ?_ ?_
  · repeat' ((conv => whnf); (first
    | (with_reducible first | refine Spl.yes ?_ | refine Spl.no ?_ | refine Spl.dec (fun h => ?_) (fun h => ?_) | refine Spl.eq (fun h => ?_) (fun h => ?_) | refine Spl.ne (fun h => ?_) (fun h => ?_) | refine Spl.seq (fun h => ?_) (fun h => ?_) | refine Spl.not ?_ | refine Spl.any (fun h => ?_) (fun h => ?_))
    | ((with_reducible apply And.intro); first | omega | rfl | (dsimp only; omega))))
    all_goals (conv => whnf)
    all_goals first
      | (exfalso; omega)
      | (unfold tokX; (apply enc_by; (focus ((repeat (first | (apply ite_yes; (focus first | assumption | omega)) | (apply ite_no; (focus first | assumption | exact b_nt (by assumption) | exact b_nf (by assumption) | omega)) | (apply ite_yes; (focus (first | (simp [*]; done) | (simp [*, bs]; done)))) | (apply ite_no; (focus (first | (simp [*]; done) | (simp [*, bs]; done)))))); exact rfl)); rfl))
      | (refine ⟨_, Wk.narrow _ [1, 2, 4, 5, 6] [2, 4] [], rfl, ?_⟩
         symm
         unfold tokX
         (repeat (first | (apply ite_yes; (focus first | assumption | omega)) | (apply ite_no; (focus first | assumption | exact b_nt (by assumption) | exact b_nf (by assumption) | omega)) | (apply ite_yes; (focus (first | (simp [*]; done) | (simp [*, bs]; done)))) | (apply ite_no; (focus (first | (simp [*]; done) | (simp [*, bs]; done))))))
         rfl)
      | skip
    all_goals (
      have e : (if x.x = true then (if c ≥ 9 then (if c ≤ 13 then skipG to else tokX x i c to) else tokX x i c to) else tokC x i c to) = skipG (lineTo x.s to) := by
        symm
        unfold tokX
        (repeat (first | (apply ite_yes; (focus first | assumption | omega)) | (apply ite_no; (focus first | assumption | exact b_nt (by assumption) | exact b_nf (by assumption) | omega)) | (apply ite_yes; (focus (first | (simp [*]; done) | (simp [*, bs]; done)))) | (apply ite_no; (focus (first | (simp [*]; done) | (simp [*, bs]; done))))))
        rfl
      rw [e]
      clear e
      have hr := lineTo_range x.s to (by omega)
      refine ⟨fun k st => ∃ j, st = ⟨191, [(1, .pv (iv i)), (2, .ptr 2 0), (4, .ptr 4 0), (6, .pv (iv j))], [(2, (82, x.cells)), (4, (90, gzero))], [], []⟩ ∧ to ≤ j ∧ j ≤ x.s.size ∧ k = (x.s.size - j).toNat ∧ lineTo x.s to = lineL x.s k j,
        ⟨_, _, Wk.narrow _ [1, 2, 4, 6] [2, 4] [], to, rfl, by omega, by omega, rfl, rfl⟩, ?_⟩
      rintro k st ⟨j, rfl, hj0, hj1, hk, hP⟩
      repeat' ((conv => whnf); (first
        | (with_reducible first | refine Spl.yes ?_ | refine Spl.no ?_ | refine Spl.dec (fun h => ?_) (fun h => ?_) | refine Spl.eq (fun h => ?_) (fun h => ?_) | refine Spl.ne (fun h => ?_) (fun h => ?_) | refine Spl.seq (fun h => ?_) (fun h => ?_) | refine Spl.not ?_ | refine Spl.any (fun h => ?_) (fun h => ?_))
        | ((with_reducible apply And.intro); first | omega | rfl | (dsimp only; omega))))
      all_goals (conv => whnf)
      all_goals first
        | (obtain ⟨k, rfl⟩ : ∃ m, k = m + 1 := ⟨k - 1, by omega⟩
           rw [lineL_go (by assumption) (by assumption)] at hP
           exact ⟨k, _, by omega, Wk.narrow _ [1, 2, 4, 6] [2, 4] [], j + 1, rfl, by omega, by omega, by omega, hP⟩)
        | (have e : lineTo x.s to = j := by rw [hP]; exact lineL_end hk (by first | exact .inl (by assumption) | exact .inr (by assumption))
           rw [e]
           (apply enc_by; (focus ((repeat (first | (apply ite_yes; (focus first | assumption | omega)) | (apply ite_no; (focus first | assumption | exact b_nt (by assumption) | exact b_nf (by assumption) | omega)) | (apply ite_yes; (focus (first | (simp [*]; done) | (simp [*, bs]; done)))) | (apply ite_no; (focus (first | (simp [*]; done) | (simp [*, bs]; done)))))); exact rfl)); rfl)))
  rintro _ ⟨rfl, e⟩
  rw [e]
  clear e
  have hn := numP_range x.s (i + 1)
  have hn2 := numP_range x.s ((numP x.s (i + 1)).2.1 + 1)
  have l44 : isP x.s (numP x.s (i + 1)).2.1 (bs [44]) = true → (numP x.s (i + 1)).2.1 + 1 ≤ x.s.size := fun h => by have := isP_le h; have hz : (bs [44]).size = 1 := rfl; omega
  refine RWP.of tabOk orders ?_
  repeat' ((conv => whnf); (first
    | (with_reducible first | refine Spl.yes ?_ | refine Spl.no ?_ | refine Spl.dec (fun h => ?_) (fun h => ?_) | refine Spl.eq (fun h => ?_) (fun h => ?_) | refine Spl.ne (fun h => ?_) (fun h => ?_) | refine Spl.seq (fun h => ?_) (fun h => ?_) | refine Spl.not ?_ | refine Spl.any (fun h => ?_) (fun h => ?_))
    | (refine VCalls.mono (escape_c x i (by omega) (by omega) (by omega)) ?_; rintro _ rfl)
    | (refine VCalls.mono (class_c x i (by omega) (by omega) (by omega)) ?_; rintro _ rfl)
    | (refine VCalls.mono (open_c x i (by omega) (by omega) (by omega)) ?_; rintro _ rfl)
    | (refine VCalls.mono (tok_c { tokZ with kind := 3 } i to) ?_; rintro _ rfl)
    | (refine VCalls.mono (tok_c { tokZ with kind := 4, n := 1 } i to) ?_; rintro _ rfl)
    | (refine VCalls.mono (tok_c { tokZ with kind := 4, n := 2 } i to) ?_; rintro _ rfl)
    | (refine VCalls.mono (tok_c { tokZ with kind := 7 } i to) ?_; rintro _ rfl)
    | (refine VCalls.mono (tok_c { tokZ with kind := 8 } i to) ?_; rintro _ rfl)
    | (refine VCalls.mono (tok_c { tokZ with kind := 1, c := c } i to) ?_; rintro _ rfl)
    | (refine VCalls.mono (number_c x (i + 1) (by omega) (by omega) (by omega)) ?_; rintro _ rfl)
    | (refine VCalls.mono (number_c x ((numP x.s (i + 1)).2.1 + 1) (by first | omega | (have q := l44 (by assumption); omega)) (by first | omega | (have q := l44 (by assumption); omega)) (by omega)) ?_; rintro _ rfl)
    | (refine VCalls.mono (is_c x _ (bs [44]) (by omega) (by omega) (by omega) (by decide)) ?_; rintro _ rfl)
    | (refine VCalls.mono (is_c x _ (bs [125]) (by first | omega | (have q := l44 (by assumption); omega)) (by first | omega | (have q := l44 (by assumption); omega)) (by omega) (by decide)) ?_; rintro _ rfl)
    | (refine VCalls.mono (quant_c x i _ _ _ (by omega) (by first | omega | (have q := l44 (by assumption); omega)) (by first | omega | (have q := l44 (by assumption); omega))) ?_; rintro _ rfl)
    | (refine VCalls.mono (bad_c _ _) ?_; rintro _ rfl)
    | refine And.intro (by have q := l44 (by assumption); omega) ?_
    | ((with_reducible apply And.intro); first | omega | rfl | (dsimp only; omega))))
  all_goals (conv => whnf)
  all_goals first
    | (exfalso; omega)
    | (unfold tokC brP brM brK litG; (apply enc_by; (focus ((repeat (first | (apply ite_yes; (focus first | assumption | omega)) | (apply ite_no; (focus first | assumption | exact b_nt (by assumption) | exact b_nf (by assumption) | omega)) | (apply ite_yes; (focus (first | (simp [*]; done) | (simp [*, bs]; done)))) | (apply ite_no; (focus (first | (simp [*]; done) | (simp [*, bs]; done)))))); exact rfl)); rfl))
end Go.Proofs.Ytnoohgiecnmajaa.VC

/- The lexer of the document: what is known of its tokens. -/
namespace Go.Proofs.Ytnoohgiecnmajaa.VC
open Go Go.RowKit
set_option linter.unusedVariables false
set_option linter.unusedSimpArgs false
set_option maxHeartbeats 4000000

/-- What is known of a token. -/
structure TokMay (m : Int) (t : Tok) : Prop where
  kind : 1 ≤ t.kind ∧ t.kind ≤ 15
  c : 0 ≤ t.c ∧ t.c ≤ 1114111
  n : 0 ≤ t.n ∧ t.n ≤ 255
  mm : -1 ≤ t.m ∧ t.m ≤ 255
  mode : -1 ≤ t.mode ∧ t.mode ≤ 255
  set : t.set = [] ∨ t.set = [(10, 10)] ∨ ∃ l : List (Int × Int), t.set = newP l m ∧ l.length ≤ 30000000
  k4 : t.kind = 4 → 1 ≤ t.n ∧ t.n ≤ 10
  k9 : t.kind = 9 → (t.m = -1 ∨ t.n ≤ t.m) ∧ 0 ≤ t.mode ∧ t.mode ≤ 2
  k10 : t.kind = 10 → 1 ≤ t.n ∧ t.n ≤ 13
  m3 : t.kind ≠ 9 → 0 ≤ t.m ∧ t.m ≤ 3
  k13 : t.kind = 13 → 1 ≤ t.n ∧ t.n ≤ 7
  cond : t.kind = 10 → (t.n = 9 → t.m ≤ 2 ∧ t.name = bs [] ∧ 1 ≤ t.mode) ∧ (t.n = 10 → t.m = 0 ∧ t.mode = 0) ∧ (t.n = 11 → (t.m = 3 ∧ t.mode = 0) ∨ (t.m = 0 ∧ t.name = bs [])) ∧ (t.n ≥ 12 → t.m = 0 ∧ t.mode = 0 ∧ t.name = bs [])
/-- What is known of what begins at an offset. -/
def GotOk (x : Text) (i : Int) (g : Got) : Prop := g.e = 0 → i < g.to ∧ g.to ≤ x.s.size ∧ (g.some = true → TokMay x.most g.t ∧ g.t.at_ = i ∧ g.t.to = g.to)
theorem gotOk_bad {x : Text} {i : Int} (e a : Int) (he : e ≠ 0) : GotOk x i (badG e a) := fun h => absurd h he
theorem gotOk_end {x : Text} {i : Int} : GotOk x i (endG x) := gotOk_bad 20 _ (by decide)
theorem gotOk_skip {x : Text} {i b : Int} (h1 : i < b) (h2 : b ≤ x.s.size) : GotOk x i (skipG b) := fun _ => ⟨h1, h2, fun h => by cases h⟩
theorem gotOk_tok {x : Text} {i b : Int} {t : Tok} (h1 : i < b) (h2 : b ≤ x.s.size) (ht : TokMay x.most t) : GotOk x i (tokG t i b) :=
  fun _ => ⟨h1, h2, fun _ => ⟨⟨ht.kind, ht.c, ht.n, ht.mm, ht.mode, ht.set, ht.k4, ht.k9, ht.k10, ht.m3, ht.k13, ht.cond⟩, rfl, rfl⟩⟩
theorem gotOk_ite {x : Text} {i : Int} {c : Prop} [Decidable c] {a b : Got} (h1 : c → GotOk x i a) (h2 : ¬ c → GotOk x i b) : GotOk x i (if c then a else b) := by
  by_cases h : c
  · rw [if_pos h]; exact h1 h
  · rw [if_neg h]; exact h2 h
theorem gotOk_shut {x : Text} {t : Tok} {a i : Int} {s : ByteArray} {e : Int} (ha : a < i) (he : e ≠ 0) (ht : TokMay x.most t) : GotOk x a (shutP x t a i s e) := by
  unfold shutP
  split
  · rename_i h
    have := isP_le h
    exact gotOk_tok (by omega) this ht
  split
  · exact gotOk_end
  · exact gotOk_bad _ _ he
theorem gotOk_called {x : Text} {t : Tok} {a i : Int} {s : ByteArray} (ha : a < i) (ht : ∀ nm, TokMay x.most { t with name := nm }) : GotOk x a (calledP x t a i s) := by
  have hr := nameTo_rng x.s i
  unfold calledP
  split
  · exact gotOk_end
  split
  · exact gotOk_bad _ _ (by decide)
  split
  · exact gotOk_bad _ _ (by decide)
  · rename_i h
    have h' : isP x.s (nameTo x.s i) s = true := by simpa using h
    have := isP_le h'
    exact gotOk_tok (by omega) this (ht _)
theorem may_flags {m a b : Int} : TokMay m { tokZ with kind := 15, on := a, off := b } := by
  constructor <;> simp [tokZ]
theorem may_plain {m a b : Int} : TokMay m { tokZ with kind := 10, n := 2, on := a, off := b } := by
  constructor <;> simp [tokZ]
theorem gotOk_flags {x : Text} {a : Int} : ∀ (k : Nat) (i : Int) (off : Bool) (p q : Int), a < i → GotOk x a (flagsL x a k i off p q)
  | 0, i, off, p, q, h => gotOk_end
  | k + 1, i, off, p, q, h => by
    unfold flagsL
    split
    · exact gotOk_end
    split
    · exact gotOk_tok (by omega) (by omega) may_flags
    split
    · exact gotOk_tok (by omega) (by omega) may_plain
    split
    · split
      · exact gotOk_bad _ _ (by decide)
      · exact gotOk_flags k _ _ _ _ (by omega)
    split
    · exact gotOk_bad _ _ (by decide)
    split
    · exact gotOk_flags k _ _ _ _ (by omega)
    · exact gotOk_flags k _ _ _ _ (by omega)
theorem referK_kind (s : ByteArray) (i : Int) : (referK s i).1 = 11 ∨ (referK s i).1 = 12 := by
  unfold referK
  simp only
  split
  · exact .inr rfl
  split
  · exact .inr rfl
  · exact .inl rfl
theorem gotOk_refer {x : Text} {a i : Int} (ha : a < i) (hi : i ≤ x.s.size) : GotOk x a (referP x a i) := by
  have hk := referK_kind x.s i
  have hle := referK_le x.s i hi
  unfold referP
  simp only
  generalize referK x.s i = p at *
  obtain ⟨kind, cl⟩ := p
  simp only at *
  have hq := signedP_range x.s (i + cl.size) (by omega)
  have hr := nameTo_rng x.s (i + cl.size)
  split
  · exact gotOk_bad _ _ (by decide)
  rename_i hgr
  have hgr' : (signedP x.s (i + cl.size)).2.2.2 = false := by simpa using hgr
  have h255 := hq.2.2.2.2.2.2 hgr'
  split
  · split
    · exact gotOk_bad _ _ (by decide)
    rename_i h
    have h' : isP x.s (signedP x.s (i + cl.size)).2.2.1 cl = true := by simpa using h
    have := isP_le h'
    split
    · exact gotOk_bad _ _ (by decide)
    · refine gotOk_tok (by omega) this ?_
      constructor <;> simp [tokZ] <;> omega
  split
  · exact gotOk_bad _ _ (by decide)
  rename_i hcl
  have hcs := hle.2.2 hcl
  split
  · exact gotOk_bad _ _ (by decide)
  split
  · exact gotOk_bad _ _ (by decide)
  · rename_i h
    have h' : isP x.s (nameTo x.s (i + cl.size)) cl = true := by simpa using h
    have := isP_le h'
    refine gotOk_tok (by omega) (by omega) ?_
    constructor <;> simp [tokZ] <;> omega
theorem verbN_range (s : ByteArray) : 0 ≤ verbN s ∧ verbN s ≤ 7 := by
  unfold verbN
  repeat' split
  all_goals omega
theorem gotOk_verb {x : Text} {a : Int} (h1 : a + 2 ≤ x.s.size) : GotOk x a (verbP x a) := by
  have hr := stopAt_range x.s 41 (a + 2) h1
  unfold verbP
  simp only
  have hv := verbN_range (verbHead (x.s.extract (a + 2).toNat (stopAt x.s 41 (a + 2)).toNat))
  split
  · exact gotOk_end
  split
  · exact gotOk_bad _ _ (by decide)
  · rename_i h
    have h0 : verbN (verbHead (x.s.extract (a + 2).toNat (stopAt x.s 41 (a + 2)).toNat)) ≠ 0 := by
      intro q
      apply h
      unfold verbBad
      rw [if_pos q]
    refine gotOk_tok (by omega) (by omega) ?_
    constructor <;> simp [tokZ] <;> omega
theorem gotOk_condFin {x : Text} {a : Int} {t : Tok} {to : Int} {ok : Bool} (ha : a < to) (ht : ¬ (t.n = 9 ∧ t.mode = 0) → TokMay x.most t) : GotOk x a (condFin x a t to ok) := by
  unfold condFin
  split
  · exact gotOk_bad _ _ (by decide)
  split
  · exact gotOk_bad _ _ (by decide)
  split
  · exact gotOk_bad _ _ (by decide)
  · rename_i h2 h3
    have h' : isP x.s to (bs [41]) = true := by simpa using h2
    have := isP_le h'
    have hz : (bs [41]).size = 1 := rfl
    exact gotOk_tok (by omega) (by omega) (ht h3)
theorem gotOk_condition {x : Text} {a i : Int} (ha : a + 2 < i) (hi : i ≤ x.s.size) : GotOk x a (conditionP x a i) := by
  have hn := nameTo_rng x.s (i + 1)
  have hn2 := nameTo_rng x.s (i + 2)
  have hq := signedP_range x.s i hi
  have hp := numP_range x.s (i + 1)
  have m13 : TokMay x.most { tokZ with kind := 10, n := 13 } := by constructor <;> simp [tokZ]
  unfold conditionP
  split
  · exact gotOk_tok (by omega) (by omega) m13
  split
  · exact gotOk_tok (by omega) (by omega) m13
  split
  · exact gotOk_tok (by omega) (by omega) m13
  split
  · exact gotOk_tok (by omega) (by omega) m13
  unfold condRest
  split
  · refine gotOk_condFin (by omega) (fun _ => ?_)
    constructor <;> simp [tokZ]
  split
  · refine gotOk_condFin (by omega) (fun _ => ?_)
    constructor <;> simp [tokZ]
  split
  · refine gotOk_condFin (by omega) (fun _ => ?_)
    constructor <;> simp [tokZ]
  split
  · split
    · exact gotOk_bad _ _ (by decide)
    rename_i hgr
    have hgr' : (numP x.s (i + 1)).2.2 = false := by simpa using hgr
    have h255 := hp.2.2.2.2 hgr'
    split
    · refine gotOk_condFin (by omega) (fun _ => ?_)
      constructor <;> simp [tokZ]
    · refine gotOk_condFin (by omega) (fun _ => ?_)
      constructor <;> simp [tokZ] <;> omega
  split
  · exact gotOk_bad _ _ (by decide)
  rename_i hgr
  have hgr' : (signedP x.s i).2.2.2 = false := by simpa using hgr
  have h255 := hq.2.2.2.2.2.2 hgr'
  refine gotOk_condFin (by omega) (fun hh => ?_)
  simp only [true_and] at hh
  constructor <;> simp [tokZ] <;> omega
theorem gotOk_openL {x : Text} {a i : Int} {g : Got} (ha : a < i) (hg : GotOk x a g) : ∀ l : List (ByteArray × Int), (∀ p ∈ l, 1 ≤ p.2 ∧ p.2 ≤ 8) → GotOk x a (openL x a i g l)
  | [], _ => hg
  | p :: l, h => by
    unfold openL
    split
    · rename_i hb
      have := isP_le hb
      have hp := h p (List.mem_cons_self ..)
      refine gotOk_tok (by omega) this ?_
      constructor <;> simp [tokZ] <;> omega
    · exact gotOk_openL ha hg l (fun q hq => h q (List.mem_cons_of_mem _ hq))
theorem gotOk_open {x : Text} {a : Int} (h0 : 0 ≤ a) (h1 : a < x.s.size) : GotOk x a (openP x a) := by
  unfold openP
  split
  · rename_i hb
    have := isP_le hb
    have hz : (bs [42]).size = 1 := rfl
    exact gotOk_verb (by omega)
  split
  · refine gotOk_tok (by omega) (by omega) ?_
    constructor <;> simp [tokZ]
  rename_i hb0
  have hb : isP x.s (a + 1) (bs [63]) = true := by simpa using hb0
  have hle := isP_le hb
  have hz : (bs [63]).size = 1 := rfl
  split
  · exact gotOk_end
  refine gotOk_openL (by omega) ?_ _ (by decide)
  generalize hi : a + 2 = i
  have hs := stopAt_range x.s 41 i (by omega)
  have hp := numP_range x.s (i + 1)
  have hq := signedP_range x.s i (by omega)
  have c1 : ∀ nm, TokMay x.most { { tokZ with kind := 10, n := 1 } with name := nm } := fun nm => by constructor <;> simp [tokZ]
  have c2 : ∀ nm, TokMay x.most { { tokZ with kind := 11, m := 3 } with name := nm } := fun nm => by constructor <;> simp [tokZ]
  have c3 : ∀ nm, TokMay x.most { { tokZ with kind := 12, m := 3 } with name := nm } := fun nm => by constructor <;> simp [tokZ]
  unfold openRest
  refine gotOk_ite (fun hb => ?_) (fun hb => ?_)
  · refine gotOk_ite (fun hb => ?_) (fun hb => ?_)
    · exact gotOk_end
    · exact gotOk_skip (by omega) (by omega)
  refine gotOk_ite (fun hb => ?_) (fun hb => ?_)
  · exact gotOk_called (by omega) c1
  refine gotOk_ite (fun hb => ?_) (fun hb => ?_)
  · exact gotOk_called (by omega) c1
  refine gotOk_ite (fun hb => ?_) (fun hb => ?_)
  · exact gotOk_called (by omega) c1
  refine gotOk_ite (fun hb => ?_) (fun hb => ?_)
  · exact gotOk_called (by omega) c2
  refine gotOk_ite (fun hb => ?_) (fun hb => ?_)
  · exact gotOk_called (by omega) c3
  refine gotOk_ite (fun hb => ?_) (fun hb => ?_)
  · exact gotOk_called (by omega) c3
  refine gotOk_ite (fun hb => ?_) (fun hb => ?_)
  · exact gotOk_shut (by omega) (by decide) (by constructor <;> simp [tokZ])
  refine gotOk_ite (fun hb => ?_) (fun hb => ?_)
  · refine gotOk_ite (fun hb => ?_) (fun hb => ?_)
    · exact gotOk_bad _ _ (by decide)
    have hgr := hb
    have hgr' : (numP x.s (i + 1)).2.2 = false := by simpa using hgr
    have h255 := hp.2.2.2.2 hgr'
    exact gotOk_shut (by omega) (by decide) (by constructor <;> simp [tokZ] <;> omega)
  refine gotOk_ite (fun hb => ?_) (fun hb => ?_)
  · have := isP_le hb
    have hz : (bs [40]).size = 1 := rfl
    exact gotOk_condition (by omega) (by omega)
  unfold openTail
  refine gotOk_ite (fun hb => ?_) (fun hb => ?_)
  · refine gotOk_ite (fun hb => ?_) (fun hb => ?_)
    · exact gotOk_bad _ _ (by decide)
    have hgr := hb
    have hgr' : (signedP x.s i).2.2.2 = false := by simpa using hgr
    have h255 := hq.2.2.2.2.2.2 hgr'
    refine gotOk_ite (fun hb => ?_) (fun hb => ?_)
    · refine gotOk_ite (fun hb => ?_) (fun hb => ?_)
      · exact gotOk_end
      · exact gotOk_bad _ _ (by decide)
    refine gotOk_ite (fun hb => ?_) (fun hb => ?_)
    · exact gotOk_bad _ _ (by decide)
    · exact gotOk_shut (by omega) (by decide) (by constructor <;> simp [tokZ] <;> omega)
  · exact gotOk_flags _ _ _ _ _ (by omega)
theorem gotOk_quant {x : Text} {i to n m : Int} (h1 : i < to) (h2 : to ≤ x.s.size) (hn : 0 ≤ n ∧ n ≤ 255) (hm : m = -1 ∨ n ≤ m ∧ m ≤ 255) : GotOk x i (quantP x i to n m) := by
  unfold quantP
  split
  · rename_i hb
    have := isP_le hb
    have hz : (bs [63]).size = 1 := rfl
    refine gotOk_tok (by omega) (by omega) ?_
    constructor <;> simp [tokZ] <;> omega
  split
  · rename_i hb
    have := isP_le hb
    have hz : (bs [43]).size = 1 := rfl
    refine gotOk_tok (by omega) (by omega) ?_
    constructor <;> simp [tokZ] <;> omega
  · refine gotOk_tok (by omega) (by omega) ?_
    constructor <;> simp [tokZ] <;> omega
end Go.Proofs.Ytnoohgiecnmajaa.VC

/- The lexer of the document: what is known of its tokens, to the end. -/
namespace Go.Proofs.Ytnoohgiecnmajaa.VC
open Go Go.RowKit
set_option linter.unusedVariables false
set_option linter.unusedSimpArgs false
set_option maxHeartbeats 4000000

theorem assertP_range (c : Int) : 0 ≤ assertP c ∧ assertP c ≤ 8 := by
  unfold assertP
  repeat' split
  all_goals omega
theorem simpleP_range (c : Int) : -1 ≤ simpleP c ∧ simpleP c ≤ 27 := by
  unfold simpleP
  repeat' split
  all_goals omega
theorem hexChk_val (x : Text) (n i : Int) : (hexChk x n i).1 = -1 ∨ (hexChk x n i).1 ≤ x.most := by
  unfold hexChk
  split
  · exact .inl rfl
  split
  · exact .inl rfl
  · exact .inr (by simp only; omega)
theorem hexaP_val (x : Text) (i : Int) : (hexaP x i).1 = -1 ∨ (hexaP x i).1 ≤ x.most := by
  unfold hexaP
  split
  · split
    · exact .inl rfl
    · exact hexChk_val _ _ _
  · exact hexChk_val _ _ _
theorem manyP_set (x : Text) (c i : Int) : (manyP x c i).l = [] ∨ ∃ l : List (Int × Int), (manyP x c i).l = newP l x.most ∧ l.length ≤ 30000000 := by
  have hQ : ∀ to neg s, (manyQ x i to neg s).l = [] ∨ ∃ l : List (Int × Int), (manyQ x i to neg s).l = newP l x.most ∧ l.length ≤ 30000000 := by
    intro to neg s
    unfold manyQ
    split
    · exact .inl rfl
    · exact .inr ⟨_, rfl, by have := propP_len s; omega⟩
  have hB : ∀ to neg s, (manyB x neg i to s).l = [] ∨ ∃ l : List (Int × Int), (manyB x neg i to s).l = newP l x.most ∧ l.length ≤ 30000000 := by
    intro to neg s
    unfold manyB
    split
    · exact .inl rfl
    split
    · split
      · exact hQ _ _ _
      · exact hQ _ _ _
    · exact hQ _ _ _
  unfold manyP
  split
  · exact hB _ _ _
  split
  · exact hB _ _ _
  split
  · split
    · exact .inr ⟨_, rfl, by have := escP_len (c + 32); omega⟩
    · exact .inr ⟨_, rfl, by have := escP_len c; omega⟩
  · exact .inr ⟨_, rfl, by have := escP_len c; omega⟩
theorem gotOk_escL {x : Text} {i to : Int} (h1 : i < to) : ∀ l : List (ByteArray × ByteArray), (∀ p ∈ l, p.2.size = 1) → GotOk x i (escL x i to l)
  | [], _ => gotOk_bad _ _ (by decide)
  | p :: l, h => by
    have hn := nameTo_rng x.s (to + 1)
    have hp := h p (List.mem_cons_self ..)
    have ih := gotOk_escL (x := x) h1 l (fun q hq => h q (List.mem_cons_of_mem _ hq))
    unfold escL
    refine gotOk_ite (fun hb => ?_) (fun hb => ih)
    refine gotOk_ite (fun hb2 => ?_) (fun hb => ih)
    refine gotOk_ite (fun hb3 => ?_) (fun hb => ih)
    have := isP_le hb3
    refine gotOk_tok (by omega) (by omega) ?_
    constructor <;> simp [tokZ]
theorem gotOk_escape {x : Text} {i : Int} (hm : x.most ≤ 1114111) (h0 : 0 ≤ i) (h1 : i < x.s.size) : GotOk x i (escapeP x i) := by
  unfold escapeP
  refine gotOk_ite (fun hb => gotOk_end) (fun hb => ?_)
  have hg := charP_gt x (i + 1) (by omega) (by omega)
  have hr := charP_rng x (i + 1) (by omega)
  have hv := charP_val x (i + 1)
  have hv0 := hv.2.2 (by omega) (by omega)
  generalize (charP x (i + 1)).1 = c at *
  generalize (charP x (i + 1)).2 = to at *
  have hs := simpleP_range c
  have ha := assertP_range c
  have hh := hexaP_range x to (by omega)
  have hhv := hexaP_val x to
  have hn := numP_range x.s (i + 1)
  have hmt := manyP_to x c to (by omega) (by omega)
  have hms := manyP_set x c to
  have c1 : TokMay x.most { tokZ with kind := 1, c := c } := by constructor <;> simp [tokZ] <;> omega
  have hT : GotOk x i (escT x i to c (manyP x c to)) := by
    unfold escT
    refine gotOk_ite (fun hb => gotOk_bad _ _ hb) (fun hb => ?_)
    refine gotOk_ite (fun hb => ?_) (fun hb => ?_)
    · refine gotOk_tok (by omega) (by omega) ?_
      constructor <;> simp [tokZ]
      rcases hms with q | q
      · exact .inl q
      · exact .inr (.inr q)
    refine gotOk_ite (fun hb => gotOk_bad _ _ (by decide)) (fun hb => ?_)
    refine gotOk_ite (fun hb => ?_) (fun hb => ?_)
    · refine gotOk_ite (fun hb => gotOk_bad _ _ (by decide)) (fun hb => ?_)
      exact gotOk_tok (by omega) (by omega) c1
    · exact gotOk_tok (by omega) (by omega) c1
  have hR : GotOk x i (escR x i to c) := by
    unfold escR
    refine gotOk_ite (fun hb => ?_) (fun hb => ?_)
    · exact gotOk_refer (by omega) (by omega)
    refine gotOk_ite (fun hb => ?_) (fun hb => hT)
    exact gotOk_escL (by omega) _ (by intro p hp; simp at hp; rcases hp with rfl | rfl | rfl <;> rfl)
  unfold escQ
  refine gotOk_ite (fun hb => ?_) (fun hb => ?_)
  · refine gotOk_tok (by omega) (by omega) ?_
    constructor <;> simp [tokZ] <;> omega
  refine gotOk_ite (fun hb => ?_) (fun hb => ?_)
  · refine gotOk_ite (fun hb => gotOk_bad _ _ (by decide)) (fun hb => ?_)
    refine gotOk_tok (by omega) (by omega) ?_
    constructor <;> simp [tokZ] <;> omega
  refine gotOk_ite (fun hb => ?_) (fun hb => ?_)
  · refine gotOk_tok (by omega) (by omega) ?_
    constructor <;> simp [tokZ]
  refine gotOk_ite (fun hb => ?_) (fun hb => ?_)
  · refine gotOk_tok (by omega) (by omega) ?_
    constructor <;> simp [tokZ] <;> omega
  refine gotOk_ite (fun hb => ?_) (fun hb => ?_)
  · refine gotOk_tok (by omega) (by omega) ?_
    constructor <;> simp [tokZ]
  refine gotOk_ite (fun hb => ?_) (fun hb => ?_)
  · refine gotOk_tok (by omega) (by omega) ?_
    constructor <;> simp [tokZ]
  refine gotOk_ite (fun hb => ?_) (fun hb => ?_)
  · exact gotOk_skip (by omega) (by omega)
  unfold escD
  refine gotOk_ite (fun hb => ?_) (fun hb => hR)
  refine gotOk_ite (fun hb => ?_) (fun hb => hR)
  refine gotOk_ite (fun hb => gotOk_bad _ _ (by decide)) (fun hb => ?_)
  have hgr' : (numP x.s (i + 1)).2.2 = false := by simpa using hb
  have h255 := hn.2.2.2.2 hgr'
  -- a digit stands there
  have hd : i + 1 ≤ (numP x.s (i + 1)).2.1 := hn.2.2.1
  refine gotOk_tok (by omega) (hn.2.2.2.1 (by omega)) ?_
  constructor <;> simp [tokZ] <;> omega
theorem gotOk_classL {x : Text} {a first : Int} {neg : Bool} (hx : x.s.size ≤ 1000) (h0 : 0 ≤ a) : ∀ (k : Nat) (i : Int) (A : List (Int × Int)), a < i → (A.length : Int) ≤ 20002 * i → GotOk x a (classL x a first neg k i A)
  | 0, i, A, h, hA => gotOk_end
  | k + 1, i, A, h, hA => by
    unfold classL
    refine gotOk_ite (fun hb => gotOk_end) (fun hb => ?_)
    have hI := itemP_ok x i (by omega) (by omega)
    have hin : GotOk x a (classI x i (classL x a first neg k) A (itemP x i)) := by
      generalize hM : itemP x i = m at *
      have hl := hI.len
      have hg := hI.go
      unfold classI
      refine gotOk_ite (fun hb => gotOk_bad _ _ hb) (fun hb => ?_)
      have hg := hg (by simpa using hb)
      have hnext : GotOk x a (classL x a first neg k m.to (A ++ m.l)) := gotOk_classL hx h0 k _ _ (by omega) (by rw [List.length_append]; omega)
      refine gotOk_ite (fun hb => ?_) (fun hb => hnext)
      refine gotOk_ite (fun hb => ?_) (fun hb => hnext)
      refine gotOk_ite (fun hb => ?_) (fun hb => hnext)
      refine gotOk_ite (fun hb2 => ?_) (fun hb => hnext)
      have hJ := itemP_ok x (m.to + 1) (by omega) hb
      unfold classR
      refine gotOk_ite (fun hb => gotOk_bad _ _ hb) (fun hb => ?_)
      have hg2 := hJ.go (by simpa using hb)
      refine gotOk_ite (fun hb => gotOk_bad _ _ (by decide)) (fun hb => ?_)
      refine gotOk_ite (fun hb => gotOk_bad _ _ (by decide)) (fun hb => ?_)
      exact gotOk_classL hx h0 k _ _ (by omega) (by rw [List.length_append]; simp only [List.length_cons, List.length_nil]; omega)
    refine gotOk_ite (fun hb => ?_) (fun hb => hin)
    refine gotOk_ite (fun hb => ?_) (fun hb => hin)
    refine gotOk_tok (by omega) (by omega) ?_
    constructor <;> simp [tokZ]
    exact .inr (.inr ⟨A, rfl, by omega⟩)
theorem gotOk_class {x : Text} {a : Int} (hx : x.s.size ≤ 1000) (h0 : 0 ≤ a) (h1 : a < x.s.size) : GotOk x a (classP x a) := by
  unfold classP
  refine gotOk_classL hx h0 _ _ _ ?_ (by unfold classF; split <;> simp <;> omega)
  unfold classF
  split <;> omega
theorem gotOk_brK {x : Text} {i c to n a m b : Int} {great : Bool} (h1 : i < to) (h2 : to ≤ x.s.size) (hc : 0 ≤ c ∧ c ≤ 1114111) (hb0 : i < b) (hn : 0 ≤ n) (hg : great = false → n ≤ 255 ∧ m ≤ 255) (hm : -1 ≤ m) :
    GotOk x i (brK x i c to n a m b great) := by
  have hl : GotOk x i (litG i c to) := gotOk_tok h1 h2 (by constructor <;> simp [tokZ] <;> omega)
  unfold brK
  refine gotOk_ite (fun hb => hl) (fun hb => ?_)
  refine gotOk_ite (fun hb => ?_) (fun hb => hl)
  have := isP_le hb
  have hz : (bs [125]).size = 1 := rfl
  refine gotOk_ite (fun hb => gotOk_bad _ _ (by decide)) (fun hb => ?_)
  have hg := hg (by simpa using hb)
  refine gotOk_ite (fun hb => ?_) (fun hb => ?_)
  · refine gotOk_ite (fun hb => gotOk_bad _ _ (by decide)) (fun hb => ?_)
    exact gotOk_quant (by omega) (by omega) (by omega) (by omega)
  · exact gotOk_quant (by omega) (by omega) (by omega) (by omega)
theorem gotOk_tokC {x : Text} {i c to : Int} (hm : x.most ≤ 1114111) (hx : x.s.size ≤ 1000) (h0 : 0 ≤ i) (hi : i < x.s.size) (h1 : i < to) (h2 : to ≤ x.s.size) (hc : 0 ≤ c ∧ c ≤ 1114111) : GotOk x i (tokC x i c to) := by
  unfold tokC
  refine gotOk_ite (fun hb => gotOk_escape hm h0 hi) (fun hb => ?_)
  refine gotOk_ite (fun hb => gotOk_class hx h0 hi) (fun hb => ?_)
  refine gotOk_ite (fun hb => gotOk_open h0 hi) (fun hb => ?_)
  refine gotOk_ite (fun hb => gotOk_tok h1 h2 (by constructor <;> simp [tokZ])) (fun hb => ?_)
  refine gotOk_ite (fun hb => gotOk_tok h1 h2 (by constructor <;> simp [tokZ])) (fun hb => ?_)
  refine gotOk_ite (fun hb => gotOk_tok h1 h2 (by constructor <;> simp [tokZ])) (fun hb => ?_)
  refine gotOk_ite (fun hb => gotOk_tok h1 h2 (by constructor <;> simp [tokZ])) (fun hb => ?_)
  refine gotOk_ite (fun hb => gotOk_tok h1 h2 (by constructor <;> simp [tokZ])) (fun hb => ?_)
  refine gotOk_ite (fun hb => gotOk_quant h1 h2 (by omega) (by omega)) (fun hb => ?_)
  refine gotOk_ite (fun hb => gotOk_quant h1 h2 (by omega) (by omega)) (fun hb => ?_)
  refine gotOk_ite (fun hb => gotOk_quant h1 h2 (by omega) (by omega)) (fun hb => ?_)
  refine gotOk_ite (fun hb => ?_) (fun hb => gotOk_tok h1 h2 (by constructor <;> simp [tokZ] <;> omega))
  have hn := numP_range x.s (i + 1)
  have hk := numP_range x.s ((numP x.s (i + 1)).2.1 + 1)
  unfold brP
  have hbr : ∀ great : Bool, (great = false → (numP x.s (i + 1)).2.2 = false) → GotOk x i (brK x i c to (numP x.s (i + 1)).1 (numP x.s (i + 1)).2.1 (numP x.s (i + 1)).1 (numP x.s (i + 1)).2.1 great) := fun great hgr =>
    gotOk_brK h1 h2 hc (by omega) hn.1 (fun q => ⟨hn.2.2.2.2 (hgr q), hn.2.2.2.2 (hgr q)⟩) (by omega)
  refine gotOk_ite (fun hb => ?_) (fun hb => hbr _ (fun q => q))
  refine gotOk_ite (fun hb => ?_) (fun hb => hbr _ (fun q => q))
  unfold brM
  refine gotOk_ite (fun hb => ?_) (fun hb => ?_)
  · refine gotOk_ite (fun hb => ?_) (fun hb => ?_)
    · exact gotOk_brK h1 h2 hc (by omega) hn.1 (fun q => by cases q) (by omega)
    · exact gotOk_brK h1 h2 hc (by omega) hn.1 (fun q => by cases q) (by omega)
  have hgr' : (numP x.s (i + 1)).2.2 = false := by simpa using hb
  refine gotOk_ite (fun hb => ?_) (fun hb => ?_)
  · exact gotOk_brK h1 h2 hc (by omega) hn.1 (fun q => ⟨hn.2.2.2.2 hgr', by omega⟩) (by omega)
  · exact gotOk_brK h1 h2 hc (by omega) hn.1 (fun q => ⟨hn.2.2.2.2 hgr', hk.2.2.2.2 q⟩) (by omega)
theorem gotOk_token {x : Text} {i : Int} (hm : x.most ≤ 1114111) (hx : x.s.size ≤ 1000) (h0 : 0 ≤ i) (hi : i < x.s.size) : GotOk x i (tokenP x i) := by
  have hg := charP_gt x i h0 hi
  have hr := charP_rng x i (by omega)
  have hv := charP_val x i
  have hv0 := hv.2.2 h0 hi
  have hC := gotOk_tokC (c := (charP x i).1) hm hx h0 hi hg hr.2 ⟨hv0, hv.2.1⟩
  have hl := lineTo_range x.s (charP x i).2 hr.2
  have hX : GotOk x i (tokX x i (charP x i).1 (charP x i).2) := by
    unfold tokX
    refine gotOk_ite (fun hb => gotOk_skip hg hr.2) (fun hb => ?_)
    exact gotOk_ite (fun hb => gotOk_skip (by omega) hl.2) (fun hb => hC)
  unfold tokenP
  refine gotOk_ite (fun hb => ?_) (fun hb => hC)
  refine gotOk_ite (fun hb => ?_) (fun hb => hX)
  exact gotOk_ite (fun hb => gotOk_skip hg hr.2) (fun hb => hX)
end Go.Proofs.Ytnoohgiecnmajaa.VC

/- The lexer of the document. -/
namespace Go.Proofs.Ytnoohgiecnmajaa.VC
open Go Go.RowKit
set_option linter.unusedVariables false
set_option linter.unusedSimpArgs false
set_option maxHeartbeats 4000000

structure LexR where
  toks : List Tok
  e : Int
  at_ : Int
@[reducible] def toksE (l : List Tok) : SV := .sl 12 (l.map Tok.cells)
@[reducible] def lexE (r : LexR) : SV := .tuple [toksE r.toks, iv r.e, iv r.at_]
def litT (i to c : Int) : Tok := ⟨1, i, to, c, [], false, 0, 0, 0, bs [], 0, 0⟩
def lexGo (x : Text) : Nat → Int → Bool → List Tok → LexR
  | 0, _, _, out => ⟨out, 0, 0⟩
  | k + 1, i, q, out =>
    if i < x.s.size then
      (if q = true then
        (if isP x.s i (bs [92, 69]) = true then lexGo x k (i + 2) false out
         else lexGo x k (charP x i).2 q (out ++ [litT i (charP x i).2 (charP x i).1]))
       else if isP x.s i (bs [92, 81]) = true then lexGo x k (i + 2) true out
       else if (tokenP x i).e ≠ 0 then ⟨[], (tokenP x i).e, (tokenP x i).at_⟩
       else if (tokenP x i).some = true then lexGo x k (tokenP x i).to q (out ++ [(tokenP x i).t])
       else lexGo x k (tokenP x i).to q out)
    else ⟨out, 0, 0⟩
def textOf (l : List Int) (o : Int) : Text := ⟨strOfNums l, bAnd o 32 != 0, bAnd o 8 != 0, if bAnd o 32 ≠ 0 then 1114111 else 255⟩
def lexP (l : List Int) (o : Int) : LexR :=
  if o < 0 then ⟨[], 1, 0⟩ else if o > 65535 then ⟨[], 1, 0⟩
  else if (l.length : Int) > 1000 then ⟨[], 10, 1000⟩
  else if bAnd o 32 ≠ 0 then (if (validP l).2 = false then ⟨[], 13, (validP l).1⟩ else lexGo (textOf l o) ((textOf l o).s.size + 1) 0 false [])
  else lexGo (textOf l o) ((textOf l o).s.size + 1) 0 false []
attribute [local irreducible] isP numP signedP nameTo nameAt nameOk byteAt charP stopAt hexaP seqP atP nextP codeOf
attribute [local irreducible] tokenP validP bAnd
theorem strOf_size (l : List Int) : (strOfNums l).size = l.length := by
  unfold strOfNums
  simp [ByteArray.size]
@[reducible] def tcs (l : List Tok) : List (List SV) := l.map Tok.cells
theorem tcs_snoc (l : List Tok) (t : Tok) : tcs l ++ [t.cells] = tcs (l ++ [t]) := by simp [tcs]
theorem lex_c (l : List Int) (o : Int) (hb : Bytes l) : VCalls Try.prog 38 [ys l, iv o] (fun r => r = lexE (lexP l o)) := by
  have hbl := byteRows_len l
  refine VCalls.ofr tabOk Try.func38 (by decide) rfl rfl ?_
  refine RWP.seqx tabOk orders ?_
  conv => whnf
  refine RWP.seqx tabOk orders ?_
  repeat' ((conv => whnf); (first
    | (with_reducible first | refine Spl.yes ?_ | refine Spl.no ?_ | refine Spl.dec (fun h => ?_) (fun h => ?_) | refine Spl.eq (fun h => ?_) (fun h => ?_) | refine Spl.ne (fun h => ?_) (fun h => ?_) | refine Spl.seq (fun h => ?_) (fun h => ?_) | refine Spl.not ?_ | refine Spl.any (fun h => ?_) (fun h => ?_))
    | ((with_reducible apply And.intro); first | omega | rfl | (dsimp only; omega))))
  all_goals (conv => whnf)
  · unfold lexP
    (apply fn_by (f := lexE); (focus ((repeat (first | (apply ite_yes; (focus first | assumption | omega)) | (apply ite_no; (focus first | assumption | exact b_nt (by assumption) | exact b_nf (by assumption) | omega)) | (apply ite_yes; (focus (first | (simp [*]; done) | (simp [*, bs]; done)))) | (apply ite_no; (focus (first | (simp [*]; done) | (simp [*, bs]; done)))))); exact rfl)); rfl)
  · unfold lexP
    (apply fn_by (f := lexE); (focus ((repeat (first | (apply ite_yes; (focus first | assumption | omega)) | (apply ite_no; (focus first | assumption | exact b_nt (by assumption) | exact b_nf (by assumption) | omega)) | (apply ite_yes; (focus (first | (simp [*]; done) | (simp [*, bs]; done)))) | (apply ite_no; (focus (first | (simp [*]; done) | (simp [*, bs]; done)))))); exact rfl)); rfl)
  refine RWP.seqx tabOk orders ?_
  repeat' ((conv => whnf); (first
    | (with_reducible first | refine Spl.yes ?_ | refine Spl.no ?_ | refine Spl.dec (fun h => ?_) (fun h => ?_) | refine Spl.eq (fun h => ?_) (fun h => ?_) | refine Spl.ne (fun h => ?_) (fun h => ?_) | refine Spl.seq (fun h => ?_) (fun h => ?_) | refine Spl.not ?_ | refine Spl.any (fun h => ?_) (fun h => ?_))
    | ((with_reducible apply And.intro); first | omega | rfl | (dsimp only; omega))))
  all_goals (conv => whnf)
  · have h' : (l.length : Int) > 1000 := by omega
    unfold lexP
    (apply fn_by (f := lexE); (focus ((repeat (first | (apply ite_yes; (focus first | assumption | omega)) | (apply ite_no; (focus first | assumption | exact b_nt (by assumption) | exact b_nf (by assumption) | omega)) | (apply ite_yes; (focus (first | (simp [*]; done) | (simp [*, bs]; done)))) | (apply ite_no; (focus (first | (simp [*]; done) | (simp [*, bs]; done)))))); exact rfl)); rfl)
  have h' : ¬ (l.length : Int) > 1000 := by omega
  refine RWP.seqx tabOk orders ?_
  repeat' ((conv => whnf); (first
    | (with_reducible first | refine Spl.yes ?_ | refine Spl.no ?_ | refine Spl.dec (fun h => ?_) (fun h => ?_) | refine Spl.eq (fun h => ?_) (fun h => ?_) | refine Spl.ne (fun h => ?_) (fun h => ?_) | refine Spl.seq (fun h => ?_) (fun h => ?_) | refine Spl.not ?_ | refine Spl.any (fun h => ?_) (fun h => ?_))
    | refine ⟨l, rfl, ?_⟩
    | ((with_reducible apply And.intro); first | omega | rfl | (dsimp only; omega))))
  all_goals (conv => whnf)
  have hsz : (textOf l o).s.size = l.length := strOf_size l
  have hmost : (textOf l o).most ≤ 1114111 := by unfold textOf; simp only; split <;> omega
  refine RWP.cut (fun st => st = ⟨95, [(7, .ptr 7 0)], [(7, (82, (textOf l o).cells))], [], []⟩ ∧ lexP l o = lexGo (textOf l o) ((textOf l o).s.size + 1) 0 false []) tabOk orders ?_ ?_
  · repeat' ((conv => whnf); (first
    | (with_reducible first | refine Spl.yes ?_ | refine Spl.no ?_ | refine Spl.dec (fun h => ?_) (fun h => ?_) | refine Spl.eq (fun h => ?_) (fun h => ?_) | refine Spl.ne (fun h => ?_) (fun h => ?_) | refine Spl.seq (fun h => ?_) (fun h => ?_) | refine Spl.not ?_ | refine Spl.any (fun h => ?_) (fun h => ?_))
    | (refine VCalls.mono (valid_c l hb (by omega)) ?_; rintro _ rfl)
    | ((with_reducible apply And.intro); first | omega | rfl | (dsimp only; omega))))
    all_goals (conv => whnf)
    · refine ⟨_, Wk.narrow _ [7] [7] [], ?_, ?_⟩
      · unfold Text.cells textOf
        simp only
        rw [if_pos (by assumption)]
        rfl
      · symm
        unfold lexP
        (repeat (first | (apply ite_yes; (focus first | assumption | omega)) | (apply ite_no; (focus first | assumption | exact b_nt (by assumption) | exact b_nf (by assumption) | omega)) | (apply ite_yes; (focus (first | (simp [*]; done) | (simp [*, bs]; done)))) | (apply ite_no; (focus (first | (simp [*]; done) | (simp [*, bs]; done))))))
        rfl
    · unfold lexP
      (apply fn_by (f := lexE); (focus ((repeat (first | (apply ite_yes; (focus first | assumption | omega)) | (apply ite_no; (focus first | assumption | exact b_nt (by assumption) | exact b_nf (by assumption) | omega)) | (apply ite_yes; (focus (first | (simp [*]; done) | (simp [*, bs]; done)))) | (apply ite_no; (focus (first | (simp [*]; done) | (simp [*, bs]; done)))))); exact rfl)); rfl)
    · refine ⟨_, Wk.narrow _ [7] [7] [], ?_, ?_⟩
      · unfold Text.cells textOf
        simp only
        rw [if_neg (by omega)]
        rfl
      · symm
        unfold lexP
        (repeat (first | (apply ite_yes; (focus first | assumption | omega)) | (apply ite_no; (focus first | assumption | exact b_nt (by assumption) | exact b_nf (by assumption) | omega)) | (apply ite_yes; (focus (first | (simp [*]; done) | (simp [*, bs]; done)))) | (apply ite_no; (focus (first | (simp [*]; done) | (simp [*, bs]; done))))))
        rfl
  rintro _ ⟨rfl, e⟩
  rw [e]
  clear e
  generalize textOf l o = x at *
  have hx : x.s.size ≤ 1000 := by omega
  obtain ⟨G, hG⟩ : ∃ G, lexGo x (x.s.size + 1) 0 false [] = G := ⟨_, rfl⟩
  rw [hG]
  refine RWP.seqx tabOk orders ?_
  conv => whnf
  refine RWP.seqx tabOk orders ?_
  conv => whnf
  refine RWP.seqx tabOk orders ?_
  conv => whnf
  refine RWP.seq ?_
  refine RWP.block ?_
  refine RWP.loop (fun k st => ∃ (i : Int) (q : Bool) (A : List Tok) (v : Bool), st = ⟨95, [(7, .ptr 7 0), (10, .own 91), (11, .pv (iv i)), (12, .pv (bv q))], [(7, (82, x.cells))], [(91, ⟨12, 88, v, tcs A⟩)], []⟩ ∧ 0 ≤ i ∧ i ≤ x.s.size ∧ (x.s.size - i).toNat + 1 ≤ k ∧ (A.length : Int) ≤ i ∧ G = lexGo x k i q A)
    ⟨_, _, Wk.trans (Wk.ownNil (t := 10) (k := 91) (sz := 12) (e := 88) rfl) (Wk.narrow _ [7, 10, 11, 12] [7] [91]), 0, false, [], true, rfl, by omega, by omega, by omega, by simp, hG.symm⟩ ?_
  rintro k st ⟨i, q, A, v, rfl, hi0, hi1, hk, hA, hP⟩
  obtain ⟨k, rfl⟩ : ∃ m, k = m + 1 := ⟨k - 1, by omega⟩
  have hAl : (tcs A).length = A.length := by simp [tcs]
  refine RWP.seqx tabOk orders ?_
  repeat' ((conv => whnf); (first
    | (with_reducible first | refine Spl.yes ?_ | refine Spl.no ?_ | refine Spl.dec (fun h => ?_) (fun h => ?_) | refine Spl.eq (fun h => ?_) (fun h => ?_) | refine Spl.ne (fun h => ?_) (fun h => ?_) | refine Spl.seq (fun h => ?_) (fun h => ?_) | refine Spl.not ?_ | refine Spl.any (fun h => ?_) (fun h => ?_))
    | ((with_reducible apply And.intro); first | omega | rfl | (dsimp only; omega))))
  all_goals (conv => whnf)
  rotate_left
  · have e : G = ⟨A, 0, 0⟩ := by rw [hP, lexGo, if_neg (by assumption)]
    rw [e]
    refine RWP.of tabOk orders ?_
    repeat' ((conv => whnf); (first
    | (with_reducible first | refine Spl.yes ?_ | refine Spl.no ?_ | refine Spl.dec (fun h => ?_) (fun h => ?_) | refine Spl.eq (fun h => ?_) (fun h => ?_) | refine Spl.ne (fun h => ?_) (fun h => ?_) | refine Spl.seq (fun h => ?_) (fun h => ?_) | refine Spl.not ?_ | refine Spl.any (fun h => ?_) (fun h => ?_))
    | ((with_reducible apply And.intro); first | omega | rfl | (dsimp only; omega))))
    all_goals (conv => whnf)
    rfl
  have hi2 : i < x.s.size := by assumption
  have hc := charP_rng x i (by omega)
  have hg := charP_gt x i hi0 hi2
  have ht := gotOk_token hmost hx hi0 hi2
  rw [lexGo, if_pos hi2] at hP
  have hz1 : (bs [92, 69]).size = 2 := rfl
  have hz2 : (bs [92, 81]).size = 2 := rfl
  have hs1 : isP x.s i (bs [92, 69]) = true → i + 2 ≤ x.s.size := fun h => by have := isP_le h; omega
  have hs2 : isP x.s i (bs [92, 81]) = true → i + 2 ≤ x.s.size := fun h => by have := isP_le h; omega
  refine RWP.block ?_
  refine RWP.of tabOk orders ?_
  repeat' ((conv => whnf); (first
    | (with_reducible first | refine Spl.yes ?_ | refine Spl.no ?_ | refine Spl.dec (fun h => ?_) (fun h => ?_) | refine Spl.eq (fun h => ?_) (fun h => ?_) | refine Spl.ne (fun h => ?_) (fun h => ?_) | refine Spl.seq (fun h => ?_) (fun h => ?_) | refine Spl.not ?_ | refine Spl.any (fun h => ?_) (fun h => ?_))
    | (refine VCalls.mono (is_c x i (bs [92, 69]) (by omega) (by omega) (by omega) (by decide)) ?_; rintro _ rfl)
    | (refine VCalls.mono (is_c x i (bs [92, 81]) (by omega) (by omega) (by omega) (by decide)) ?_; rintro _ rfl)
    | (refine VCalls.mono (char_c x i (by omega)) ?_; rintro _ rfl)
    | (refine VCalls.mono (token_c x i hx hi0 hi2) ?_; rintro _ rfl)
    | refine drawn_text (by decide +kernel) ?_
    | refine And.intro (by show ((tcs A).length + 1) * 120 ≤ 140737488355328; omega) ?_
    | ((with_reducible apply And.intro); first | omega | rfl | (dsimp only; omega))))
  all_goals (conv => whnf)
  all_goals (try have hs1' := hs1 (by assumption))
  all_goals (try have hs2' := hs2 (by assumption))
  all_goals (try have ht' := ht (by assumption))
  all_goals first
    | exact ⟨k, _, by omega, Wk.narrow _ [7, 10, 11, 12] [7] [91], i + 2, false, A, v, rfl, by omega, by omega, by omega, by omega, (by rw [hP]; symm; (repeat (first | (apply ite_yes; (focus first | assumption | omega)) | (apply ite_no; (focus first | assumption | exact b_nt (by assumption) | exact b_nf (by assumption) | omega)) | (apply ite_yes; (focus (first | (simp [*]; done) | (simp [*, bs]; done)))) | (apply ite_no; (focus (first | (simp [*]; done) | (simp [*, bs]; done)))))); rfl)⟩
    | exact ⟨k, _, by omega, Wk.narrow _ [7, 10, 11, 12] [7] [91], i + 2, true, A, v, rfl, by omega, by omega, by omega, by omega, (by rw [hP]; symm; (repeat (first | (apply ite_yes; (focus first | assumption | omega)) | (apply ite_no; (focus first | assumption | exact b_nt (by assumption) | exact b_nf (by assumption) | omega)) | (apply ite_yes; (focus (first | (simp [*]; done) | (simp [*, bs]; done)))) | (apply ite_no; (focus (first | (simp [*]; done) | (simp [*, bs]; done)))))); rfl)⟩
    | exact ⟨k, _, by omega, Wk.trans (Wk.renOwn 10 91 (k := 68) rfl rfl rfl) (Wk.narrow _ [7, 10, 11, 12] [7] [91]), (charP x i).2, q, A ++ [litT i (charP x i).2 (charP x i).1], v, Eq.trans rfl (congrArg (fun X => (⟨95, [(7, .ptr 7 0), (10, .own 91), (11, .pv (iv (charP x i).2)), (12, .pv (bv q))], [(7, (82, x.cells))], [(91, ⟨12, 88, v, X⟩)], []⟩ : St)) (tcs_snoc A (litT i (charP x i).2 (charP x i).1))), by omega, by omega, by omega, by rw [List.length_append]; simp only [List.length_cons, List.length_nil]; omega, (by rw [hP]; symm; (repeat (first | (apply ite_yes; (focus first | assumption | omega)) | (apply ite_no; (focus first | assumption | exact b_nt (by assumption) | exact b_nf (by assumption) | omega)) | (apply ite_yes; (focus (first | (simp [*]; done) | (simp [*, bs]; done)))) | (apply ite_no; (focus (first | (simp [*]; done) | (simp [*, bs]; done)))))); rfl)⟩
    | exact ⟨k, _, by omega, Wk.narrow _ [7, 10, 11, 12] [7] [91], (tokenP x i).to, q, A ++ [(tokenP x i).t], v, Eq.trans rfl (congrArg (fun X => (⟨95, [(7, .ptr 7 0), (10, .own 91), (11, .pv (iv (tokenP x i).to)), (12, .pv (bv q))], [(7, (82, x.cells))], [(91, ⟨12, 88, v, X⟩)], []⟩ : St)) (tcs_snoc A (tokenP x i).t)), by omega, by omega, by omega, by rw [List.length_append]; simp only [List.length_cons, List.length_nil]; omega, (by rw [hP]; symm; (repeat (first | (apply ite_yes; (focus first | assumption | omega)) | (apply ite_no; (focus first | assumption | exact b_nt (by assumption) | exact b_nf (by assumption) | omega)) | (apply ite_yes; (focus (first | (simp [*]; done) | (simp [*, bs]; done)))) | (apply ite_no; (focus (first | (simp [*]; done) | (simp [*, bs]; done)))))); rfl)⟩
    | exact ⟨k, _, by omega, Wk.narrow _ [7, 10, 11, 12] [7] [91], (tokenP x i).to, q, A, v, rfl, by omega, by omega, by omega, by omega, (by rw [hP]; symm; (repeat (first | (apply ite_yes; (focus first | assumption | omega)) | (apply ite_no; (focus first | assumption | exact b_nt (by assumption) | exact b_nf (by assumption) | omega)) | (apply ite_yes; (focus (first | (simp [*]; done) | (simp [*, bs]; done)))) | (apply ite_no; (focus (first | (simp [*]; done) | (simp [*, bs]; done)))))); rfl)⟩
    | (rw [hP]
       clear hP
       (apply fn_by (f := lexE); (focus ((repeat (first | (apply ite_yes; (focus first | assumption | omega)) | (apply ite_no; (focus first | assumption | exact b_nt (by assumption) | exact b_nf (by assumption) | omega)) | (apply ite_yes; (focus (first | (simp [*]; done) | (simp [*, bs]; done)))) | (apply ite_no; (focus (first | (simp [*]; done) | (simp [*, bs]; done)))))); exact rfl)); rfl))
end Go.Proofs.Ytnoohgiecnmajaa.VC

/- The lexer of the document: what is known of its answer. -/
namespace Go.Proofs.Ytnoohgiecnmajaa.VC
open Go Go.RowKit
set_option linter.unusedVariables false
set_option linter.unusedSimpArgs false
set_option maxHeartbeats 4000000

/-- Tokens of a pattern of so many bytes. -/
structure TokIn (m : Int) (n : Int) (t : Tok) : Prop where
  may : TokMay m t
  at0 : 0 ≤ t.at_
  at1 : t.at_ < n
theorem lexGo_ok {x : Text} (hm : x.most ≤ 1114111) (hx : x.s.size ≤ 1000) : ∀ (k : Nat) (i : Int) (q : Bool) (A : List Tok), 0 ≤ i → i ≤ x.s.size → (A.length : Int) ≤ i → (∀ t ∈ A, TokIn x.most x.s.size t) →
    ((lexGo x k i q A).toks.length : Int) ≤ x.s.size ∧ ((lexGo x k i q A).e = 0 → ∀ t ∈ (lexGo x k i q A).toks, TokIn x.most x.s.size t) ∧ ((lexGo x k i q A).e ≠ 0 → (lexGo x k i q A).toks = [])
  | 0, i, q, A, h0, h1, hA, hT => ⟨by unfold lexGo; simp only; omega, fun _ => hT, fun h => absurd rfl h⟩
  | k + 1, i, q, A, h0, h1, hA, hT => by
    unfold lexGo
    split
    · rename_i hi
      have hg := charP_gt x i h0 hi
      have hr := charP_rng x i (by omega)
      have hv := charP_val x i
      have hv0 := hv.2.2 h0 hi
      have ht := gotOk_token hm hx h0 hi
      split
      · split
        · rename_i hb
          have := isP_le hb
          have hz : (bs [92, 69]).size = 2 := rfl
          exact lexGo_ok hm hx k _ _ _ (by omega) (by omega) (by omega) hT
        · refine lexGo_ok hm hx k _ _ _ (by omega) (by omega) (by rw [List.length_append]; simp only [List.length_cons, List.length_nil]; omega) ?_
          intro t h
          rcases List.mem_append.1 h with h | h
          · exact hT t h
          · simp only [List.mem_singleton] at h
            subst h
            refine ⟨?_, h0, hi⟩
            constructor <;> simp [litT] <;> omega
      split
      · rename_i hb
        have := isP_le hb
        have hz : (bs [92, 81]).size = 2 := rfl
        exact lexGo_ok hm hx k _ _ _ (by omega) (by omega) (by omega) hT
      split
      · exact ⟨by simp, fun h => absurd h (by assumption), fun _ => rfl⟩
      rename_i he
      have ht := ht (by simpa using he)
      split
      · rename_i hs
        have hs := ht.2.2 hs
        refine lexGo_ok hm hx k _ _ _ (by omega) (by omega) (by rw [List.length_append]; simp only [List.length_cons, List.length_nil]; omega) ?_
        intro t h
        rcases List.mem_append.1 h with h | h
        · exact hT t h
        · simp only [List.mem_singleton] at h
          subst h
          exact ⟨hs.1, by rw [hs.2.1]; exact h0, by rw [hs.2.1]; exact hi⟩
      · exact lexGo_ok hm hx k _ _ _ (by omega) (by omega) (by omega) hT
    · exact ⟨by simp only; omega, fun _ => hT, fun h => absurd rfl h⟩
def mostOf (o : Int) : Int := if bAnd o 32 ≠ 0 then 1114111 else 255
theorem lexP_ok (l : List Int) (o : Int) : ((lexP l o).toks.length : Int) ≤ 1000 ∧ ((lexP l o).e = 0 → (lexP l o).toks.length ≤ l.length ∧ l.length ≤ 1000 ∧ ∀ t ∈ (lexP l o).toks, TokIn (mostOf o) l.length t) ∧ ((lexP l o).e ≠ 0 → (lexP l o).toks = []) := by
  have hsz : (textOf l o).s.size = l.length := strOf_size l
  have hmost : (textOf l o).most ≤ 1114111 := by unfold textOf; simp only; split <;> omega
  have hbad : ∀ e a, e ≠ 0 → ((⟨[], e, a⟩ : LexR).toks.length : Int) ≤ 1000 ∧ ((⟨[], e, a⟩ : LexR).e = 0 → (⟨[], e, a⟩ : LexR).toks.length ≤ l.length ∧ l.length ≤ 1000 ∧ ∀ t ∈ (⟨[], e, a⟩ : LexR).toks, TokIn (mostOf o) l.length t) ∧ ((⟨[], e, a⟩ : LexR).e ≠ 0 → (⟨[], e, a⟩ : LexR).toks = []) :=
    fun e a he => ⟨by simp, fun h => absurd h he, fun _ => rfl⟩
  have hgo : ¬ (l.length : Int) > 1000 → ((lexGo (textOf l o) ((textOf l o).s.size + 1) 0 false []).toks.length : Int) ≤ 1000 ∧ ((lexGo (textOf l o) ((textOf l o).s.size + 1) 0 false []).e = 0 → (lexGo (textOf l o) ((textOf l o).s.size + 1) 0 false []).toks.length ≤ l.length ∧ l.length ≤ 1000 ∧ ∀ t ∈ (lexGo (textOf l o) ((textOf l o).s.size + 1) 0 false []).toks, TokIn (mostOf o) l.length t) ∧ ((lexGo (textOf l o) ((textOf l o).s.size + 1) 0 false []).e ≠ 0 → (lexGo (textOf l o) ((textOf l o).s.size + 1) 0 false []).toks = []) := by
    intro h
    have := lexGo_ok hmost (by omega) ((textOf l o).s.size + 1) 0 false [] (by omega) (by omega) (by simp) (by simp)
    refine ⟨by omega, fun he => ⟨by omega, by omega, ?_⟩, this.2.2⟩
    have h2 := this.2.1 he
    have e : (textOf l o).most = mostOf o := rfl
    intro t ht
    have h3 := h2 t ht
    rw [e, hsz] at h3
    exact h3
  unfold lexP
  split
  · exact hbad _ _ (by decide)
  split
  · exact hbad _ _ (by decide)
  split
  · exact hbad _ _ (by decide)
  split
  · split
    · exact hbad _ _ (by decide)
    · exact hgo (by assumption)
  · exact hgo (by assumption)
end Go.Proofs.Ytnoohgiecnmajaa.VC

/- The parser of the document: trees; what a token is; errors. -/
namespace Go.Proofs.Ytnoohgiecnmajaa.VC
open Go Go.RowKit
set_option linter.unusedVariables false
set_option linter.unusedSimpArgs false
set_option maxHeartbeats 4000000

/-- A node but for those below it. -/
structure NodeF where
  kind : Int
  at_ : Int
  c : Int
  set : List (Int × Int)
  neg : Bool
  n : Int
  m : Int
  mode : Int
  name : ByteArray
  on : Int
  off : Int
inductive Node where
  | mk (f : NodeF) (kids : List Node)
def Node.f : Node → NodeF | .mk f _ => f
def Node.kids : Node → List Node | .mk _ k => k
mutual
def Node.cells : Node → List SV
  | .mk f kids => [iv f.kind, iv f.at_, iv f.c, rs f.set, bv f.neg, iv f.n, iv f.m, iv f.mode, sv f.name, iv f.on, iv f.off, .sl 12 (rowsN kids)]
def rowsN : List Node → List (List SV)
  | [] => []
  | n :: l => n.cells :: rowsN l
end
def Node.enc (n : Node) : SV := .agg n.cells
@[reducible] def nodesE (l : List Node) : SV := .sl 12 (rowsN l)
theorem rowsN_map (l : List Node) : rowsN l = l.map Node.cells := by
  induction l with
  | nil => rfl
  | cons n l ih => rw [rowsN, ih]; rfl
theorem rowsN_len (l : List Node) : (rowsN l).length = l.length := by rw [rowsN_map]; simp
theorem rowsN_snoc (l : List Node) (n : Node) : rowsN l ++ [n.cells] = rowsN (l ++ [n]) := by rw [rowsN_map, rowsN_map]; simp
theorem rowsN_app (l m : List Node) : rowsN l ++ rowsN m = rowsN (l ++ m) := by rw [rowsN_map, rowsN_map, rowsN_map]; simp
def fZ : NodeF := ⟨0, 0, 0, [], false, 0, 0, 0, bs [], 0, 0⟩
def nodeZ : Node := .mk fZ []
def rdn (l : List Node) (j : Int) : Node := l.getD j.toNat nodeZ
theorem rowsN_get {l : List Node} {j : Int} (h : j.toNat < l.length) : (rowsN l).getD j.toNat [] = (rdn l j).cells := by
  rw [rowsN_map]
  simp [rdn, List.getD_eq_getElem?_getD, List.getElem?_eq_getElem h]
/-- Where a parser is. -/
structure Par where
  i : Int
  op : Int
  e : Int
  at_ : Int
def rdt (l : List Tok) (j : Int) : Tok := l.getD j.toNat tokZ
def tk (l : List Tok) : List (List SV) := l.map Tok.cells
theorem tk_get {l : List Tok} {j : Int} (h : j.toNat < l.length) : (tk l).getD j.toNat [] = (rdt l j).cells := by
  simp [tk, rdt, List.getD_eq_getElem?_getD, List.getElem?_eq_getElem h]
theorem tk_len (l : List Tok) : (tk l).length = l.length := by simp [tk]
theorem toksE_tk (l : List Tok) : toksE l = .sl 12 (tk l) := rfl
def parCells (L : List Tok) (p : Par) : List FE := [.pv (.sl 12 (tk L)), .pv (iv p.i), .pv (iv p.op), .pv (iv p.e), .pv (iv p.at_)]
def HP (L : List Tok) (p : Par) : St := ⟨0, [], [(1000000, (105, parCells L p))], [], []⟩
def kindP (L : List Tok) (p : Par) : Int := if p.i ≥ L.length then 0 else if p.e ≠ 0 then 0 else (rdt L p.i).kind
def failP (p : Par) (e a : Int) : Par := if p.e = 0 then { p with e := e, at_ := a } else p
attribute [local irreducible] tk
theorem kind_h (L : List Tok) (p : Par) (hL : L.length ≤ 1000000) (h0 : 0 ≤ p.i) (h1 : p.i ≤ L.length) : HCalls Try.prog 83 (HP L p) [.ptr 1000000 0] (fun fe H' => fe = .pv (iv (kindP L p)) ∧ H' = HP L p) := by
  have hl := tk_len L
  refine HCalls.ofr tabOk Try.func83 (by decide) rfl rfl ?_
  refine RWP.of tabOk orders ?_
  repeat' ((conv => whnf); (first
    | (with_reducible first | refine Spl.yes ?_ | refine Spl.no ?_ | refine Spl.dec (fun h => ?_) (fun h => ?_) | refine Spl.eq (fun h => ?_) (fun h => ?_) | refine Spl.ne (fun h => ?_) (fun h => ?_) | refine Spl.seq (fun h => ?_) (fun h => ?_) | refine Spl.not ?_ | refine Spl.any (fun h => ?_) (fun h => ?_))
    | refine drawn_text (by decide +kernel) ?_
    | (rw [tk_get (by omega)])
    | ((with_reducible apply And.intro); first | omega | rfl | (dsimp only; omega))))
  all_goals (conv => whnf)
  all_goals (refine ⟨_, Wk.narrow _ [2] [1000000] [], .inl ?_⟩)
  all_goals (conv => whnf)
  all_goals (refine ⟨?_, rfl⟩)
  all_goals (unfold kindP)
  · rw [if_pos (by omega)]
    rfl
  · rw [if_neg (by omega), if_pos (by assumption)]
    rfl
  · rw [if_neg (by omega), if_neg (by omega)]
    rfl
theorem fail_h (L : List Tok) (p : Par) (e a : Int) : HCalls Try.prog 62 (HP L p) [.ptr 1000000 0, .pv (iv e), .pv (iv a)] (fun fe H' => fe = .pv (.tuple []) ∧ H' = HP L (failP p e a)) := by
  refine HCalls.ofr tabOk Try.func62 (by decide) rfl rfl ?_
  refine RWP.of tabOk orders ?_
  repeat' ((conv => whnf); (first
    | (with_reducible first | refine Spl.yes ?_ | refine Spl.no ?_ | refine Spl.dec (fun h => ?_) (fun h => ?_) | refine Spl.eq (fun h => ?_) (fun h => ?_) | refine Spl.ne (fun h => ?_) (fun h => ?_) | refine Spl.seq (fun h => ?_) (fun h => ?_) | refine Spl.not ?_ | refine Spl.any (fun h => ?_) (fun h => ?_))
    | ((with_reducible apply And.intro); first | omega | rfl | (dsimp only; omega))))
  all_goals (conv => whnf)
  all_goals (refine ⟨_, Wk.narrow _ [] [1000000] [], .inl ?_⟩)
  all_goals (conv => whnf)
  all_goals (refine ⟨rfl, ?_⟩)
  all_goals (unfold failP)
  · rw [if_pos (by assumption)]
    rfl
  · rw [if_neg (by assumption)]
    rfl
def oneN (kind : Int) (l : List Node) : Node := if l.length = 1 then rdn l 0 else .mk { fZ with kind := kind } l
theorem Node.ex (n : Node) : ∃ f ks, n = .mk f ks := by cases n; exact ⟨_, _, rfl⟩
theorem encN_by {g g' : Node} {L : SV} (h : g = g') (h2 : L = g.enc) : L = g'.enc := by rw [← h]; exact h2
theorem one_c (kind : Int) (l : List Node) (hl : l.length ≤ 1000000) : VCalls Try.prog 63 [iv kind, nodesE l] (fun r => r = (oneN kind l).enc) := by
  have hn := rowsN_len l
  obtain ⟨f, ks, hm⟩ := (rdn l 0).ex
  refine VCalls.ofx tabOk orders Try.func63 (by decide) rfl rfl ?_
  repeat' ((conv => whnf); (first
    | (with_reducible first | refine Spl.yes ?_ | refine Spl.no ?_ | refine Spl.dec (fun h => ?_) (fun h => ?_) | refine Spl.eq (fun h => ?_) (fun h => ?_) | refine Spl.ne (fun h => ?_) (fun h => ?_) | refine Spl.seq (fun h => ?_) (fun h => ?_) | refine Spl.not ?_ | refine Spl.any (fun h => ?_) (fun h => ?_))
    | (rw [rowsN_get (by simp; omega), hm])
    | refine And.intro (Nat.le_of_ble_eq_true rfl) ?_
    | ((with_reducible apply And.intro); first | omega | rfl | (dsimp only; omega))))
  all_goals (conv => whnf)
  · have e : oneN kind l = .mk f ks := by unfold oneN; rw [if_pos (by omega), hm]
    rw [e]
    rfl
  · have e : oneN kind l = .mk { fZ with kind := kind } l := by unfold oneN; rw [if_neg (by omega)]
    rw [e]
    rfl
def repeatableP (f : NodeF) : Bool := if f.kind = 4 then false else if f.kind = 5 then false else if f.kind = 9 then false else if f.kind = 10 then false else f.kind != 11
theorem repeatable_c (n : Node) : VCalls Try.prog 114 [n.enc] (fun r => r = bv (repeatableP n.f)) := by
  obtain ⟨f, ks⟩ := n
  refine VCalls.ofx tabOk orders Try.func114 (by decide) rfl rfl ?_
  repeat' ((conv => whnf); (first
    | (with_reducible first | refine Spl.yes ?_ | refine Spl.no ?_ | refine Spl.dec (fun h => ?_) (fun h => ?_) | refine Spl.eq (fun h => ?_) (fun h => ?_) | refine Spl.ne (fun h => ?_) (fun h => ?_) | refine Spl.seq (fun h => ?_) (fun h => ?_) | refine Spl.not ?_ | refine Spl.any (fun h => ?_) (fun h => ?_))
    | ((with_reducible apply And.intro); first | omega | rfl | (dsimp only; omega))))
  all_goals (conv => whnf)
  all_goals (unfold repeatableP Node.f)
  all_goals (simp only)
  all_goals (apply fn_by (f := bv); (focus ((repeat (first | (apply ite_yes; (focus first | assumption | omega)) | (apply ite_no; (focus first | assumption | exact b_nt (by assumption) | exact b_nf (by assumption) | omega)) | (apply ite_yes; (focus (first | (simp [*]; done) | (simp [*, bs]; done)))) | (apply ite_no; (focus (first | (simp [*]; done) | (simp [*, bs]; done)))))); exact rfl)); rfl)
end Go.Proofs.Ytnoohgiecnmajaa.VC

/- The parser of the document: what it makes of tokens. -/
namespace Go.Proofs.Ytnoohgiecnmajaa.VC
open Go Go.RowKit
set_option linter.unusedVariables false
set_option linter.unusedSimpArgs false
set_option maxHeartbeats 4000000

def leafK (k : Int) : Int :=
  if k = 1 then 1 else if k = 2 then 2 else if k = 3 then 3 else if k = 4 then 4 else if k = 5 then 5 else if k = 6 then 6
  else if k = 11 then 7 else if k = 12 then 8 else if k = 13 then 9 else if k = 14 then 10 else 11
def leafN (t : Tok) : Node := .mk ⟨leafK t.kind, t.at_, t.c, t.set, t.neg, t.n, t.m, 0, t.name, t.on, t.off⟩ []
def condBad (t : Tok) (l : List Node) : Bool := if (l.length : Int) > 2 then true else if (l.length : Int) > 1 then t.n == 12 else false
def groupN (t : Tok) (look l : List Node) : Node :=
  if t.n = 1 then .mk { fZ with kind := 14, at_ := t.at_, name := t.name } [oneN 13 l]
  else if t.n = 2 then .mk { fZ with kind := 15, at_ := t.at_, on := t.on, off := t.off } [oneN 13 l]
  else if t.n = 4 then .mk { fZ with kind := 17, at_ := t.at_ } [oneN 13 l]
  else if t.n = 5 ∨ t.n = 6 ∨ t.n = 7 ∨ t.n = 8 then .mk { fZ with kind := 18, at_ := t.at_, n := t.n } [oneN 13 l]
  else if t.n = 3 then .mk { fZ with kind := 16, at_ := t.at_ } l
  else .mk { fZ with kind := 19, at_ := t.at_, n := t.n, m := t.m, mode := t.mode, name := t.name } (look ++ l)
def groupP (t : Tok) (l : List Node) (p : Par) : Par :=
  if 1 ≤ t.n ∧ t.n ≤ 8 then p else if condBad t l = true then failP p 32 t.at_ else p
def repN (t : Tok) (n : Node) : Node := .mk { fZ with kind := 20, at_ := t.at_, n := t.n, m := t.m, mode := t.mode } [n]
/-- A thing with the quantifier behind it. -/
def quantN (L : List Tok) (r : Node × Par) : Node × Par :=
  if kindP L r.2 = 9 then (if repeatableP r.1.f = true then (repN (rdt L r.2.i) r.1, { r.2 with i := r.2.i + 1 }) else r) else r
mutual
def thingF (L : List Tok) : Nat → Par → Node × Par
  | 0, p => (nodeZ, { p with e := 20 })
  | k + 1, p =>
    if (rdt L p.i).kind ≠ 10 then (leafN (rdt L p.i), { p with i := p.i + 1 })
    else if p.op = 40 then (nodeZ, failP p 11 (rdt L p.i).at_)
    else if (rdt L p.i).n = 13 ∧ kindP L { p with op := p.op + 1, i := p.i + 1 } = 10 then
      groupF L k (rdt L p.i) [(thingF L k { p with op := p.op + 1, i := p.i + 1 }).1] (thingF L k { p with op := p.op + 1, i := p.i + 1 }).2
    else groupF L k (rdt L p.i) [] { p with op := p.op + 1, i := p.i + 1 }
def groupF (L : List Tok) : Nat → Tok → List Node → Par → Node × Par
  | 0, t, look, p => (nodeZ, { p with e := 20 })
  | k + 1, t, look, p =>
    if kindP L (altF L k p).2 ≠ 8 then (nodeZ, failP (altF L k p).2 20 (-1))
    else (groupN t look (altF L k p).1, groupP t (altF L k p).1 { (altF L k p).2 with i := (altF L k p).2.i + 1, op := (altF L k p).2.op - 1 })
def altF (L : List Tok) : Nat → Par → List Node × Par
  | 0, p => ([], { p with e := 20 })
  | k + 1, p => altGo L k (seqGo L k p []).2 [(seqGo L k p []).1]
def altGo (L : List Tok) : Nat → Par → List Node → List Node × Par
  | 0, p, out => (out, { p with e := 20 })
  | k + 1, p, out => if kindP L p = 7 then altGo L k (seqGo L k { p with i := p.i + 1 } []).2 (out ++ [(seqGo L k { p with i := p.i + 1 } []).1]) else (out, p)
def seqGo (L : List Tok) : Nat → Par → List Node → Node × Par
  | 0, p, l => (nodeZ, { p with e := 20 })
  | k + 1, p, l =>
    if kindP L p = 0 ∨ kindP L p = 7 ∨ kindP L p = 8 then (oneN 12 l, p)
    else if kindP L p = 9 then (nodeZ, failP p 30 (rdt L p.i).at_)
    else seqGo L k (quantN L (thingF L k p)).2 (l ++ [(quantN L (thingF L k p)).1])
end
/-- How far there is to go. -/
def parMu (L : List Tok) (p : Par) : Nat := if p.e ≠ 0 then 0 else ((L.length : Int) - p.i).toNat
structure ParOk (L : List Tok) (p : Par) : Prop where
  i0 : 0 ≤ p.i
  i1 : p.i ≤ L.length
  o0 : 0 ≤ p.op
  o1 : p.op ≤ 40
/-- From one place to another one. -/
structure ParTo (L : List Tok) (p q : Par) : Prop where
  ok : ParOk L q
  le : p.i ≤ q.i
  og : p.op ≤ q.op
  same : q.e = 0 → q.op = p.op ∧ p.e = 0
theorem ParTo.refl {L : List Tok} {p : Par} (h : ParOk L p) : ParTo L p p := ⟨h, by omega, by omega, fun h => ⟨rfl, h⟩⟩
theorem ParTo.trans {L : List Tok} {p q r : Par} (h : ParTo L p q) (k : ParTo L q r) : ParTo L p r := ⟨k.ok, by have := h.le; have := k.le; omega, by have := h.og; have := k.og; omega, fun e => by have := k.same e; have := h.same this.2; exact ⟨by omega, this.2⟩⟩
theorem ParTo.fail {L : List Tok} {p q : Par} (h : ParTo L p q) (e a : Int) (he : e ≠ 0) : ParTo L p (failP q e a) := by
  unfold failP
  split
  · exact ⟨⟨h.ok.i0, h.ok.i1, h.ok.o0, h.ok.o1⟩, h.le, h.og, fun q => absurd q he⟩
  · exact h
theorem kindP_pos {L : List Tok} {p : Par} (h : kindP L p ≠ 0) : p.i < L.length ∧ p.e = 0 ∧ kindP L p = (rdt L p.i).kind := by
  unfold kindP at h ⊢
  by_cases h1 : p.i ≥ L.length
  · rw [if_pos h1] at h; exact absurd rfl h
  by_cases h2 : p.e ≠ 0
  · rw [if_neg h1, if_pos h2] at h; exact absurd rfl h
  · rw [if_neg h1, if_neg h2]; exact ⟨by omega, by simpa using h2, rfl⟩
theorem quant_to {L : List Tok} {p : Par} {r : Node × Par} (h : ParTo L p r.2) : ParTo L p (quantN L r).2 := by
  unfold quantN
  split
  · rename_i hk
    have hp := kindP_pos (L := L) (p := r.2) (by omega)
    split
    · exact ⟨⟨by have := h.ok.i0; simp only; omega, by simp only; omega, h.ok.o0, h.ok.o1⟩, by have := h.le; simp only; omega, h.og, h.same⟩
    · exact h
  · exact h
theorem par_ok (L : List Tok) : ∀ k : Nat,
    (∀ p, ParOk L p → p.i < L.length → p.e = 0 → ParTo L p (thingF L k p).2 ∧ ((thingF L k p).2.e = 0 → p.i < (thingF L k p).2.i)) ∧
    (∀ t look p, ParOk L p → 1 ≤ p.op → ParOk L (groupF L k t look p).2 ∧ p.i ≤ (groupF L k t look p).2.i ∧ p.op - 1 ≤ (groupF L k t look p).2.op ∧ ((groupF L k t look p).2.e = 0 → (groupF L k t look p).2.op = p.op - 1 ∧ p.e = 0)) ∧
    (∀ p, ParOk L p → ParTo L p (altF L k p).2) ∧
    (∀ p out, ParOk L p → ParTo L p (altGo L k p out).2) ∧
    (∀ p l, ParOk L p → ParTo L p (seqGo L k p l).2) := by
  intro k
  induction k with
  | zero =>
    have hz : ∀ p, ParOk L p → ParTo L p { p with e := 20 } := fun p h => ⟨⟨h.i0, h.i1, h.o0, h.o1⟩, by simp, by simp, fun e => by simp at e⟩
    refine ⟨fun p h _ _ => ⟨by rw [thingF]; exact hz p h, by rw [thingF]; intro e; simp at e⟩, fun t look p h _ => ?_, fun p h => by rw [altF]; exact hz p h, fun p out h => by rw [altGo]; exact hz p h, fun p l h => by rw [seqGo]; exact hz p h⟩
    rw [groupF]
    exact ⟨⟨h.i0, h.i1, h.o0, h.o1⟩, by simp, by simp only; omega, fun e => by simp at e⟩
  | succ k ih =>
    obtain ⟨iT, iG, iA, iAG, iS⟩ := ih
    refine ⟨?_, ?_, ?_, ?_, ?_⟩
    · intro p h hi he
      rw [thingF]
      split
      · exact ⟨⟨⟨by have := h.i0; simp only; omega, by simp only; omega, h.o0, h.o1⟩, by simp only; omega, by simp, fun _ => ⟨rfl, he⟩⟩, fun _ => by simp only; omega⟩
      split
      · refine ⟨(ParTo.refl h).fail _ _ (by decide), ?_⟩
        unfold failP
        rw [if_pos he]
        intro e
        simp at e
      rename_i hop
      have hp1 : ParOk L { p with op := p.op + 1, i := p.i + 1 } := ⟨by have := h.i0; simp only; omega, by simp only; omega, by have := h.o0; simp only; omega, by have := h.o1; simp only; omega⟩
      split
      · rename_i hl
        have hk := kindP_pos (L := L) (p := { p with op := p.op + 1, i := p.i + 1 }) (by rw [hl.2]; decide)
        have h1 := iT _ hp1 hk.1 hk.2.1
        generalize (thingF L k { p with op := p.op + 1, i := p.i + 1 }).2 = q at h1 ⊢
        generalize (thingF L k { p with op := p.op + 1, i := p.i + 1 }).1 = n
        have ho : q.e = 0 → q.op = p.op + 1 := fun e => (h1.1.same e).1
        have hg := h1.1.og
        have hle := h1.1.le
        have h0 := h.o0
        simp only at hg hle
        have h2 := iG (rdt L p.i) [n] q h1.1.ok (by omega)
        exact ⟨⟨h2.1, by omega, by omega, fun e => ⟨by have := (h2.2.2.2 e); have := ho this.2; omega, he⟩⟩, fun e => by omega⟩
      · have h2 := iG (rdt L p.i) [] _ hp1 (by have := h.o0; simp only; omega)
        simp only at h2
        exact ⟨⟨h2.1, by omega, by omega, fun e => ⟨by have := (h2.2.2.2 e).1; omega, he⟩⟩, fun e => by omega⟩
    · intro t look p h ho
      rw [groupF]
      have h1 := iA p h
      generalize altF L k p = r at h1 ⊢
      have hg := h1.og
      have hle := h1.le
      split
      · have h2 := h1.fail 20 (-1) (by decide)
        refine ⟨h2.ok, h2.le, by have := h2.og; show p.op - 1 ≤ (failP r.2 20 (-1)).op; omega, fun e => ?_⟩
        exfalso
        unfold failP at e
        split at e
        · simp at e
        · rename_i hne; exact hne e
      · rename_i hk
        have hk := kindP_pos (L := L) (p := r.2) (by omega)
        have hok : ParOk L { r.2 with i := r.2.i + 1, op := r.2.op - 1 } := ⟨by have := h1.ok.i0; simp only; omega, by simp only; omega, by simp only; omega, by have := h1.ok.o1; simp only; omega⟩
        simp only
        unfold groupP
        split
        · exact ⟨hok, by simp only; omega, by simp only; omega, fun e => ⟨by have := (h1.same hk.2.1).1; simp only; omega, (h1.same hk.2.1).2⟩⟩
        split
        · have h2 := (ParTo.refl hok).fail 32 t.at_ (by decide)
          refine ⟨h2.ok, by have := h2.le; simp only at this; omega, by have := h2.og; simp only at this; omega, fun e => ?_⟩
          exfalso
          unfold failP at e
          rw [if_pos (by exact hk.2.1)] at e
          simp at e
        · exact ⟨hok, by simp only; omega, by simp only; omega, fun e => ⟨by have := (h1.same hk.2.1).1; simp only; omega, (h1.same hk.2.1).2⟩⟩
    · intro p h
      rw [altF]
      exact (iS p [] h).trans (iAG _ _ (iS p [] h).ok)
    · intro p out h
      rw [altGo]
      split
      · rename_i hk
        have hk := kindP_pos (L := L) (p := p) (by omega)
        have hp1 : ParTo L p { p with i := p.i + 1 } := ⟨⟨by have := h.i0; simp only; omega, by simp only; omega, h.o0, h.o1⟩, by simp only; omega, by simp, fun e => ⟨rfl, e⟩⟩
        have h1 := iS _ [] hp1.ok
        exact (hp1.trans h1).trans (iAG _ _ h1.ok)
      · exact ParTo.refl h
    · intro p l h
      rw [seqGo]
      split
      · exact ParTo.refl h
      split
      · exact (ParTo.refl h).fail _ _ (by decide)
      · rename_i hk _
        have hk := kindP_pos (L := L) (p := p) (fun e => hk (.inl e))
        have h1 := quant_to (iT p h hk.1 hk.2.1).1
        exact h1.trans (iS _ _ h1.ok)
theorem thing_ok {L : List Tok} {p : Par} (k : Nat) (h : ParOk L p) (hi : p.i < L.length) (he : p.e = 0) : ParTo L p (thingF L k p).2 ∧ ((thingF L k p).2.e = 0 → p.i < (thingF L k p).2.i) := (par_ok L k).1 p h hi he
theorem alt_ok {L : List Tok} {p : Par} (k : Nat) (h : ParOk L p) : ParTo L p (altF L k p).2 := (par_ok L k).2.2.1 p h
theorem seq_ok {L : List Tok} {p : Par} (k : Nat) (l : List Node) (h : ParOk L p) : ParTo L p (seqGo L k p l).2 := (par_ok L k).2.2.2.2 p l h
/-- How far there is to go is less. -/
theorem parMu_le {L : List Tok} {p q : Par} (h : ParTo L p q) : parMu L q ≤ parMu L p := by
  unfold parMu
  have hl := h.le
  have hs := h.same
  by_cases hq : q.e = 0
  · rw [if_neg (by simp [hq]), if_neg (by simp [(hs hq).2])]; omega
  · rw [if_pos hq]; omega
theorem parMu_lt {L : List Tok} {p q : Par} (hi : p.i < L.length) (he : p.e = 0) (h : q.e = 0 → p.i < q.i) : parMu L q < parMu L p := by
  unfold parMu
  rw [if_neg (show ¬ p.e ≠ 0 by simp [he])]
  by_cases hq : q.e = 0
  · rw [if_neg (by simp [hq])]; have := h hq; omega
  · rw [if_pos hq]; omega
theorem quant_i {L : List Tok} {r : Node × Par} : r.2.i ≤ (quantN L r).2.i ∧ (quantN L r).2.e = r.2.e := by
  unfold quantN
  split
  · split
    · exact ⟨by simp only; omega, rfl⟩
    · exact ⟨by omega, rfl⟩
  · exact ⟨by omega, rfl⟩
end Go.Proofs.Ytnoohgiecnmajaa.VC

/- The parser of the document: a thing. -/
namespace Go.Proofs.Ytnoohgiecnmajaa.VC
open Go Go.RowKit
set_option linter.unusedVariables false
set_option linter.unusedSimpArgs false
set_option maxHeartbeats 4000000

def ThingH (L : List Tok) (k : Nat) : Prop := ∀ p, ParOk L p → p.i < L.length → p.e = 0 → 4 * parMu L p ≤ k → HCalls Try.prog 113 (HP L p) [.ptr 1000000 0] (fun fe H' => fe = .pv (thingF L k p).1.enc ∧ H' = HP L (thingF L k p).2)
def SeqH (L : List Tok) (k : Nat) : Prop := ∀ p, ParOk L p → 4 * parMu L p + 1 ≤ k → HCalls Try.prog 82 (HP L p) [.ptr 1000000 0] (fun fe H' => fe = .pv (seqGo L k p []).1.enc ∧ H' = HP L (seqGo L k p []).2)
def AltH (L : List Tok) (k : Nat) : Prop := ∀ p, ParOk L p → 4 * parMu L p + 2 ≤ k → HCalls Try.prog 61 (HP L p) [.ptr 1000000 0] (fun fe H' => fe = .pv (nodesE (altF L k p).1) ∧ H' = HP L (altF L k p).2)
theorem altGo_len (L : List Tok) : ∀ (k : Nat) (p : Par) (out : List Node), ParOk L p → ((altGo L k p out).1.length : Int) ≤ out.length + (L.length - p.i)
  | 0, p, out, h => by rw [altGo]; have := h.i1; simp only; omega
  | k + 1, p, out, h => by
    rw [altGo]
    have h1 := h.i1
    split
    · rename_i hk
      have hk := kindP_pos (L := L) (p := p) (by omega)
      have hp1 : ParOk L { p with i := p.i + 1 } := ⟨by have := h.i0; simp only; omega, by simp only; omega, h.o0, h.o1⟩
      have h2 := seq_ok k [] hp1
      have h3 := altGo_len L k _ (out ++ [(seqGo L k { p with i := p.i + 1 } []).1]) h2.ok
      have h4 := h2.le
      simp only at h4
      rw [List.length_append] at h3
      simp only [List.length_cons, List.length_nil] at h3
      omega
    · simp only; omega
theorem altF_len (L : List Tok) (k : Nat) (p : Par) (h : ParOk L p) : ((altF L k p).1.length : Int) ≤ L.length + 1 := by
  have h1 := h.i1
  have h0 := h.i0
  cases k with
  | zero => rw [altF]; simp; omega
  | succ k =>
    rw [altF]
    have h2 := seq_ok k [] h
    have h3 := altGo_len L k _ [(seqGo L k p []).1] h2.ok
    have h4 := h2.ok.i0
    simp only [List.length_cons, List.length_nil] at h3
    omega
theorem condBad_cases (t : Tok) (l : List Node) : (condBad t l = true ∧ ((l.length : Int) > 2 ∨ (l.length : Int) > 1 ∧ t.n = 12)) ∨ (condBad t l = false ∧ ¬ (l.length : Int) > 2 ∧ ¬ ((l.length : Int) > 1 ∧ t.n = 12)) := by
  unfold condBad
  split
  · exact .inl ⟨rfl, .inl (by assumption)⟩
  split
  · by_cases h : t.n = 12
    · exact .inl ⟨by simp [h], .inr ⟨by assumption, h⟩⟩
    · exact .inr ⟨by simp [h], by assumption, fun q => h q.2⟩
  · exact .inr ⟨rfl, by assumption, fun q => by omega⟩
theorem fnS_by {α : Type} {f : α → St} {g g' : α} {L : St} (h : g = g') (h2 : L = f g) : L = f g' := by rw [← h]; exact h2
def tokFE (t : Tok) : List FE := [.pv (iv t.kind), .pv (iv t.at_), .pv (iv t.to), .pv (iv t.c), .pv (rs t.set), .pv (bv t.neg), .pv (iv t.n), .pv (iv t.m), .pv (iv t.mode), .pv (sv t.name), .pv (iv t.on), .pv (iv t.off)]
def nzero : List FE := [.pv (iv 0), .pv (iv 0), .pv (iv 0), .pv (.val nilV), .pv (bv false), .pv (iv 0), .pv (iv 0), .pv (iv 0), .pv (sv (bs [])), .pv (iv 0), .pv (iv 0), .pv (.val nilV)]
attribute [local irreducible] tk thingF groupF altF altGo seqGo kindP failP
set_option maxHeartbeats 16000000
theorem thing_h (L : List Tok) (hL : L.length ≤ 100000) (k : Nat) (ih : ∀ j, j < k → ThingH L j ∧ AltH L j) : ThingH L k := by
  intro p hp hi he hk
  have hmu : 1 ≤ parMu L p := by unfold parMu; rw [if_neg (by simp [he])]; omega
  obtain ⟨k, rfl⟩ : ∃ m, k = m + 2 := ⟨k - 2, by omega⟩
  have hl := tk_len L
  have h0 := hp.i0
  have ho0 := hp.o0
  have ho1 := hp.o1
  obtain ⟨t, ht⟩ : ∃ t, rdt L p.i = t := ⟨_, rfl⟩
  obtain ⟨G, hG⟩ : ∃ G, thingF L (k + 2) p = G := ⟨_, rfl⟩
  rw [hG]
  rw [thingF, ht] at hG
  refine HCalls.ofr tabOk Try.func113 (by decide) rfl rfl ?_
  refine RWP.seqx tabOk orders ?_
  conv => whnf
  refine RWP.seqx tabOk orders ?_
  repeat' ((conv => whnf); (first
    | (with_reducible first | refine Spl.yes ?_ | refine Spl.no ?_ | refine Spl.dec (fun h => ?_) (fun h => ?_) | refine Spl.eq (fun h => ?_) (fun h => ?_) | refine Spl.ne (fun h => ?_) (fun h => ?_) | refine Spl.seq (fun h => ?_) (fun h => ?_) | refine Spl.not ?_ | refine Spl.any (fun h => ?_) (fun h => ?_))
    | refine drawn_text (by decide +kernel) ?_
    | (rw [tk_get (by omega), ht])
    | refine And.intro (Nat.le_of_ble_eq_true rfl) ?_
    | ((with_reducible apply And.intro); first | omega | rfl | (dsimp only; omega))))
  all_goals (conv => whnf)
  refine RWP.cut (fun st => st = ⟨218, [(0, .ptr 1000000 0), (2, .ptr 2 0), (3, .ptr 3 0)], [(1000000, (105, parCells L p)), (2, (27, nzero)), (3, (88, tokFE t))], [], []⟩ ∧ t.kind = 10) tabOk orders ?_ ?_
  · repeat' ((conv => whnf); (first
    | (with_reducible first | refine Spl.yes ?_ | refine Spl.no ?_ | refine Spl.dec (fun h => ?_) (fun h => ?_) | refine Spl.eq (fun h => ?_) (fun h => ?_) | refine Spl.ne (fun h => ?_) (fun h => ?_) | refine Spl.seq (fun h => ?_) (fun h => ?_) | refine Spl.not ?_ | refine Spl.any (fun h => ?_) (fun h => ?_))
    | ((with_reducible apply And.intro); first | omega | rfl | (dsimp only; omega))))
    all_goals (conv => whnf)
    all_goals first
      | exact ⟨_, Wk.narrow _ [0, 2, 3] [1000000, 2, 3] [], rfl, by assumption⟩
      | (refine ⟨_, Wk.narrow _ [2] [1000000, 2] [], .inl ?_⟩
         rw [if_pos (by assumption)] at hG
         subst hG
         conv => whnf
         refine ⟨?_, rfl⟩
         refine congrArg FE.pv ?_
         unfold leafN leafK
         (apply fn_by (f := fun k => (Node.mk ⟨k, t.at_, t.c, t.set, t.neg, t.n, t.m, 0, t.name, t.on, t.off⟩ []).enc); (focus ((repeat (first | (apply ite_yes; (focus first | assumption | omega)) | (apply ite_no; (focus first | assumption | exact b_nt (by assumption) | exact b_nf (by assumption) | omega)) | (apply ite_yes; (focus (first | (simp [*]; done) | (simp [*, bs]; done)))) | (apply ite_no; (focus (first | (simp [*]; done) | (simp [*, bs]; done)))))); exact rfl)); rfl))
  rintro _ ⟨rfl, hk10⟩
  rw [if_neg (by omega)] at hG
  refine RWP.seqx tabOk orders ?_
  repeat' ((conv => whnf); (first
    | (with_reducible first | refine Spl.yes ?_ | refine Spl.no ?_ | refine Spl.dec (fun h => ?_) (fun h => ?_) | refine Spl.eq (fun h => ?_) (fun h => ?_) | refine Spl.ne (fun h => ?_) (fun h => ?_) | refine Spl.seq (fun h => ?_) (fun h => ?_) | refine Spl.not ?_ | refine Spl.any (fun h => ?_) (fun h => ?_))
    | (refine HQ.use (fail_h L p 11 t.at_) ⟨id, id, id⟩ ⟨rfl, rfl⟩ rfl rfl (by first | exact ⟨⟨rfl, rfl⟩, trivial⟩ | exact ⟨⟨rfl, rfl⟩, ⟨rfl, rfl⟩, trivial⟩) (by first | exact trivial | exact ⟨⟨rfl, rfl⟩, trivial⟩ | exact ⟨⟨rfl, rfl⟩, ⟨rfl, rfl⟩, trivial⟩) (by first | exact trivial | exact ⟨⟨rfl, rfl⟩, trivial⟩) ?_; rintro _ _ ⟨rfl, rfl⟩; refine ⟨⟨rfl, rfl, rfl⟩, ?_⟩)
    | ((with_reducible apply And.intro); first | omega | rfl | (dsimp only; omega))))
  all_goals (conv => whnf)
  · refine ⟨_, Wk.narrow _ [2] [1000000, 2] [], .inl ?_⟩
    rw [if_pos (by assumption)] at hG
    subst hG
    conv => whnf
    exact ⟨rfl, rfl⟩
  have hop : p.op ≠ 40 := by assumption
  rw [if_neg hop] at hG
  refine RWP.seqx tabOk orders ?_
  repeat' ((conv => whnf); (first
    | (with_reducible first | refine Spl.yes ?_ | refine Spl.no ?_ | refine Spl.dec (fun h => ?_) (fun h => ?_) | refine Spl.eq (fun h => ?_) (fun h => ?_) | refine Spl.ne (fun h => ?_) (fun h => ?_) | refine Spl.seq (fun h => ?_) (fun h => ?_) | refine Spl.not ?_ | refine Spl.any (fun h => ?_) (fun h => ?_))
    | ((with_reducible apply And.intro); first | omega | rfl | (dsimp only; omega))))
  all_goals (conv => whnf)
  refine RWP.seqx tabOk orders ?_
  repeat' ((conv => whnf); (first
    | (with_reducible first | refine Spl.yes ?_ | refine Spl.no ?_ | refine Spl.dec (fun h => ?_) (fun h => ?_) | refine Spl.eq (fun h => ?_) (fun h => ?_) | refine Spl.ne (fun h => ?_) (fun h => ?_) | refine Spl.seq (fun h => ?_) (fun h => ?_) | refine Spl.not ?_ | refine Spl.any (fun h => ?_) (fun h => ?_))
    | ((with_reducible apply And.intro); first | omega | rfl | (dsimp only; omega))))
  all_goals (conv => whnf)
  refine RWP.seqx tabOk orders ?_
  conv => whnf
  obtain ⟨p1, hp1⟩ : ∃ p1 : Par, p1 = { p with op := p.op + 1, i := p.i + 1 } := ⟨_, rfl⟩
  rw [← hp1] at hG
  have hok1 : ParOk L p1 := by rw [hp1]; exact ⟨by simp only; omega, by simp only; omega, by simp only; omega, by simp only; omega⟩
  have hi1 : p1.i = p.i + 1 := by rw [hp1]
  have ho1' : p1.op = p.op + 1 := by rw [hp1]
  have he1 : p1.e = 0 := by rw [hp1]; exact he
  have hmu1 : parMu L p1 + 1 ≤ parMu L p := by have := parMu_lt (q := p1) hi he (fun _ => by omega); omega
  refine RWP.cut (fun st => ∃ look p2, st = ⟨218, [(0, .ptr 1000000 0), (2, .ptr 2 0), (3, .ptr 3 0), (5, .own 117)], [(1000000, (105, parCells L p2)), (2, (27, nzero)), (3, (88, tokFE t))], [(117, ⟨12, 27, true, rowsN look⟩)], []⟩ ∧ look.length ≤ 1 ∧ groupF L (k + 1) t look p2 = G ∧ ParTo L p1 p2) tabOk orders ?_ ?_
  · subst hp1
    have hth : kindP L ⟨p.i + 1, p.op + 1, p.e, p.at_⟩ = 10 → HCalls Try.prog 113 (HP L ⟨p.i + 1, p.op + 1, p.e, p.at_⟩) [.ptr 1000000 0] (fun fe H' => fe = .pv (thingF L (k + 1) ⟨p.i + 1, p.op + 1, p.e, p.at_⟩).1.enc ∧ H' = HP L (thingF L (k + 1) ⟨p.i + 1, p.op + 1, p.e, p.at_⟩).2) := fun h => by
      have hk' := kindP_pos (L := L) (p := ⟨p.i + 1, p.op + 1, p.e, p.at_⟩) (by omega)
      exact (ih (k + 1) (by omega)).1 ⟨p.i + 1, p.op + 1, p.e, p.at_⟩ hok1 hk'.1 hk'.2.1 (by omega)
    have hto : kindP L ⟨p.i + 1, p.op + 1, p.e, p.at_⟩ = 10 → ParTo L ⟨p.i + 1, p.op + 1, p.e, p.at_⟩ (thingF L (k + 1) ⟨p.i + 1, p.op + 1, p.e, p.at_⟩).2 := fun h => by
      have hk' := kindP_pos (L := L) (p := ⟨p.i + 1, p.op + 1, p.e, p.at_⟩) (by omega)
      exact (thing_ok _ hok1 hk'.1 hk'.2.1).1
    generalize hr : thingF L (k + 1) ⟨p.i + 1, p.op + 1, p.e, p.at_⟩ = r at *
    obtain ⟨⟨f, ks⟩, p2⟩ := r
    have hkind := kind_h L ⟨p.i + 1, p.op + 1, p.e, p.at_⟩ (by omega) hok1.i0 hok1.i1
    generalize hkd : kindP L ⟨p.i + 1, p.op + 1, p.e, p.at_⟩ = kd at *
    repeat' ((conv => whnf); (first
    | (with_reducible first | refine Spl.yes ?_ | refine Spl.no ?_ | refine Spl.dec (fun h => ?_) (fun h => ?_) | refine Spl.eq (fun h => ?_) (fun h => ?_) | refine Spl.ne (fun h => ?_) (fun h => ?_) | refine Spl.seq (fun h => ?_) (fun h => ?_) | refine Spl.not ?_ | refine Spl.any (fun h => ?_) (fun h => ?_))
    | (refine HQ.use (hkind) ⟨id, id, id⟩ ⟨rfl, rfl⟩ rfl rfl (by first | exact ⟨⟨rfl, rfl⟩, trivial⟩ | exact ⟨⟨rfl, rfl⟩, ⟨rfl, rfl⟩, trivial⟩) (by first | exact trivial | exact ⟨⟨rfl, rfl⟩, trivial⟩ | exact ⟨⟨rfl, rfl⟩, ⟨rfl, rfl⟩, trivial⟩) (by first | exact trivial | exact ⟨⟨rfl, rfl⟩, trivial⟩) ?_; rintro _ _ ⟨rfl, rfl⟩; refine ⟨⟨rfl, rfl, rfl⟩, ?_⟩)
    | (refine HQ.use (hth (by assumption)) ⟨id, id, id⟩ ⟨rfl, rfl⟩ rfl rfl (by first | exact ⟨⟨rfl, rfl⟩, trivial⟩ | exact ⟨⟨rfl, rfl⟩, ⟨rfl, rfl⟩, trivial⟩) (by first | exact trivial | exact ⟨⟨rfl, rfl⟩, trivial⟩ | exact ⟨⟨rfl, rfl⟩, ⟨rfl, rfl⟩, trivial⟩) (by first | exact trivial | exact ⟨⟨rfl, rfl⟩, trivial⟩) ?_; rintro _ _ ⟨rfl, rfl⟩; refine ⟨⟨rfl, rfl, rfl⟩, ?_⟩)
    | refine And.intro (Nat.le_of_ble_eq_true rfl) ?_
    | ((with_reducible apply And.intro); first | omega | rfl | (dsimp only; omega))))
    all_goals (conv => whnf)
    all_goals first
      | exact ⟨_, Wk.narrow _ [0, 2, 3, 5] [1000000, 2, 3] [117], [.mk f ks], p2, rfl, by simp, by rw [if_pos ⟨by assumption, by assumption⟩] at hG; exact hG, hto (by assumption)⟩
      | exact ⟨_, Wk.trans (Wk.ownNil (t := 5) (k := 117) (sz := 12) (e := 27) rfl) (Wk.narrow _ [0, 2, 3, 5] [1000000, 2, 3] [117]), [], ⟨p.i + 1, p.op + 1, p.e, p.at_⟩, rfl, by simp, by rw [if_neg (by omega)] at hG; exact hG, ParTo.refl hok1⟩
  rintro _ ⟨look, p2, rfl, hlook, hG2, hto2⟩
  clear hG
  have hok2 := hto2.ok
  have hmu2 := parMu_le hto2
  rw [groupF] at hG2
  have halt := (ih k (by omega)).2 p2 hok2 (by omega)
  have hato := alt_ok k hok2
  have hal := altF_len L k p2 hok2
  generalize altF L k p2 = r at *
  obtain ⟨l, p3⟩ := r
  simp only at halt hato hG2 hal
  have hok3 := hato.ok
  have hrl := rowsN_len l
  have hrk := rowsN_len look
  have h30 := hok3.i0
  have h31 := hok3.i1
  have h3o := hok3.o0
  have h3o1 := hok3.o1
  have hog : 1 ≤ p3.op := by have := hto2.og; have := hato.og; omega
  refine RWP.seqx tabOk orders ?_
  repeat' ((conv => whnf); (first
    | (with_reducible first | refine Spl.yes ?_ | refine Spl.no ?_ | refine Spl.dec (fun h => ?_) (fun h => ?_) | refine Spl.eq (fun h => ?_) (fun h => ?_) | refine Spl.ne (fun h => ?_) (fun h => ?_) | refine Spl.seq (fun h => ?_) (fun h => ?_) | refine Spl.not ?_ | refine Spl.any (fun h => ?_) (fun h => ?_))
    | (refine HQ.use (halt) ⟨id, id, id⟩ ⟨rfl, rfl⟩ rfl rfl (by first | exact ⟨⟨rfl, rfl⟩, trivial⟩ | exact ⟨⟨rfl, rfl⟩, ⟨rfl, rfl⟩, trivial⟩) (by first | exact trivial | exact ⟨⟨rfl, rfl⟩, trivial⟩ | exact ⟨⟨rfl, rfl⟩, ⟨rfl, rfl⟩, trivial⟩) (by first | exact trivial | exact ⟨⟨rfl, rfl⟩, trivial⟩) ?_; rintro _ _ ⟨rfl, rfl⟩; refine ⟨⟨rfl, rfl, rfl⟩, ?_⟩)
    | ((with_reducible apply And.intro); first | omega | rfl | (dsimp only; omega))))
  all_goals (conv => whnf)
  have hkind := kind_h L p3 (by omega) hok3.i0 hok3.i1
  refine RWP.seqx tabOk orders ?_
  repeat' ((conv => whnf); (first
    | (with_reducible first | refine Spl.yes ?_ | refine Spl.no ?_ | refine Spl.dec (fun h => ?_) (fun h => ?_) | refine Spl.eq (fun h => ?_) (fun h => ?_) | refine Spl.ne (fun h => ?_) (fun h => ?_) | refine Spl.seq (fun h => ?_) (fun h => ?_) | refine Spl.not ?_ | refine Spl.any (fun h => ?_) (fun h => ?_))
    | (refine HQ.use (hkind) ⟨id, id, id⟩ ⟨rfl, rfl⟩ rfl rfl (by first | exact ⟨⟨rfl, rfl⟩, trivial⟩ | exact ⟨⟨rfl, rfl⟩, ⟨rfl, rfl⟩, trivial⟩) (by first | exact trivial | exact ⟨⟨rfl, rfl⟩, trivial⟩ | exact ⟨⟨rfl, rfl⟩, ⟨rfl, rfl⟩, trivial⟩) (by first | exact trivial | exact ⟨⟨rfl, rfl⟩, trivial⟩) ?_; rintro _ _ ⟨rfl, rfl⟩; refine ⟨⟨rfl, rfl, rfl⟩, ?_⟩)
    | (refine HQ.use (fail_h L p3 20 (-1)) ⟨id, id, id⟩ ⟨rfl, rfl⟩ rfl rfl (by first | exact ⟨⟨rfl, rfl⟩, trivial⟩ | exact ⟨⟨rfl, rfl⟩, ⟨rfl, rfl⟩, trivial⟩) (by first | exact trivial | exact ⟨⟨rfl, rfl⟩, trivial⟩ | exact ⟨⟨rfl, rfl⟩, ⟨rfl, rfl⟩, trivial⟩) (by first | exact trivial | exact ⟨⟨rfl, rfl⟩, trivial⟩) ?_; rintro _ _ ⟨rfl, rfl⟩; refine ⟨⟨rfl, rfl, rfl⟩, ?_⟩)
    | ((with_reducible apply And.intro); first | omega | rfl | (dsimp only; omega))))
  all_goals (conv => whnf)
  · refine ⟨_, Wk.narrow _ [2] [1000000, 2] [], .inl ?_⟩
    rw [if_pos (by assumption)] at hG2
    subst hG2
    conv => whnf
    exact ⟨rfl, rfl⟩
  rw [if_neg (by omega)] at hG2
  have hk3 := kindP_pos (L := L) (p := p3) (by omega)
  refine RWP.seqx tabOk orders ?_
  repeat' ((conv => whnf); (first
    | (with_reducible first | refine Spl.yes ?_ | refine Spl.no ?_ | refine Spl.dec (fun h => ?_) (fun h => ?_) | refine Spl.eq (fun h => ?_) (fun h => ?_) | refine Spl.ne (fun h => ?_) (fun h => ?_) | refine Spl.seq (fun h => ?_) (fun h => ?_) | refine Spl.not ?_ | refine Spl.any (fun h => ?_) (fun h => ?_))
    | ((with_reducible apply And.intro); first | omega | rfl | (dsimp only; omega))))
  all_goals (conv => whnf)
  refine RWP.seqx tabOk orders ?_
  repeat' ((conv => whnf); (first
    | (with_reducible first | refine Spl.yes ?_ | refine Spl.no ?_ | refine Spl.dec (fun h => ?_) (fun h => ?_) | refine Spl.eq (fun h => ?_) (fun h => ?_) | refine Spl.ne (fun h => ?_) (fun h => ?_) | refine Spl.seq (fun h => ?_) (fun h => ?_) | refine Spl.not ?_ | refine Spl.any (fun h => ?_) (fun h => ?_))
    | ((with_reducible apply And.intro); first | omega | rfl | (dsimp only; omega))))
  all_goals (conv => whnf)
  refine RWP.seqx tabOk orders ?_
  repeat' ((conv => whnf); (first
    | (with_reducible first | refine Spl.yes ?_ | refine Spl.no ?_ | refine Spl.dec (fun h => ?_) (fun h => ?_) | refine Spl.eq (fun h => ?_) (fun h => ?_) | refine Spl.ne (fun h => ?_) (fun h => ?_) | refine Spl.seq (fun h => ?_) (fun h => ?_) | refine Spl.not ?_ | refine Spl.any (fun h => ?_) (fun h => ?_))
    | refine And.intro (Nat.le_of_ble_eq_true rfl) ?_
    | ((with_reducible apply And.intro); first | omega | rfl | (dsimp only; omega))))
  all_goals (conv => whnf)
  obtain ⟨f1, k1, h1⟩ := (oneN 13 l).ex
  have hone := one_c 13 l (by omega)
  rw [h1] at hone
  refine RWP.of tabOk orders ?_
  repeat' ((conv => whnf); (first
    | (with_reducible first | refine Spl.yes ?_ | refine Spl.no ?_ | refine Spl.dec (fun h => ?_) (fun h => ?_) | refine Spl.eq (fun h => ?_) (fun h => ?_) | refine Spl.ne (fun h => ?_) (fun h => ?_) | refine Spl.seq (fun h => ?_) (fun h => ?_) | refine Spl.not ?_ | refine Spl.any (fun h => ?_) (fun h => ?_))
    | (refine VCalls.mono (hone) ?_; rintro _ rfl)
    | refine And.intro (Nat.le_of_ble_eq_true rfl) ?_
    | refine And.intro (by show ((rowsN look).length + (rowsN l).length) * 136 ≤ 140737488355328; omega) ?_
    | (refine HQ.use (fail_h L ⟨p3.i + 1, p3.op - 1, p3.e, p3.at_⟩ 32 t.at_) ⟨id, id, id⟩ ⟨rfl, rfl⟩ rfl rfl (by first | exact ⟨⟨rfl, rfl⟩, trivial⟩ | exact ⟨⟨rfl, rfl⟩, ⟨rfl, rfl⟩, trivial⟩) (by first | exact trivial | exact ⟨⟨rfl, rfl⟩, trivial⟩ | exact ⟨⟨rfl, rfl⟩, ⟨rfl, rfl⟩, trivial⟩) (by first | exact trivial | exact ⟨⟨rfl, rfl⟩, trivial⟩) ?_; rintro _ _ ⟨rfl, rfl⟩; refine ⟨⟨rfl, rfl, rfl⟩, ?_⟩)
    | ((with_reducible apply And.intro); first | omega | rfl | (dsimp only; omega))))
  all_goals (conv => whnf)
  all_goals (try (exfalso; omega))
  all_goals (refine ⟨_, Wk.narrow _ [2] [1000000, 2] [], .inl ?_⟩)
  all_goals (subst hG2)
  all_goals (conv => whnf)
  all_goals (refine ⟨congrArg FE.pv ?_, ?_⟩)
  all_goals first
    | (unfold groupN
       rw [h1]
       (apply encN_by; (focus ((repeat (first | (apply ite_yes; (focus first | assumption | omega)) | (apply ite_no; (focus first | assumption | exact b_nt (by assumption) | exact b_nf (by assumption) | omega)) | (apply ite_yes; (focus (first | (simp [*]; done) | (simp [*, bs]; done)))) | (apply ite_no; (focus (first | (simp [*]; done) | (simp [*, bs]; done)))))); exact rfl)); first | rfl | (unfold Node.enc Node.cells; rw [← rowsN_app]; rfl)))
    | (unfold groupP
       (apply fnS_by (f := HP L); (focus ((repeat (first | (apply ite_yes; (focus first | assumption | omega)) | (apply ite_no; (focus first | assumption | exact b_nt (by assumption) | exact b_nf (by assumption) | omega)) | (apply ite_yes; (focus (first | (simp [*]; done) | (simp [*, bs]; done)))) | (apply ite_no; (focus (first | (simp [*]; done) | (simp [*, bs]; done)))))); exact rfl)); rfl))
    | (unfold groupP
       rcases condBad_cases t l with ⟨q, q2⟩ | ⟨q, q2⟩
       all_goals first
         | (exfalso; omega)
         | (apply fnS_by (f := HP L); (focus ((repeat (first | (apply ite_yes; (focus first | assumption | omega)) | (apply ite_no; (focus first | assumption | exact b_nt (by assumption) | exact b_nf (by assumption) | omega)) | (apply ite_yes; (focus (first | (simp [*]; done) | (simp [*, bs]; done)))) | (apply ite_no; (focus (first | (simp [*]; done) | (simp [*, bs]; done)))))); exact rfl)); rfl))
end Go.Proofs.Ytnoohgiecnmajaa.VC

/- The parser of the document: a sequence. -/
namespace Go.Proofs.Ytnoohgiecnmajaa.VC
open Go Go.RowKit
set_option linter.unusedVariables false
set_option linter.unusedSimpArgs false
set_option maxHeartbeats 4000000

attribute [local irreducible] tk thingF groupF altF altGo seqGo kindP failP
set_option maxHeartbeats 16000000
theorem seq_h (L : List Tok) (hL : L.length ≤ 100000) (k : Nat) (ih : ∀ j, j < k → ThingH L j) : SeqH L k := by
  intro p hp hk
  have hl := tk_len L
  obtain ⟨G, hG⟩ : ∃ G, seqGo L k p [] = G := ⟨_, rfl⟩
  rw [hG]
  refine HCalls.ofr tabOk Try.func82 (by decide) rfl rfl ?_
  refine RWP.seqx tabOk orders ?_
  conv => whnf
  refine RWP.seqx tabOk orders ?_
  conv => whnf
  refine RWP.block ?_
  refine RWP.loop (fun n st => ∃ p1 l, st = ⟨78, [(0, .ptr 1000000 0), (2, .ptr 2 0), (3, .own 77)], [(1000000, (105, parCells L p1)), (2, (27, nzero))], [(77, ⟨12, 27, true, rowsN l⟩)], []⟩ ∧ ParTo L p p1 ∧ seqGo L n p1 l = G ∧ 4 * parMu L p1 + 1 ≤ n ∧ n ≤ k ∧ (l.length : Int) ≤ L.length + 1 ∧ (p1.e = 0 → (l.length : Int) ≤ p1.i))
    ⟨k, _, Wk.trans (Wk.ownNil (t := 3) (k := 77) (sz := 12) (e := 27) rfl) (Wk.narrow _ [0, 2, 3] [1000000, 2] [77]), p, [], rfl, ParTo.refl hp, hG, hk, Nat.le_refl _, by simp; omega, fun _ => by simp; exact hp.i0⟩ ?_
  rintro n st ⟨p1, l, rfl, hto, hP, hn, hnk, hll, hle⟩
  obtain ⟨n, rfl⟩ : ∃ m, n = m + 1 := ⟨n - 1, by omega⟩
  have hok := hto.ok
  have h0 := hok.i0
  have h1 := hok.i1
  have hrl := rowsN_len l
  have hkind := kind_h L p1 (by omega) hok.i0 hok.i1
  rw [seqGo] at hP
  refine RWP.block ?_
  refine RWP.seqx tabOk orders ?_
  repeat' ((conv => whnf); (first
    | (with_reducible first | refine Spl.yes ?_ | refine Spl.no ?_ | refine Spl.dec (fun h => ?_) (fun h => ?_) | refine Spl.eq (fun h => ?_) (fun h => ?_) | refine Spl.ne (fun h => ?_) (fun h => ?_) | refine Spl.seq (fun h => ?_) (fun h => ?_) | refine Spl.not ?_ | refine Spl.any (fun h => ?_) (fun h => ?_))
    | (refine HQ.use (hkind) ⟨id, id, id⟩ ⟨rfl, rfl⟩ rfl rfl (by first | exact ⟨⟨rfl, rfl⟩, trivial⟩ | exact ⟨⟨rfl, rfl⟩, ⟨rfl, rfl⟩, trivial⟩) (by first | exact trivial | exact ⟨⟨rfl, rfl⟩, trivial⟩ | exact ⟨⟨rfl, rfl⟩, ⟨rfl, rfl⟩, trivial⟩) (by first | exact trivial | exact ⟨⟨rfl, rfl⟩, trivial⟩) ?_; rintro _ _ ⟨rfl, rfl⟩; refine ⟨⟨rfl, rfl, rfl⟩, ?_⟩)
    | ((with_reducible apply And.intro); first | omega | rfl | (dsimp only; omega))))
  all_goals (conv => whnf)
  obtain ⟨f1, k1, hone⟩ := (oneN 12 l).ex
  have hcone := one_c 12 l (by omega)
  rw [hone] at hcone hP
  refine RWP.seqx tabOk orders ?_
  repeat' ((conv => whnf); (first
    | (with_reducible first | refine Spl.yes ?_ | refine Spl.no ?_ | refine Spl.dec (fun h => ?_) (fun h => ?_) | refine Spl.eq (fun h => ?_) (fun h => ?_) | refine Spl.ne (fun h => ?_) (fun h => ?_) | refine Spl.seq (fun h => ?_) (fun h => ?_) | refine Spl.not ?_ | refine Spl.any (fun h => ?_) (fun h => ?_))
    | (refine VCalls.mono (hcone) ?_; rintro _ rfl)
    | refine And.intro (Nat.le_of_ble_eq_true rfl) ?_
    | ((with_reducible apply And.intro); first | omega | rfl | (dsimp only; omega))))
  all_goals (conv => whnf)
  all_goals (try (
    refine ⟨_, Wk.narrow _ [2] [1000000, 2] [], .inl ?_⟩
    rw [if_pos (by omega)] at hP
    subst hP
    conv => whnf
    exact ⟨rfl, rfl⟩))
  rw [if_neg (by omega)] at hP
  have hpos := kindP_pos (L := L) (p := p1) (by omega)
  refine RWP.seqx tabOk orders ?_
  repeat' ((conv => whnf); (first
    | (with_reducible first | refine Spl.yes ?_ | refine Spl.no ?_ | refine Spl.dec (fun h => ?_) (fun h => ?_) | refine Spl.eq (fun h => ?_) (fun h => ?_) | refine Spl.ne (fun h => ?_) (fun h => ?_) | refine Spl.seq (fun h => ?_) (fun h => ?_) | refine Spl.not ?_ | refine Spl.any (fun h => ?_) (fun h => ?_))
    | refine drawn_text (by decide +kernel) ?_
    | (rw [tk_get (by omega)])
    | (refine HQ.use (fail_h L p1 30 (rdt L p1.i).at_) ⟨id, id, id⟩ ⟨rfl, rfl⟩ rfl rfl (by first | exact ⟨⟨rfl, rfl⟩, trivial⟩ | exact ⟨⟨rfl, rfl⟩, ⟨rfl, rfl⟩, trivial⟩) (by first | exact trivial | exact ⟨⟨rfl, rfl⟩, trivial⟩ | exact ⟨⟨rfl, rfl⟩, ⟨rfl, rfl⟩, trivial⟩) (by first | exact trivial | exact ⟨⟨rfl, rfl⟩, trivial⟩) ?_; rintro _ _ ⟨rfl, rfl⟩; refine ⟨⟨rfl, rfl, rfl⟩, ?_⟩)
    | ((with_reducible apply And.intro); first | omega | rfl | (dsimp only; omega))))
  all_goals (conv => whnf)
  · refine ⟨_, Wk.narrow _ [2] [1000000, 2] [], .inl ?_⟩
    rw [if_pos (by assumption)] at hP
    subst hP
    conv => whnf
    exact ⟨rfl, rfl⟩
  rw [if_neg (by assumption)] at hP
  have hth := ih n (by omega) p1 hok hpos.1 hpos.2.1 (by omega)
  have hth2 := thing_ok n hok hpos.1 hpos.2.1
  generalize thingF L n p1 = r at *
  obtain ⟨⟨f, ks⟩, p2⟩ := r
  simp only at hth2 hP
  have hok2 := hth2.1.ok
  have h20 := hok2.i0
  have h21 := hok2.i1
  have hmu2 := parMu_lt (q := p2) hpos.1 hpos.2.1 hth2.2
  have hqt := quant_to (p := p1) (r := (Node.mk f ks, p2)) hth2.1
  have hqi := quant_i (L := L) (r := (Node.mk f ks, p2))
  have hmu3 := parMu_lt (q := (quantN L (Node.mk f ks, p2)).2) hpos.1 hpos.2.1 (fun e => by have := hth2.2 (by rw [hqi.2] at e; exact e); have := hqi.1; simp only at this; omega)
  have hlen : (((quantN L (Node.mk f ks, p2)).2.e = 0 → ((l ++ [(quantN L (Node.mk f ks, p2)).1]).length : Int) ≤ (quantN L (Node.mk f ks, p2)).2.i)) := by
    intro e
    rw [hqi.2] at e
    have h4 := hth2.2 e
    have h5 := hqi.1
    have h6 := hle hpos.2.1
    simp only at h5 e h4
    rw [List.length_append]
    simp only [List.length_cons, List.length_nil]
    omega
  have hlen2 : ((l ++ [(quantN L (Node.mk f ks, p2)).1]).length : Int) ≤ L.length + 1 := by
    have h6 := hle hpos.2.1
    rw [List.length_append]
    simp only [List.length_cons, List.length_nil]
    omega
  refine RWP.seqx tabOk orders ?_
  repeat' ((conv => whnf); (first
    | (with_reducible first | refine Spl.yes ?_ | refine Spl.no ?_ | refine Spl.dec (fun h => ?_) (fun h => ?_) | refine Spl.eq (fun h => ?_) (fun h => ?_) | refine Spl.ne (fun h => ?_) (fun h => ?_) | refine Spl.seq (fun h => ?_) (fun h => ?_) | refine Spl.not ?_ | refine Spl.any (fun h => ?_) (fun h => ?_))
    | (refine HQ.use (hth) ⟨id, id, id⟩ ⟨rfl, rfl⟩ rfl rfl (by first | exact ⟨⟨rfl, rfl⟩, trivial⟩ | exact ⟨⟨rfl, rfl⟩, ⟨rfl, rfl⟩, trivial⟩) (by first | exact trivial | exact ⟨⟨rfl, rfl⟩, trivial⟩ | exact ⟨⟨rfl, rfl⟩, ⟨rfl, rfl⟩, trivial⟩) (by first | exact trivial | exact ⟨⟨rfl, rfl⟩, trivial⟩) ?_; rintro _ _ ⟨rfl, rfl⟩; refine ⟨⟨rfl, rfl, rfl⟩, ?_⟩)
    | refine And.intro (Nat.le_of_ble_eq_true rfl) ?_
    | ((with_reducible apply And.intro); first | omega | rfl | (dsimp only; omega))))
  all_goals (conv => whnf)
  have hkind2 := kind_h L p2 (by omega) hok2.i0 hok2.i1
  have hrep := repeatable_c (Node.mk f ks)
  refine RWP.seqx tabOk orders ?_
  conv => whnf
  (refine HQ.use (hkind2) ⟨id, id, id⟩ ⟨rfl, rfl⟩ rfl rfl (by first | exact ⟨⟨rfl, rfl⟩, trivial⟩ | exact ⟨⟨rfl, rfl⟩, ⟨rfl, rfl⟩, trivial⟩) (by first | exact trivial | exact ⟨⟨rfl, rfl⟩, trivial⟩ | exact ⟨⟨rfl, rfl⟩, ⟨rfl, rfl⟩, trivial⟩) (by first | exact trivial | exact ⟨⟨rfl, rfl⟩, trivial⟩) ?_; rintro _ _ ⟨rfl, rfl⟩; refine ⟨⟨rfl, rfl, rfl⟩, ?_⟩)
  repeat' ((conv => whnf); (with_reducible first | refine Spl.yes ?_ | refine Spl.no ?_ | refine Spl.dec (fun h => ?_) (fun h => ?_) | refine Spl.eq (fun h => ?_) (fun h => ?_) | refine Spl.ne (fun h => ?_) (fun h => ?_) | refine Spl.seq (fun h => ?_) (fun h => ?_) | refine Spl.not ?_ | refine Spl.any (fun h => ?_) (fun h => ?_)))
  all_goals (conv => whnf)
  · refine VCalls.mono hrep ?_; rintro _ rfl
    repeat' ((conv => whnf); (with_reducible first | refine Spl.yes ?_ | refine Spl.no ?_ | refine Spl.dec (fun h => ?_) (fun h => ?_) | refine Spl.eq (fun h => ?_) (fun h => ?_) | refine Spl.ne (fun h => ?_) (fun h => ?_) | refine Spl.seq (fun h => ?_) (fun h => ?_) | refine Spl.not ?_ | refine Spl.any (fun h => ?_) (fun h => ?_)))
    all_goals (conv => whnf)
    have hk9 := kindP_pos (L := L) (p := p2) (by omega)
    refine drawn_text (by decide +kernel) ?_
    repeat' ((conv => whnf); (first | (rw [tk_get (by omega)]) | ((with_reducible apply And.intro); first | omega | rfl | (dsimp only; omega)) | refine And.intro (Nat.le_of_ble_eq_true rfl) ?_))
    all_goals (conv => whnf)
    · have hq : quantN L (Node.mk f ks, p2) = (repN (rdt L p2.i) (.mk f ks), ⟨p2.i + 1, p2.op, p2.e, p2.at_⟩) := by unfold quantN; rw [if_pos (by assumption), if_pos (by assumption)]
      rw [hq] at hP hqt hmu3 hlen hlen2
      simp only at hP hqt hmu3 hlen hlen2
      refine RWP.of tabOk orders ?_
      repeat' ((conv => whnf); (first | refine And.intro (by show ((rowsN l).length + 1) * 136 ≤ 140737488355328; omega) ?_ | ((with_reducible apply And.intro); first | omega | rfl | (dsimp only; omega))))
      conv => whnf
      exact ⟨n, _, by omega, Wk.narrow _ [0, 2, 3] [1000000, 2] [77], ⟨p2.i + 1, p2.op, p2.e, p2.at_⟩, l ++ [(repN (rdt L p2.i) (.mk f ks))], Eq.trans rfl (congrArg (fun X => (⟨78, [(0, .ptr 1000000 0), (2, .ptr 2 0), (3, .own 77)], [(1000000, (105, parCells L ⟨p2.i + 1, p2.op, p2.e, p2.at_⟩)), (2, (27, nzero))], [(77, ⟨12, 27, true, X⟩)], []⟩ : St)) (rowsN_snoc l (repN (rdt L p2.i) (.mk f ks)))), hto.trans hqt, hP, by omega, by omega, hlen2, hlen⟩
    · have hq : quantN L (Node.mk f ks, p2) = (Node.mk f ks, p2) := by unfold quantN; rw [if_pos (by assumption), if_neg (b_nt (by assumption))]
      rw [hq] at hP hqt hmu3 hlen hlen2
      simp only at hP hqt hmu3 hlen hlen2
      refine RWP.of tabOk orders ?_
      repeat' ((conv => whnf); (first | refine And.intro (by show ((rowsN l).length + 1) * 136 ≤ 140737488355328; omega) ?_ | ((with_reducible apply And.intro); first | omega | rfl | (dsimp only; omega))))
      conv => whnf
      exact ⟨n, _, by omega, Wk.narrow _ [0, 2, 3] [1000000, 2] [77], p2, l ++ [Node.mk f ks], Eq.trans rfl (congrArg (fun X => (⟨78, [(0, .ptr 1000000 0), (2, .ptr 2 0), (3, .own 77)], [(1000000, (105, parCells L p2)), (2, (27, nzero))], [(77, ⟨12, 27, true, X⟩)], []⟩ : St)) (rowsN_snoc l (Node.mk f ks))), hto.trans hqt, hP, by omega, by omega, hlen2, hlen⟩
  · have hq : quantN L (Node.mk f ks, p2) = (Node.mk f ks, p2) := by unfold quantN; rw [if_neg (by assumption)]
    rw [hq] at hP hqt hmu3 hlen hlen2
    simp only at hP hqt hmu3 hlen hlen2
    refine RWP.of tabOk orders ?_
    repeat' ((conv => whnf); (first | refine And.intro (by show ((rowsN l).length + 1) * 136 ≤ 140737488355328; omega) ?_ | ((with_reducible apply And.intro); first | omega | rfl | (dsimp only; omega))))
    conv => whnf
    exact ⟨n, _, by omega, Wk.narrow _ [0, 2, 3] [1000000, 2] [77], p2, l ++ [Node.mk f ks], Eq.trans rfl (congrArg (fun X => (⟨78, [(0, .ptr 1000000 0), (2, .ptr 2 0), (3, .own 77)], [(1000000, (105, parCells L p2)), (2, (27, nzero))], [(77, ⟨12, 27, true, X⟩)], []⟩ : St)) (rowsN_snoc l (Node.mk f ks))), hto.trans hqt, hP, by omega, by omega, hlen2, hlen⟩
end Go.Proofs.Ytnoohgiecnmajaa.VC

/- The parser of the document: alternatives; the whole. -/
namespace Go.Proofs.Ytnoohgiecnmajaa.VC
open Go Go.RowKit
set_option linter.unusedVariables false
set_option linter.unusedSimpArgs false
set_option maxHeartbeats 4000000

attribute [local irreducible] tk thingF groupF altF altGo seqGo kindP failP
set_option maxHeartbeats 16000000
theorem alt_h (L : List Tok) (hL : L.length ≤ 100000) (k : Nat) (ih : ∀ j, j < k → SeqH L j) : AltH L k := by
  intro p hp hk
  have hl := tk_len L
  obtain ⟨k, rfl⟩ : ∃ m, k = m + 1 := ⟨k - 1, by omega⟩
  obtain ⟨G, hG⟩ : ∃ G, altF L (k + 1) p = G := ⟨_, rfl⟩
  rw [hG]
  rw [altF] at hG
  have hsq := ih k (by omega) p hp (by omega)
  have hsq2 := seq_ok k [] hp
  generalize seqGo L k p [] = r at *
  obtain ⟨⟨f, ks⟩, p2⟩ := r
  simp only at hsq2 hG
  have hmu2 := parMu_le hsq2
  refine HCalls.ofr tabOk Try.func61 (by decide) rfl rfl ?_
  refine RWP.seqx tabOk orders ?_
  conv => whnf
  refine RWP.seqx tabOk orders ?_
  conv => whnf
  (refine HQ.use (hsq) ⟨id, id, id⟩ ⟨rfl, rfl⟩ rfl rfl (by first | exact ⟨⟨rfl, rfl⟩, trivial⟩ | exact ⟨⟨rfl, rfl⟩, ⟨rfl, rfl⟩, trivial⟩) (by first | exact trivial | exact ⟨⟨rfl, rfl⟩, trivial⟩ | exact ⟨⟨rfl, rfl⟩, ⟨rfl, rfl⟩, trivial⟩) (by first | exact trivial | exact ⟨⟨rfl, rfl⟩, trivial⟩) ?_; rintro _ _ ⟨rfl, rfl⟩; refine ⟨⟨rfl, rfl, rfl⟩, ?_⟩)
  conv => whnf
  refine RWP.seq (RWP.block ?_)
  refine RWP.loop (fun n st => ∃ p1 out v, st = ⟨23, [(0, .ptr 1000000 0), (3, .own 21)], [(1000000, (105, parCells L p1))], [(21, ⟨12, 27, v, rowsN out⟩)], []⟩ ∧ ParTo L p p1 ∧ altGo L n p1 out = G ∧ 4 * parMu L p1 + 1 ≤ n ∧ n ≤ k ∧ (out.length : Int) ≤ p1.i + 1)
    ⟨k, _, Wk.trans (Wk.renOwn 3 21 (k := 6) rfl rfl rfl) (Wk.narrow _ [0, 3] [1000000] [21]), p2, [Node.mk f ks], true, rfl, hsq2, hG, by omega, Nat.le_refl _, by have := hsq2.ok.i0; simp; omega⟩ ?_
  rintro n st ⟨p1, out, v, rfl, hto, hP, hn, hnk, hol⟩
  obtain ⟨n, rfl⟩ : ∃ m, n = m + 1 := ⟨n - 1, by omega⟩
  have hok := hto.ok
  have h0 := hok.i0
  have h1 := hok.i1
  have hrl := rowsN_len out
  have hkind := kind_h L p1 (by omega) hok.i0 hok.i1
  rw [altGo] at hP
  refine RWP.seqx tabOk orders ?_
  conv => whnf
  (refine HQ.use (hkind) ⟨id, id, id⟩ ⟨rfl, rfl⟩ rfl rfl (by first | exact ⟨⟨rfl, rfl⟩, trivial⟩ | exact ⟨⟨rfl, rfl⟩, ⟨rfl, rfl⟩, trivial⟩) (by first | exact trivial | exact ⟨⟨rfl, rfl⟩, trivial⟩ | exact ⟨⟨rfl, rfl⟩, ⟨rfl, rfl⟩, trivial⟩) (by first | exact trivial | exact ⟨⟨rfl, rfl⟩, trivial⟩) ?_; rintro _ _ ⟨rfl, rfl⟩; refine ⟨⟨rfl, rfl, rfl⟩, ?_⟩)
  repeat' ((conv => whnf); (with_reducible first | refine Spl.yes ?_ | refine Spl.no ?_ | refine Spl.dec (fun h => ?_) (fun h => ?_) | refine Spl.eq (fun h => ?_) (fun h => ?_) | refine Spl.ne (fun h => ?_) (fun h => ?_) | refine Spl.seq (fun h => ?_) (fun h => ?_) | refine Spl.not ?_ | refine Spl.any (fun h => ?_) (fun h => ?_)))
  all_goals (conv => whnf)
  rotate_left
  · rw [if_neg (by assumption)] at hP
    subst hP
    refine RWP.of tabOk orders ?_
    conv => whnf
    refine ⟨_, Wk.narrow _ [2] [1000000] [21], .inl ?_⟩
    conv => whnf
    exact ⟨rfl, rfl⟩
  rw [if_pos (by assumption)] at hP
  have hpos := kindP_pos (L := L) (p := p1) (by omega)
  have hp3 : ParTo L p1 ⟨p1.i + 1, p1.op, p1.e, p1.at_⟩ := ⟨⟨by simp only; omega, by simp only; omega, hok.o0, hok.o1⟩, by simp only; omega, by simp, fun e => ⟨rfl, e⟩⟩
  have hmu3 := parMu_lt (q := ⟨p1.i + 1, p1.op, p1.e, p1.at_⟩) hpos.1 hpos.2.1 (fun _ => by simp only; omega)
  have hsq3 := ih n (by omega) ⟨p1.i + 1, p1.op, p1.e, p1.at_⟩ hp3.ok (by omega)
  have hsq4 := seq_ok n [] hp3.ok
  generalize seqGo L n ⟨p1.i + 1, p1.op, p1.e, p1.at_⟩ [] = r at *
  obtain ⟨⟨f2, ks2⟩, p4⟩ := r
  simp only at hsq4 hP
  have hmu4 := parMu_le hsq4
  have h4 := hsq4.le
  simp only at h4
  refine RWP.block ?_
  refine RWP.seqx tabOk orders ?_
  repeat' ((conv => whnf); ((with_reducible apply And.intro); first | omega | rfl | (dsimp only; omega)))
  conv => whnf
  refine RWP.of tabOk orders ?_
  conv => whnf
  (refine HQ.use (hsq3) ⟨id, id, id⟩ ⟨rfl, rfl⟩ rfl rfl (by first | exact ⟨⟨rfl, rfl⟩, trivial⟩ | exact ⟨⟨rfl, rfl⟩, ⟨rfl, rfl⟩, trivial⟩) (by first | exact trivial | exact ⟨⟨rfl, rfl⟩, trivial⟩ | exact ⟨⟨rfl, rfl⟩, ⟨rfl, rfl⟩, trivial⟩) (by first | exact trivial | exact ⟨⟨rfl, rfl⟩, trivial⟩) ?_; rintro _ _ ⟨rfl, rfl⟩; refine ⟨⟨rfl, rfl, rfl⟩, ?_⟩)
  repeat' ((conv => whnf); (first | refine And.intro (Nat.le_of_ble_eq_true rfl) ?_ | refine And.intro (by show ((rowsN out).length + 1) * 136 ≤ 140737488355328; omega) ?_))
  conv => whnf
  exact ⟨n, _, by omega, Wk.narrow _ [0, 3] [1000000] [21], p4, out ++ [Node.mk f2 ks2], v, Eq.trans rfl (congrArg (fun X => (⟨23, [(0, .ptr 1000000 0), (3, .own 21)], [(1000000, (105, parCells L p4))], [(21, ⟨12, 27, v, X⟩)], []⟩ : St)) (rowsN_snoc out (Node.mk f2 ks2))), (hto.trans hp3).trans hsq4, hP, by omega, by omega, by rw [List.length_append]; simp only [List.length_cons, List.length_nil]; omega⟩
/-- All, whatever the fuel. -/
theorem par_h (L : List Tok) (hL : L.length ≤ 100000) : ∀ k, ThingH L k ∧ SeqH L k ∧ AltH L k := by
  intro k
  induction k using Nat.strongRecOn with
  | _ k ih =>
    exact ⟨thing_h L hL k (fun j hj => ⟨(ih j hj).1, (ih j hj).2.2⟩), seq_h L hL k (fun j hj => (ih j hj).1), alt_h L hL k (fun j hj => (ih j hj).2.1)⟩
structure ParR where
  n : Node
  e : Int
  at_ : Int
@[reducible] def parE (r : ParR) : SV := .tuple [r.n.enc, iv r.e, iv r.at_]
def par0 : Par := ⟨0, 0, 0, 0⟩
def parFuel (L : List Tok) : Nat := 4 * L.length + 2
def parDone (L : List Tok) (p : Par) : Par := if p.e = 0 ∧ p.i < L.length then failP p 31 (rdt L p.i).at_ else p
def parseP (L : List Tok) (end_ : Int) : ParR :=
  if (parDone L (altF L (parFuel L) par0).2).e = 20 then ⟨nodeZ, (parDone L (altF L (parFuel L) par0).2).e, end_⟩
  else if (parDone L (altF L (parFuel L) par0).2).e ≠ 0 then ⟨nodeZ, (parDone L (altF L (parFuel L) par0).2).e, (parDone L (altF L (parFuel L) par0).2).at_⟩
  else ⟨oneN 13 (altF L (parFuel L) par0).1, 0, 0⟩
theorem parse_c (L : List Tok) (end_ : Int) (hL : L.length ≤ 100000) : VCalls Try.prog 40 [toksE L, iv end_] (fun r => r = parE (parseP L end_)) := by
  have hl := tk_len L
  have hok0 : ParOk L par0 := ⟨by decide, by show (0 : Int) ≤ _; omega, by decide, by decide⟩
  have hA := (par_h L hL (parFuel L)).2.2 par0 hok0 (by unfold parMu parFuel par0; simp)
  have hto := alt_ok (parFuel L) hok0
  have hal := altF_len L (parFuel L) par0 hok0
  obtain ⟨G, hG⟩ : ∃ G, parseP L end_ = G := ⟨_, rfl⟩
  rw [hG]
  unfold parseP at hG
  generalize altF L (parFuel L) par0 = r at *
  obtain ⟨l, p⟩ := r
  simp only at hto hal hG hA
  have hok := hto.ok
  have h0 := hok.i0
  have h1 := hok.i1
  rw [toksE_tk]
  refine VCalls.ofr tabOk Try.func40 (by decide) rfl rfl ?_
  refine RWP.seqx tabOk orders ?_
  conv => whnf
  refine RWP.seqx tabOk orders ?_
  conv => whnf
  refine RWP.seqx tabOk orders ?_
  conv => whnf
  (refine HQ.use (hA) ⟨fun _ => 11, id, id⟩ ⟨rfl, rfl⟩ rfl rfl (by first | exact ⟨⟨rfl, rfl⟩, trivial⟩ | exact ⟨⟨rfl, rfl⟩, ⟨rfl, rfl⟩, trivial⟩) (by first | exact trivial | exact ⟨⟨rfl, rfl⟩, trivial⟩ | exact ⟨⟨rfl, rfl⟩, ⟨rfl, rfl⟩, trivial⟩) (by first | exact trivial | exact ⟨⟨rfl, rfl⟩, trivial⟩) ?_; rintro _ _ ⟨rfl, rfl⟩; refine ⟨⟨rfl, rfl, rfl⟩, ?_⟩)
  conv => whnf
  refine RWP.cut (fun st => st = ⟨65, [(1, .pv (iv end_)), (4, .ptr 4 0), (7, .ptr 11 0), (8, .pv (nodesE l))], [(4, (27, nzero)), (11, (105, parCells L (parDone L p)))], [], []⟩) tabOk orders ?_ ?_
  · repeat' ((conv => whnf); (first
    | (with_reducible first | refine Spl.yes ?_ | refine Spl.no ?_ | refine Spl.dec (fun h => ?_) (fun h => ?_) | refine Spl.eq (fun h => ?_) (fun h => ?_) | refine Spl.ne (fun h => ?_) (fun h => ?_) | refine Spl.seq (fun h => ?_) (fun h => ?_) | refine Spl.not ?_ | refine Spl.any (fun h => ?_) (fun h => ?_))
    | (refine HQ.use (fail_h L p 31 (rdt L p.i).at_) ⟨fun _ => 11, id, id⟩ ⟨rfl, rfl⟩ rfl rfl (by first | exact ⟨⟨rfl, rfl⟩, trivial⟩ | exact ⟨⟨rfl, rfl⟩, ⟨rfl, rfl⟩, trivial⟩) (by first | exact trivial | exact ⟨⟨rfl, rfl⟩, trivial⟩ | exact ⟨⟨rfl, rfl⟩, ⟨rfl, rfl⟩, trivial⟩) (by first | exact trivial | exact ⟨⟨rfl, rfl⟩, trivial⟩) ?_; rintro _ _ ⟨rfl, rfl⟩; refine ⟨⟨rfl, rfl, rfl⟩, ?_⟩)
    | (rw [tk_get (by omega)])
    | ((with_reducible apply And.intro); first | omega | rfl | (dsimp only; omega))))
    all_goals (conv => whnf)
    all_goals (unfold parDone)
    all_goals first
      | exact ⟨_, Wk.narrow _ [1, 4, 7, 8] [4, 11] [], by rw [if_pos ⟨by assumption, by omega⟩]; rfl⟩
      | exact ⟨_, Wk.narrow _ [1, 4, 7, 8] [4, 11] [], by rw [if_neg (by omega)]; rfl⟩

  rintro _ rfl
  generalize parDone L p = q at *
  obtain ⟨f1, k1, hone⟩ := (oneN 13 l).ex
  have hcone := one_c 13 l (by omega)
  rw [hone] at hcone hG
  refine RWP.of tabOk orders ?_
  repeat' ((conv => whnf); (first
    | (with_reducible first | refine Spl.yes ?_ | refine Spl.no ?_ | refine Spl.dec (fun h => ?_) (fun h => ?_) | refine Spl.eq (fun h => ?_) (fun h => ?_) | refine Spl.ne (fun h => ?_) (fun h => ?_) | refine Spl.seq (fun h => ?_) (fun h => ?_) | refine Spl.not ?_ | refine Spl.any (fun h => ?_) (fun h => ?_))
    | (refine VCalls.mono (hcone) ?_; rintro _ rfl)
    | refine drawn_text (by decide +kernel) ?_
    | refine drawn_plan (.one 0 (.one 1 (.one 2 (.one 3 (.one 5 (.two 4 (.ofList [6, 7, 8]) 6 (.ofList [4, 7, 8]))))))) (by decide +kernel) ?_
    | refine drawn_plan (.one 0 (.one 1 (.one 2 (.one 3 (.one 5 (.one 6 (.one 7 (.three 4 (.two 8 (.ofList [9, 10, 11]) 9 (.ofList [8, 10, 11])) 8 (.two 4 (.ofList [9, 10, 11]) 9 (.ofList [4, 10, 11])) 9 (.ofList [4, 8, 10, 11]))))))))) (by decide +kernel) ?_
    | refine Fork.mk ?_ ?_
    | refine And.intro (Nat.le_of_ble_eq_true rfl) ?_
    | ((with_reducible apply And.intro); first | omega | rfl | (dsimp only; omega))))
  all_goals (conv => whnf)
  all_goals (subst hG)
  all_goals first
    | (apply fn_by (f := parE); (focus ((repeat (first | (apply ite_yes; (focus first | assumption | omega)) | (apply ite_no; (focus first | assumption | exact b_nt (by assumption) | exact b_nf (by assumption) | omega)) | (apply ite_yes; (focus (first | (simp [*]; done) | (simp [*, bs]; done)))) | (apply ite_no; (focus (first | (simp [*]; done) | (simp [*, bs]; done)))))); exact rfl)); rfl)

end Go.Proofs.Ytnoohgiecnmajaa.VC

/- Flags by definition: what a node becomes; rows. -/
namespace Go.Proofs.Ytnoohgiecnmajaa.VC
open Go Go.RowKit
set_option linter.unusedVariables false
set_option linter.unusedSimpArgs false
set_option maxHeartbeats 4000000

def seqN (l : List Node) : Node := if l.length = 1 then rdn l 0 else .mk { fZ with kind := 12 } l
def listN (n : Node) : List Node := if n.f.kind = 12 then n.kids else [n]
def turnP (f on off : Int) : Int := bAndNot (bOr f on) off
def setN (at_ : Int) (l : List (Int × Int)) : Node := .mk { fZ with kind := 2, at_ := at_, set := l } []
def lineN (c : Ctx) (at_ : Int) : Node :=
  .mk { fZ with kind := 17, at_ := at_ } [.mk { fZ with kind := 13, at_ := at_ } [seqN [setN at_ [(13, 13)], setN at_ [(10, 10)]], setN at_ (newP [(10, 13), (133, 133), (8232, 8233)] c.most)]]
def assertN (f : NodeF) (g : Int) : NodeF := if bAnd g 2 ≠ 0 ∧ f.n = 1 then { f with n := 9 } else if bAnd g 2 ≠ 0 ∧ f.n = 2 then { f with n := 10 } else f
def greedN (f : NodeF) (g : Int) : NodeF := if f.kind = 20 then (if bAnd g 16 ≠ 0 ∧ f.mode = 0 then { f with mode := 1 } else if bAnd g 16 ≠ 0 ∧ f.mode = 1 then { f with mode := 0 } else f) else f
def nodeS (c : Ctx) (f : NodeF) (ks : List Node) (g : Int) (R : Int → List Node × Int) : Node × Int :=
  if f.kind = 1 then (setN f.at_ (setP c [(f.c, f.c)] (bAnd g 1 != 0) false), g)
  else if f.kind = 2 then (setN f.at_ (setP c f.set (bAnd g 1 != 0) f.neg), g)
  else if f.kind = 3 then (if bAnd g 4 = 0 then (setN f.at_ (setP c [(10, 10)] false true), g) else (setN f.at_ (setP c [] false true), g))
  else if f.kind = 4 then (.mk (assertN f g) ks, g)
  else if f.kind = 6 then (lineN c f.at_, g)
  else if f.kind = 7 then (.mk { f with on := bAnd g 1 } ks, g)
  else if f.kind = 11 then (.mk { fZ with kind := 12 } [], turnP g f.on f.off)
  else if f.kind = 12 then (seqN ((R g).1.flatMap listN), (R g).2)
  else if f.kind = 13 then (.mk f (R g).1, (R g).2)
  else if f.kind = 15 then (rdn (R (turnP g f.on f.off)).1 0, g)
  else (.mk (greedN f g) (R g).1, g)
mutual
def nodeR (c : Ctx) : Node → Int → Node × Int
  | .mk f ks, g => nodeS c f ks g (fun h => rowR c ks h)
def rowR (c : Ctx) : List Node → Int → List Node × Int
  | [], g => ([], g)
  | k :: l, g => ((nodeR c k g).1 :: (rowR c l (nodeR c k g).2).1, (rowR c l (nodeR c k g).2).2)
end
theorem rowR_nil (c : Ctx) (g : Int) : rowR c [] g = ([], g) := by simp [rowR]
theorem rowR_len (c : Ctx) : ∀ (l : List Node) (g : Int), (rowR c l g).1.length = l.length
  | [], g => by simp [rowR]
  | k :: l, g => by simp [rowR, rowR_len c l]
theorem rowR_snoc (c : Ctx) (k : Node) : ∀ (l : List Node) (g : Int), rowR c (l ++ [k]) g = ((rowR c l g).1 ++ [(nodeR c k (rowR c l g).2).1], (nodeR c k (rowR c l g).2).2)
  | [], g => by simp [rowR]
  | x :: l, g => by simp [rowR, rowR_snoc c k l]
theorem take_stepN {l : List Node} {j : Int} (h0 : 0 ≤ j) (h : j < l.length) : l.take (j + 1).toNat = l.take j.toNat ++ [rdn l j] := by
  have e : (j + 1).toNat = j.toNat + 1 := by omega
  rw [e, List.take_add_one]
  simp [rdn, List.getD_eq_getElem?_getD, List.getElem?_eq_getElem (show j.toNat < l.length by omega)]
theorem seqN_c (l : List Node) (hl : l.length ≤ 100000000) : VCalls Try.prog 90 [nodesE l] (fun r => r = (seqN l).enc) := by
  have hn := rowsN_len l
  unfold seqN
  refine VCalls.ofr tabOk Try.func90 (by decide) rfl rfl ?_
  refine RWP.of tabOk orders ?_
  obtain ⟨f0, k0, h0⟩ := (rdn l 0).ex
  repeat' ((conv => whnf); (first
    | (with_reducible first | refine Spl.yes ?_ | refine Spl.no ?_ | refine Spl.dec (fun h => ?_) (fun h => ?_) | refine Spl.eq (fun h => ?_) (fun h => ?_) | refine Spl.ne (fun h => ?_) (fun h => ?_) | refine Spl.seq (fun h => ?_) (fun h => ?_) | refine Spl.not ?_ | refine Spl.any (fun h => ?_) (fun h => ?_))
    | (rw [rowsN_get (by omega)])
    | (rw [h0])
    | refine And.intro (Nat.le_of_ble_eq_true rfl) ?_
    | ((with_reducible apply And.intro); first | omega | rfl | (dsimp only; omega))))
  all_goals (conv => whnf)
  · rw [if_pos (by omega)]; rfl
  · rw [if_neg (by omega)]; rfl
theorem listN_c (n : Node) : VCalls Try.prog 92 [n.enc] (fun r => r = nodesE (listN n)) := by
  obtain ⟨f, ks⟩ := n
  unfold listN
  refine VCalls.ofr tabOk Try.func92 (by decide) rfl rfl ?_
  refine RWP.of tabOk orders ?_
  repeat' ((conv => whnf); (first
    | (with_reducible first | refine Spl.yes ?_ | refine Spl.no ?_ | refine Spl.dec (fun h => ?_) (fun h => ?_) | refine Spl.eq (fun h => ?_) (fun h => ?_) | refine Spl.ne (fun h => ?_) (fun h => ?_) | refine Spl.seq (fun h => ?_) (fun h => ?_) | refine Spl.not ?_ | refine Spl.any (fun h => ?_) (fun h => ?_))
    | refine And.intro (Nat.le_of_ble_eq_true rfl) ?_
    | ((with_reducible apply And.intro); first | omega | rfl | (dsimp only; omega))))
  all_goals (conv => whnf)
  · rw [if_pos (show (Node.mk f ks).f.kind = 12 by assumption)]; rfl
  · rw [if_neg (show ¬ (Node.mk f ks).f.kind = 12 by assumption)]; rfl
def Ty2 (r : Node × Int) : SV := .tuple [r.1.enc, iv r.2]
def NodeC (c : Ctx) (n : Node) : Prop := ∀ g, VCalls Try.prog 67 [c.enc, n.enc, iv g] (fun r => r = Ty2 (nodeR c n g))
attribute [local irreducible] nodeR rowR
theorem row_c (c : Ctx) (l : List Node) (hl : l.length ≤ 1000000) (ih : ∀ n ∈ l, NodeC c n) (g : Int) : VCalls Try.prog 93 [c.enc, nodesE l, iv g] (fun r => r = .tuple [nodesE (rowR c l g).1, iv (rowR c l g).2]) := by
  have hn := rowsN_len l
  obtain ⟨utf, most⟩ := c
  refine VCalls.ofr tabOk Try.func93 (by decide) rfl rfl ?_
  refine RWP.seqx tabOk orders ?_
  conv => whnf
  refine RWP.seqx tabOk orders ?_
  conv => whnf
  refine RWP.seq ?_
  refine RWP.seqx tabOk orders ?_
  conv => whnf
  refine RWP.block ?_
  refine RWP.loop (fun k st => ∃ (j : Int) (v : Bool), st = ⟨35, [(1, .pv (nodesE l)), (2, .pv (iv (rowR ⟨utf, most⟩ (l.take j.toNat) g).2)), (3, .ptr 3 0), (8, .own 32), (9, .pv (iv j))], [(3, (110, [.pv (bv utf), .pv (iv most)]))], [(32, ⟨12, 27, v, rowsN (rowR ⟨utf, most⟩ (l.take j.toNat) g).1⟩)], []⟩ ∧ 0 ≤ j ∧ j ≤ l.length ∧ k = (l.length - j).toNat)
    ⟨_, _, Wk.trans (Wk.ownNil (t := 8) (k := 32) (sz := 12) (e := 27) rfl) (Wk.narrow _ [1, 2, 3, 8, 9] [3] [32]), 0, true, Eq.trans rfl (congrArg (fun (X : List Node × Int) => (⟨35, [(1, .pv (nodesE l)), (2, .pv (iv X.2)), (3, .ptr 3 0), (8, .own 32), (9, .pv (iv 0))], [(3, (110, [.pv (bv utf), .pv (iv most)]))], [(32, ⟨12, 27, true, rowsN X.1⟩)], []⟩ : St)) (rowR_nil ⟨utf, most⟩ g).symm), by omega, by omega, rfl⟩ ?_
  rintro k st ⟨j, v, rfl, hj0, hj1, hk⟩
  have hlj := rowR_len ⟨utf, most⟩ (l.take j.toNat) g
  have hll := rowsN_len (rowR ⟨utf, most⟩ (l.take j.toNat) g).1
  rw [List.length_take] at hlj
  refine RWP.seqx tabOk orders ?_
  repeat' ((conv => whnf); (first
    | (with_reducible first | refine Spl.yes ?_ | refine Spl.no ?_ | refine Spl.dec (fun h => ?_) (fun h => ?_) | refine Spl.eq (fun h => ?_) (fun h => ?_) | refine Spl.ne (fun h => ?_) (fun h => ?_) | refine Spl.seq (fun h => ?_) (fun h => ?_) | refine Spl.not ?_ | refine Spl.any (fun h => ?_) (fun h => ?_))
    | ((with_reducible apply And.intro); first | omega | rfl | (dsimp only; omega))))
  all_goals (conv => whnf)
  rotate_left
  · have e : j = l.length := by omega
    subst e
    rw [Int.toNat_natCast, List.take_length]
    refine RWP.of tabOk orders ?_
    conv => whnf
    rfl
  have hsn := rowR_snoc ⟨utf, most⟩ (rdn l j) (l.take j.toNat) g
  rw [← take_stepN hj0 (by omega)] at hsn
  have hc := ih (rdn l j) (by unfold rdn; rw [List.getD_eq_getElem?_getD, List.getElem?_eq_getElem (show j.toNat < l.length by omega)]; exact List.getElem_mem _) (rowR ⟨utf, most⟩ (l.take j.toNat) g).2
  generalize rowR ⟨utf, most⟩ (l.take j.toNat) g = r at *
  obtain ⟨o, h⟩ := r
  unfold Ty2 at hc
  simp only at hsn hc hll hlj
  generalize nodeR ⟨utf, most⟩ (rdn l j) h = r2 at *
  obtain ⟨⟨f2, k2⟩, g2⟩ := r2
  obtain ⟨f3, k3, h3⟩ := (rdn l j).ex
  rw [h3] at hc
  simp only at hsn hc
  refine RWP.of tabOk orders ?_
  repeat' ((conv => whnf); (first
    | (with_reducible first | refine Spl.yes ?_ | refine Spl.no ?_ | refine Spl.dec (fun h => ?_) (fun h => ?_) | refine Spl.eq (fun h => ?_) (fun h => ?_) | refine Spl.ne (fun h => ?_) (fun h => ?_) | refine Spl.seq (fun h => ?_) (fun h => ?_) | refine Spl.not ?_ | refine Spl.any (fun h => ?_) (fun h => ?_))
    | (rw [rowsN_get (by omega)])
    | (rw [h3])
    | (refine VCalls.mono (hc) ?_; rintro _ rfl)
    | refine drawn_plan (.one 0 (.one 1 (.one 2 (.one 3 (.one 4 (.one 5 (.two 6 (.ofList [7, 8, 9, 10, 11, 12]) 10 (.ofList [6, 7, 8, 9, 11, 12])))))))) (by decide +kernel) ?_
    | refine Fork.mk ?_ ?_
    | refine And.intro (Nat.le_of_ble_eq_true rfl) ?_
    | refine And.intro (by show ((rowsN o).length + 1) * 136 ≤ 140737488355328; omega) ?_
    | ((with_reducible apply And.intro); first | omega | rfl | (dsimp only; omega))))
  all_goals (conv => whnf)
  all_goals exact ⟨(l.length - (j + 1)).toNat, _, by omega, Wk.narrow _ [1, 2, 3, 8, 9] [3] [32], j + 1, v, Eq.trans rfl (congrArg (fun (X : List (List SV) × Int) => (⟨35, [(1, .pv (nodesE l)), (2, .pv (iv X.2)), (3, .ptr 3 0), (8, .own 32), (9, .pv (iv (j + 1)))], [(3, (110, [.pv (bv utf), .pv (iv most)]))], [(32, ⟨12, 27, v, X.1⟩)], []⟩ : St)) (show (rowsN o ++ [(Node.mk f2 k2).cells], g2) = (rowsN (rowR ⟨utf, most⟩ (l.take (j + 1).toNat) g).1, (rowR ⟨utf, most⟩ (l.take (j + 1).toNat) g).2) by rw [hsn, rowsN_snoc])), by omega, by omega, rfl⟩
end Go.Proofs.Ytnoohgiecnmajaa.VC

