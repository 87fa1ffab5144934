/- A part of the ground of the proof. No condition. -/
import Derived.Test.YtnoohgiecnmajaaGE18

/- Sets of characters: joined, both, not. -/
namespace Go.Proofs.Ytnoohgiecnmajaa.VC
open Go Go.RowKit
set_option linter.unusedVariables false
set_option linter.unusedSimpArgs false
set_option maxHeartbeats 4000000

def keepP (kind : Int) (a b : List (Int × Int)) (c : Int) : Bool :=
  if kind = 2 then !inP a c else if kind = 1 then (if inP a c = true then inP b c else false) else if inP a c = true then true else inP b c
/-- The last one made longer, or a new one. -/
def glueB (o : List (Int × Int)) (lo : Int) : Bool := if o.length > 0 then decide ((rdp o (o.length - 1)).2 + 1 = lo) else false
def glue (o : List (Int × Int)) (lo hi : Int) : List (Int × Int) :=
  if glueB o lo = true then o.set (o.length - 1) ((rdp o (o.length - 1)).1, hi) else o ++ [(lo, hi)]
def joinL (kind : Int) (a b : List (Int × Int)) : List Int → List (Int × Int) → List (Int × Int)
  | x :: y :: r, out => joinL kind a b (y :: r) (if keepP kind a b x = true then glue out x (y - 1) else out)
  | _, out => out
def joinP (kind : Int) (a b : List (Int × Int)) (most : Int) : List (Int × Int) := joinL kind a b (edgesP (a ++ b) most) []
theorem glue_len (o : List (Int × Int)) (lo hi : Int) : (glue o lo hi).length ≤ o.length + 1 := by
  unfold glue
  split
  · simp
  · simp
theorem joinL_len (kind : Int) (a b : List (Int × Int)) : ∀ (E : List Int) (o : List (Int × Int)), (joinL kind a b E o).length ≤ o.length + E.length
  | [], o => by simp [joinL]
  | [x], o => by simp [joinL]
  | x :: y :: r, o => by
    rw [joinL]
    have := joinL_len kind a b (y :: r) (if keepP kind a b x = true then glue o x (y - 1) else o)
    have h2 := glue_len o x (y - 1)
    have h3 : (if keepP kind a b x = true then glue o x (y - 1) else o).length ≤ o.length + 1 := by split <;> omega
    simp only [List.length_cons] at this ⊢
    omega
theorem edgesP_len (l : List (Int × Int)) (m : Int) : (edgesP l m).length ≤ 2 * l.length + 2 := by
  unfold edgesP
  generalize (if m > 1114111 then 1114111 else m) = most
  simp only
  split
  · simp
  · have : ∀ (l : List (Int × Int)) (o : List Int), (l.foldl (edgeStep most) o).length ≤ 2 * l.length + o.length := by
      intro l
      induction l with
      | nil => intro o; simp
      | cons p l ih =>
        intro o
        have h1 := ih (edgeStep most o p)
        have h2 := edgeStep_len most o p
        simp only [List.foldl_cons, List.length_cons]
        omega
    have h := this l [0, most + 1]
    simpa using h
theorem joinP_len (kind : Int) (a b : List (Int × Int)) (most : Int) : (joinP kind a b most).length ≤ 2 * (a.length + b.length) + 2 := by
  unfold joinP
  have h1 := joinL_len kind a b (edgesP (a ++ b) most) []
  have h2 := edgesP_len (a ++ b) most
  simp at h1 h2
  omega
/-- All edges lie where numbers are small. -/
def Near (E : List Int) : Prop := ∀ x ∈ E, 0 ≤ x ∧ x ≤ 1114112
theorem near_putP {n : Int} (hn : 0 ≤ n ∧ n ≤ 1114112) : ∀ {l : List Int}, Near l → Near (putP n l)
  | [], h => by intro x hx; simp [putP] at hx; subst hx; exact hn
  | y :: l, h => by
    unfold putP
    split
    · intro x hx
      rcases List.mem_cons.1 hx with rfl | hx
      · exact h _ (List.mem_cons_self ..)
      · exact near_putP hn (fun z hz => h z (List.mem_cons_of_mem _ hz)) x hx
    split
    · exact h
    · intro x hx
      rcases List.mem_cons.1 hx with rfl | hx
      · exact hn
      · exact h x hx
theorem near_edges (l : List (Int × Int)) (m : Int) : Near (edgesP l m) := by
  unfold edgesP
  have h1 : (if m > 1114111 then 1114111 else m) ≤ 1114111 := by split <;> omega
  generalize (if m > 1114111 then 1114111 else m) = most at *
  simp only
  split
  · intro x hx; simp at hx
  · rename_i h0
    have : ∀ (l : List (Int × Int)) (o : List Int), Near o → Near (l.foldl (edgeStep most) o) := by
      intro l
      induction l with
      | nil => intro o h; exact h
      | cons p l ih =>
        intro o h
        rw [List.foldl_cons]
        refine ih _ ?_
        unfold edgeStep
        simp only
        have ha : Near (if p.1 > 0 ∧ p.1 ≤ most then putP p.1 o else o) := by
          split
          · exact near_putP ⟨by omega, by omega⟩ h
          · exact h
        split
        · exact near_putP ⟨by omega, by omega⟩ ha
        · exact ha
    exact this l _ (by intro x hx; simp at hx; omega)
theorem near_rd {E : List Int} (h : Near E) {j : Int} (h0 : 0 ≤ j) (h1 : j < E.length) : 0 ≤ rd1 E j ∧ rd1 E j ≤ 1114112 := by
  apply h
  unfold rd1
  rw [List.getD_eq_getElem?_getD, List.getElem?_eq_getElem (by omega)]
  simp
theorem edges_c2 (a b : List (Int × Int)) (m : Int) (hl : a.length + b.length ≤ 4000000000) : VCalls Try.prog 128 [.sl 2 (rows2 a ++ rows2 b), iv m] (fun r => r = is (edgesP (a ++ b) m)) := by
  have h := edges_c (a ++ b) m (by simp; omega)
  have e : rs (a ++ b) = .sl 2 (rows2 a ++ rows2 b) := by simp [rs, rows2]
  rwa [e] at h
/-- Ranges that are near. -/
def Small2 (o : List (Int × Int)) : Prop := ∀ p ∈ o, -10 ≤ p.1 ∧ p.1 ≤ 1114120 ∧ -10 ≤ p.2 ∧ p.2 ≤ 1114120
theorem Small2.rd {o : List (Int × Int)} (h : Small2 o) {j : Int} (h0 : 0 ≤ j) (h1 : j < o.length) : -10 ≤ (rdp o j).1 ∧ (rdp o j).1 ≤ 1114120 ∧ -10 ≤ (rdp o j).2 ∧ (rdp o j).2 ≤ 1114120 := by
  apply h
  unfold rdp
  rw [List.getD_eq_getElem?_getD, List.getElem?_eq_getElem (by omega)]
  simp
theorem small2_glue {o : List (Int × Int)} (h : Small2 o) {lo hi : Int} (hl : 0 ≤ lo ∧ lo ≤ 1114112) (hh : 0 ≤ hi ∧ hi ≤ 1114112) : Small2 (glue o lo (hi - 1)) := by
  unfold glue
  split
  · rename_i hg
    have hp : o.length > 0 := by unfold glueB at hg; by_cases q : o.length > 0; exact q; rw [if_neg q] at hg; cases hg
    have hr := h.rd (j := o.length - 1) (by omega) (by omega)
    intro p hp
    rcases List.mem_or_eq_of_mem_set hp with q | q
    · exact h p q
    · subst q; simp only; omega
  · intro p hp
    rcases List.mem_append.1 hp with q | q
    · exact h p q
    · simp at q; subst q; simp only; omega
theorem xl_row {ti : TI} {off : Nat} {X : List (List SV)} {n : Nat} {r : List SV} {K : FE → List Nat → Prop} (h : X.getD n [] = r) (k : xloadR ti (List.drop off r) K) : xloadR ti (List.drop off (X.getD n [])) K := by rw [h]; exact k
theorem rows2_set (o : List (Int × Int)) (n : Nat) (p : Int × Int) : (rows2 o).set n [iv p.1, iv p.2] = rows2 (o.set n p) := by simp [rows2, List.map_set]
theorem rows2_snoc (o : List (Int × Int)) (p : Int × Int) : rows2 o ++ [[iv p.1, iv p.2]] = rows2 (o ++ [p]) := by simp [rows2]
attribute [local irreducible] isP numP signedP nameTo nameAt nameOk byteAt charP stopAt hexaP seqP atP nextP codeOf
attribute [local irreducible] inP keepP glueB glue
set_option maxHeartbeats 8000000
theorem join_c (kind : Int) (a b : List (Int × Int)) (most : Int) (ha : a.length ≤ 2000000000) (hb : b.length ≤ 2000000000) : VCalls Try.prog 117 [iv kind, rs a, rs b, iv most] (fun r => r = rs (joinP kind a b most)) := by
  have hla := rows2_len a
  have hlb := rows2_len b
  refine VCalls.ofr tabOk Try.func117 (by decide) rfl rfl ?_
  refine RWP.seqx tabOk orders ?_
  conv => whnf
  refine RWP.seqx tabOk orders ?_
  conv => whnf
  refine RWP.seqx tabOk orders ?_
  repeat' ((conv => whnf); (first
    | (with_reducible first | refine Spl.yes ?_ | refine Spl.no ?_ | refine Spl.dec (fun h => ?_) (fun h => ?_) | refine Spl.eq (fun h => ?_) (fun h => ?_) | refine Spl.ne (fun h => ?_) (fun h => ?_) | refine Spl.seq (fun h => ?_) (fun h => ?_) | refine Spl.not ?_ | refine Spl.any (fun h => ?_) (fun h => ?_))
    | ((with_reducible apply And.intro); first | omega | rfl | (dsimp only; omega))
    | refine And.intro (by simp [ti74]; omega) ?_))
  conv => whnf
  refine RWP.seqx tabOk orders ?_
  repeat' ((conv => whnf); (first
    | (with_reducible first | refine Spl.yes ?_ | refine Spl.no ?_ | refine Spl.dec (fun h => ?_) (fun h => ?_) | refine Spl.eq (fun h => ?_) (fun h => ?_) | refine Spl.ne (fun h => ?_) (fun h => ?_) | refine Spl.seq (fun h => ?_) (fun h => ?_) | refine Spl.not ?_ | refine Spl.any (fun h => ?_) (fun h => ?_))
    | ((with_reducible apply And.intro); first | omega | rfl | (dsimp only; omega))
    | refine And.intro (by simp [ti74]; omega) ?_))
  conv => whnf
  refine RWP.seqx tabOk orders ?_
  conv => whnf
  refine VCalls.mono (edges_c2 a b most (by omega)) ?_; rintro _ rfl
  conv => whnf
  refine RWP.seqx tabOk orders ?_
  conv => whnf
  have hEl : (edgesP (a ++ b) most).length ≤ 10000000000 := by have := edgesP_len (a ++ b) most; simp at this; omega
  have hN := near_edges (a ++ b) most
  unfold joinP
  generalize hE : edgesP (a ++ b) most = E at *
  have hlE := rows1_len E
  refine RWP.seq ?_
  refine RWP.seqx tabOk orders ?_
  conv => whnf
  refine RWP.block ?_
  refine RWP.loop (fun k st => ∃ (j : Int) (o : List (Int × Int)), st = ⟨105, [(0, .pv (iv kind)), (1, .pv (rs a)), (2, .pv (rs b)), (10, .pv (is E)), (11, .own 103), (12, .pv (iv j))], [], [(103, ⟨2, 74, true, rows2 o⟩)], []⟩ ∧ 0 ≤ j ∧ j ≤ E.length ∧ k = (E.length - j).toNat ∧ o.length ≤ j ∧ Small2 o ∧ joinL kind a b E [] = joinL kind a b (E.drop j.toNat) o)
    ⟨_, _, Wk.trans (Wk.ownNil (t := 11) (k := 103) (sz := 2) (e := 74) rfl) (Wk.narrow _ [0, 1, 2, 10, 11, 12] [] [103]), 0, [], rfl, by omega, by omega, rfl, by simp, by intro p hp; simp at hp, rfl⟩ ?_
  rintro k st ⟨j, o, rfl, hj0, hj1, hk, ho, hS, hP⟩
  have hlo := rows2_len o
  have key : j + 1 < E.length → ∀ o', o' = (if keepP kind a b (rd1 E j) = true then glue o (rd1 E j) (rd1 E (j + 1) - 1) else o) → joinL kind a b E [] = joinL kind a b (E.drop (j + 1).toNat) o' := by
    intro hj o' e
    rw [hP, drop_step1 hj0 (by omega), drop_step1 (j := j + 1) (by omega) hj, joinL, e]
  refine RWP.seqx tabOk orders ?_
  repeat' ((conv => whnf); (first
    | (with_reducible first | refine Spl.yes ?_ | refine Spl.no ?_ | refine Spl.dec (fun h => ?_) (fun h => ?_) | refine Spl.eq (fun h => ?_) (fun h => ?_) | refine Spl.ne (fun h => ?_) (fun h => ?_) | refine Spl.seq (fun h => ?_) (fun h => ?_) | refine Spl.not ?_ | refine Spl.any (fun h => ?_) (fun h => ?_))
    | ((with_reducible apply And.intro); first | omega | rfl | (dsimp only; omega))))
  all_goals (conv => whnf)
  rotate_left
  · refine RWP.seqx tabOk orders ?_
    conv => whnf
    have e : joinL kind a b E [] = o := by
      rw [hP]
      by_cases q : j < E.length
      · rw [drop_step1 hj0 q, List.drop_eq_nil_of_le (by omega)]; rfl
      · rw [List.drop_eq_nil_of_le (by omega)]; rfl
    rw [e]
    refine RWP.of tabOk orders ?_
    conv => whnf
    rfl
  have hj2 : j + 1 < E.length := by omega
  have hn1 := near_rd hN hj0 (by omega)
  have hn2 := near_rd hN (j := j + 1) (by omega) (by omega)
  replace key := key hj2
  refine RWP.cutr (fun st => st = ⟨105, [(0, .pv (iv kind)), (1, .pv (rs a)), (2, .pv (rs b)), (10, .pv (is E)), (11, .own 103), (12, .pv (iv j))], [], [(103, ⟨2, 74, true, rows2 (if keepP kind a b (rd1 E j) = true then glue o (rd1 E j) (rd1 E (j + 1) - 1) else o)⟩)], []⟩) (RWP.block ?_) ?_
  rotate_left
  · rintro _ rfl
    generalize ho' : (if keepP kind a b (rd1 E j) = true then glue o (rd1 E j) (rd1 E (j + 1) - 1) else o) = o' at *
    have hl' : o'.length ≤ j + 1 := by
      have := glue_len o (rd1 E j) (rd1 E (j + 1) - 1)
      rw [← ho']
      split <;> omega
    have hS' : Small2 o' := by
      rw [← ho']
      split
      · exact small2_glue hS hn1 hn2
      · exact hS
    refine RWP.of tabOk orders ?_
    repeat ((conv => whnf); ((with_reducible apply And.intro); first | omega | rfl | (dsimp only; omega)))
    conv => whnf
    exact ⟨(E.length - (j + 1)).toNat, _, by omega, Wk.narrow _ [0, 1, 2, 10, 11, 12] [] [103], j + 1, o', rfl, by omega, by omega, rfl, hl', hS', key _ rfl⟩
  refine RWP.seqx tabOk orders ?_
  repeat' ((conv => whnf); (first
    | (rw [rows1_get (by omega)])
    | (refine VCalls.mono (in_c a (rd1 E j) (by omega)) ?_; rintro _ rfl)
    | ((with_reducible apply And.intro); first | omega | rfl | (dsimp only; omega))))
  conv => whnf
  refine RWP.seqx tabOk orders ?_
  repeat' ((conv => whnf); (first
    | (rw [rows1_get (by omega)])
    | (refine VCalls.mono (in_c b (rd1 E j) (by omega)) ?_; rintro _ rfl)
    | ((with_reducible apply And.intro); first | omega | rfl | (dsimp only; omega))))
  conv => whnf
  refine RWP.cut3 (fun st => st = ⟨105, [(0, .pv (iv kind)), (1, .pv (rs a)), (2, .pv (rs b)), (10, .pv (is E)), (11, .own 103), (12, .pv (iv j)), (15, .pv (bv (keepP kind a b (rd1 E j))))], [], [(103, ⟨2, 74, true, rows2 o⟩)], []⟩) tabOk orders ?_ ?_
  · generalize hx : inP a (rd1 E j) = x
    generalize hy : inP b (rd1 E j) = y
    repeat' ((conv => whnf); (first
      | (with_reducible first | refine Spl.yes ?_ | refine Spl.no ?_ | refine Spl.dec (fun h => ?_) (fun h => ?_) | refine Spl.eq (fun h => ?_) (fun h => ?_) | refine Spl.ne (fun h => ?_) (fun h => ?_) | refine Spl.seq (fun h => ?_) (fun h => ?_) | refine Spl.not ?_ | refine Spl.any (fun h => ?_) (fun h => ?_))
      | ((with_reducible apply And.intro); first | omega | rfl | (dsimp only; omega))))
    all_goals (conv => whnf)
    all_goals first
      | (exfalso; simp_all; done)
      | (refine ⟨_, Wk.narrow _ [0, 1, 2, 10, 11, 12, 15] [] [103], ?_⟩
         unfold keepP
         rw [hx, hy]
         simp [*]
         rfl)
  rintro _ rfl
  generalize hK : keepP kind a b (rd1 E j) = kp at *
  refine RWP.seqx tabOk orders ?_
  repeat' ((conv => whnf); (first
    | (with_reducible first | refine Spl.yes ?_ | refine Spl.no ?_ | refine Spl.dec (fun h => ?_) (fun h => ?_) | refine Spl.eq (fun h => ?_) (fun h => ?_) | refine Spl.ne (fun h => ?_) (fun h => ?_) | refine Spl.seq (fun h => ?_) (fun h => ?_) | refine Spl.not ?_ | refine Spl.any (fun h => ?_) (fun h => ?_))
    | ((with_reducible apply And.intro); first | omega | rfl | (dsimp only; omega))))
  all_goals (conv => whnf)
  rotate_left
  · exact ⟨_, Wk.narrow _ [0, 1, 2, 10, 11, 12] [] [103], by rw [if_neg (by simpa using h)]; rfl⟩
  rw [if_pos (by simpa using h)]
  refine RWP.seqx tabOk orders ?_
  conv => whnf
  refine drawn_text (by decide +kernel) ?_
  repeat' ((conv => whnf); (first
    | (with_reducible first | refine Spl.yes ?_ | refine Spl.no ?_ | refine Spl.dec (fun h => ?_) (fun h => ?_) | refine Spl.eq (fun h => ?_) (fun h => ?_) | refine Spl.ne (fun h => ?_) (fun h => ?_) | refine Spl.seq (fun h => ?_) (fun h => ?_) | refine Spl.not ?_ | refine Spl.any (fun h => ?_) (fun h => ?_))
    | (rw [rows2_get (by (try dsimp only at *); omega)])
    | (rw [rows1_get (by omega)])
    | (refine And.intro (by (try dsimp only at *); have q := hS.rd (j := ((rows2 o).length : Int) - 1) (by omega) (by omega); omega) ?_)
    | ((with_reducible apply And.intro); first | omega | rfl | (dsimp only; omega))))
  all_goals (refine RWP.of tabOk orders ?_)
  all_goals (try dsimp only at *)
  · have q := hS.rd (j := (o.length : Int) - 1) (by omega) (by omega)
    have hi : (((rows2 o).length : Int) - 1).toNat = o.length - 1 := by omega
    have key2 : (rdp o (o.length - 1)).2 + 1 = rd1 E j → (rows2 o).set (((rows2 o).length : Int) - 1).toNat [iv (rdp o (((rows2 o).length : Int) - 1)).1, iv (rd1 E (j + 1) - 1)] = rows2 (glue o (rd1 E j) (rd1 E (j + 1) - 1)) := by
      intro hh
      rw [hi, hlo]
      have hg : glue o (rd1 E j) (rd1 E (j + 1) - 1) = o.set (o.length - 1) ((rdp o (o.length - 1)).1, rd1 E (j + 1) - 1) := by
        have h0 : o.length > 0 := by omega
        simp only [glue, glueB, if_pos h0, decide_eq_true hh, if_true]
      rw [hg, ← rows2_set]
    have key3 : (rdp o (o.length - 1)).2 + 1 ≠ rd1 E j → rows2 o ++ [[iv (rd1 E j), iv (rd1 E (j + 1) - 1)]] = rows2 (glue o (rd1 E j) (rd1 E (j + 1) - 1)) := by
      intro hh
      have hg : glue o (rd1 E j) (rd1 E (j + 1) - 1) = o ++ [(rd1 E j, rd1 E (j + 1) - 1)] := by
        have h0 : o.length > 0 := by omega
        simp only [glue, glueB, if_pos h0, decide_eq_false hh, Bool.false_eq_true, if_false]
      rw [hg, ← rows2_snoc]
    rw [hlo]
    repeat' ((conv => whnf); (first
      | (with_reducible first | refine Spl.yes ?_ | refine Spl.no ?_ | refine Spl.dec (fun h => ?_) (fun h => ?_) | refine Spl.eq (fun h => ?_) (fun h => ?_) | refine Spl.ne (fun h => ?_) (fun h => ?_) | refine Spl.seq (fun h => ?_) (fun h => ?_) | refine Spl.not ?_ | refine Spl.any (fun h => ?_) (fun h => ?_))
      | refine drawn_text (by decide +kernel) ?_
      | (rw [rows2_get (by (try dsimp only at *); omega)])
      | (rw [rows1_get (by omega)])
      | (refine And.intro (by show ((rows2 o).length + 1) * 16 ≤ 140737488355328; omega) ?_)
      | ((with_reducible apply And.intro); first | omega | rfl | (dsimp only; omega))))
    all_goals (conv => whnf)
    · exact ⟨_, Wk.narrow _ [0, 1, 2, 10, 11, 12] [] [103], Eq.trans rfl (congrArg (fun X => (⟨105, [(0, .pv (iv kind)), (1, .pv (rs a)), (2, .pv (rs b)), (10, .pv (is E)), (11, .own 103), (12, .pv (iv j))], [], [(103, ⟨2, 74, true, X⟩)], []⟩ : St)) (key2 (by assumption)))⟩
    · exact ⟨_, Wk.narrow _ [0, 1, 2, 10, 11, 12] [] [103], Eq.trans rfl (congrArg (fun X => (⟨105, [(0, .pv (iv kind)), (1, .pv (rs a)), (2, .pv (rs b)), (10, .pv (is E)), (11, .own 103), (12, .pv (iv j))], [], [(103, ⟨2, 74, true, X⟩)], []⟩ : St)) (key3 (by assumption)))⟩
  · have key3 : rows2 o ++ [[iv (rd1 E j), iv (rd1 E (j + 1) - 1)]] = rows2 (glue o (rd1 E j) (rd1 E (j + 1) - 1)) := by
      have hg : glue o (rd1 E j) (rd1 E (j + 1) - 1) = o ++ [(rd1 E j, rd1 E (j + 1) - 1)] := by
        have h0 : ¬ o.length > 0 := by omega
        simp only [glue, glueB, if_neg h0, Bool.false_eq_true, if_false]
      rw [hg, ← rows2_snoc]
    repeat' ((conv => whnf); (first
      | (with_reducible first | refine Spl.yes ?_ | refine Spl.no ?_ | refine Spl.dec (fun h => ?_) (fun h => ?_) | refine Spl.eq (fun h => ?_) (fun h => ?_) | refine Spl.ne (fun h => ?_) (fun h => ?_) | refine Spl.seq (fun h => ?_) (fun h => ?_) | refine Spl.not ?_ | refine Spl.any (fun h => ?_) (fun h => ?_))
      | refine drawn_text (by decide +kernel) ?_
      | (rw [rows2_get (by (try dsimp only at *); omega)])
      | (rw [rows1_get (by omega)])
      | (refine And.intro (by show ((rows2 o).length + 1) * 16 ≤ 140737488355328; omega) ?_)
      | ((with_reducible apply And.intro); first | omega | rfl | (dsimp only; omega))))
    all_goals (conv => whnf)
    exact ⟨_, Wk.narrow _ [0, 1, 2, 10, 11, 12] [] [103], Eq.trans rfl (congrArg (fun X => (⟨105, [(0, .pv (iv kind)), (1, .pv (rs a)), (2, .pv (rs b)), (10, .pv (is E)), (11, .own 103), (12, .pv (iv j))], [], [(103, ⟨2, 74, true, X⟩)], []⟩ : St)) key3)⟩
end Go.Proofs.Ytnoohgiecnmajaa.VC

/- Sets of characters: made; the table; names and escapes. -/
namespace Go.Proofs.Ytnoohgiecnmajaa.VC
open Go Go.RowKit
set_option linter.unusedVariables false
set_option linter.unusedSimpArgs false
set_option maxHeartbeats 4000000

def newP (l : List (Int × Int)) (m : Int) : List (Int × Int) := joinP 0 l [] m
theorem newP_len (l : List (Int × Int)) (m : Int) : (newP l m).length ≤ 2 * l.length + 2 := by
  have := joinP_len 0 l [] m
  unfold newP
  simpa using this
theorem new_c (l : List (Int × Int)) (m : Int) (hl : l.length ≤ 2000000000) : VCalls Try.prog 89 [rs l, iv m] (fun r => r = rs (newP l m)) := by
  refine VCalls.ofx tabOk orders Try.func89 (by decide) rfl rfl ?_
  repeat' ((conv => whnf); (first
    | (with_reducible first | refine Spl.yes ?_ | refine Spl.no ?_ | refine Spl.dec (fun h => ?_) (fun h => ?_) | refine Spl.eq (fun h => ?_) (fun h => ?_) | refine Spl.ne (fun h => ?_) (fun h => ?_) | refine Spl.seq (fun h => ?_) (fun h => ?_) | refine Spl.not ?_ | refine Spl.any (fun h => ?_) (fun h => ?_))
    | (refine VCalls.mono (join_c 0 l [] m hl (by simp)) ?_; rintro _ rfl)
    | ((with_reducible apply And.intro); first | omega | rfl | (dsimp only; omega))))
  all_goals (conv => whnf)
  rfl
theorem cut_c (x : Text) (l : List (Int × Int)) (hl : l.length ≤ 2000000000) : VCalls Try.prog 104 [x.enc, rs l] (fun r => r = rs (newP l x.most)) := by
  refine VCalls.ofx tabOk orders Try.func104 (by decide) rfl rfl ?_
  repeat' ((conv => whnf); (first
    | (with_reducible first | refine Spl.yes ?_ | refine Spl.no ?_ | refine Spl.dec (fun h => ?_) (fun h => ?_) | refine Spl.eq (fun h => ?_) (fun h => ?_) | refine Spl.ne (fun h => ?_) (fun h => ?_) | refine Spl.seq (fun h => ?_) (fun h => ?_) | refine Spl.not ?_ | refine Spl.any (fun h => ?_) (fun h => ?_))
    | (refine VCalls.mono (new_c l x.most hl) ?_; rintro _ rfl)
    | ((with_reducible apply And.intro); first | omega | rfl | (dsimp only; omega))))
  all_goals (conv => whnf)
  rfl
theorem not_c (x : Text) (l : List (Int × Int)) (hl : l.length ≤ 2000000000) : VCalls Try.prog 124 [x.enc, rs l] (fun r => r = rs (joinP 2 l [] x.most)) := by
  refine VCalls.ofx tabOk orders Try.func124 (by decide) rfl rfl ?_
  repeat' ((conv => whnf); (first
    | (with_reducible first | refine Spl.yes ?_ | refine Spl.no ?_ | refine Spl.dec (fun h => ?_) (fun h => ?_) | refine Spl.eq (fun h => ?_) (fun h => ?_) | refine Spl.ne (fun h => ?_) (fun h => ?_) | refine Spl.seq (fun h => ?_) (fun h => ?_) | refine Spl.not ?_ | refine Spl.any (fun h => ?_) (fun h => ?_))
    | (refine VCalls.mono (join_c 2 l [] x.most hl (by simp)) ?_; rintro _ rfl)
    | ((with_reducible apply And.intro); first | omega | rfl | (dsimp only; omega))))
  all_goals (conv => whnf)
  rfl
theorem one4_c (lo hi : Int) : VCalls Try.prog 129 [iv lo, iv hi] (fun r => r = rs [(lo, hi)]) := by
  refine VCalls.ofx tabOk orders Try.func129 (by decide) rfl rfl ?_
  repeat' ((conv => whnf); (first
    | (with_reducible first | refine Spl.yes ?_ | refine Spl.no ?_ | refine Spl.dec (fun h => ?_) (fun h => ?_) | refine Spl.eq (fun h => ?_) (fun h => ?_) | refine Spl.ne (fun h => ?_) (fun h => ?_) | refine Spl.seq (fun h => ?_) (fun h => ?_) | refine Spl.not ?_ | refine Spl.any (fun h => ?_) (fun h => ?_))
    | ((with_reducible apply And.intro); first | omega | rfl | (dsimp only; omega))))
  all_goals (conv => whnf)
  rfl
@[reducible] def setE (p : List (Int × Int) × Bool) : SV := .tuple [rs p.1, bv p.2]
theorem ite_len {c : Prop} [Decidable c] {a b : List (Int × Int) × Bool} (h1 : a.1.length ≤ 4) (h2 : b.1.length ≤ 4) : (if c then a else b).1.length ≤ 4 := by split <;> assumption
def posixP (s : ByteArray) : List (Int × Int) × Bool :=
  if s = bs [97, 108, 112, 104, 97] then ([(65, 90), (97, 122)], true)
  else if s = bs [100, 105, 103, 105, 116] then ([(48, 57)], true)
  else if s = bs [97, 108, 110, 117, 109] then ([(48, 57), (65, 90), (97, 122)], true)
  else if s = bs [117, 112, 112, 101, 114] then ([(65, 90)], true)
  else if s = bs [108, 111, 119, 101, 114] then ([(97, 122)], true)
  else if s = bs [115, 112, 97, 99, 101] then ([(9, 13), (32, 32)], true)
  else if s = bs [98, 108, 97, 110, 107] then ([(9, 9), (32, 32)], true)
  else if s = bs [112, 117, 110, 99, 116] then ([(33, 47), (58, 64), (91, 96), (123, 126)], true)
  else if s = bs [99, 110, 116, 114, 108] then ([(0, 31), (127, 127)], true)
  else if s = bs [103, 114, 97, 112, 104] then ([(33, 126)], true)
  else if s = bs [112, 114, 105, 110, 116] then ([(32, 126)], true)
  else if s = bs [120, 100, 105, 103, 105, 116] then ([(48, 57), (65, 70), (97, 102)], true)
  else if s = bs [119, 111, 114, 100] then ([(48, 57), (65, 90), (95, 95), (97, 122)], true)
  else if s = bs [97, 115, 99, 105, 105] then ([(0, 127)], true)
  else ([], false)
theorem posixP_len (s : ByteArray) : (posixP s).1.length ≤ 4 := by
  unfold posixP
  repeat (refine ite_len (by decide) ?_)
  decide
theorem posix_c (s : ByteArray) (hs : s.size ≤ 100000) : VCalls Try.prog 123 [sv s] (fun r => r = setE (posixP s)) := by
  refine VCalls.ofx tabOk orders Try.func123 (by decide) rfl rfl ?_
  repeat' ((conv => whnf); (first
    | (with_reducible first | refine Spl.yes ?_ | refine Spl.no ?_ | refine Spl.dec (fun h => ?_) (fun h => ?_) | refine Spl.eq (fun h => ?_) (fun h => ?_) | refine Spl.ne (fun h => ?_) (fun h => ?_) | refine Spl.seq (fun h => ?_) (fun h => ?_) | refine Spl.not ?_ | refine Spl.any (fun h => ?_) (fun h => ?_))
    | (refine VCalls.mono (one4_c _ _) ?_; rintro _ rfl)
    | ((with_reducible apply And.intro); first | omega | rfl | (dsimp only; omega))))
  all_goals (conv => whnf)
  all_goals (unfold posixP)
  all_goals (apply fn_by (f := setE); (focus ((repeat (first | (apply ite_yes; (focus first | assumption | omega)) | (apply ite_no; (focus first | assumption | exact b_nt (by assumption) | exact b_nf (by assumption) | omega)) | (apply ite_yes; (focus (first | (simp [*]; done) | (simp [*, bs]; done)))) | (apply ite_no; (focus (first | (simp [*]; done) | (simp [*, bs]; done)))))); exact rfl)); rfl)
def escP (c : Int) : List (Int × Int) × Bool :=
  if c = 100 then posixP (bs [100, 105, 103, 105, 116]) else if c = 115 then posixP (bs [115, 112, 97, 99, 101]) else if c = 119 then posixP (bs [119, 111, 114, 100])
  else if c = 104 then ([(9, 9), (32, 32), (160, 160), (8192, 8202)], true) else if c = 118 then ([(10, 13), (133, 133), (8232, 8233)], true) else ([], false)
theorem escP_len (c : Int) : (escP c).1.length ≤ 4 := by
  unfold escP
  repeat (refine ite_len (by first | exact posixP_len _ | decide) ?_)
  decide
attribute [local irreducible] posixP
theorem esc_c (c : Int) : VCalls Try.prog 122 [iv c] (fun r => r = setE (escP c)) := by
  refine VCalls.ofx tabOk orders Try.func122 (by decide) rfl rfl ?_
  repeat' ((conv => whnf); (first
    | (with_reducible first | refine Spl.yes ?_ | refine Spl.no ?_ | refine Spl.dec (fun h => ?_) (fun h => ?_) | refine Spl.eq (fun h => ?_) (fun h => ?_) | refine Spl.ne (fun h => ?_) (fun h => ?_) | refine Spl.seq (fun h => ?_) (fun h => ?_) | refine Spl.not ?_ | refine Spl.any (fun h => ?_) (fun h => ?_))
    | (refine VCalls.mono (posix_c _ (by decide)) ?_; rintro _ rfl)
    | ((with_reducible apply And.intro); first | omega | rfl | (dsimp only; omega))))
  all_goals (conv => whnf)
  all_goals (unfold escP)
  all_goals (apply fn_by (f := setE); (focus ((repeat (first | (apply ite_yes; (focus first | assumption | omega)) | (apply ite_no; (focus first | assumption | exact b_nt (by assumption) | exact b_nf (by assumption) | omega)) | (apply ite_yes; (focus (first | (simp [*]; done) | (simp [*, bs]; done)))) | (apply ite_no; (focus (first | (simp [*]; done) | (simp [*, bs]; done)))))); exact rfl)); rfl)
structure Row5 where
  lo : Int
  hi : Int
  cat : ByteArray
  scr : ByteArray
  oth : Int
@[reducible] def rowE (r : Row5) : List SV := [iv r.lo, iv r.hi, sv r.cat, sv r.scr, iv r.oth]
def lowT : List Row5 := [
  ⟨0, 31, bs [67, 99], bs [67, 111, 109, 109, 111, 110], 0⟩,
  ⟨32, 32, bs [90, 115], bs [67, 111, 109, 109, 111, 110], 0⟩,
  ⟨33, 35, bs [80, 111], bs [67, 111, 109, 109, 111, 110], 0⟩,
  ⟨36, 36, bs [83, 99], bs [67, 111, 109, 109, 111, 110], 0⟩,
  ⟨37, 39, bs [80, 111], bs [67, 111, 109, 109, 111, 110], 0⟩,
  ⟨40, 40, bs [80, 115], bs [67, 111, 109, 109, 111, 110], 0⟩,
  ⟨41, 41, bs [80, 101], bs [67, 111, 109, 109, 111, 110], 0⟩,
  ⟨42, 42, bs [80, 111], bs [67, 111, 109, 109, 111, 110], 0⟩,
  ⟨43, 43, bs [83, 109], bs [67, 111, 109, 109, 111, 110], 0⟩,
  ⟨44, 44, bs [80, 111], bs [67, 111, 109, 109, 111, 110], 0⟩,
  ⟨45, 45, bs [80, 100], bs [67, 111, 109, 109, 111, 110], 0⟩,
  ⟨46, 47, bs [80, 111], bs [67, 111, 109, 109, 111, 110], 0⟩,
  ⟨48, 57, bs [78, 100], bs [67, 111, 109, 109, 111, 110], 0⟩,
  ⟨58, 59, bs [80, 111], bs [67, 111, 109, 109, 111, 110], 0⟩,
  ⟨60, 62, bs [83, 109], bs [67, 111, 109, 109, 111, 110], 0⟩,
  ⟨63, 64, bs [80, 111], bs [67, 111, 109, 109, 111, 110], 0⟩,
  ⟨65, 90, bs [76, 117], bs [76, 97, 116, 105, 110], 32⟩,
  ⟨91, 91, bs [80, 115], bs [67, 111, 109, 109, 111, 110], 0⟩,
  ⟨92, 92, bs [80, 111], bs [67, 111, 109, 109, 111, 110], 0⟩,
  ⟨93, 93, bs [80, 101], bs [67, 111, 109, 109, 111, 110], 0⟩,
  ⟨94, 94, bs [83, 107], bs [67, 111, 109, 109, 111, 110], 0⟩,
  ⟨95, 95, bs [80, 99], bs [67, 111, 109, 109, 111, 110], 0⟩,
  ⟨96, 96, bs [83, 107], bs [67, 111, 109, 109, 111, 110], 0⟩,
  ⟨97, 122, bs [76, 108], bs [76, 97, 116, 105, 110], -32⟩,
  ⟨123, 123, bs [80, 115], bs [67, 111, 109, 109, 111, 110], 0⟩,
  ⟨124, 124, bs [83, 109], bs [67, 111, 109, 109, 111, 110], 0⟩,
  ⟨125, 125, bs [80, 101], bs [67, 111, 109, 109, 111, 110], 0⟩,
  ⟨126, 126, bs [83, 109], bs [67, 111, 109, 109, 111, 110], 0⟩,
  ⟨127, 159, bs [67, 99], bs [67, 111, 109, 109, 111, 110], 0⟩]
def highT : List Row5 := [
  ⟨160, 160, bs [90, 115], bs [67, 111, 109, 109, 111, 110], 0⟩,
  ⟨161, 161, bs [80, 111], bs [67, 111, 109, 109, 111, 110], 0⟩,
  ⟨162, 165, bs [83, 99], bs [67, 111, 109, 109, 111, 110], 0⟩,
  ⟨166, 166, bs [83, 111], bs [67, 111, 109, 109, 111, 110], 0⟩,
  ⟨167, 167, bs [80, 111], bs [67, 111, 109, 109, 111, 110], 0⟩,
  ⟨168, 168, bs [83, 107], bs [67, 111, 109, 109, 111, 110], 0⟩,
  ⟨169, 169, bs [83, 111], bs [67, 111, 109, 109, 111, 110], 0⟩,
  ⟨170, 170, bs [76, 111], bs [76, 97, 116, 105, 110], 0⟩,
  ⟨171, 171, bs [80, 105], bs [67, 111, 109, 109, 111, 110], 0⟩,
  ⟨172, 172, bs [83, 109], bs [67, 111, 109, 109, 111, 110], 0⟩,
  ⟨173, 173, bs [67, 102], bs [67, 111, 109, 109, 111, 110], 0⟩,
  ⟨174, 174, bs [83, 111], bs [67, 111, 109, 109, 111, 110], 0⟩,
  ⟨175, 175, bs [83, 107], bs [67, 111, 109, 109, 111, 110], 0⟩,
  ⟨176, 176, bs [83, 111], bs [67, 111, 109, 109, 111, 110], 0⟩,
  ⟨177, 177, bs [83, 109], bs [67, 111, 109, 109, 111, 110], 0⟩,
  ⟨178, 179, bs [78, 111], bs [67, 111, 109, 109, 111, 110], 0⟩,
  ⟨180, 180, bs [83, 107], bs [67, 111, 109, 109, 111, 110], 0⟩,
  ⟨181, 181, bs [76, 108], bs [67, 111, 109, 109, 111, 110], 0⟩,
  ⟨182, 183, bs [80, 111], bs [67, 111, 109, 109, 111, 110], 0⟩,
  ⟨184, 184, bs [83, 107], bs [67, 111, 109, 109, 111, 110], 0⟩,
  ⟨185, 185, bs [78, 111], bs [67, 111, 109, 109, 111, 110], 0⟩,
  ⟨186, 186, bs [76, 111], bs [76, 97, 116, 105, 110], 0⟩,
  ⟨187, 187, bs [80, 102], bs [67, 111, 109, 109, 111, 110], 0⟩,
  ⟨188, 190, bs [78, 111], bs [67, 111, 109, 109, 111, 110], 0⟩,
  ⟨191, 191, bs [80, 111], bs [67, 111, 109, 109, 111, 110], 0⟩,
  ⟨192, 214, bs [76, 117], bs [76, 97, 116, 105, 110], 32⟩,
  ⟨215, 215, bs [83, 109], bs [67, 111, 109, 109, 111, 110], 0⟩,
  ⟨216, 222, bs [76, 117], bs [76, 97, 116, 105, 110], 32⟩,
  ⟨223, 223, bs [76, 108], bs [76, 97, 116, 105, 110], 0⟩,
  ⟨224, 246, bs [76, 108], bs [76, 97, 116, 105, 110], -32⟩,
  ⟨247, 247, bs [83, 109], bs [67, 111, 109, 109, 111, 110], 0⟩,
  ⟨248, 254, bs [76, 108], bs [76, 97, 116, 105, 110], -32⟩,
  ⟨255, 255, bs [76, 108], bs [76, 97, 116, 105, 110], 0⟩,
  ⟨383, 383, bs [76, 108], bs [76, 97, 116, 105, 110], 0⟩,
  ⟨768, 879, bs [77, 110], bs [73, 110, 104, 101, 114, 105, 116, 101, 100], 0⟩,
  ⟨913, 929, bs [76, 117], bs [71, 114, 101, 101, 107], 32⟩,
  ⟨931, 939, bs [76, 117], bs [71, 114, 101, 101, 107], 32⟩,
  ⟨945, 961, bs [76, 108], bs [71, 114, 101, 101, 107], -32⟩,
  ⟨962, 962, bs [76, 108], bs [71, 114, 101, 101, 107], 0⟩,
  ⟨963, 971, bs [76, 108], bs [71, 114, 101, 101, 107], -32⟩,
  ⟨1040, 1071, bs [76, 117], bs [67, 121, 114, 105, 108, 108, 105, 99], 32⟩,
  ⟨1072, 1103, bs [76, 108], bs [67, 121, 114, 105, 108, 108, 105, 99], -32⟩,
  ⟨1488, 1514, bs [76, 111], bs [72, 101, 98, 114, 101, 119], 0⟩,
  ⟨1632, 1641, bs [78, 100], bs [65, 114, 97, 98, 105, 99], 0⟩,
  ⟨8192, 8202, bs [90, 115], bs [67, 111, 109, 109, 111, 110], 0⟩,
  ⟨8232, 8232, bs [90, 108], bs [67, 111, 109, 109, 111, 110], 0⟩,
  ⟨8233, 8233, bs [90, 112], bs [67, 111, 109, 109, 111, 110], 0⟩,
  ⟨8364, 8364, bs [83, 99], bs [67, 111, 109, 109, 111, 110], 0⟩,
  ⟨8490, 8490, bs [76, 117], bs [76, 97, 116, 105, 110], 0⟩,
  ⟨12353, 12438, bs [76, 111], bs [72, 105, 114, 97, 103, 97, 110, 97], 0⟩,
  ⟨19968, 40959, bs [76, 111], bs [72, 97, 110], 0⟩,
  ⟨127744, 128511, bs [83, 111], bs [67, 111, 109, 109, 111, 110], 0⟩]
@[reducible] def rows5 (l : List Row5) : List (List SV) := l.map rowE
theorem low_c : VCalls Try.prog 133 [] (fun r => r = .sl 5 (rows5 lowT)) := by
  refine VCalls.ofx tabOk orders Try.func133 (by decide) rfl rfl ?_
  repeat' ((conv => whnf); (first
    | (with_reducible first | refine Spl.yes ?_ | refine Spl.no ?_ | refine Spl.dec (fun h => ?_) (fun h => ?_) | refine Spl.eq (fun h => ?_) (fun h => ?_) | refine Spl.ne (fun h => ?_) (fun h => ?_) | refine Spl.seq (fun h => ?_) (fun h => ?_) | refine Spl.not ?_ | refine Spl.any (fun h => ?_) (fun h => ?_))
    | ((with_reducible apply And.intro); first | omega | rfl | (dsimp only; omega))))
  all_goals (conv => whnf)
  rfl
set_option maxRecDepth 100000 in
theorem high_c : VCalls Try.prog 134 [] (fun r => r = .sl 5 (rows5 highT)) := by
  refine VCalls.ofx tabOk orders Try.func134 (by decide) rfl rfl ?_
  repeat' ((conv => whnf); (first
    | (with_reducible first | refine Spl.yes ?_ | refine Spl.no ?_ | refine Spl.dec (fun h => ?_) (fun h => ?_) | refine Spl.eq (fun h => ?_) (fun h => ?_) | refine Spl.ne (fun h => ?_) (fun h => ?_) | refine Spl.seq (fun h => ?_) (fun h => ?_) | refine Spl.not ?_ | refine Spl.any (fun h => ?_) (fun h => ?_))
    | ((with_reducible apply And.intro); first | omega | rfl | (dsimp only; omega))))
  all_goals (conv => whnf)
  rfl
def tableT : List Row5 := lowT ++ highT
set_option maxRecDepth 100000 in
theorem table_c : VCalls Try.prog 130 [] (fun r => r = .sl 5 (rows5 tableT)) := by
  refine VCalls.ofx tabOk orders Try.func130 (by decide) rfl rfl ?_
  repeat' ((conv => whnf); (first
    | (with_reducible first | refine Spl.yes ?_ | refine Spl.no ?_ | refine Spl.dec (fun h => ?_) (fun h => ?_) | refine Spl.eq (fun h => ?_) (fun h => ?_) | refine Spl.ne (fun h => ?_) (fun h => ?_) | refine Spl.seq (fun h => ?_) (fun h => ?_) | refine Spl.not ?_ | refine Spl.any (fun h => ?_) (fun h => ?_))
    | (refine VCalls.mono (low_c) ?_; rintro _ rfl)
    | (refine VCalls.mono (high_c) ?_; rintro _ rfl)
    | refine And.intro (by decide) ?_
    | ((with_reducible apply And.intro); first | omega | rfl | (dsimp only; omega))))
  all_goals (conv => whnf)
  rfl
end Go.Proofs.Ytnoohgiecnmajaa.VC

/- Sets of characters: properties. -/
namespace Go.Proofs.Ytnoohgiecnmajaa.VC
open Go Go.RowKit
set_option linter.unusedVariables false
set_option linter.unusedSimpArgs false
set_option maxHeartbeats 4000000

def catP (s : ByteArray) (r : Row5) : Bool :=
  if r.cat = s then true else if r.scr = s then true else if s.size = 1 ∧ r.cat.extract 0 1 = s then true
  else if s = bs [76, 38] then (if r.cat = bs [76, 117] then true else decide (r.cat = bs [76, 108])) else false
@[reducible] def rgP (r : Row5) : Int × Int := (r.lo, r.hi)
def propL (s : ByteArray) : List (Int × Int) := (tableT.filter (catP s)).map rgP
def propN (s : ByteArray) : List (Int × Int) :=
  if s = bs [67, 110] ∨ s = bs [67] ∨ s = bs [85, 110, 107, 110, 111, 119, 110] then propL s ++ joinP 2 (tableT.map rgP) [] 1114111 else propL s
def propP (s : ByteArray) : List (Int × Int) × Bool :=
  if s = bs [65, 110, 121] then ([(0, 1114111)], true)
  else if (propN s).length = 0 then ([], false)
  else (newP (propN s) 1114111, true)
def rd5 (l : List Row5) (j : Int) : Row5 := l.getD j.toNat ⟨0, 0, bs [67], bs [], 0⟩
theorem rows5_len (l : List Row5) : (rows5 l).length = l.length := by simp [rows5]
theorem rows5_get {l : List Row5} {j : Int} (h : j.toNat < l.length) : (rows5 l).getD j.toNat [] = rowE (rd5 l j) := by
  simp [rows5, rd5, List.getD_eq_getElem?_getD, List.getElem?_eq_getElem h]
theorem take_step5 {l : List Row5} {j : Int} (h0 : 0 ≤ j) (h : j < l.length) : l.take (j + 1).toNat = l.take j.toNat ++ [rd5 l j] := by
  have e : (j + 1).toNat = j.toNat + 1 := by omega
  rw [e, List.take_succ_eq_append_getElem (by omega)]
  simp [rd5, List.getD_eq_getElem?_getD, List.getElem?_eq_getElem (show j.toNat < l.length by omega)]
theorem tableT_cat : ∀ r ∈ tableT, 1 ≤ r.cat.size := by
  have h : tableT.all (fun r => decide (1 ≤ r.cat.size)) = true := by decide +kernel
  intro r hr
  simpa using List.all_eq_true.1 h r hr
theorem tableT_len : tableT.length = 81 := by decide +kernel
attribute [local irreducible] catP tableT joinP newP
set_option maxHeartbeats 8000000
theorem property_c (s : ByteArray) (hs : s.size ≤ 100000) : VCalls Try.prog 121 [sv s] (fun r => r = setE (propP s)) := by
  refine VCalls.ofr tabOk Try.func121 (by decide) rfl rfl ?_
  refine RWP.seqx tabOk orders ?_
  conv => whnf
  refine RWP.seqx tabOk orders ?_
  repeat' ((conv => whnf); (first
    | (with_reducible first | refine Spl.yes ?_ | refine Spl.no ?_ | refine Spl.dec (fun h => ?_) (fun h => ?_) | refine Spl.eq (fun h => ?_) (fun h => ?_) | refine Spl.ne (fun h => ?_) (fun h => ?_) | refine Spl.seq (fun h => ?_) (fun h => ?_) | refine Spl.not ?_ | refine Spl.any (fun h => ?_) (fun h => ?_))
    | (refine VCalls.mono (one4_c _ _) ?_; rintro _ rfl)
    | ((with_reducible apply And.intro); first | omega | rfl | (dsimp only; omega))))
  all_goals (conv => whnf)
  · unfold propP
    (apply fn_by (f := setE); (focus ((repeat (first | (apply ite_yes; (focus first | assumption | omega)) | (apply ite_no; (focus first | assumption | exact b_nt (by assumption) | exact b_nf (by assumption) | omega)) | (apply ite_yes; (focus (first | (simp [*]; done) | (simp [*, bs]; done)))) | (apply ite_no; (focus (first | (simp [*]; done) | (simp [*, bs]; done)))))); exact rfl)); rfl)
  refine RWP.seqx tabOk orders ?_
  conv => whnf
  refine RWP.seqx tabOk orders ?_
  conv => whnf
  refine RWP.seqx tabOk orders ?_
  repeat' ((conv => whnf); (first
    | (with_reducible first | refine Spl.yes ?_ | refine Spl.no ?_ | refine Spl.dec (fun h => ?_) (fun h => ?_) | refine Spl.eq (fun h => ?_) (fun h => ?_) | refine Spl.ne (fun h => ?_) (fun h => ?_) | refine Spl.seq (fun h => ?_) (fun h => ?_) | refine Spl.not ?_ | refine Spl.any (fun h => ?_) (fun h => ?_))
    | (refine VCalls.mono (table_c) ?_; rintro _ rfl)
    | ((with_reducible apply And.intro); first | omega | rfl | (dsimp only; omega))))
  all_goals (conv => whnf)
  have hT := tableT_len
  have hcat := tableT_cat
  have hpL : propL s = ((tableT.take tableT.length).filter (catP s)).map rgP := by rw [List.take_length]; rfl
  have hpA : tableT.map rgP = (tableT.take tableT.length).map rgP := by rw [List.take_length]
  unfold propP propN
  rw [hpL, hpA]
  generalize tableT = T at *
  refine RWP.seq ?_
  refine RWP.seqx tabOk orders ?_
  conv => whnf
  refine RWP.block ?_
  refine RWP.loop (fun k st => ∃ (j : Int) (v1 v2 : Bool), st = ⟨98, [(0, .pv (sv s)), (4, .own 78), (5, .own 34), (6, .pv (.sl 5 (rows5 T))), (7, .pv (iv j))], [], [(78, ⟨2, 74, v1, rows2 (((T.take j.toNat).filter (catP s)).map rgP)⟩), (34, ⟨2, 74, v2, rows2 ((T.take j.toNat).map rgP)⟩)], []⟩ ∧ 0 ≤ j ∧ j ≤ T.length ∧ k = (T.length - j).toNat)
    ⟨_, _, Wk.trans (Wk.ownNil (t := 4) (k := 78) (sz := 2) (e := 74) rfl) (Wk.trans (Wk.ownNil (t := 5) (k := 34) (sz := 2) (e := 74) rfl) (Wk.narrow _ [0, 4, 5, 6, 7] [] [78, 34])), 0, true, true, rfl, by omega, by omega, rfl⟩ ?_
  rintro k st ⟨j, v1, v2, rfl, hj0, hj1, hk⟩
  have hn := rows5_len T
  have hl1 : (rows2 (((T.take j.toNat).filter (catP s)).map rgP)).length ≤ 81 := by
    rw [rows2_len, List.length_map]
    have := List.length_filter_le (catP s) (T.take j.toNat)
    rw [List.length_take] at this
    omega
  have hl2 : (rows2 ((T.take j.toNat).map rgP)).length ≤ 81 := by
    rw [rows2_len, List.length_map, List.length_take]
    omega
  refine RWP.seqx tabOk orders ?_
  repeat' ((conv => whnf); (first
    | (with_reducible first | refine Spl.yes ?_ | refine Spl.no ?_ | refine Spl.dec (fun h => ?_) (fun h => ?_) | refine Spl.eq (fun h => ?_) (fun h => ?_) | refine Spl.ne (fun h => ?_) (fun h => ?_) | refine Spl.seq (fun h => ?_) (fun h => ?_) | refine Spl.not ?_ | refine Spl.any (fun h => ?_) (fun h => ?_))
    | ((with_reducible apply And.intro); first | omega | rfl | (dsimp only; omega))))
  all_goals (conv => whnf)
  rotate_left
  · have e : j = T.length := by omega
    subst e
    have e2 : (T.length : Int).toNat = T.length := by omega
    rw [e2]
    rw [e2] at hl1 hl2
    rw [rows2_len] at hl1 hl2
    generalize ((T.take T.length).filter (catP s)).map rgP = L at *
    generalize (T.take T.length).map rgP = A at *
    have hjl := joinP_len 2 A [] 1114111
    have hjl2 := rows2_len (joinP 2 A [] 1114111)
    have hLL := rows2_len L
    have k2 : rows2 L ++ rows2 (joinP 2 A [] 1114111) = rows2 (L ++ joinP 2 A [] 1114111) := by simp [rows2]
    refine RWP.cut (fun st => ∃ (N : List (Int × Int)), N = (if s = bs [67, 110] ∨ s = bs [67] ∨ s = bs [85, 110, 107, 110, 111, 119, 110] then L ++ joinP 2 A [] 1114111 else L) ∧ st = ⟨98, [(0, .pv (sv s)), (4, .pv (rs N))], [], [], []⟩) tabOk orders ?_ ?_
    · repeat' ((conv => whnf); (first
    | (with_reducible first | refine Spl.yes ?_ | refine Spl.no ?_ | refine Spl.dec (fun h => ?_) (fun h => ?_) | refine Spl.eq (fun h => ?_) (fun h => ?_) | refine Spl.ne (fun h => ?_) (fun h => ?_) | refine Spl.seq (fun h => ?_) (fun h => ?_) | refine Spl.not ?_ | refine Spl.any (fun h => ?_) (fun h => ?_))
    | (refine VCalls.mono (join_c 2 A [] 1114111 (by omega) (by simp)) ?_; rintro _ rfl)
    | refine And.intro (by show ((rows2 L).length + (rows2 (joinP 2 A [] 1114111)).length) * 16 ≤ 140737488355328; simp only [List.length_nil] at hjl; omega) ?_
    | ((with_reducible apply And.intro); first | omega | rfl | (dsimp only; omega))))
      all_goals (conv => whnf)
      all_goals first
        | exact ⟨_, Wk.trans (Wk.freeze 4 (k := 92) rfl rfl) (Wk.narrow _ [0, 4] [] []), _, (if_pos (by first | exact .inl (by assumption) | exact .inr (.inl (by assumption)) | exact .inr (.inr (by assumption)))).symm, Eq.trans rfl (congrArg (fun X : List (List SV) => (⟨98, [(0, .pv (sv s)), (4, .pv (.sl 2 X))], [], [], []⟩ : St)) k2)⟩
        | exact ⟨_, Wk.trans (Wk.freeze 4 (k := 78) rfl rfl) (Wk.narrow _ [0, 4] [] []), _, (if_neg (by rintro (q | q | q) <;> contradiction)).symm, rfl⟩
    rintro _ ⟨N, hN, rfl⟩
    have hNl : N.length ≤ 1000 := by
      rw [hN]
      simp only [List.length_nil] at hjl
      split
      · rw [List.length_append]; omega
      · omega
    rw [← hN]
    clear hN
    have hNN := rows2_len N
    refine RWP.of tabOk orders ?_
    repeat' ((conv => whnf); (first
    | (with_reducible first | refine Spl.yes ?_ | refine Spl.no ?_ | refine Spl.dec (fun h => ?_) (fun h => ?_) | refine Spl.eq (fun h => ?_) (fun h => ?_) | refine Spl.ne (fun h => ?_) (fun h => ?_) | refine Spl.seq (fun h => ?_) (fun h => ?_) | refine Spl.not ?_ | refine Spl.any (fun h => ?_) (fun h => ?_))
    | (refine VCalls.mono (new_c N 1114111 (by omega)) ?_; rintro _ rfl)
    | ((with_reducible apply And.intro); first | omega | rfl | (dsimp only; omega))))
    all_goals (conv => whnf)
    all_goals (dsimp only at *)
    · have hz : N.length = 0 := by omega
      (apply fn_by (f := setE); (focus ((repeat (first | (apply ite_yes; (focus first | assumption | omega)) | (apply ite_no; (focus first | assumption | exact b_nt (by assumption) | exact b_nf (by assumption) | omega)) | (apply ite_yes; (focus (first | (simp [*]; done) | (simp [*, bs]; done)))) | (apply ite_no; (focus (first | (simp [*]; done) | (simp [*, bs]; done)))))); exact rfl)); rfl)
    · have hz : ¬ N.length = 0 := by omega
      (apply fn_by (f := setE); (focus ((repeat (first | (apply ite_yes; (focus first | assumption | omega)) | (apply ite_no; (focus first | assumption | exact b_nt (by assumption) | exact b_nf (by assumption) | omega)) | (apply ite_yes; (focus (first | (simp [*]; done) | (simp [*, bs]; done)))) | (apply ite_no; (focus (first | (simp [*]; done) | (simp [*, bs]; done)))))); exact rfl)); rfl)
  have hmem : rd5 T j ∈ T := by
    unfold rd5
    rw [List.getD_eq_getElem?_getD, List.getElem?_eq_getElem (by omega)]
    simp
  have hc := hcat _ hmem
  have kA : rows2 ((T.take j.toNat).map rgP) ++ [[iv (rd5 T j).lo, iv (rd5 T j).hi]] = rows2 ((T.take (j + 1).toNat).map rgP) := by
    rw [take_step5 hj0 (by omega), List.map_append]; simp [rows2]
  have kY : catP s (rd5 T j) = true → rows2 (((T.take j.toNat).filter (catP s)).map rgP) ++ [[iv (rd5 T j).lo, iv (rd5 T j).hi]] = rows2 (((T.take (j + 1).toNat).filter (catP s)).map rgP) := by
    intro h
    rw [take_step5 hj0 (by omega), List.filter_append, List.map_append]; simp [rows2, h]
  have kN : catP s (rd5 T j) = false → rows2 (((T.take j.toNat).filter (catP s)).map rgP) = rows2 (((T.take (j + 1).toNat).filter (catP s)).map rgP) := by
    intro h
    rw [take_step5 hj0 (by omega), List.filter_append, List.map_append]; simp [rows2, h]
  generalize hR : rd5 T j = R at *
  obtain ⟨lo, hi, cat, scr, oth⟩ := R
  generalize rows2 (((T.take j.toNat).filter (catP s)).map rgP) = X1 at *
  generalize rows2 ((T.take j.toNat).map rgP) = X2 at *
  dsimp only at *
  refine RWP.of tabOk orders ?_
  repeat' ((conv => whnf); (first
    | (with_reducible first | refine Spl.yes ?_ | refine Spl.no ?_ | refine Spl.dec (fun h => ?_) (fun h => ?_) | refine Spl.eq (fun h => ?_) (fun h => ?_) | refine Spl.ne (fun h => ?_) (fun h => ?_) | refine Spl.seq (fun h => ?_) (fun h => ?_) | refine Spl.not ?_ | refine Spl.any (fun h => ?_) (fun h => ?_))
    | refine drawn_text (by decide +kernel) ?_
    | (rw [rows5_get (by omega), hR])
    | refine And.intro (by show (X2.length + 1) * 16 ≤ 140737488355328; omega) ?_
    | refine And.intro (by show (X1.length + 1) * 16 ≤ 140737488355328; omega) ?_
    | ((with_reducible apply And.intro); first | omega | rfl | (dsimp only; omega))))
  all_goals (conv => whnf)
  all_goals (dsimp only at *)
  all_goals (have hq : (s.size = 1 ∧ cat.extract 0 1 = s) ∨ ¬ (s.size = 1 ∧ cat.extract 0 1 = s) := by first | exact .inl ⟨by omega, by assumption⟩ | exact .inr (fun q => by first | omega | exact absurd q.2 (by assumption)) | exact Classical.em _)
  all_goals (rcases hq with hq | hq)
  all_goals first
    | (exfalso; first | omega | (exact absurd hq.2 (by assumption)) | (exact hq ⟨by omega, by assumption⟩))
    | (have hC : catP s ⟨lo, hi, cat, scr, oth⟩ = true := by
         unfold catP
         symm
         (repeat (first | (apply ite_yes; (focus first | assumption | omega)) | (apply ite_no; (focus first | assumption | exact b_nt (by assumption) | exact b_nf (by assumption) | omega)) | (apply ite_yes; (focus (first | (simp [*]; done) | (simp [*, bs]; done)))) | (apply ite_no; (focus (first | (simp [*]; done) | (simp [*, bs]; done))))))
         first | rfl | exact (decide_eq_true (by assumption)).symm | exact (decide_eq_false (by assumption)).symm
       exact ⟨(T.length - (j + 1)).toNat, _, by omega, Wk.narrow _ [0, 4, 5, 6, 7] [] [78, 34], j + 1, _, _, Eq.trans rfl (congrArg (fun p : List (List SV) × List (List SV) => (⟨98, [(0, .pv (sv s)), (4, .own 78), (5, .own 34), (6, .pv (.sl 5 (rows5 T))), (7, .pv (iv (j + 1)))], [], [(78, ⟨2, 74, v1, p.1⟩), (34, ⟨2, 74, v2, p.2⟩)], []⟩ : St)) (Prod.ext (kY hC) kA : (_, _) = (_, _))), by omega, by omega, rfl⟩)
    | (have hC : catP s ⟨lo, hi, cat, scr, oth⟩ = false := by
         unfold catP
         symm
         (repeat (first | (apply ite_yes; (focus first | assumption | omega)) | (apply ite_no; (focus first | assumption | exact b_nt (by assumption) | exact b_nf (by assumption) | omega)) | (apply ite_yes; (focus (first | (simp [*]; done) | (simp [*, bs]; done)))) | (apply ite_no; (focus (first | (simp [*]; done) | (simp [*, bs]; done))))))
         first | rfl | exact (decide_eq_true (by assumption)).symm | exact (decide_eq_false (by assumption)).symm
       exact ⟨(T.length - (j + 1)).toNat, _, by omega, Wk.narrow _ [0, 4, 5, 6, 7] [] [78, 34], j + 1, _, _, Eq.trans rfl (congrArg (fun p : List (List SV) × List (List SV) => (⟨98, [(0, .pv (sv s)), (4, .own 78), (5, .own 34), (6, .pv (.sl 5 (rows5 T))), (7, .pv (iv (j + 1)))], [], [(78, ⟨2, 74, v1, p.1⟩), (34, ⟨2, 74, v2, p.2⟩)], []⟩ : St)) (Prod.ext (kN hC) kA : (_, _) = (_, _))), by omega, by omega, rfl⟩)
end Go.Proofs.Ytnoohgiecnmajaa.VC

/- The lexer of the document: escapes of many characters. -/
namespace Go.Proofs.Ytnoohgiecnmajaa.VC
open Go Go.RowKit
set_option linter.unusedVariables false
set_option linter.unusedSimpArgs false
set_option maxHeartbeats 4000000

theorem propL_len (s : ByteArray) : (propL s).length ≤ 81 := by
  unfold propL
  rw [List.length_map]
  have := List.length_filter_le (catP s) tableT
  rw [tableT_len] at this
  exact this
theorem propN_len (s : ByteArray) : (propN s).length ≤ 300 := by
  unfold propN
  have h := propL_len s
  split
  · rw [List.length_append]
    have := joinP_len 2 (tableT.map rgP) [] 1114111
    simp only [List.length_map, tableT_len, List.length_nil] at this
    omega
  · omega
theorem propP_len (s : ByteArray) : (propP s).1.length ≤ 1000 := by
  unfold propP
  split
  · simp
  split
  · simp
  · have := newP_len (propN s) 1114111
    have := propN_len s
    simp only
    omega
theorem bracedP_rng (x : Text) (i : Int) (h0 : 0 ≤ i) (h : i ≤ x.s.size) : (bracedP x i).1.size ≤ x.s.size ∧ (bracedP x i).2 ≤ x.s.size ∧ ((bracedP x i).2 < 0 ∨ i ≤ (bracedP x i).2) := by
  unfold bracedP
  split
  · exact ⟨by show (0 : Nat) ≤ _; omega, by simp only; omega, .inl (by simp)⟩
  split
  · have := charP_rng x i h
    exact ⟨by simp only [ByteArray.size_extract]; omega, this.2, .inr this.1⟩
  split
  · have := stopAt_range x.s 125 (i + 1) (by omega)
    refine ⟨by simp only [ByteArray.size_extract]; omega, by simp only; omega, .inr (by simp only; omega)⟩
  · exact ⟨by show (0 : Nat) ≤ _; omega, by simp only; omega, .inl (by simp)⟩
structure Many where
  l : List (Int × Int)
  neg : Bool
  to : Int
  there : Bool
  e : Int
@[reducible] def manyE (m : Many) : SV := .tuple [rs m.l, bv m.neg, iv m.to, bv m.there, iv m.e]
def manyQ (x : Text) (i to : Int) (neg : Bool) (s : ByteArray) : Many :=
  if (propP s).2 = false then ⟨[], false, i, true, 24⟩ else ⟨newP (propP s).1 x.most, neg, to, true, 0⟩
def manyB (x : Text) (neg : Bool) (i to : Int) (s : ByteArray) : Many :=
  if to < 0 then ⟨[], false, i, true, 24⟩
  else if (s.size : Int) > 0 then (if byteAt s 0 = 94 then manyQ x i to (!neg) (s.extract 1 s.size) else manyQ x i to neg s) else manyQ x i to neg s
def manyP (x : Text) (c i : Int) : Many :=
  if c = 112 then manyB x (c == 80) i (bracedP x i).2 (bracedP x i).1
  else if c = 80 then manyB x (c == 80) i (bracedP x i).2 (bracedP x i).1
  else if 65 ≤ c then (if c ≤ 90 then ⟨newP (escP (c + 32)).1 x.most, decide (c ≤ 90), i, (escP (c + 32)).2, 0⟩ else ⟨newP (escP c).1 x.most, decide (c ≤ 90), i, (escP c).2, 0⟩)
  else ⟨newP (escP c).1 x.most, false, i, (escP c).2, 0⟩
theorem manyP_len (x : Text) (c i : Int) : (manyP x c i).l.length ≤ 10000 := by
  have hQ : ∀ to neg s, (manyQ x i to neg s).l.length ≤ 10000 := by
    intro to neg s
    unfold manyQ
    split
    · simp
    · have := newP_len (propP s).1 x.most
      have := propP_len s
      simp only
      omega
  have hB : ∀ to neg s, (manyB x neg i to s).l.length ≤ 10000 := by
    intro to neg s
    unfold manyB
    split
    · simp
    split
    · split
      · exact hQ _ _ _
      · exact hQ _ _ _
    · exact hQ _ _ _
  have hE : ∀ c, (newP (escP c).1 x.most).length ≤ 10000 := by
    intro c
    have := newP_len (escP c).1 x.most
    have := escP_len c
    omega
  unfold manyP
  split
  · exact hB _ _ _
  split
  · exact hB _ _ _
  split
  · split
    · exact hE _
    · exact hE _
  · exact hE _
theorem manyP_to (x : Text) (c i : Int) (h0 : 0 ≤ i) (h : i ≤ x.s.size) : (manyP x c i).to ≤ x.s.size ∧ i ≤ (manyP x c i).to := by
  have hr := bracedP_rng x i h0 h
  have hQ : ∀ to neg s, i ≤ to → to ≤ x.s.size → (manyQ x i to neg s).to ≤ x.s.size ∧ i ≤ (manyQ x i to neg s).to := by
    intro to neg s q1 q2
    unfold manyQ
    split
    · exact ⟨h, by simp⟩
    · exact ⟨q2, q1⟩
  have hB : ∀ to neg s, (to < 0 ∨ i ≤ to) → to ≤ x.s.size → (manyB x neg i to s).to ≤ x.s.size ∧ i ≤ (manyB x neg i to s).to := by
    intro to neg s q1 q2
    unfold manyB
    split
    · exact ⟨h, by simp⟩
    split
    · split
      · exact hQ _ _ _ (by omega) q2
      · exact hQ _ _ _ (by omega) q2
    · exact hQ _ _ _ (by omega) q2
  unfold manyP
  split
  · exact hB _ _ _ hr.2.2 hr.2.1
  split
  · exact hB _ _ _ hr.2.2 hr.2.1
  split
  · split
    · exact ⟨h, by simp⟩
    · exact ⟨h, by simp⟩
  · exact ⟨h, by simp⟩
attribute [local irreducible] bracedP propP newP escP byteAt
theorem many_c (x : Text) (c i : Int) (hx : x.s.size ≤ 100000) (h0 : 0 ≤ i) (h1 : i ≤ x.s.size) (hc : -10 ≤ c ∧ c ≤ 2000000) :
    VCalls Try.prog 102 [x.enc, iv c, iv i] (fun r => r = manyE (manyP x c i)) := by
  have hr := bracedP_rng x i h0 h1
  have he1 := escP_len c
  have he2 := escP_len (c + 32)
  have hp1 := propP_len (bracedP x i).1
  have hp2 := propP_len ((bracedP x i).1.extract (Int.toNat 1) (((bracedP x i).1.size : Int).toNat))
  refine VCalls.ofx tabOk orders Try.func102 (by decide) rfl rfl ?_
  repeat' ((conv => whnf); (first
    | (with_reducible first | refine Spl.yes ?_ | refine Spl.no ?_ | refine Spl.dec (fun h => ?_) (fun h => ?_) | refine Spl.eq (fun h => ?_) (fun h => ?_) | refine Spl.ne (fun h => ?_) (fun h => ?_) | refine Spl.seq (fun h => ?_) (fun h => ?_) | refine Spl.not ?_ | refine Spl.any (fun h => ?_) (fun h => ?_))
    | (refine VCalls.mono (braced_c x i hx h0 h1) ?_; rintro _ rfl)
    | (refine VCalls.mono (property_c _ (by first | omega | (simp only [ByteArray.size_extract]; omega))) ?_; rintro _ rfl)
    | (refine VCalls.mono (cut_c x _ (by omega)) ?_; rintro _ rfl)
    | (refine VCalls.mono (esc_c _) ?_; rintro _ rfl)
    | ((with_reducible apply And.intro); first | omega | rfl | (dsimp only; omega))))
  all_goals (conv => whnf)
  all_goals (unfold manyP manyB manyQ)
  all_goals first | (apply fn_by (f := manyE); (focus ((repeat (first | (apply ite_yes; (focus first | assumption | omega)) | (apply ite_no; (focus first | assumption | exact b_nt (by assumption) | exact b_nf (by assumption) | omega)) | (apply ite_yes; (focus (first | (simp [*]; done) | (simp [*, bs]; done)))) | (apply ite_no; (focus (first | (simp [*]; done) | (simp [*, bs]; done)))))); exact rfl)); rfl)
end Go.Proofs.Ytnoohgiecnmajaa.VC

/- Cases: rows, others, those of a set. -/
namespace Go.Proofs.Ytnoohgiecnmajaa.VC
open Go Go.RowKit
set_option linter.unusedVariables false
set_option linter.unusedSimpArgs false
set_option maxHeartbeats 4000000

theorem turn_c (f on off : Int) : VCalls Try.prog 91 [iv f, iv on, iv off] (fun r => r = iv (bAndNot (bOr f on) off)) := by
  refine VCalls.ofr tabOk Try.func91 (by decide) rfl rfl ?_
  refine RWP.of tabOk orders ?_
  conv => whnf
  rfl
theorem one8_c (c : Int) : VCalls Try.prog 88 [iv c] (fun r => r = rs [(c, c)]) := by
  refine VCalls.ofr tabOk Try.func88 (by decide) rfl rfl ?_
  refine RWP.of tabOk orders ?_
  conv => whnf
  rfl
def rowZ : Row5 := ⟨0, 0, bs [], bs [], 0⟩
def ofRowL (c : Int) : List Row5 → Row5
  | [] => ⟨c, c, bs [67, 110], bs [85, 110, 107, 110, 111, 119, 110], 0⟩
  | r :: l => if r.lo ≤ c ∧ c ≤ r.hi then r else ofRowL c l
def ofRow (c : Int) : Row5 := if c < 0 ∨ c > 1114111 then rowZ else ofRowL c tableT
def Row5.enc (r : Row5) : SV := .agg (rowE r)
theorem drop_step5 {l : List Row5} {j : Int} (h0 : 0 ≤ j) (h : j < l.length) : l.drop j.toNat = rd5 l j :: l.drop (j + 1).toNat := by
  have e : (j + 1).toNat = j.toNat + 1 := by omega
  rw [e, List.drop_eq_getElem_cons (by omega)]
  simp [rd5, List.getD_eq_getElem?_getD, List.getElem?_eq_getElem (show j.toNat < l.length by omega)]
attribute [local irreducible] tableT
theorem ofRow_c (c : Int) : VCalls Try.prog 131 [iv c] (fun r => r = (ofRow c).enc) := by
  refine VCalls.ofr tabOk Try.func131 (by decide) rfl rfl ?_
  refine RWP.seqx tabOk orders ?_
  conv => whnf
  refine RWP.seqx tabOk orders ?_
  repeat' ((conv => whnf); (first
    | (with_reducible first | refine Spl.yes ?_ | refine Spl.no ?_ | refine Spl.dec (fun h => ?_) (fun h => ?_) | refine Spl.eq (fun h => ?_) (fun h => ?_) | refine Spl.ne (fun h => ?_) (fun h => ?_) | refine Spl.seq (fun h => ?_) (fun h => ?_) | refine Spl.not ?_ | refine Spl.any (fun h => ?_) (fun h => ?_))
    | ((with_reducible apply And.intro); first | omega | rfl | (dsimp only; omega))))
  all_goals (conv => whnf)
  · rw [ofRow, if_pos (by omega)]; rfl
  · rw [ofRow, if_pos (by omega)]; rfl
  refine RWP.seqx tabOk orders ?_
  repeat' ((conv => whnf); (first
    | (with_reducible first | refine Spl.yes ?_ | refine Spl.no ?_ | refine Spl.dec (fun h => ?_) (fun h => ?_) | refine Spl.eq (fun h => ?_) (fun h => ?_) | refine Spl.ne (fun h => ?_) (fun h => ?_) | refine Spl.seq (fun h => ?_) (fun h => ?_) | refine Spl.not ?_ | refine Spl.any (fun h => ?_) (fun h => ?_))
    | (refine VCalls.mono (table_c) ?_; rintro _ rfl)
    | ((with_reducible apply And.intro); first | omega | rfl | (dsimp only; omega))))
  all_goals (conv => whnf)
  have hT := tableT_len
  rw [ofRow, if_neg (by omega)]
  generalize tableT = T at *
  have hn := rows5_len T
  refine RWP.seq ?_
  refine RWP.seqx tabOk orders ?_
  conv => whnf
  refine RWP.block ?_
  refine RWP.loop (fun k st => ∃ (j : Int), st = ⟨42, [(0, .pv (iv c)), (2, .ptr 2 0), (3, .pv (.sl 5 (rows5 T))), (4, .pv (iv j))], [(2, (169, [.pv (iv 0), .pv (iv 0), .pv (sv (bs [])), .pv (sv (bs [])), .pv (iv 0)]))], [], []⟩ ∧ 0 ≤ j ∧ j ≤ T.length ∧ k = (T.length - j).toNat ∧ ofRowL c T = ofRowL c (T.drop j.toNat))
    ⟨_, _, Wk.narrow _ [0, 2, 3, 4] [2] [], 0, rfl, by omega, by omega, rfl, rfl⟩ ?_
  rintro k st ⟨j, rfl, hj0, hj1, hk, hP⟩
  refine RWP.seqx tabOk orders ?_
  repeat' ((conv => whnf); (first
    | (with_reducible first | refine Spl.yes ?_ | refine Spl.no ?_ | refine Spl.dec (fun h => ?_) (fun h => ?_) | refine Spl.eq (fun h => ?_) (fun h => ?_) | refine Spl.ne (fun h => ?_) (fun h => ?_) | refine Spl.seq (fun h => ?_) (fun h => ?_) | refine Spl.not ?_ | refine Spl.any (fun h => ?_) (fun h => ?_))
    | ((with_reducible apply And.intro); first | omega | rfl | (dsimp only; omega))))
  all_goals (conv => whnf)
  rotate_left
  · refine RWP.of tabOk orders ?_
    conv => whnf
    rw [hP, List.drop_eq_nil_of_le (by omega)]
    rfl
  have key : ¬ ((rd5 T j).lo ≤ c ∧ c ≤ (rd5 T j).hi) → ofRowL c T = ofRowL c (T.drop (j + 1).toNat) := by
    intro h
    rw [hP, drop_step5 hj0 (by omega), ofRowL, if_neg h]
  have key2 : ((rd5 T j).lo ≤ c ∧ c ≤ (rd5 T j).hi) → ofRowL c T = rd5 T j := by
    intro h
    rw [hP, drop_step5 hj0 (by omega), ofRowL, if_pos h]
  refine RWP.of tabOk orders ?_
  repeat' ((conv => whnf); (first
    | (with_reducible first | refine Spl.yes ?_ | refine Spl.no ?_ | refine Spl.dec (fun h => ?_) (fun h => ?_) | refine Spl.eq (fun h => ?_) (fun h => ?_) | refine Spl.ne (fun h => ?_) (fun h => ?_) | refine Spl.seq (fun h => ?_) (fun h => ?_) | refine Spl.not ?_ | refine Spl.any (fun h => ?_) (fun h => ?_))
    | (rw [rows5_get (by omega)])
    | refine And.intro (Nat.le_of_ble_eq_true rfl) ?_
    | ((with_reducible apply And.intro); first | omega | rfl | (dsimp only; omega))))
  all_goals (conv => whnf)
  · rw [key2 ⟨by assumption, by assumption⟩]; rfl
  all_goals exact ⟨(T.length - (j + 1)).toNat, _, by omega, Wk.narrow _ [0, 2, 3, 4] [2] [], j + 1, rfl, by omega, by omega, rfl, key (by omega)⟩
def othersP (c : Int) (utf : Bool) : List Int :=
  if utf = false then (if 65 ≤ c ∧ c ≤ 90 then [c + 32] else if 97 ≤ c ∧ c ≤ 122 then [c - 32] else [])
  else if c = 75 then [107, 8490] else if c = 107 then [75, 8490] else if c = 8490 then [75, 107]
  else if c = 83 then [115, 383] else if c = 115 then [83, 383] else if c = 383 then [83, 115]
  else if c = 181 then [924, 956] else if c = 924 then [181, 956] else if c = 956 then [181, 924]
  else if c = 931 then [962, 963] else if c = 962 then [931, 963] else if c = 963 then [931, 962]
  else if (ofRow c).oth ≠ 0 then [c + (ofRow c).oth] else []
theorem ite_len2 {c : Prop} [Decidable c] {a b : List Int} (h1 : a.length ≤ 2) (h2 : b.length ≤ 2) : (if c then a else b).length ≤ 2 := by split <;> assumption
theorem othersP_len (c : Int) (utf : Bool) : (othersP c utf).length ≤ 2 := by
  unfold othersP
  repeat' (apply ite_len2)
  all_goals simp
theorem tableT_oth : ∀ r ∈ tableT, -100000 ≤ r.oth ∧ r.oth ≤ 100000 := by decide +kernel
theorem ofRowL_mem (c : Int) : ∀ l : List Row5, ofRowL c l ∈ l ∨ (ofRowL c l).oth = 0
  | [] => .inr rfl
  | r :: l => by
    unfold ofRowL
    split
    · exact .inl (List.mem_cons_self ..)
    · rcases ofRowL_mem c l with h | h
      · exact .inl (List.mem_cons_of_mem _ h)
      · exact .inr h
theorem ofRow_oth (c : Int) : -100000 ≤ (ofRow c).oth ∧ (ofRow c).oth ≤ 100000 := by
  unfold ofRow
  split
  · decide
  · rcases ofRowL_mem c tableT with h | h
    · exact tableT_oth _ h
    · rw [h]; decide
attribute [local irreducible] ofRow
theorem others_c (c : Int) (utf : Bool) (hc : -10 ≤ c ∧ c ≤ 2000000) : VCalls Try.prog 127 [iv c, bv utf] (fun r => r = is (othersP c utf)) := by
  have ho := ofRow_oth c
  have hr := ofRow_c c
  obtain ⟨G, hG⟩ : ∃ G, othersP c utf = G := ⟨_, rfl⟩
  rw [hG]
  unfold othersP at hG
  generalize ofRow c = r at *
  obtain ⟨lo, hi, cat, scr, oth⟩ := r
  simp only at ho hG
  refine VCalls.ofr tabOk Try.func127 (by decide) rfl rfl ?_
  refine RWP.of tabOk orders ?_
  cases utf
  · repeat' ((conv => whnf); (first
    | (with_reducible first | refine Spl.yes ?_ | refine Spl.no ?_ | refine Spl.dec (fun h => ?_) (fun h => ?_) | refine Spl.eq (fun h => ?_) (fun h => ?_) | refine Spl.ne (fun h => ?_) (fun h => ?_) | refine Spl.seq (fun h => ?_) (fun h => ?_) | refine Spl.not ?_ | refine Spl.any (fun h => ?_) (fun h => ?_))
    | ((with_reducible apply And.intro); first | omega | rfl | (dsimp only; omega))))
    all_goals (conv => whnf)
    all_goals (subst hG)
    all_goals (try dsimp only at *)
    all_goals first | (exfalso; omega) | (apply fn_by (f := is); (focus ((repeat (first | (apply ite_yes; (focus first | assumption | omega)) | (apply ite_no; (focus first | assumption | exact b_nt (by assumption) | exact b_nf (by assumption) | omega)) | (apply ite_yes; (focus (first | (simp [*]; done) | (simp [*, bs]; done)))) | (apply ite_no; (focus (first | (simp [*]; done) | (simp [*, bs]; done)))))); exact rfl)); rfl)
  · repeat' ((conv => whnf); (first
    | (with_reducible first | refine Spl.yes ?_ | refine Spl.no ?_ | refine Spl.dec (fun h => ?_) (fun h => ?_) | refine Spl.eq (fun h => ?_) (fun h => ?_) | refine Spl.ne (fun h => ?_) (fun h => ?_) | refine Spl.seq (fun h => ?_) (fun h => ?_) | refine Spl.not ?_ | refine Spl.any (fun h => ?_) (fun h => ?_))
    | (refine VCalls.mono (hr) ?_; rintro _ rfl)
    | ((with_reducible apply And.intro); first | omega | rfl | (dsimp only; omega))))
    all_goals (conv => whnf)
    all_goals (subst hG)
    all_goals (try dsimp only at *)
    all_goals first | (exfalso; omega) | (apply fn_by (f := is); (focus ((repeat (first | (apply ite_yes; (focus first | assumption | omega)) | (apply ite_no; (focus first | assumption | exact b_nt (by assumption) | exact b_nf (by assumption) | omega)) | (apply ite_yes; (focus (first | (simp [*]; done) | (simp [*, bs]; done)))) | (apply ite_no; (focus (first | (simp [*]; done) | (simp [*, bs]; done)))))); exact rfl)); rfl)
end Go.Proofs.Ytnoohgiecnmajaa.VC

