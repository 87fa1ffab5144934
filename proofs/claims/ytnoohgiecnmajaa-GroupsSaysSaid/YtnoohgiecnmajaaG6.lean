/- A part of the ground of the proof. No condition. -/
import Derived.Test.YtnoohgiecnmajaaGE28

/- The laws of groups: awake; GroupsSays. -/
namespace Go.Proofs.Ytnoohgiecnmajaa.VC
open Go Go.RowKit
set_option linter.unusedVariables false
set_option linter.unusedSimpArgs false
set_option maxHeartbeats 4000000

def aw1 : List Int := [40, 97, 41, 40, 63, 124, 40, 98, 41, 124, 40, 99, 41, 40, 100, 41, 41, 40, 101, 41]
def aw2 : List Int := [40, 63, 60, 110, 62, 97, 41, 40, 63, 60, 110, 62, 98, 41]
theorem aw1_is : (numG (flatP aw1 0).1).e = 0 ∧ (numG (flatP aw1 0).1).most = 4 ∧ (numG (flatP aw1 0).1).n.kids.length = 3 ∧ (rdn (numG (flatP aw1 0).1).n.kids 2).f.n = 4 := by decide +kernel
theorem aw2_is : (numG (flatP aw2 0).1).e = 33 ∧ (numG (flatP aw2 0).1).at_ = 7 := by decide +kernel
theorem flatP_all (l : List Int) (o : Int) : (flatP l o).1.all SetOk := by
  have h1 := lexP_ok l o
  have hz : nodeZ.all SetOk := by unfold nodeZ; rw [Node.all, allN]; exact ⟨Nat.zero_le _, trivial⟩
  unfold flatP
  split
  · exact hz
  split
  · exact hz
  · rename_i e1 e2
    have h2 := parse_all (fit_ph (h1.2.1 (by simpa using e1)).2.2) l.length (by simpa using e2)
    exact nodeR_all _ _ _ h2.1
theorem numG_w (n : Node) : (numG n).n.w ≤ n.w ∧ (numG n).names.length ≤ n.w ∧ (n.all SetOk → (numG n).n.all SetOk) := by
  have hz : nodeZ.all SetOk := by unfold nodeZ; rw [Node.all, allN]; exact ⟨Nat.zero_le _, trivial⟩
  have hzw : nodeZ.w = 1 := by decide
  have h1 := w_pos n
  have h2 := nodeG_le n ⟨0, [], 0, 0⟩ (by decide)
  have h3 := nbN_le n 0
  have h4 := numG_is n
  refine ⟨?_, ?_, ?_⟩
  · rw [h4]; unfold numR9; split
    · simp only; omega
    · simp only; omega
  · unfold numG; split
    · simp
    · simp only at h2 ⊢; simp at h2; omega
  · intro ha
    rw [h4]; unfold numR9; split
    · exact hz
    · exact nbN_all n 0 ha
attribute [local irreducible] flatP numG
set_option maxHeartbeats 16000000
theorem awake9_c : VCalls Try.prog 19 [] (fun r => r = bv true) := by
  have hf1 := flat_c aw1 0 (by unfold Bytes; decide)
  have hf2 := flat_c aw2 0 (by unfold Bytes; decide)
  have hw1 := flatP_w aw1 0
  have hw2 := flatP_w aw2 0
  have hn1 := numG_c (flatP aw1 0).1 (by omega) (flatP_all aw1 0)
  have hn2 := numG_c (flatP aw2 0).1 (by omega) (flatP_all aw2 0)
  have ha1 := aw1_is
  have ha2 := aw2_is
  generalize flatP aw1 0 = r1 at *
  generalize flatP aw2 0 = r2 at *
  obtain ⟨⟨f1, k1⟩, b1⟩ := r1
  obtain ⟨⟨f2, k2⟩, b2⟩ := r2
  simp only at *
  generalize numG (.mk f1 k1) = q1 at *
  generalize numG (.mk f2 k2) = q2 at *
  obtain ⟨⟨g1, m1⟩, most1, names1, e1, at1⟩ := q1
  obtain ⟨⟨g2, m2⟩, most2, names2, e2, at2⟩ := q2
  simp only [Node.kids] at *
  obtain ⟨rfl, rfl, hk, hn⟩ := ha1
  obtain ⟨rfl, rfl⟩ := ha2
  have hrl := rowsN_len m1
  obtain ⟨f3, k3, h3⟩ := (rdn m1 2).ex
  rw [h3] at hn
  refine VCalls.ofr tabOk Try.func19 (by decide) rfl rfl ?_
  refine RWP.seqx tabOk orders ?_
  conv => whnf
  refine RWP.seq (RWP.konst aw1 rfl ⟨rfl, rfl, rfl⟩ ⟨rfl, rfl, rfl⟩ rfl rfl rfl (fun a => by kernel_rfl) ?_)
  repeat' ((conv => whnf); (first
    | (with_reducible first | refine Spl.yes ?_ | refine Spl.no ?_ | refine Spl.dec (fun h => ?_) (fun h => ?_) | refine Spl.eq (fun h => ?_) (fun h => ?_) | refine Spl.ne (fun h => ?_) (fun h => ?_) | refine Spl.seq (fun h => ?_) (fun h => ?_) | refine Spl.not ?_ | refine Spl.any (fun h => ?_) (fun h => ?_))
    | (refine VCalls.mono (hf1) ?_; rintro _ rfl)
    | refine And.intro (Nat.le_of_ble_eq_true rfl) ?_
    | ((with_reducible apply And.intro); first | omega | rfl | (dsimp only; omega))))
  all_goals (conv => whnf)
  refine RWP.seqx tabOk orders ?_
  repeat' ((conv => whnf); (first
    | (with_reducible first | refine Spl.yes ?_ | refine Spl.no ?_ | refine Spl.dec (fun h => ?_) (fun h => ?_) | refine Spl.eq (fun h => ?_) (fun h => ?_) | refine Spl.ne (fun h => ?_) (fun h => ?_) | refine Spl.seq (fun h => ?_) (fun h => ?_) | refine Spl.not ?_ | refine Spl.any (fun h => ?_) (fun h => ?_))
    | (refine VCalls.mono (hn1) ?_; rintro _ rfl)
    | refine And.intro (Nat.le_of_ble_eq_true rfl) ?_
    | ((with_reducible apply And.intro); first | omega | rfl | (dsimp only; omega))))
  all_goals (conv => whnf)
  refine RWP.seq (RWP.konst aw2 rfl ⟨rfl, rfl, rfl⟩ ⟨rfl, rfl, rfl⟩ rfl rfl rfl (fun a => by kernel_rfl) ?_)
  repeat' ((conv => whnf); (first
    | (with_reducible first | refine Spl.yes ?_ | refine Spl.no ?_ | refine Spl.dec (fun h => ?_) (fun h => ?_) | refine Spl.eq (fun h => ?_) (fun h => ?_) | refine Spl.ne (fun h => ?_) (fun h => ?_) | refine Spl.seq (fun h => ?_) (fun h => ?_) | refine Spl.not ?_ | refine Spl.any (fun h => ?_) (fun h => ?_))
    | (refine VCalls.mono (hf2) ?_; rintro _ rfl)
    | refine And.intro (Nat.le_of_ble_eq_true rfl) ?_
    | ((with_reducible apply And.intro); first | omega | rfl | (dsimp only; omega))))
  all_goals (conv => whnf)
  refine RWP.of tabOk orders ?_
  repeat' ((conv => whnf); (first
    | (with_reducible first | refine Spl.yes ?_ | refine Spl.no ?_ | refine Spl.dec (fun h => ?_) (fun h => ?_) | refine Spl.eq (fun h => ?_) (fun h => ?_) | refine Spl.ne (fun h => ?_) (fun h => ?_) | refine Spl.seq (fun h => ?_) (fun h => ?_) | refine Spl.not ?_ | refine Spl.any (fun h => ?_) (fun h => ?_))
    | (refine VCalls.mono (hn2) ?_; rintro _ rfl)
    | refine drawn_text (by decide +kernel) ?_
    | (rw [rowsN_get (by omega)])
    | (rw [h3])
    | refine And.intro (Nat.le_of_ble_eq_true rfl) ?_
    | ((with_reducible apply And.intro); first | omega | rfl | (dsimp only; omega))))
  all_goals (conv => whnf)
  all_goals first
    | (exfalso; omega)
    | (exfalso; exact absurd (show f3.n = 4 from hn) (by assumption))
    | (exfalso; exact absurd rfl (by assumption))
    | rfl
theorem says9_c (l : List Int) (o : Int) (hb : Bytes l) : VCalls Try.prog 3 [ys l, iv o] (fun r => r = bv true) := by
  have hf := flat_c l o hb
  have hw := flatP_w l o
  have hal := flatP_all l o
  have hn := numG_c (flatP l o).1 (by omega) hal
  have hn9 := number9_c (flatP l o).1 (by omega)
  rw [← numG_is] at hn9
  have hgw := numG_w (flatP l o).1
  have hsm := same_c (numG (flatP l o).1).n.w (numG (flatP l o).1).n (Nat.le_refl _) (by omega) (hgw.2.2 hal)
  have hpl := places_c (numG (flatP l o).1).n.w (numG (flatP l o).1).n (Nat.le_refl _) (by omega)
  have hs9 := same9_c (numG (flatP l o).1).names (numG (flatP l o).1).names (by omega)
  rw [decide_eq_true rfl] at hs9
  unfold SmC at hsm
  unfold PlC at hpl
  generalize flatP l o = r1 at *
  obtain ⟨⟨f1, k1⟩, b1⟩ := r1
  simp only at *
  generalize numG (.mk f1 k1) = q1 at *
  obtain ⟨⟨g1, m1⟩, most1, names1, e1, at1⟩ := q1
  simp only at *
  refine VCalls.ofr tabOk Try.func3 (by decide) rfl rfl ?_
  refine RWP.of tabOk orders ?_
  repeat' ((conv => whnf); (first
    | (with_reducible first | refine Spl.yes ?_ | refine Spl.no ?_ | refine Spl.dec (fun h => ?_) (fun h => ?_) | refine Spl.eq (fun h => ?_) (fun h => ?_) | refine Spl.ne (fun h => ?_) (fun h => ?_) | refine Spl.seq (fun h => ?_) (fun h => ?_) | refine Spl.not ?_ | refine Spl.any (fun h => ?_) (fun h => ?_))
    | (refine VCalls.mono (awake9_c) ?_; rintro _ rfl)
    | (refine VCalls.mono (hf) ?_; rintro _ rfl)
    | (refine VCalls.mono (hn) ?_; rintro _ rfl)
    | (refine VCalls.mono (hn9) ?_; rintro _ rfl)
    | (refine VCalls.mono (hsm) ?_; rintro _ rfl)
    | (refine VCalls.mono (hpl) ?_; rintro _ rfl)
    | (refine VCalls.mono (hs9) ?_; rintro _ rfl)
    | refine And.intro (Nat.le_of_ble_eq_true rfl) ?_
    | ((with_reducible apply And.intro); first | omega | rfl | (dsimp only; omega))))
  all_goals (conv => whnf)
  all_goals first
    | (exfalso; exact absurd rfl (by assumption))
    | rfl
    | (simp only [beq_self_eq_true]; rfl)
end Go.Proofs.Ytnoohgiecnmajaa.VC

