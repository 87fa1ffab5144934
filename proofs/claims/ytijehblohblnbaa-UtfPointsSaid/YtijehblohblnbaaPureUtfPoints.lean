import Derived.Test.YtijehblohblnbaaPu6
import Derived.Test.YtijehblohblnbaaUB1
namespace Go.Proofs.Ytijehblohblnbaa.Pure
open Go.RowKit Go.Proofs.Ytijehblohblnbaa.UA Go.Proofs.Ytijehblohblnbaa.UB Go.Proofs.YtijehblohblnbaaW.PrintWords Go.Proofs.YtijehblohblnbaaW.PrintLast
set_option linter.unusedVariables false
set_option linter.unusedSimpArgs false

theorem UtfPoints : lurcherlaw01_UtfPoints.Pure := by
  intro c s t _ h1 h2 h3 k1 k2 k3
  have hs := byte_of_wf h3
  have ht := byte_of_wf k3
  refine ⟨200, ?_⟩
  unfold lurcherlaw01_UtfPoints.f
  rw [show (200 : Nat) = 100 + 100 from rfl, awake_up, Option.bind_some, if_pos rfl, show 100 + 100 = 199 + 1 from rfl]
  have j0t : lurcherlaw01_UtfPoints.j0 (199 + 1) c s t true = some true := by rw [lurcherlaw01_UtfPoints.j0, if_pos rfl]
  by_cases c1 : (s.length : Int) > 1000
  · rw [if_pos c1, j0t]
  rw [if_neg c1]
  by_cases c2 : (t.length : Int) > 1000
  · rw [decide_eq_true c2, j0t]
  rw [decide_eq_false c2, lurcherlaw01_UtfPoints.j0, if_neg (show ¬ (false = true) by simp)]
  show (some (encP c true)).bind _ = _
  rw [Option.bind_some]
  by_cases hb : encBad c true
  · have he : encP c true = ([], 1) := if_pos hb
    rw [he]
    rfl
  have he : encP c true = (seqP c, 0) := by unfold encP; rw [if_neg hb, if_neg (by simp)]
  have hc : hasBytes c := by unfold encBad at hb; unfold hasBytes; simp at hb; omega
  have hl := seqP_pos hc
  have hp := pt_seqP hc
  have hy := seqP_byte c
  rw [he, if_pos rfl]
  have hN : (seqP c).length < 4611686018427387904 := by omega
  have hpos : (pt (seqP c) 0).2 > 0 := by rw [hp]; show ((seqP c).length : Int) > 0; omega
  have hV : V (seqP c) 0 := by
    refine .step 0 (by omega) (by omega) hpos ?_
    rw [hp]; show V (seqP c) (0 + ((seqP c).length : Int)); rw [Int.zero_add]; exact .done
  have e1 := V_valid hN hy hV (seqP c).length (198 - (seqP c).length) (by omega)
  rw [show (seqP c).length + 1 + (198 - (seqP c).length) = 199 by omega] at e1
  have e2 := uNext hN hy 198 0 true
  have n1 : nextP (seqP c) 0 true = (c, ((seqP c).length : Int)) := by
    rw [next_in (by omega), if_pos ⟨rfl, hpos⟩, hp]; simp
  have hys : ∀ x ∈ s ++ seqP c, Byte x := fun x hx => (List.mem_append.1 hx).elim (hs x) (hy x)
  have hall : ∀ x ∈ (s ++ seqP c) ++ t, Byte x := fun x hx => (List.mem_append.1 hx).elim (hys x) (ht x)
  have p1 : pt (s ++ seqP c) (s.length : Int) = (c, ((seqP c).length : Int)) := by
    have := pt_right hys (i := 0) (by omega) (by omega) hpos
    rw [Int.add_zero] at this
    rw [this, hp]
  have p2 : pt ((s ++ seqP c) ++ t) (s.length : Int) = (c, ((seqP c).length : Int)) := by
    rw [pt_left hall (by omega) (by rw [List.length_append]; omega) (by rw [p1]; show ((seqP c).length : Int) > 0; omega), p1]
  have hNa : ((s ++ seqP c) ++ t).length < 4611686018427387904 := by rw [List.length_append, List.length_append]; omega
  have e3 := uNext hNa hall 198 (s.length : Int) true
  have n2 : nextP ((s ++ seqP c) ++ t) (s.length : Int) true = (c, (s.length : Int) + ((seqP c).length : Int)) := by
    rw [next_in (by rw [List.length_append, List.length_append]; omega), if_pos ⟨rfl, by rw [p2]; show ((seqP c).length : Int) > 0; omega⟩, p2]
  have e4 := count_l0 hN hy true (seqP c).length 0 0 (by omega) (by omega) (by omega) (197 - (seqP c).length)
  rw [show (seqP c).length + 2 + (197 - (seqP c).length) = 199 by omega, show ((0 : Nat) : Int) = 0 from rfl, Int.zero_add] at e4
  have e5 : (E (seqP c) true (seqP c).length 0).length = 1 := by
    obtain ⟨q, hq⟩ : ∃ q, (seqP c).length = q + 1 := ⟨(seqP c).length - 1, by omega⟩
    have hx : nx (seqP c) true 0 = ((seqP c).length : Int) := by rw [nx_pos (by omega) (by omega) hpos, hp]; simp
    have : E (seqP c) true (q + 1) 0 = [((seqP c).length : Int)] := by
      rw [E_in _ (by omega), hx, E_end _ (by omega)]
    rw [hq, this]; rfl
  show (utf_Valid.l0 199 (seqP c) 0).bind _ = _
  rw [e1, Option.bind_some]
  show (utf_Next.f (198 + 1) (seqP c) 0 true).bind _ = _
  rw [e2, n1, Option.bind_some, if_pos (by simp; omega), List.nil_append, Option.bind_some]
  show (if s.length + (seqP c).length < 140737488355328 then _ else _) = _
  rw [if_pos (by omega), Option.bind_some, if_pos (by rw [List.length_append]; show s.length + (seqP c).length + t.length < 140737488355328; omega)]
  show (utf_Next.f (198 + 1) ((s ++ seqP c) ++ t) (s.length : Int) true).bind _ = _
  rw [e3, n2, Option.bind_some, if_pos rfl, if_pos rfl, if_pos rfl, if_pos rfl, if_pos rfl, if_pos (by show (s.length : Int) + ((seqP c).length : Int) = wrap64 ((s.length : Int) + ((seqP c).length : Int)); rw [w64 (by omega) (by omega)])]
  show (utf_Count.l0 199 (seqP c) true 0 0).bind _ = _
  rw [e4, e5]
  rfl

end Go.Proofs.Ytijehblohblnbaa.Pure
