import Derived.Test.YtijehblohblnbaaPu5
import Derived.Test.YtijehblohblnbaaUA4
namespace Go.Proofs.Ytijehblohblnbaa.UA
open Go.RowKit Go.Proofs.YtijehblohblnbaaW.PrintWords
set_option linter.unusedVariables false
set_option linter.unusedSimpArgs false

theorem edges_mem {l : List Int} (hby : ∀ x ∈ l, Byte x) (m : Bool) : ∀ x ∈ edges l m, 0 ≤ x ∧ x ≤ l.length := by
  intro x hx
  rcases List.mem_cons.1 hx with rfl | hx
  · omega
  · have := E_mem hby _ 0 (by omega) x hx; omega
theorem edges_up {l : List Int} (hby : ∀ x ∈ l, Byte x) (m : Bool) : Up (edges l m) := ⟨fun y hy => (E_mem hby _ 0 (by omega) y hy).1, E_up hby _ 0 (by omega)⟩
theorem Up.tail_of : ∀ (pre suf : List Int), Up (pre ++ suf) → Up suf
  | [], _, h => h
  | _ :: pre, suf, h => Up.tail_of pre suf h.2
theorem rd_mid (pre : List Int) (s : Int) (t : List Int) : rd (pre ++ s :: t) (pre.length : Int) = s := by
  unfold rd
  rw [Int.toNat_natCast, List.getD_eq_getElem?_getD, List.getElem?_append_right (by omega)]
  simp
theorem edges_loop {l : List Int} (hN : l.length < 4611686018427387904) (hby : ∀ x ∈ l, Byte x) (m : Bool) : ∀ (r : Nat) (a : Int) (pre suf : List Int), edges l m = pre ++ suf → (∀ x ∈ pre, x < a) → (∀ x ∈ suf, a ≤ x) → 0 ≤ a → a ≤ l.length + 1 → l.length + 1 - a ≤ r →
    ∀ j, lurcherlaw01_UtfEdges.l0 (2 * r + l.length + 10 + j) l m (edges l m) pre.length a = some true := by
  intro r
  have hlen : (edges l m).length ≤ l.length + 1 := by
    have := E_len hby (m := m) l.length 0 (by omega)
    unfold edges; rw [List.length_cons]; omega
  have hfin : ∀ (a : Int) (pre suf : List Int) (k : Nat), edges l m = pre ++ suf → (∀ x ∈ suf, a ≤ x) → ¬ a ≤ l.length → lurcherlaw01_UtfEdges.l0 (k + 1) l m (edges l m) pre.length a = some true := by
    intro a pre suf k he hs ha
    rw [lurcherlaw01_UtfEdges.l0, if_neg ha]
    have : suf = [] := by
      cases suf with
      | nil => rfl
      | cons s t =>
        have h1 := hs s (by simp)
        have h2 := edges_mem hby m s (by rw [he]; simp)
        omega
    rw [he, this]; simp
  induction r with
  | zero =>
    intro a pre suf he hp hs h0 h1 h2 j
    rw [show 2 * 0 + l.length + 10 + j = (l.length + 9 + j) + 1 by omega]
    exact hfin a pre suf (l.length + 9 + j) he hs (by omega)
  | succ r ih =>
    intro a pre suf he hp hs h0 h1 h2 j
    rw [show 2 * (r + 1) + l.length + 10 + j = (2 * r + l.length + 10 + j + 1) + 1 by omega]
    by_cases ha : a ≤ l.length
    · rw [lurcherlaw01_UtfEdges.l0, if_pos ha]
      have hpl : pre.length ≤ l.length + 1 := by rw [he, List.length_append] at hlen; omega
      have ee := edge_f hN hby m a (2 * r + 7 + j)
      rw [show l.length + 3 + (2 * r + 7 + j) = 2 * r + l.length + 10 + j by omega] at ee
      have hno : a ∉ pre := fun h => by have := hp a h; omega
      have hw : wrap64 (a + 1) = a + 1 := w64 (by omega) (by omega)
      have hwp : wrap64 ((pre.length : Int) + 1) = (pre.length : Int) + 1 := w64 (by omega) (by omega)
      cases suf with
      | nil =>
        have hlt : ¬ (pre.length : Int) < ((edges l m).length : Int) := by rw [he]; simp
        rw [if_neg hlt, lurcherlaw01_UtfEdges.j2, if_neg (by simp), ee, Option.bind_some, decide_eq_false (by rw [he]; simpa using hno), if_neg (by simp), hw]
        exact ih (a + 1) pre [] he (fun x hx => by have := hp x hx; omega) (fun x hx => absurd hx (by simp)) (by omega) (by omega) (by omega) j
      | cons s t =>
        have hlt : (pre.length : Int) < ((edges l m).length : Int) := by rw [he, List.length_append, List.length_cons]; omega
        have hrd : rd (edges l m) (pre.length : Int) = s := by rw [he]; exact rd_mid pre s t
        have hup : Up (s :: t) := Up.tail_of pre (s :: t) (by rw [← he]; exact edges_up hby m)
        rw [if_pos hlt, if_pos (by omega), hrd]
        by_cases e : s = a
        · have e1 : (s == a) = true := by simpa using e
          rw [e1, lurcherlaw01_UtfEdges.j2, if_pos rfl, ee, Option.bind_some, decide_eq_true (by rw [he, e]; simp), if_neg (by simp), hw, hwp]
          have := ih (a + 1) (pre ++ [s]) t (by rw [he]; simp) (fun x hx => by
            rcases List.mem_append.1 hx with hx | hx
            · have := hp x hx; omega
            · simp at hx; omega) (fun x hx => by have := hup.1 x hx; omega) (by omega) (by omega) (by omega) j
          rw [List.length_append, List.length_singleton, Int.natCast_add] at this
          exact this
        · have e1 : (s == a) = false := by simpa using e
          have hs1 := hs s (by simp)
          have hnt : a ∉ t := fun h => by have := hup.1 a h; omega
          rw [e1, lurcherlaw01_UtfEdges.j2, if_neg (by simp), ee, Option.bind_some, decide_eq_false (by rw [he]; simp; exact ⟨hno, fun h => e h.symm, hnt⟩), if_neg (by simp), hw]
          exact ih (a + 1) pre (s :: t) he (fun x hx => by have := hp x hx; omega) (fun x hx => by
            rcases List.mem_cons.1 hx with hx | hx
            · rw [hx]; omega
            · have := hup.1 x hx; omega) (by omega) (by omega) (by omega) j
    · exact hfin a pre suf _ he hs ha
end Go.Proofs.Ytijehblohblnbaa.UA
namespace Go.Proofs.Ytijehblohblnbaa.Pure
open Go.RowKit Go.Proofs.Ytijehblohblnbaa.UA Go.Proofs.YtijehblohblnbaaW.PrintWords Go.Proofs.YtijehblohblnbaaW.PrintLast

theorem UtfEdges : lurcherlaw01_UtfEdges.Pure := by
  intro l m h1 h2 h3
  have hby := byte_of_wf h3
  have hN : l.length < 4611686018427387904 := by omega
  refine ⟨3 * l.length + 200, ?_⟩
  unfold lurcherlaw01_UtfEdges.f lurcherref01_Edges.f utf_Count.f
  rw [show 3 * l.length + 200 = 100 + (3 * l.length + 100) by omega, awake_up, Option.bind_some, if_pos rfl]
  by_cases h : (l.length : Int) > 2000
  · rw [if_pos h]
  · have e1 := edges_l0 hN hby m l.length 0 [0] (by omega) (by omega) (by simp; omega) (2 * l.length + 188)
    have e2 := count_l0 hN hby m l.length 0 0 (by omega) (by omega) (by omega) (2 * l.length + 198)
    have e3 := edge_f hN hby m (-1) (2 * l.length + 197)
    have e4 := edge_f hN hby m ((l.length : Int) + 1) (2 * l.length + 197)
    rw [show l.length + 12 + (2 * l.length + 188) = 100 + (3 * l.length + 100) by omega] at e1
    rw [show l.length + 2 + (2 * l.length + 198) = 100 + (3 * l.length + 100) by omega] at e2
    rw [show l.length + 3 + (2 * l.length + 197) = 100 + (3 * l.length + 100) by omega] at e3 e4
    have hE := E_len hby (m := m) l.length 0 (by omega)
    have e5 : ([0] ++ E l m l.length 0 : List Int) = edges l m := rfl
    have e6 : wrap64 (((edges l m).length : Int) - 1) = ((0 : Nat) : Int) + ((E l m l.length 0).length : Int) := by
      unfold edges; rw [List.length_cons, w64 (by omega) (by omega)]; omega
    rw [if_neg h, e1, Option.bind_some, e5]
    rw [show ((0 : Nat) : Int) = (0 : Int) from rfl] at e2
    rw [e2, Option.bind_some, e6, if_pos (by simp), e3, Option.bind_some, decide_eq_false (fun hh => by have := edges_mem hby m _ hh; omega), if_neg (by simp), w64 (x := (l.length : Int) + 1) (by omega) (by omega), e4, Option.bind_some, decide_eq_false (fun hh => by have := edges_mem hby m _ hh; omega)]
    rw [show 100 + (3 * l.length + 100) = (3 * l.length + 199) + 1 by omega, lurcherlaw01_UtfEdges.j0, if_neg (by simp), show 3 * l.length + 199 = 2 * (l.length + 1) + l.length + 10 + 187 by omega]
    exact edges_loop hN hby m (l.length + 1) 0 [] (edges l m) rfl (fun x hx => absurd hx (by simp)) (fun x hx => (edges_mem hby m x hx).1) (by omega) (by omega) (by omega) 187

end Go.Proofs.Ytijehblohblnbaa.Pure
