/- Plain laws: Next, Prev. -/
import Derived.Test.YtijehblohblnbaaPu3
namespace Go.Proofs.Ytijehblohblnbaa.UA
open Go.RowKit Go.Proofs.YtijehblohblnbaaW.PrintWords
set_option linter.unusedVariables false
set_option linter.unusedSimpArgs false

def nextP (l : List Int) (a : Int) (m : Bool) : Int × Int :=
  if a < 0 ∨ a ≥ l.length then (-1, a) else if m = true ∧ (pt l a).2 > 0 then ((pt l a).1, a + (pt l a).2) else (rd l a, a + 1)
theorem pt_range {l : List Int} (hby : ∀ x ∈ l, Byte x) {a : Int} (h0 : 0 ≤ a) (ha : a < l.length) : (0 ≤ (pt l a).1 ∧ 1 ≤ (pt l a).2 ∧ (pt l a).2 ≤ 4 ∧ a + (pt l a).2 ≤ l.length) ∨ pt l a = (0, 0) := by
  have hb := byte_at hby h0 ha
  rcases pt_seq l a hb ha with hs | ⟨_, he⟩
  · exact Or.inl (seq_pos hb hs)
  · exact Or.inr he
theorem next_out {l : List Int} {a : Int} {m : Bool} (h : a < 0 ∨ a ≥ l.length) : nextP l a m = (-1, a) := if_pos h
theorem next_in {l : List Int} {a : Int} {m : Bool} (h : ¬ (a < 0 ∨ a ≥ l.length)) : nextP l a m = if m = true ∧ (pt l a).2 > 0 then ((pt l a).1, a + (pt l a).2) else (rd l a, a + 1) := if_neg h
/-- The byte itself. -/
theorem this_byte {l : List Int} (hN : l.length < 4611686018427387904) (hby : ∀ x ∈ l, Byte x) {a : Int} (h0 : 0 ≤ a) (h1 : a < l.length) : (if 0 ≤ a then (if a < (l.length : Int) then (some (wrap64 (rd l a), wrap64 (a + 1))) else (none)) else (none)) = some (rd l a, a + 1) := by
  have hb := byte_at hby h0 h1
  unfold Byte at hb
  rw [if_pos h0, if_pos h1, w64 (by omega) (by omega), w64 (by omega) (by omega)]
theorem uNext {l : List Int} (hN : l.length < 4611686018427387904) (hby : ∀ x ∈ l, Byte x) (k : Nat) (a : Int) (m : Bool) : utf_Next.f (k + 1) l a m = some (nextP l a m) := by
  unfold utf_Next.f
  by_cases h1 : a < 0
  · rw [next_out (Or.inl h1), if_pos h1, utf_Next.j0, if_pos rfl]
  rw [if_neg h1]
  by_cases h2 : a ≥ l.length
  · rw [next_out (Or.inr h2), decide_eq_true h2, utf_Next.j0, if_pos rfl]
  rw [next_in (by omega), decide_eq_false h2, utf_Next.j0, if_neg (show ¬ (false = true) by simp)]
  have hr := pt_range hby (show 0 ≤ a by omega) (by omega)
  cases m
  · rw [if_neg (show ¬ (false = true) by simp), if_neg (show ¬ (false = true ∧ (pt l a).2 > 0) by simp)]
    exact this_byte hN hby (by omega) (by omega)
  · rw [if_pos rfl, point_f (by omega) (by omega) hN hby, Option.bind_some]
    by_cases h3 : (pt l a).2 > 0
    · have : (pt l a).2 ≤ 4 := by
        rcases hr with h | h
        · exact h.2.2.1
        · rw [h] at h3; exact absurd h3 (by decide)
      rw [if_pos h3, if_pos ⟨rfl, h3⟩, w64 (by omega) (by omega)]
    · rw [if_neg h3, if_neg (show ¬ (true = true ∧ (pt l a).2 > 0) from fun h => h3 h.2)]
      exact this_byte hN hby (by omega) (by omega)
theorem rNext {l : List Int} (hN : l.length < 4611686018427387904) (hby : ∀ x ∈ l, Byte x) (k : Nat) (a : Int) (m : Bool) : lurcherref01_Next.f (k + 11) l a m = some (nextP l a m) := by
  unfold lurcherref01_Next.f
  by_cases h1 : a < 0
  · rw [next_out (Or.inl h1), if_pos h1, lurcherref01_Next.j0, if_pos rfl]
  rw [if_neg h1]
  by_cases h2 : a ≥ l.length
  · rw [next_out (Or.inr h2), decide_eq_true h2, lurcherref01_Next.j0, if_pos rfl]
  rw [next_in (by omega), decide_eq_false h2, lurcherref01_Next.j0, if_neg (show ¬ (false = true) by simp), at_f k l a (by omega) (by omega) hN hby, Option.bind_some]
  have hr := pt_range hby (show 0 ≤ a by omega) (by omega)
  cases m
  · rw [if_neg (show ¬ (false = true) by simp), if_neg (show ¬ (false = true ∧ (pt l a).2 > 0) by simp)]
    exact this_byte hN hby (by omega) (by omega)
  · rw [if_pos rfl]
    rcases hr with h | h
    · have h4 := h.2.2.1
      rw [if_neg (show ¬ (pt l a).2 = 0 by omega), if_pos (show (pt l a).2 > 0 by omega), if_pos ⟨rfl, show (pt l a).2 > 0 by omega⟩, w64 (by omega) (by omega)]
    · rw [h, if_pos rfl, if_neg (show ¬ ((-1 : Int), (0 : Int)).2 > 0 by decide), if_neg (show ¬ (true = true ∧ ((0 : Int), (0 : Int)).2 > 0) by decide)]
      exact this_byte hN hby (by omega) (by omega)
def prevL (l : List Int) (a : Int) : Nat → Int × Int
  | 0 => (rd l (a - 1), a - 1)
  | n + 1 => if (n : Int) + 1 ≤ a ∧ (pt l (a - ((n : Int) + 1))).2 = (n : Int) + 1 then ((pt l (a - ((n : Int) + 1))).1, a - ((n : Int) + 1)) else prevL l a n
def prevP (l : List Int) (a : Int) (m : Bool) : Int × Int :=
  if a < 1 ∨ a > l.length then (-1, a) else if m = true then prevL l a 4 else (rd l (a - 1), a - 1)
/-- The bytes between are one sequence just if the sequence at the begin has that length. -/
theorem of_pt {l : List Int} (hby : ∀ x ∈ l, Byte x) {a : Int} (n : Nat) (h0 : 0 ≤ a) (hn : 1 ≤ n ∧ n ≤ 4) (h : a + n ≤ l.length) : ofP ((l.take (a + n).toNat).drop a.toNat) = if (pt l a).2 = n then (pt l a).1 else -1 := by
  have hb := byte_at hby h0 (show a < l.length by omega)
  have hs := pt_seq l a hb (by omega)
  obtain rfl | rfl | rfl | rfl : n = 1 ∨ n = 2 ∨ n = 3 ∨ n = 4 := by omega
  · rw [o1 hby h0 h]
    by_cases g : rd l a < 128
    · rw [if_pos g, pt_one hb (by omega) g]; simp
    · rw [if_neg g, if_neg]
      rcases hs with hs | ⟨_, he⟩
      · generalize pt l a = p at hs ⊢
        cases hs with
        | one x _ => exact absurd x g
        | two _ _ => simp
        | three _ _ => simp
        | four _ _ => simp
      · rw [he]; simp
  · by_cases g : g2 l a
    · rw [(o2 hby h0 h).1 g, pt_two hb (by omega) g h]; simp
    · rw [(o2 hby h0 h).2 g, if_neg]
      rcases hs with hs | ⟨_, he⟩
      · generalize pt l a = p at hs ⊢
        cases hs with
        | one _ _ => simp
        | two x _ => exact absurd x g
        | three _ _ => simp
        | four _ _ => simp
      · rw [he]; simp
  · by_cases g : g3 l a
    · rw [(o3 hby h0 h).1 g, pt_three hb (by omega) g h]; simp
    · rw [(o3 hby h0 h).2 g, if_neg]
      rcases hs with hs | ⟨_, he⟩
      · generalize pt l a = p at hs ⊢
        cases hs with
        | one _ _ => simp
        | two _ _ => simp
        | three x _ => exact absurd x g
        | four _ _ => simp
      · rw [he]; simp
  · by_cases g : g4 l a
    · rw [(o4 hby h0 h).1 g, pt_four hb (by omega) g h]; simp
    · rw [(o4 hby h0 h).2 g, if_neg]
      rcases hs with hs | ⟨_, he⟩
      · generalize pt l a = p at hs ⊢
        cases hs with
        | one _ _ => simp
        | two _ _ => simp
        | three _ _ => simp
        | four x _ => exact absurd x g
      · rw [he]; simp
theorem prev_out {l : List Int} {a : Int} {m : Bool} (h : a < 1 ∨ a > l.length) : prevP l a m = (-1, a) := if_pos h
theorem prev_in {l : List Int} {a : Int} {m : Bool} (h : ¬ (a < 1 ∨ a > l.length)) : prevP l a m = if m = true then prevL l a 4 else (rd l (a - 1), a - 1) := if_neg h
theorem last_byte {l : List Int} (hN : l.length < 4611686018427387904) (hby : ∀ x ∈ l, Byte x) {a : Int} (h0 : 1 ≤ a) (h1 : a ≤ l.length) : (if 0 ≤ (wrap64 (a - 1)) then (if (wrap64 (a - 1)) < (l.length : Int) then (some (wrap64 (rd l (wrap64 (a - 1))), wrap64 (a - 1))) else (none)) else (none)) = some (rd l (a - 1), a - 1) := by
  have hb := byte_at hby (show 0 ≤ a - 1 by omega) (by omega)
  unfold Byte at hb
  rw [w64 (x := a - 1) (by omega) (by omega), if_pos (by omega), if_pos (by omega), w64 (by omega) (by omega)]
theorem uPrevL {l : List Int} (hN : l.length < 4611686018427387904) (hby : ∀ x ∈ l, Byte x) {a : Int} (h0 : 1 ≤ a) (h1 : a ≤ l.length) : ∀ (n : Nat) (k : Nat), (n : Int) ≤ a → utf_Prev.l0 (2 * n + 2 + k) l a true n = some (prevL l a n)
  | 0, k, _ => by
    rw [show 2 * 0 + 2 + k = (k + 1) + 1 by omega, utf_Prev.l0, if_pos rfl, decide_eq_false (by simp), utf_Prev.j2, if_neg (by simp)]
    exact last_byte hN hby h0 h1
  | n + 1, k, hn => by
    rw [show 2 * (n + 1) + 2 + k = (2 * n + 2 + k + 1) + 1 by omega, utf_Prev.l0, if_pos rfl, decide_eq_true (by omega), utf_Prev.j2, if_pos rfl, w64 (x := a - ((n + 1 : Nat) : Int)) (by omega) (by omega), point_f (by omega) (by omega) hN hby, Option.bind_some]
    unfold prevL
    rw [show ((n + 1 : Nat) : Int) = (n : Int) + 1 by omega]
    by_cases h : (pt l (a - ((n : Int) + 1))).2 = (n : Int) + 1
    · rw [if_pos h, if_pos ⟨by omega, h⟩]
    · rw [if_neg h, if_neg (fun x => h x.2), w64 (by omega) (by omega), show (n : Int) + 1 - 1 = (n : Int) by omega]
      exact uPrevL hN hby h0 h1 n k (by omega)
theorem prevL_le {l : List Int} {a : Int} : ∀ (n m : Nat), n ≤ m → a ≤ n → prevL l a m = prevL l a n := by
  intro n m h ha
  induction m with
  | zero => rw [show n = 0 by omega]
  | succ m ih =>
    by_cases e : n = m + 1
    · rw [e]
    · rw [← ih (by omega)]
      show (if _ then _ else _) = _
      rw [if_neg (fun x => by have := x.1; omega)]
theorem uPrev {l : List Int} (hN : l.length < 4611686018427387904) (hby : ∀ x ∈ l, Byte x) (k : Nat) (a : Int) (m : Bool) : utf_Prev.f (k + 20) l a m = some (prevP l a m) := by
  unfold utf_Prev.f
  by_cases h1 : a < 1
  · rw [prev_out (Or.inl h1), if_pos h1, utf_Prev.j0, if_pos rfl]
  rw [if_neg h1]
  by_cases h2 : a > l.length
  · rw [prev_out (Or.inr h2), decide_eq_true h2, utf_Prev.j0, if_pos rfl]
  rw [prev_in (by omega), decide_eq_false h2, utf_Prev.j0, if_neg (show ¬ (false = true) by simp)]
  cases m
  · rw [if_neg (by simp), utf_Prev.l0, if_neg (by simp), utf_Prev.j2, if_neg (by simp)]
    exact last_byte hN hby (by omega) (by omega)
  · rw [if_pos rfl]
    by_cases h4 : 4 ≤ a
    · rw [show mn 4 a = ((4 : Nat) : Int) by unfold mn; omega, show k + 19 = 2 * 4 + 2 + (k + 9) by omega, uPrevL hN hby (by omega) (by omega) 4 _ (by omega)]
    · obtain ⟨n, rfl⟩ : ∃ n : Nat, a = n := ⟨a.toNat, by omega⟩
      rw [show mn 4 (n : Int) = ((n : Nat) : Int) by unfold mn; omega, show k + 19 = 2 * n + 2 + (k + 17 - 2 * n) by omega, uPrevL hN hby (by omega) (by omega) n _ (by omega), prevL_le n 4 (by omega) (by omega)]
theorem rPrevL {l : List Int} (hN : l.length < 4611686018427387904) (hby : ∀ x ∈ l, Byte x) {a : Int} (h0 : 1 ≤ a) (h1 : a ≤ l.length) : ∀ (n : Nat) (k : Nat), n ≤ 4 → lurcherref01_Prev.l0 (n + 1 + k) l a n = some (prevL l a n)
  | 0, k, _ => by
    rw [show 0 + 1 + k = k + 1 by omega, lurcherref01_Prev.l0, if_neg (by simp)]
    exact last_byte hN hby h0 h1
  | n + 1, k, hn => by
    rw [show n + 1 + 1 + k = (n + 1 + k) + 1 by omega, lurcherref01_Prev.l0, if_pos (by omega)]
    have e : wrap64 (((n + 1 : Nat) : Int) - 1) = (n : Int) := by rw [w64 (by omega) (by omega)]; omega
    unfold prevL
    by_cases h2 : ((n + 1 : Nat) : Int) ≤ a
    · rw [if_pos h2, w64 (x := a - ((n + 1 : Nat) : Int)) (by omega) (by omega), if_pos (by omega), if_pos (by omega), if_pos h1]
      have es := of_slice (l := l) (a := a - ((n + 1 : Nat) : Int)) (n + 1) hN hby
      have ep := of_pt hby (a := a - ((n + 1 : Nat) : Int)) (n + 1) (by omega) (by omega) (by omega)
      rw [show a - ((n + 1 : Nat) : Int) + ((n + 1 : Nat) : Int) = a by omega] at es ep
      rw [es, Option.bind_some, ep]
      have hr := pt_range hby (a := a - ((n + 1 : Nat) : Int)) (by omega) (by omega)
      rw [show ((n + 1 : Nat) : Int) = (n : Int) + 1 by omega] at *
      by_cases h : (pt l (a - ((n : Int) + 1))).2 = (n : Int) + 1
      · have h5 : 0 ≤ (pt l (a - ((n : Int) + 1))).1 := by
          rcases hr with x | x
          · exact x.1
          · rw [x]; decide
        rw [if_pos h, if_pos h5, if_pos ⟨h2, h⟩]
      · rw [if_neg h, if_neg (by omega), if_neg (fun x => h x.2), e]
        exact rPrevL hN hby h0 h1 n k (by omega)
    · rw [if_neg h2, e, if_neg (fun x => h2 (by have := x.1; omega))]
      exact rPrevL hN hby h0 h1 n k (by omega)
theorem rPrev {l : List Int} (hN : l.length < 4611686018427387904) (hby : ∀ x ∈ l, Byte x) (k : Nat) (a : Int) (m : Bool) : lurcherref01_Prev.f (k + 20) l a m = some (prevP l a m) := by
  unfold lurcherref01_Prev.f
  by_cases h1 : a < 1
  · rw [prev_out (Or.inl h1), if_pos h1, lurcherref01_Prev.j0, if_pos rfl]
  rw [if_neg h1]
  by_cases h2 : a > l.length
  · rw [prev_out (Or.inr h2), decide_eq_true h2, lurcherref01_Prev.j0, if_pos rfl]
  rw [prev_in (by omega), decide_eq_false h2, lurcherref01_Prev.j0, if_neg (show ¬ (false = true) by simp)]
  cases m
  · rw [if_neg (by simp)]
    exact last_byte hN hby (by omega) (by omega)
  · rw [if_pos rfl, if_pos rfl, show k + 19 = 4 + 1 + (k + 14) by omega]
    exact rPrevL hN hby (by omega) (by omega) 4 _ (by omega)
end Go.Proofs.Ytijehblohblnbaa.UA
