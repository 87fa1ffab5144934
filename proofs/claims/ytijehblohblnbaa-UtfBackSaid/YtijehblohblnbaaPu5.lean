/- Plain laws: the edges. -/
import Derived.Test.YtijehblohblnbaaPu4
import Derived.Test.YtijehblohblnbaaUA3
namespace Go.Proofs.Ytijehblohblnbaa.UA
open Go.RowKit Go.Proofs.YtijehblohblnbaaW.PrintWords
set_option linter.unusedVariables false
set_option linter.unusedSimpArgs false

/-- Where the next character begins. -/
def nx (l : List Int) (m : Bool) (a : Int) : Int := (nextP l a m).2
/-- The edges behind an offset. -/
def E (l : List Int) (m : Bool) : Nat → Int → List Int
  | 0, _ => []
  | r + 1, a => if a < l.length then nx l m a :: E l m r (nx l m a) else []
theorem nx_range {l : List Int} (hby : ∀ x ∈ l, Byte x) (m : Bool) {a : Int} (h0 : 0 ≤ a) (h1 : a < l.length) : a + 1 ≤ nx l m a ∧ nx l m a ≤ l.length := by
  unfold nx
  rw [next_in (by omega)]
  by_cases h : m = true ∧ (pt l a).2 > 0
  · rw [if_pos h]
    rcases pt_range hby h0 h1 with x | x
    · exact ⟨by show a + 1 ≤ a + (pt l a).2; omega, x.2.2.2⟩
    · rw [x] at h; exact absurd h.2 (by simp)
  · rw [if_neg h]
    exact ⟨by show a + 1 ≤ a + 1; omega, by show a + 1 ≤ (l.length : Int); omega⟩
theorem E_end {l : List Int} {m : Bool} (r : Nat) {a : Int} (h : ¬ a < l.length) : E l m r a = [] := by
  cases r with
  | zero => rfl
  | succ r => exact if_neg h
theorem E_in {l : List Int} {m : Bool} (r : Nat) {a : Int} (h : a < l.length) : E l m (r + 1) a = nx l m a :: E l m r (nx l m a) := if_pos h
theorem E_more {l : List Int} (hby : ∀ x ∈ l, Byte x) {m : Bool} : ∀ (r : Nat) (a : Int), 0 ≤ a → l.length - a ≤ r → ∀ j, E l m (r + j) a = E l m r a := by
  intro r
  induction r with
  | zero => intro a h0 h1 j; rw [E_end _ (by omega), E_end _ (by omega)]
  | succ r ih =>
    intro a h0 h1 j
    by_cases h : a < l.length
    · have hx := nx_range hby m h0 h
      rw [show r + 1 + j = (r + j) + 1 by omega, E_in _ h, E_in _ h, ih _ (by omega) (by omega)]
    · rw [E_end _ h, E_end _ h]
theorem E_mem {l : List Int} (hby : ∀ x ∈ l, Byte x) {m : Bool} : ∀ (r : Nat) (a : Int), 0 ≤ a → ∀ x ∈ E l m r a, a < x ∧ x ≤ l.length := by
  intro r
  induction r with
  | zero => intro a h0 x hx; exact absurd hx (by simp [E])
  | succ r ih =>
    intro a h0 x hx
    by_cases h : a < l.length
    · have hr := nx_range hby m h0 h
      rw [E_in _ h] at hx
      rcases List.mem_cons.1 hx with rfl | hx
      · omega
      · have := ih _ (by omega) x hx; omega
    · rw [E_end _ h] at hx; exact absurd hx (by simp)
theorem E_len {l : List Int} (hby : ∀ x ∈ l, Byte x) {m : Bool} : ∀ (r : Nat) (a : Int), 0 ≤ a → (E l m r a).length ≤ r := by
  intro r
  induction r with
  | zero => intro a h0; simp [E]
  | succ r ih =>
    intro a h0
    by_cases h : a < l.length
    · have hr := nx_range hby m h0 h
      have := ih (nx l m a) (by omega)
      rw [E_in _ h, List.length_cons]; omega
    · rw [E_end _ h]; simp
/-- Strictly rising. -/
def Up : List Int → Prop
  | [] => True
  | x :: t => (∀ y ∈ t, x < y) ∧ Up t
theorem E_up {l : List Int} (hby : ∀ x ∈ l, Byte x) {m : Bool} : ∀ (r : Nat) (a : Int), 0 ≤ a → Up (E l m r a) := by
  intro r
  induction r with
  | zero => intro a h0; trivial
  | succ r ih =>
    intro a h0
    by_cases h : a < l.length
    · have hr := nx_range hby m h0 h
      rw [E_in _ h]
      exact ⟨fun y hy => (E_mem hby r _ (by omega) y hy).1, ih _ (by omega)⟩
    · rw [E_end _ h]; trivial
theorem edges_l0 {l : List Int} (hN : l.length < 4611686018427387904) (hby : ∀ x ∈ l, Byte x) (m : Bool) : ∀ (r : Nat) (a : Int) (acc : List Int), 0 ≤ a → l.length - a ≤ r → acc.length + r < 17592186044416 → ∀ j, lurcherref01_Edges.l0 (r + 12 + j) l m acc a = some (acc ++ E l m r a) := by
  intro r
  induction r with
  | zero => intro a acc h0 h1 h2 j; rw [show 0 + 12 + j = (j + 11) + 1 by omega, lurcherref01_Edges.l0, if_neg (by omega), E_end _ (by omega), List.append_nil]
  | succ r ih =>
    intro a acc h0 h1 h2 j
    rw [show r + 1 + 12 + j = (r + 1 + j + 11) + 1 by omega, lurcherref01_Edges.l0]
    by_cases h : a < l.length
    · have hr := nx_range hby m h0 h
      rw [if_pos h, rNext hN hby, Option.bind_some, if_pos (by omega), show r + 1 + j + 11 = r + 12 + j by omega, E_in _ h]
      have := ih (nx l m a) (acc ++ [nx l m a]) (by omega) (by omega) (by simp; omega) j
      rw [List.append_assoc] at this
      exact this
    · rw [if_neg h, E_end _ h, List.append_nil]
theorem count_l0 {l : List Int} (hN : l.length < 4611686018427387904) (hby : ∀ x ∈ l, Byte x) (m : Bool) : ∀ (r : Nat) (a : Int) (n : Nat), 0 ≤ a → l.length - a ≤ r → n + r < 4611686018427387904 → ∀ j, utf_Count.l0 (r + 2 + j) l m n a = some ((n : Int) + (E l m r a).length) := by
  intro r
  induction r with
  | zero => intro a n h0 h1 h2 j; rw [show 0 + 2 + j = (j + 1) + 1 by omega, utf_Count.l0, if_neg (by omega), E_end _ (by omega)]; simp
  | succ r ih =>
    intro a n h0 h1 h2 j
    rw [show r + 1 + 2 + j = (r + 1 + j + 1) + 1 by omega, utf_Count.l0]
    by_cases h : a < l.length
    · have hr := nx_range hby m h0 h
      rw [if_pos h, uNext hN hby, Option.bind_some, w64 (by omega) (by omega), show (n : Int) + 1 = ((n + 1 : Nat) : Int) by omega, show r + 1 + j + 1 = r + 2 + j by omega, E_in _ h, List.length_cons]
      have := ih (nx l m a) (n + 1) (by omega) (by omega) (by omega) j
      refine this.trans ?_
      congr 1
      omega
    · rw [if_neg h, E_end _ h]; simp
theorem edge_l0 {l : List Int} (hN : l.length < 4611686018427387904) (hby : ∀ x ∈ l, Byte x) (m : Bool) (at' : Int) (hat : at' ≤ l.length) : ∀ (r : Nat) (a : Int), 0 ≤ a → l.length - a ≤ r → ∀ j, utf_Edge.l0 (r + 2 + j) l at' m a = some (decide (at' ∈ a :: E l m r a)) := by
  intro r
  induction r with
  | zero =>
    intro a h0 h1 j
    rw [show 0 + 2 + j = (j + 1) + 1 by omega, utf_Edge.l0, if_neg (by omega), E_end _ (by omega)]
    by_cases e : a = at'
    · rw [e]; simp
    · have : (a == at') = false := by simpa using e
      rw [this, decide_eq_false (by simp; exact fun h => e h.symm)]
  | succ r ih =>
    intro a h0 h1 j
    rw [show r + 1 + 2 + j = (r + 1 + j + 1) + 1 by omega, utf_Edge.l0]
    by_cases h : a < at'
    · have h' : a < l.length := by omega
      have hr := nx_range hby m h0 h'
      rw [if_pos h, uNext hN hby, Option.bind_some, show r + 1 + j + 1 = r + 2 + j by omega, E_in _ h']
      refine (ih (nx l m a) (by omega) (by omega) j).trans ?_
      congr 1
      have : (at' ∈ a :: nx l m a :: E l m r (nx l m a)) ↔ at' ∈ nx l m a :: E l m r (nx l m a) := by
        rw [List.mem_cons]
        exact ⟨fun x => x.elim (fun y => by omega) id, Or.inr⟩
      exact (decide_eq_decide.2 this).symm
    · rw [if_neg h]
      by_cases e : a = at'
      · rw [e]; simp
      · have e2 : (a == at') = false := by simpa using e
        rw [e2, decide_eq_false]
        intro hm
        rcases List.mem_cons.1 hm with x | x
        · exact e x.symm
        · have := (E_mem hby (r + 1) a h0 at' x).1; omega
/-- All edges. -/
def edges (l : List Int) (m : Bool) : List Int := 0 :: E l m l.length 0
theorem edge_f {l : List Int} (hN : l.length < 4611686018427387904) (hby : ∀ x ∈ l, Byte x) (m : Bool) (a : Int) (j : Nat) : utf_Edge.f (l.length + 3 + j) l a m = some (decide (a ∈ edges l m)) := by
  unfold utf_Edge.f
  have hmem : ∀ x ∈ edges l m, 0 ≤ x ∧ x ≤ l.length := by
    intro x hx
    rcases List.mem_cons.1 hx with rfl | hx
    · omega
    · have := E_mem hby _ 0 (by omega) x hx; omega
  rw [show l.length + 3 + j = (l.length + 2 + j) + 1 by omega]
  by_cases h1 : a < 0
  · rw [if_pos h1, utf_Edge.j0, if_pos rfl, decide_eq_false (fun h => by have := hmem a h; omega)]
  rw [if_neg h1]
  by_cases h2 : a > l.length
  · rw [decide_eq_true h2, utf_Edge.j0, if_pos rfl, decide_eq_false (fun h => by have := hmem a h; omega)]
  · rw [decide_eq_false h2, utf_Edge.j0, if_neg (by simp)]
    exact edge_l0 hN hby m a (by omega) l.length 0 (by omega) (by omega) j
end Go.Proofs.Ytijehblohblnbaa.UA
