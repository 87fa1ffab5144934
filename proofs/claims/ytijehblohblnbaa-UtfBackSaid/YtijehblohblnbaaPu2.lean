/- Plain laws: what utf.point tells is what the reference's At tells. -/
import Derived.Test.YtijehblohblnbaaUA2
namespace Go.Proofs.Ytijehblohblnbaa.UA
open Go.RowKit Go.Proofs.YtijehblohblnbaaW.PrintWords
set_option linter.unusedVariables false
set_option linter.unusedSimpArgs false

abbrev cont (x : Int) : Prop := 128 ≤ x ∧ x < 192
theorem acc1 (l : List Int) (a c : Int) : acc l a c 1 = if cont (rd l (a + 1)) then some (c * 64 + (rd l (a + 1) - 128)) else none := by
  show (some c).bind _ = _
  rw [Option.bind_some, show a + 1 + ((0 : Nat) : Int) = a + 1 by omega]
theorem acc2 (l : List Int) (a c : Int) : acc l a c 2 = if cont (rd l (a + 1)) ∧ cont (rd l (a + 2)) then some ((c * 64 + (rd l (a + 1) - 128)) * 64 + (rd l (a + 2) - 128)) else none := by
  show (acc l a c 1).bind _ = _
  rw [acc1, show a + 1 + ((1 : Nat) : Int) = a + 2 by omega]
  by_cases h : cont (rd l (a + 1))
  · rw [if_pos h, Option.bind_some]
    by_cases h2 : cont (rd l (a + 2))
    · rw [if_pos h2, if_pos ⟨h, h2⟩]
    · rw [if_neg h2, if_neg (fun h => h2 h.2)]
  · rw [if_neg h, if_neg (fun h' => h h'.1)]; rfl
theorem acc3 (l : List Int) (a c : Int) : acc l a c 3 = if cont (rd l (a + 1)) ∧ cont (rd l (a + 2)) ∧ cont (rd l (a + 3)) then some (((c * 64 + (rd l (a + 1) - 128)) * 64 + (rd l (a + 2) - 128)) * 64 + (rd l (a + 3) - 128)) else none := by
  show (acc l a c 2).bind _ = _
  rw [acc2, show a + 1 + ((2 : Nat) : Int) = a + 3 by omega]
  by_cases h : cont (rd l (a + 1)) ∧ cont (rd l (a + 2))
  · rw [if_pos h, Option.bind_some]
    by_cases h2 : cont (rd l (a + 3))
    · rw [if_pos h2, if_pos ⟨h.1, h.2, h2⟩]
    · rw [if_neg h2, if_neg (fun h => h2 h.2.2)]
  · rw [if_neg h, if_neg (fun h' => h ⟨h'.1, h'.2.1⟩)]; rfl
def c2 (l : List Int) (a : Int) : Int := (rd l a - 192) * 64 + (rd l (a + 1) - 128)
def c3 (l : List Int) (a : Int) : Int := ((rd l a - 224) * 64 + (rd l (a + 1) - 128)) * 64 + (rd l (a + 2) - 128)
def c4 (l : List Int) (a : Int) : Int := (((rd l a - 240) * 64 + (rd l (a + 1) - 128)) * 64 + (rd l (a + 2) - 128)) * 64 + (rd l (a + 3) - 128)
def g2 (l : List Int) (a : Int) : Prop := (192 ≤ rd l a ∧ rd l a < 224) ∧ cont (rd l (a + 1)) ∧ 128 ≤ c2 l a
def g3 (l : List Int) (a : Int) : Prop := (224 ≤ rd l a ∧ rd l a < 240) ∧ cont (rd l (a + 1)) ∧ cont (rd l (a + 2)) ∧ 2048 ≤ c3 l a ∧ ¬ (55296 ≤ c3 l a ∧ c3 l a ≤ 57343)
def g4 (l : List Int) (a : Int) : Prop := (240 ≤ rd l a ∧ rd l a < 248) ∧ cont (rd l (a + 1)) ∧ cont (rd l (a + 2)) ∧ cont (rd l (a + 3)) ∧ 65536 ≤ c4 l a ∧ c4 l a ≤ 1114111
/-- The sequence at an offset: its code point and length, or none. -/
inductive Seq (l : List Int) (a : Int) : Int × Int → Prop
  | one : rd l a < 128 → a + 1 ≤ l.length → Seq l a (rd l a, 1)
  | two : g2 l a → a + 2 ≤ l.length → Seq l a (c2 l a, 2)
  | three : g3 l a → a + 3 ≤ l.length → Seq l a (c3 l a, 3)
  | four : g4 l a → a + 4 ≤ l.length → Seq l a (c4 l a, 4)
def NoSeq (l : List Int) (a : Int) : Prop := ¬ rd l a < 128 ∧ ¬ (g2 l a ∧ a + 2 ≤ l.length) ∧ ¬ (g3 l a ∧ a + 3 ≤ l.length) ∧ ¬ (g4 l a ∧ a + 4 ≤ l.length)
theorem ptN1 (l : List Int) (a : Int) (hb : Byte (rd l a)) (h : rd l a < 128) : ptN l a 1 = (rd l a, 1) := by
  unfold Byte at hb
  show (if rd l a - 0 < 0 ∨ rd l a - 0 > 1114111 ∨ (55296 ≤ rd l a - 0 ∧ rd l a - 0 ≤ 57343) then ((0 : Int), (0 : Int)) else (rd l a - 0, ((1 : Nat) : Int))) = _
  rw [if_neg (by omega), Int.sub_zero]
  rfl
theorem ptN2 (l : List Int) (a : Int) (hh : 192 ≤ rd l a ∧ rd l a < 224) : (g2 l a → ptN l a 2 = (c2 l a, 2)) ∧ (¬ g2 l a → ptN l a 2 = (0, 0)) := by
  unfold ptN
  simp only [show (2 : Nat) - 1 = 1 from rfl, acc1, lo, least]
  unfold g2 c2
  by_cases h : 128 ≤ rd l (a + 1) ∧ rd l (a + 1) < 192
  · rw [if_pos h]
    constructor
    · intro g; simp only []; rw [if_neg (by omega)]; rfl
    · intro g; simp only []; rw [if_pos (by omega)]
  · rw [if_neg h]
    exact ⟨fun g => absurd g.2.1 h, fun _ => rfl⟩
theorem ptN3 (l : List Int) (a : Int) (hh : 224 ≤ rd l a ∧ rd l a < 240) : (g3 l a → ptN l a 3 = (c3 l a, 3)) ∧ (¬ g3 l a → ptN l a 3 = (0, 0)) := by
  unfold ptN
  simp only [show (3 : Nat) - 1 = 2 from rfl, acc2, lo, least]
  unfold g3 c3
  by_cases h : (128 ≤ rd l (a + 1) ∧ rd l (a + 1) < 192) ∧ (128 ≤ rd l (a + 2) ∧ rd l (a + 2) < 192)
  · rw [if_pos h]
    constructor
    · intro g; simp only []; rw [if_neg (by omega)]; rfl
    · intro g; simp only []; rw [if_pos (by omega)]
  · rw [if_neg h]
    exact ⟨fun g => absurd ⟨g.2.1, g.2.2.1⟩ h, fun _ => rfl⟩
theorem ptN4 (l : List Int) (a : Int) (hh : 240 ≤ rd l a ∧ rd l a < 248) : (g4 l a → ptN l a 4 = (c4 l a, 4)) ∧ (¬ g4 l a → ptN l a 4 = (0, 0)) := by
  unfold ptN
  simp only [show (4 : Nat) - 1 = 3 from rfl, acc3, lo, least]
  unfold g4 c4
  by_cases h : (128 ≤ rd l (a + 1) ∧ rd l (a + 1) < 192) ∧ (128 ≤ rd l (a + 2) ∧ rd l (a + 2) < 192) ∧ (128 ≤ rd l (a + 3) ∧ rd l (a + 3) < 192)
  · rw [if_pos h]
    constructor
    · intro g; simp only []; rw [if_neg (by omega)]; rfl
    · intro g; simp only []; rw [if_pos (by omega)]
  · rw [if_neg h]
    exact ⟨fun g => absurd ⟨g.2.1, g.2.2.1, g.2.2.2.1⟩ h, fun _ => rfl⟩
theorem pt_seq (l : List Int) (a : Int) (hb : Byte (rd l a)) (ha : a < l.length) : Seq l a (pt l a) ∨ (NoSeq l a ∧ pt l a = (0, 0)) := by
  have hb' := hb
  unfold Byte at hb
  by_cases h1 : fits l a 1
  · rw [pt_fits (by omega) h1]
    have hh := h1
    simp only [fits, lo, hi] at hh
    rw [ptN1 l a hb' (by omega)]
    exact Or.inl (.one (by omega) (by omega))
  have n1 : ¬ rd l a < 128 := fun h => h1 (by simp only [fits, lo, hi]; omega)
  by_cases h2 : fits l a 2
  · rw [pt_fits (by omega) h2]
    simp only [fits, lo, hi] at h2
    by_cases g : g2 l a
    · rw [(ptN2 l a (by omega)).1 g]; exact Or.inl (.two g (by omega))
    · rw [(ptN2 l a (by omega)).2 g]
      exact Or.inr ⟨⟨n1, fun x => g x.1, fun x => by have := x.1.1; omega, fun x => by have := x.1.1; omega⟩, rfl⟩
  have n2 : ¬ (g2 l a ∧ a + 2 ≤ l.length) := fun h => h2 (by have := h.1.1; have := h.2; simp only [fits, lo, hi]; omega)
  by_cases h3 : fits l a 3
  · rw [pt_fits (by omega) h3]
    simp only [fits, lo, hi] at h3
    by_cases g : g3 l a
    · rw [(ptN3 l a (by omega)).1 g]; exact Or.inl (.three g (by omega))
    · rw [(ptN3 l a (by omega)).2 g]
      exact Or.inr ⟨⟨n1, n2, fun x => g x.1, fun x => by have := x.1.1; omega⟩, rfl⟩
  have n3 : ¬ (g3 l a ∧ a + 3 ≤ l.length) := fun h => h3 (by have := h.1.1; have := h.2; simp only [fits, lo, hi]; omega)
  by_cases h4 : fits l a 4
  · rw [pt_fits (by omega) h4]
    simp only [fits, lo, hi] at h4
    by_cases g : g4 l a
    · rw [(ptN4 l a (by omega)).1 g]; exact Or.inl (.four g (by omega))
    · rw [(ptN4 l a (by omega)).2 g]
      exact Or.inr ⟨⟨n1, n2, n3, fun x => g x.1⟩, rfl⟩
  have n4 : ¬ (g4 l a ∧ a + 4 ≤ l.length) := fun h => h4 (by have := h.1.1; have := h.2; simp only [fits, lo, hi]; omega)
  refine Or.inr ⟨⟨n1, n2, n3, n4⟩, pt_none fun m k1 k2 => ?_⟩
  obtain rfl | rfl | rfl | rfl : m = 1 ∨ m = 2 ∨ m = 3 ∨ m = 4 := by omega
  · exact h1
  · exact h2
  · exact h3
  · exact h4
theorem seq_pos {l : List Int} {a : Int} {p : Int × Int} (hb : Byte (rd l a)) (h : Seq l a p) : 0 ≤ p.1 ∧ 1 ≤ p.2 ∧ p.2 ≤ 4 ∧ a + p.2 ≤ l.length := by
  unfold Byte at hb
  cases h with
  | one h k => exact ⟨hb.1, by simp, by simp, k⟩
  | two h k => exact ⟨by have := h.2.2; show 0 ≤ c2 l a; omega, by simp, by simp, k⟩
  | three h k => exact ⟨by have := h.2.2.2.1; show 0 ≤ c3 l a; omega, by simp, by simp, k⟩
  | four h k => exact ⟨by have := h.2.2.2.2.1; show 0 ≤ c4 l a; omega, by simp, by simp, k⟩

/-! The reference's. -/
theorem slice_eq (l : List Int) (i n : Nat) (h : i + n ≤ l.length) : (l.take (i + n)).drop i = (List.range n).map fun j => l.getD (i + j) 0 := by
  apply List.ext_getElem
  · simp; omega
  · intro j h1 h2
    simp at h2
    simp [List.getD_eq_getElem?_getD, List.getElem?_eq_getElem (show i + j < l.length by omega)]
theorem slice_rd {l : List Int} {a : Int} (n : Nat) (h0 : 0 ≤ a) (h : a + n ≤ l.length) : (l.take (a + n).toNat).drop a.toNat = (List.range n).map fun j : Nat => rd l (a + j) := by
  have := slice_eq l a.toNat n (by omega)
  rw [show (a + n).toNat = a.toNat + n by omega, this]
  apply List.map_congr_left
  intro j _
  unfold rd
  rw [show (a + (j : Int)).toNat = a.toNat + j by omega]
theorem of_slice {l : List Int} {a : Int} (n : Nat) (hN : l.length < 4611686018427387904) (hby : ∀ x ∈ l, Byte x) : lurcherref01_Of.f ((l.take (a + n).toNat).drop a.toNat) = some (ofP ((l.take (a + n).toNat).drop a.toNat)) := by
  unfold lurcherref01_Of.f
  rw [if_pos]
  refine ⟨by simp; omega, List.all_eq_true.2 fun x hx => ?_⟩
  have := hby x (List.mem_of_mem_take (List.mem_of_mem_drop hx))
  unfold Byte at this
  simpa using this
theorem byte_at {l : List Int} (hby : ∀ x ∈ l, Byte x) {a : Int} (h0 : 0 ≤ a) (h1 : a < l.length) : Byte (rd l a) := rd_byte hby h0 h1
theorem o1 {l : List Int} {a : Int} (hby : ∀ x ∈ l, Byte x) (h0 : 0 ≤ a) (h : a + 1 ≤ l.length) : ofP ((l.take (a + (1 : Nat)).toNat).drop a.toNat) = if rd l a < 128 then rd l a else -1 := by
  rw [slice_rd 1 h0 (by omega)]
  have : ((List.range 1).map fun j : Nat => rd l (a + j)) = [rd l a] := by simp [List.range_succ]
  rw [this, of1 (byte_at hby h0 (by omega))]
theorem o2 {l : List Int} {a : Int} (hby : ∀ x ∈ l, Byte x) (h0 : 0 ≤ a) (h : a + 2 ≤ l.length) : (g2 l a → ofP ((l.take (a + (2 : Nat)).toNat).drop a.toNat) = c2 l a) ∧ (¬ g2 l a → ofP ((l.take (a + (2 : Nat)).toNat).drop a.toNat) = -1) := by
  rw [slice_rd 2 h0 (by omega)]
  have : ((List.range 2).map fun j : Nat => rd l (a + j)) = [rd l a, rd l (a + 1)] := by simp [List.range_succ]
  rw [this, of2 (byte_at hby h0 (by omega)) (byte_at hby (by omega) (by omega))]
  exact ⟨fun g => if_pos g, fun g => if_neg g⟩
theorem o3 {l : List Int} {a : Int} (hby : ∀ x ∈ l, Byte x) (h0 : 0 ≤ a) (h : a + 3 ≤ l.length) : (g3 l a → ofP ((l.take (a + (3 : Nat)).toNat).drop a.toNat) = c3 l a) ∧ (¬ g3 l a → ofP ((l.take (a + (3 : Nat)).toNat).drop a.toNat) = -1) := by
  rw [slice_rd 3 h0 (by omega)]
  have : ((List.range 3).map fun j : Nat => rd l (a + j)) = [rd l a, rd l (a + 1), rd l (a + 2)] := by simp [List.range_succ]
  rw [this, of3 (byte_at hby h0 (by omega)) (byte_at hby (by omega) (by omega)) (byte_at hby (by omega) (by omega))]
  exact ⟨fun g => if_pos g, fun g => if_neg g⟩
theorem o4 {l : List Int} {a : Int} (hby : ∀ x ∈ l, Byte x) (h0 : 0 ≤ a) (h : a + 4 ≤ l.length) : (g4 l a → ofP ((l.take (a + (4 : Nat)).toNat).drop a.toNat) = c4 l a) ∧ (¬ g4 l a → ofP ((l.take (a + (4 : Nat)).toNat).drop a.toNat) = -1) := by
  rw [slice_rd 4 h0 (by omega)]
  have : ((List.range 4).map fun j : Nat => rd l (a + j)) = [rd l a, rd l (a + 1), rd l (a + 2), rd l (a + 3)] := by simp [List.range_succ]
  rw [this, of4 (byte_at hby h0 (by omega)) (byte_at hby (by omega) (by omega)) (byte_at hby (by omega) (by omega)) (byte_at hby (by omega) (by omega))]
  exact ⟨fun g => if_pos g, fun g => if_neg g⟩
theorem at_out (k : Nat) (l : List Int) (a : Int) (n : Int) : lurcherref01_At.j1 (k + 1) l a n false = some (-1, 0) := rfl
theorem at_in (k : Nat) (l : List Int) (a : Int) (n : Nat) (h0 : 0 ≤ a) (hn : n ≤ 4) (h : a + n ≤ l.length) (hN : l.length < 4611686018427387904) (hby : ∀ x ∈ l, Byte x) :
    lurcherref01_At.l0 (k + 2) l a n = if ofP ((l.take (a + n).toNat).drop a.toNat) ≥ 0 then some (ofP ((l.take (a + n).toNat).drop a.toNat), (n : Int)) else lurcherref01_At.l0 k l a (n + 1) := by
  rw [lurcherref01_At.l0, if_pos (by omega), w64 (by omega) (by omega), decide_eq_true h, lurcherref01_At.j1, if_pos rfl, if_pos h0, w64 (by omega) (by omega), if_pos (by omega), if_pos h, of_slice n hN hby, Option.bind_some, w64 (x := (n : Int) + 1) (by omega) (by omega)]
theorem at_end (k : Nat) (l : List Int) (a : Int) (n : Nat) (h0 : 0 ≤ a) (ha : a < l.length) (hn : 5 ≤ n ∨ ¬ a + n ≤ l.length) (hn5 : n ≤ 5) (hN : l.length < 4611686018427387904) : lurcherref01_At.l0 (k + 2) l a n = some (-1, 0) := by
  rw [lurcherref01_At.l0]
  by_cases h : (n : Int) ≤ 4
  · rw [if_pos h, w64 (by omega) (by omega), decide_eq_false (by omega), at_out]
  · rw [if_neg h, at_out]
section
variable {l : List Int} {a : Int}
theorem pt_one (hb : Byte (rd l a)) (ha : a < l.length) (h : rd l a < 128) : pt l a = (rd l a, 1) := by
  rcases pt_seq l a hb ha with hs | ⟨hn, he⟩
  · generalize pt l a = p at hs ⊢
    cases hs with
    | one _ _ => rfl
    | two g _ => have := g.1.1; omega
    | three g _ => have := g.1.1; omega
    | four g _ => have := g.1.1; omega
  · exact absurd h hn.1
theorem pt_two (hb : Byte (rd l a)) (ha : a < l.length) (h : g2 l a) (k : a + 2 ≤ l.length) : pt l a = (c2 l a, 2) := by
  have h1 := h.1.1
  have h2 := h.1.2
  rcases pt_seq l a hb ha with hs | ⟨hn, he⟩
  · generalize pt l a = p at hs ⊢
    cases hs with
    | one _ _ => omega
    | two g _ => rfl
    | three g _ => have := g.1.1; omega
    | four g _ => have := g.1.1; omega
  · exact absurd ⟨h, k⟩ hn.2.1
theorem pt_three (hb : Byte (rd l a)) (ha : a < l.length) (h : g3 l a) (k : a + 3 ≤ l.length) : pt l a = (c3 l a, 3) := by
  have h1 := h.1.1
  have h2 := h.1.2
  rcases pt_seq l a hb ha with hs | ⟨hn, he⟩
  · generalize pt l a = p at hs ⊢
    cases hs with
    | one _ _ => omega
    | two g _ => have := g.1.2; omega
    | three g _ => rfl
    | four g _ => have := g.1.1; omega
  · exact absurd ⟨h, k⟩ hn.2.2.1
theorem pt_four (hb : Byte (rd l a)) (ha : a < l.length) (h : g4 l a) (k : a + 4 ≤ l.length) : pt l a = (c4 l a, 4) := by
  have h1 := h.1.1
  have h2 := h.1.2
  rcases pt_seq l a hb ha with hs | ⟨hn, he⟩
  · generalize pt l a = p at hs ⊢
    cases hs with
    | one _ _ => omega
    | two g _ => have := g.1.2; omega
    | three g _ => have := g.1.2; omega
    | four g _ => rfl
  · exact absurd ⟨h, k⟩ hn.2.2.2
theorem pt_no (hb : Byte (rd l a)) (ha : a < l.length) (h : NoSeq l a) : pt l a = (0, 0) := by
  rcases pt_seq l a hb ha with hs | ⟨hn, he⟩
  · generalize pt l a = p at hs ⊢
    cases hs with
    | one x _ => exact absurd x h.1
    | two g k => exact absurd ⟨g, k⟩ h.2.1
    | three g k => exact absurd ⟨g, k⟩ h.2.2.1
    | four g k => exact absurd ⟨g, k⟩ h.2.2.2
  · exact he
end
theorem at_f (k : Nat) (l : List Int) (a : Int) (h0 : 0 ≤ a) (ha : a < l.length) (hN : l.length < 4611686018427387904) (hby : ∀ x ∈ l, Byte x) :
    lurcherref01_At.f (k + 10) l a = some (if (pt l a).2 = 0 then (-1, 0) else pt l a) := by
  have hb := byte_at hby h0 ha
  have hb' := hb
  unfold Byte at hb'
  unfold lurcherref01_At.f
  show lurcherref01_At.l0 (k + 10) l a ((1 : Nat) : Int) = _
  rw [at_in (k + 8) l a 1 h0 (by omega) (by omega) hN hby, o1 hby h0 (by omega)]
  by_cases h1 : rd l a < 128
  · rw [if_pos h1, if_pos (by omega), pt_one hb ha h1, if_neg (by simp)]; rfl
  rw [if_neg h1, if_neg (by omega), show ((1 : Nat) : Int) + 1 = ((2 : Nat) : Int) from rfl]
  by_cases m2 : ¬ a + 2 ≤ l.length
  · have l2 := m2
    rw [at_end (k + 6) l a 2 h0 ha (Or.inr (by omega)) (by omega) hN, pt_no hb ha ⟨h1, fun x => l2 x.2, fun x => by have := x.2; omega, fun x => by have := x.2; omega⟩, if_pos rfl]
  have l2 : a + 2 ≤ l.length := by omega
  rw [at_in (k + 6) l a 2 h0 (by omega) (by omega) hN hby]
  by_cases g : g2 l a
  · rw [(o2 hby h0 l2).1 g, if_pos (by have := g.2.2; omega), pt_two hb ha g l2, if_neg (by simp)]; rfl
  rw [(o2 hby h0 l2).2 g, if_neg (by omega), show ((2 : Nat) : Int) + 1 = ((3 : Nat) : Int) from rfl]
  by_cases m3 : ¬ a + 3 ≤ l.length
  · have l3 := m3
    rw [at_end (k + 4) l a 3 h0 ha (Or.inr (by omega)) (by omega) hN, pt_no hb ha ⟨h1, fun x => g x.1, fun x => by have := x.2; omega, fun x => by have := x.2; omega⟩, if_pos rfl]
  have l3 : a + 3 ≤ l.length := by omega
  rw [at_in (k + 4) l a 3 h0 (by omega) (by omega) hN hby]
  by_cases g3' : g3 l a
  · rw [(o3 hby h0 l3).1 g3', if_pos (by have := g3'.2.2.2.1; omega), pt_three hb ha g3' l3, if_neg (by simp)]; rfl
  rw [(o3 hby h0 l3).2 g3', if_neg (by omega), show ((3 : Nat) : Int) + 1 = ((4 : Nat) : Int) from rfl]
  by_cases m4 : ¬ a + 4 ≤ l.length
  · have l4 := m4
    rw [at_end (k + 2) l a 4 h0 ha (Or.inr (by omega)) (by omega) hN, pt_no hb ha ⟨h1, fun x => g x.1, fun x => g3' x.1, fun x => by have := x.2; omega⟩, if_pos rfl]
  have l4 : a + 4 ≤ l.length := by omega
  rw [at_in (k + 2) l a 4 h0 (by omega) (by omega) hN hby]
  by_cases g4' : g4 l a
  · rw [(o4 hby h0 l4).1 g4', if_pos (by have := g4'.2.2.2.2.1; omega), pt_four hb ha g4' l4, if_neg (by simp)]; rfl
  rw [(o4 hby h0 l4).2 g4', if_neg (by omega), show ((4 : Nat) : Int) + 1 = ((5 : Nat) : Int) from rfl, at_end k l a 5 h0 ha (Or.inl (by omega)) (by omega) hN, pt_no hb ha ⟨h1, fun x => g x.1, fun x => g3' x.1, fun x => g4' x.1⟩, if_pos rfl]
end Go.Proofs.Ytijehblohblnbaa.UA
