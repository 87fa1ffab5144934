import Derived.Test.YthjakmdflpkjkaaRows
import GoSem.Core.Float
namespace Go.Proofs.Ythjakmdflpkjkaa
open Ieee

theorem nat_log2_le (n : Nat) (hn : n ≠ 0) : 2 ^ n.log2 ≤ n := Nat.log2_self_le hn
/-- The word of a whole number. -/
def enc (n : Nat) : Nat := FloatKind.f64.nearest (n : Int)

theorem cut_one (way : Toward) (n : Nat) : way.cut false n 0 = n := by
  cases way <;> simp [Toward.cut, Nat.mod_one]

theorem least : Format.leastPlace double = -1074 := by decide
theorem infR : Format.infRung double = 2047 * 2 ^ 52 := by decide
theorem bin : Format.binade double = 2 ^ 52 := by decide
theorem sgn : Format.signWeight double = 2 ^ 63 := by decide

theorem enc_zero : enc 0 = 0 := by decide

/-- The significand. -/
def sig (n : Nat) : Nat := n * 2 ^ (52 - n.log2)

theorem sig_bounds (n : Nat) (h0 : n ≠ 0) (h : n.log2 ≤ 52) : 2 ^ 52 ≤ sig n ∧ sig n < 2 ^ 53 := by
  unfold sig
  have h1 : 2 ^ n.log2 ≤ n := Nat.log2_self_le h0
  have h2 : n < 2 ^ (n.log2 + 1) := Nat.lt_log2_self
  constructor
  · calc 2 ^ 52 = 2 ^ n.log2 * 2 ^ (52 - n.log2) := by rw [← Nat.pow_add]; congr 1; omega
      _ ≤ _ := Nat.mul_le_mul_right _ h1
  · calc n * 2 ^ (52 - n.log2) < 2 ^ (n.log2 + 1) * 2 ^ (52 - n.log2) := Nat.mul_lt_mul_of_pos_right h2 (Nat.pow_pos (by omega))
      _ = 2 ^ 53 := by rw [← Nat.pow_add]; congr 1; omega

theorem frac : (double.fractionBits : Int) = 52 := rfl

theorem nearest_eq (n : Nat) (h0 : n ≠ 0) (h : n.log2 ≤ 52) : double.nearest false n 0 = (n.log2 + 1022) * 2 ^ 52 + sig n := by
  have hs := sig_bounds n h0 h
  have hsg : sig n = n * 2 ^ (52 - n.log2) := rfl
  unfold Format.nearest
  rw [if_neg h0]
  have e3 : max ((0 : Int) + (n.log2 : Int) - (double.fractionBits : Int)) double.leastPlace = (n.log2 : Int) - 52 := by
    rw [least, frac]; omega
  simp only [e3]
  simp only [least, infR, bin]
  have e4 : ((n.log2 : Int) - 52 - 0).toNat = 0 := by omega
  have e5 : ((0 : Int) - ((n.log2 : Int) - 52)).toNat = 52 - n.log2 := by omega
  have e6 : ((n.log2 : Int) - 52 - -1074).toNat = n.log2 + 1022 := by omega
  rw [e4, e5, e6, cut_one, Nat.shiftLeft_eq, ← hsg]
  unfold Format.word
  simp only [Bool.false_eq_true, if_false]
  have : (n.log2 + 1022) * 2 ^ 52 ≤ 1074 * 2 ^ 52 := Nat.mul_le_mul_right _ (by omega)
  omega

theorem enc_eq (n : Nat) (h0 : n ≠ 0) (h : n.log2 ≤ 52) : enc n = (n.log2 + 1022) * 2 ^ 52 + sig n := by
  rw [← nearest_eq n h0 h]
  unfold enc FloatKind.nearest FloatKind.encode FloatKind.format Format.write
  have e1 : (decide ((n : Int) < 0)) = false := by simp
  have e2 : (n : Int).natAbs = n := by simp
  simp only [e1, e2]

theorem read_enc (n : Nat) (h0 : n ≠ 0) (h : n.log2 ≤ 52) : double.read (enc n) = .number false (sig n) ((n.log2 : Int) - 52) := by
  have hs := sig_bounds n h0 h
  rw [enc_eq n h0 h]
  generalize hL : n.log2 = L at *
  generalize hS : sig n = S at *
  unfold Format.read
  rw [least, infR, bin, sgn]
  have hb : (L + 1022) * 2 ^ 52 ≤ 1074 * 2 ^ 52 := Nat.mul_le_mul_right _ (by omega)
  have e1 : ((L + 1022) * 2 ^ 52 + S) / 2 ^ 63 = 0 := Nat.div_eq_of_lt (by omega)
  have e2 : ((L + 1022) * 2 ^ 52 + S) % 2 ^ 63 = (L + 1022) * 2 ^ 52 + S := Nat.mod_eq_of_lt (by omega)
  have e3 : ((L + 1022) * 2 ^ 52 + S) % 2 ^ 52 = S - 2 ^ 52 := by omega
  have e4 : ((L + 1022) * 2 ^ 52 + S) / 2 ^ 52 = L + 1023 := by omega
  simp only [e1, e2, e3, e4]
  rw [if_neg (by omega), if_pos (by omega)]
  simp only [Datum.number.injEq]
  refine ⟨rfl, by omega, by omega⟩

theorem read_zero : double.read (enc 0) = .number false 0 (-1074) := by decide

theorem log2_sig (n : Nat) (h0 : n ≠ 0) (h : n.log2 ≤ 52) : (sig n).log2 = 52 := by
  have hs := sig_bounds n h0 h
  exact (Nat.log2_eq_iff (by omega)).2 ⟨hs.1, hs.2⟩

theorem toInt_enc (n : Nat) (h : n < 2 ^ 53) : (FloatKind.f64.decode (enc n)).toInt .zero = some (n : Int) := by
  by_cases h0 : n = 0
  · subst h0; decide
  · have hL : n.log2 ≤ 52 := by
      have := (Nat.log2_lt h0).2 h; omega
    unfold FloatKind.decode FloatKind.format
    simp only [read_enc n h0 hL]
    unfold Datum.toInt Datum.integral Toward.cut
    have e1 : ((n.log2 : Int) - 52).toNat = 0 := by omega
    have e2 : (-((n.log2 : Int) - 52)).toNat = 52 - n.log2 := by omega
    simp only [e1, e2, Nat.shiftLeft_zero, log2_sig n h0 hL]
    rw [Nat.min_eq_left (by omega), Nat.one_shiftLeft]
    have : sig n / 2 ^ (52 - n.log2) = n := by unfold sig; exact Nat.mul_div_cancel _ (Nat.pow_pos (by omega))
    simp [this, signed]

theorem order_of (T : Nat) (m m' a b : Nat) (p p' : Int) (h2 : -1074 ≤ p) (h3 : p ≤ 0) (h2' : -1074 ≤ p') (h3' : p' ≤ 0)
    (h4 : m * 2 ^ (p + 1074).toNat = a * 2 ^ T) (h4' : m' * 2 ^ (p' + 1074).toNat = b * 2 ^ T) :
    ((Datum.number false m p).order (.number false m' p') == some .eq) = (a == b) := by
  unfold Datum.order signed
  simp only [Bool.false_eq_true, if_false, Nat.shiftLeft_eq]
  have k1 : (p + 1074).toNat = (p - min p p').toNat + (min p p' + 1074).toNat := by omega
  have k2 : (p' + 1074).toNat = (p' - min p p').toNat + (min p p' + 1074).toNat := by omega
  rw [k1, Nat.pow_add, ← Nat.mul_assoc] at h4
  rw [k2, Nat.pow_add, ← Nat.mul_assoc] at h4'
  generalize (p - min p p').toNat = x at *
  generalize (p' - min p p').toNat = y at *
  generalize (min p p' + 1074).toNat = z at *
  generalize m * 2 ^ x = u at *
  generalize m' * 2 ^ y = v at *
  have hz : 0 < 2 ^ z := Nat.pow_pos (by omega)
  have hTp : 0 < 2 ^ T := Nat.pow_pos (by omega)
  have hiff : (u : Int) = v ↔ a = b := by
    constructor
    · intro h
      have : u = v := by omega
      subst this
      rw [h4] at h4'
      exact Nat.eq_of_mul_eq_mul_right hTp h4'
    · intro h
      subst h
      rw [← h4'] at h4
      have := Nat.eq_of_mul_eq_mul_right hz h4
      omega
  have hc : compare (u : Int) (v : Int) = .eq ↔ (u : Int) = v := by
    simp [compare, compareOfLessAndEq]
    split <;> simp <;> (try split) <;> simp_all <;> omega
  by_cases h : a = b
  · rw [hc.2 (hiff.2 h), h]; simp
  · have hn : compare (u : Int) (v : Int) ≠ .eq := fun e => h (hiff.1 (hc.1 e))
    rw [beq_eq_false_iff_ne.2 h]
    cases hcc : compare (u : Int) (v : Int) <;> first | rfl | exact absurd hcc hn

theorem enc_key (T : Nat) (hT : T = 1074) (n : Nat) (hn : n < 2 ^ 53) : ∃ m p, double.read (enc n) = .number false m p ∧ -1074 ≤ p ∧ p ≤ 0 ∧ m * 2 ^ (p + 1074).toNat = n * 2 ^ T := by
  by_cases h0 : n = 0
  · subst h0; exact ⟨0, -1074, read_zero, by omega, by omega, by simp⟩
  · have hL : n.log2 ≤ 52 := by have := (Nat.log2_lt h0).2 hn; omega
    refine ⟨sig n, (n.log2 : Int) - 52, read_enc n h0 hL, by omega, by omega, ?_⟩
    have e : ((n.log2 : Int) - 52 + 1074).toNat = n.log2 + 1022 := by omega
    rw [e]
    unfold sig
    have : 52 - n.log2 + (n.log2 + 1022) = T := by omega
    rw [Nat.mul_assoc, ← Nat.pow_add, this]

theorem order_enc (a b : Nat) (ha : a < 2 ^ 53) (hb : b < 2 ^ 53) : (FloatKind.f64.format.order (enc a) (enc b) == some .eq) = (a == b) := by
  obtain ⟨T, hT⟩ : ∃ T, T = 1074 := ⟨_, rfl⟩
  obtain ⟨m, p, h1, h2, h3, h4⟩ := enc_key T hT a ha
  obtain ⟨m', p', h1', h2', h3', h4'⟩ := enc_key T hT b hb
  unfold Format.order FloatKind.format
  simp only [h1, h1']
  exact order_of T m m' a b p p' h2 h3 h2' h3' h4 h4'


/-! ## Vectors -/
/-- Where a group matched: nothing, or from a to b. -/
abbrev Spans := Nat → Option (Nat × Nat)
def cell1 : Option (Nat × Nat) → Value
  | none => .complex .f64 0 0
  | some (a, b) => .complex .f64 (enc (a + 1)) (enc b)
def rowL (g : Spans) : List Value := (List.range 61).map fun k => cell1 (g k)
def vec (n : Int) (g : Spans) : Array Value := (Value.int .i64 n :: rowL g).toArray
def rowA (g : Spans) : Array Value := (rowL g).toArray
def upd (g : Spans) (k : Nat) (x : Option (Nat × Nat)) : Spans := fun j => if j = k then x else g j
theorem vec_size (n : Int) (g : Spans) : (vec n g).size = 62 := by simp [vec, rowL]
theorem vec_0 (n : Int) (g : Spans) : (vec n g)[0]? = some (.int .i64 n) := by simp [vec]
theorem vec_at (n : Int) (g : Spans) (k : Nat) (h : k < 61) : (vec n g)[1 + k]? = some (cell1 (g k)) := by
  simp [vec, rowL, Nat.add_comm 1 k, h]
theorem vec_set (n : Int) (g : Spans) (k : Nat) (x : Option (Nat × Nat)) : (vec n g).setIfInBounds (1 + k) (cell1 x) = vec n (upd g k x) := by
  apply Array.ext_getElem?
  intro i
  rw [Array.getElem?_setIfInBounds]
  rcases i with _ | i
  · rw [if_neg (by omega), vec_0, vec_0]
  · by_cases hi : i < 61
    · rw [Nat.add_comm i 1, vec_at _ _ _ hi, vec_at _ _ _ hi, vec_size]
      by_cases h : k = i
      · subst h; simp [upd]; omega
      · rw [if_neg (by omega)]; simp only [upd]; rw [if_neg (fun e => h e.symm)]
    · rw [Array.getElem?_eq_none (by rw [vec_size]; omega), Array.getElem?_eq_none (by rw [vec_size]; omega), vec_size]
      split
      · split
        · omega
        · rfl
      · rfl
theorem cell1_one (x : Option (Nat × Nat)) : (cell1 x).oneCell' = true := by cases x <;> rfl
theorem vec_one (n : Int) (g : Spans) : (vec n g).all (·.oneCell') = true := by
  simp [vec, rowL, cell1_one]
  rfl
/-- A vector as the program has it: no more than 60 groups, whose spans fit; nothing at places that are no group. -/
structure Fits (n : Int) (g : Spans) : Prop where
  n0 : 0 ≤ n
  n60 : n ≤ 60
  le : ∀ k a b, g k = some (a, b) → a ≤ b ∧ b ≤ 1073741824
  off : ∀ k : Nat, k < 1 ∨ n < k → g k = none
end Go.Proofs.Ythjakmdflpkjkaa
