/- Plain laws of one sequence: what the reference's Sequence and Of tell. -/
import Derived.Test.YtijehblohblnbaaUS1
import Derived.Test.YtijehblohblnbaaHand
import Derived.Lib.Bytes
namespace Go.Proofs.Ytijehblohblnbaa.UA
open Go.RowKit Go.Proofs.YtijehblohblnbaaW.PrintWords
set_option linter.unusedVariables false
set_option linter.unusedSimpArgs false

def Byte (x : Int) : Prop := 0 ≤ x ∧ x < 256
def seqP (c : Int) : List Int :=
  if c < 0 ∨ c > 1114111 ∨ (55296 ≤ c ∧ c ≤ 57343) then []
  else if c < 128 then [c]
  else if c < 2048 then [192 + c / 64, 128 + c % 64]
  else if c < 65536 then [224 + c / 4096, 128 + c / 64 % 64, 128 + c % 64]
  else [240 + c / 262144, 128 + c / 4096 % 64, 128 + c / 64 % 64, 128 + c % 64]
theorem tdiv_pos (x n : Int) (h : 0 ≤ x) : Int.tdiv x n = x / n := Int.tdiv_eq_ediv_of_nonneg h
theorem tmod_pos (x n : Int) (h : 0 ≤ x) : Int.tmod x n = x % n := Int.tmod_eq_emod_of_nonneg h
theorem w64 {x : Int} (h0 : -9223372036854775808 ≤ x) (h1 : x < 9223372036854775808) : wrap64 x = x := by unfold wrap64; omega
theorem seq_j0 (k : Nat) (c : Int) : US.lurcherref01_Sequence.j0 (k + 1) c true = some [] := by
  rfl
theorem seq_j1 (k : Nat) (c : Int) (h0 : 0 ≤ c) (h1 : c ≤ 1114111) (h2 : ¬ (55296 ≤ c ∧ c ≤ 57343)) : US.lurcherref01_Sequence.j0 (k + 1) c false = some (seqP c) := by
  have hs : seqP c = if c < 128 then [c] else if c < 2048 then [192 + c / 64, 128 + c % 64] else if c < 65536 then [224 + c / 4096, 128 + c / 64 % 64, 128 + c % 64] else [240 + c / 262144, 128 + c / 4096 % 64, 128 + c / 64 % 64, 128 + c % 64] := by unfold seqP; rw [if_neg (by omega)]
  rw [US.lurcherref01_Sequence.j0, hs, if_neg (by simp)]
  simp only [tdiv_pos _ _ h0, tmod_pos _ _ h0]
  by_cases a1 : c < 128
  · rw [if_pos a1, if_pos a1, show c % 256 = c by omega]
  rw [if_neg a1, if_neg a1]
  by_cases a2 : c < 2048
  · rw [if_pos a2, if_pos a2, w64 (x := c / 64) (by omega) (by omega), w64 (by omega) (by omega), w64 (by omega) (by omega)]
    rw [show (192 + c / 64) % 256 = 192 + c / 64 by omega, show (128 + c % 64) % 256 = 128 + c % 64 by omega]
  rw [if_neg a2, if_neg a2]
  by_cases a3 : c < 65536
  · rw [if_pos a3, if_pos a3, w64 (x := c / 4096) (by omega) (by omega), w64 (x := c / 64) (by omega) (by omega), tmod_pos _ _ (by omega), w64 (by omega) (by omega), w64 (by omega) (by omega), w64 (by omega) (by omega)]
    rw [show (224 + c / 4096) % 256 = 224 + c / 4096 by omega, show (128 + c / 64 % 64) % 256 = 128 + c / 64 % 64 by omega, show (128 + c % 64) % 256 = 128 + c % 64 by omega]
  rw [if_neg a3, if_neg a3, w64 (x := c / 262144) (by omega) (by omega), w64 (x := c / 4096) (by omega) (by omega), w64 (x := c / 64) (by omega) (by omega), tmod_pos _ _ (by omega), tmod_pos _ _ (by omega), w64 (by omega) (by omega), w64 (by omega) (by omega), w64 (by omega) (by omega), w64 (by omega) (by omega)]
  rw [show (240 + c / 262144) % 256 = 240 + c / 262144 by omega, show (128 + c / 4096 % 64) % 256 = 128 + c / 4096 % 64 by omega, show (128 + c / 64 % 64) % 256 = 128 + c / 64 % 64 by omega, show (128 + c % 64) % 256 = 128 + c % 64 by omega]
theorem seq_f (k : Nat) (c : Int) : US.lurcherref01_Sequence.f (k + 1) c = some (seqP c) := by
  unfold US.lurcherref01_Sequence.f
  by_cases h1 : c < 0
  · rw [if_pos h1, seq_j0]; unfold seqP; rw [if_pos (by omega)]
  rw [if_neg h1]
  by_cases h2 : c > 1114111
  · rw [if_pos h2, seq_j0]; unfold seqP; rw [if_pos (by omega)]
  rw [if_neg h2]
  by_cases h3 : c ≥ 55296
  · rw [if_pos h3]
    by_cases h4 : c ≤ 57343
    · rw [decide_eq_true h4, seq_j0]; unfold seqP; rw [if_pos (by omega)]
    · rw [decide_eq_false h4, seq_j1 k c (by omega) (by omega) (by omega)]
  · rw [if_neg h3, seq_j1 k c (by omega) (by omega) (by omega)]
theorem seqP_byte (c : Int) : ∀ x ∈ seqP c, Byte x := by
  intro x hx
  unfold seqP at hx
  unfold Byte
  split at hx
  · simp at hx
  split at hx
  · simp at hx; omega
  split at hx
  · simp at hx; omega
  split at hx
  · simp at hx; omega
  · simp at hx; omega
theorem bytes_inj {s t : List Int} (hs : ∀ x ∈ s, Byte x) (ht : ∀ x ∈ t, Byte x) (h : (strOfNums s).toList = (strOfNums t).toList) : s = t := by
  rw [Go.Lib.strOfNums_toList, Go.Lib.strOfNums_toList] at h
  induction s generalizing t with
  | nil => cases t with
    | nil => rfl
    | cons y t => simp [Go.Lib.bytesOf] at h
  | cons x s ih => cases t with
    | nil => simp [Go.Lib.bytesOf] at h
    | cons y t =>
      have h' : UInt8.ofNat x.toNat = UInt8.ofNat y.toNat ∧ Go.Lib.bytesOf s = Go.Lib.bytesOf t := by simpa [Go.Lib.bytesOf] using h
      have hx := hs x (List.mem_cons_self ..)
      have hy := ht y (List.mem_cons_self ..)
      unfold Byte at hx hy
      have e1 : x.toNat % 256 = y.toNat % 256 := by
        have := congrArg UInt8.toNat h'.1
        simpa using this
      have e2 : x = y := by omega
      rw [e2, ih (fun z hz => hs z (List.mem_cons_of_mem _ hz)) (fun z hz => ht z (List.mem_cons_of_mem _ hz)) h'.2]
/-- The code point of bytes that are one sequence. -/
def codeOf : List Int → Int
  | [a] => a
  | [a, b] => (a - 192) * 64 + b - 128
  | [a, b, c] => (a - 224) * 4096 + (b - 128) * 64 + c - 128
  | [a, b, c, d] => (a - 240) * 262144 + (b - 128) * 4096 + (c - 128) * 64 + d - 128
  | _ => -1
def ofP (l : List Int) : Int := if seqP (codeOf l) = l ∧ l ≠ [] then codeOf l else -1
theorem of1 {a : Int} (ha : Byte a) : ofP [a] = if a < 128 then a else -1 := by
  unfold Byte at ha
  unfold ofP
  by_cases h : a < 128
  · rw [if_pos h, if_pos ?_]
    · rfl
    · refine ⟨?_, by simp⟩
      show seqP a = [a]
      unfold seqP; rw [if_neg (by omega), if_pos h]
  · rw [if_neg h, if_neg ?_]
    rintro ⟨e, _⟩
    have e2 : seqP a = [192 + a / 64, 128 + a % 64] := by unfold seqP; rw [if_neg (by omega), if_neg h, if_pos (by omega)]
    have e3 : seqP a = [a] := e
    rw [e2] at e3
    simp at e3
theorem of2 {a b : Int} (ha : Byte a) (hb : Byte b) : ofP [a, b] = if (192 ≤ a ∧ a < 224) ∧ (128 ≤ b ∧ b < 192) ∧ 128 ≤ (a - 192) * 64 + (b - 128) then (a - 192) * 64 + (b - 128) else -1 := by
  unfold Byte at ha hb
  unfold ofP
  by_cases h : (192 ≤ a ∧ a < 224) ∧ (128 ≤ b ∧ b < 192) ∧ 128 ≤ (a - 192) * 64 + (b - 128)
  · rw [if_pos h, if_pos ?_]
    · simp only [codeOf]; omega
    · refine ⟨?_, by simp⟩
      simp only [codeOf]
      unfold seqP
      rw [if_neg (by omega), if_neg (by omega), if_pos (by omega)]
      simp only [List.cons.injEq, and_true]
      omega
  · rw [if_neg h, if_neg ?_]
    rintro ⟨e, _⟩
    apply h
    simp only [codeOf] at e
    unfold seqP at e
    split at e
    · simp at e
    split at e
    · simp at e
    split at e
    · simp only [List.cons.injEq, and_true] at e
      omega
    split at e
    · simp at e
    · simp at e
theorem of3 {a b c : Int} (ha : Byte a) (hb : Byte b) (hc : Byte c) : ofP [a, b, c] = if (224 ≤ a ∧ a < 240) ∧ (128 ≤ b ∧ b < 192) ∧ (128 ≤ c ∧ c < 192) ∧ 2048 ≤ ((a - 224) * 64 + (b - 128)) * 64 + (c - 128) ∧ ¬ (55296 ≤ ((a - 224) * 64 + (b - 128)) * 64 + (c - 128) ∧ ((a - 224) * 64 + (b - 128)) * 64 + (c - 128) ≤ 57343) then ((a - 224) * 64 + (b - 128)) * 64 + (c - 128) else -1 := by
  unfold Byte at ha hb hc
  unfold ofP
  by_cases h : (224 ≤ a ∧ a < 240) ∧ (128 ≤ b ∧ b < 192) ∧ (128 ≤ c ∧ c < 192) ∧ 2048 ≤ ((a - 224) * 64 + (b - 128)) * 64 + (c - 128) ∧ ¬ (55296 ≤ ((a - 224) * 64 + (b - 128)) * 64 + (c - 128) ∧ ((a - 224) * 64 + (b - 128)) * 64 + (c - 128) ≤ 57343)
  · rw [if_pos h, if_pos ?_]
    · simp only [codeOf]; omega
    · refine ⟨?_, by simp⟩
      simp only [codeOf]
      unfold seqP
      rw [if_neg (by omega), if_neg (by omega), if_neg (by omega), if_pos (by omega)]
      simp only [List.cons.injEq, and_true]
      omega
  · rw [if_neg h, if_neg ?_]
    rintro ⟨e, _⟩
    apply h
    simp only [codeOf] at e
    unfold seqP at e
    split at e
    · simp at e
    split at e
    · simp at e
    split at e
    · simp at e
    split at e
    · simp only [List.cons.injEq, and_true] at e
      omega
    · simp at e
theorem of4 {a b c d : Int} (ha : Byte a) (hb : Byte b) (hc : Byte c) (hd : Byte d) : ofP [a, b, c, d] = if (240 ≤ a ∧ a < 248) ∧ (128 ≤ b ∧ b < 192) ∧ (128 ≤ c ∧ c < 192) ∧ (128 ≤ d ∧ d < 192) ∧ 65536 ≤ (((a - 240) * 64 + (b - 128)) * 64 + (c - 128)) * 64 + (d - 128) ∧ (((a - 240) * 64 + (b - 128)) * 64 + (c - 128)) * 64 + (d - 128) ≤ 1114111 then (((a - 240) * 64 + (b - 128)) * 64 + (c - 128)) * 64 + (d - 128) else -1 := by
  unfold Byte at ha hb hc hd
  unfold ofP
  by_cases h : (240 ≤ a ∧ a < 248) ∧ (128 ≤ b ∧ b < 192) ∧ (128 ≤ c ∧ c < 192) ∧ (128 ≤ d ∧ d < 192) ∧ 65536 ≤ (((a - 240) * 64 + (b - 128)) * 64 + (c - 128)) * 64 + (d - 128) ∧ (((a - 240) * 64 + (b - 128)) * 64 + (c - 128)) * 64 + (d - 128) ≤ 1114111
  · rw [if_pos h, if_pos ?_]
    · simp only [codeOf]; omega
    · refine ⟨?_, by simp⟩
      simp only [codeOf]
      unfold seqP
      rw [if_neg (by omega), if_neg (by omega), if_neg (by omega), if_neg (by omega)]
      simp only [List.cons.injEq, and_true]
      omega
  · rw [if_neg h, if_neg ?_]
    rintro ⟨e, _⟩
    apply h
    simp only [codeOf] at e
    unfold seqP at e
    split at e
    · simp at e
    split at e
    · simp at e
    split at e
    · simp at e
    split at e
    · simp at e
    · simp only [List.cons.injEq, and_true] at e
      omega
def lurcherref01_Sequence.f (c : Int) : Option (List Int) := some (seqP c)
theorem lurcherref01_Sequence.calls (a0 : Int) (r : List Int) (w : World) (h : lurcherref01_Sequence.f a0 = some r) :
    Calls Try.prog 26 #[.int .i64 a0] w fun e w' => ∃ v0_ : Value, e = .returned (v0_) ∧ Kd.R (Kd.int .u8) 5 w' w.heap.size (fun _ => True) v0_ r ∧ Below w.heap.size w w' :=
  US.lurcherref01_Sequence.calls 1 a0 r w (by rw [seq_f 0 a0]; exact h)
end Go.Proofs.Ytijehblohblnbaa.UA
