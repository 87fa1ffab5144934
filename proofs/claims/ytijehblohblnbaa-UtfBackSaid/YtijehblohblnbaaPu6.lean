/- Plain laws: what Sequence makes is one sequence. -/
import Derived.Test.YtijehblohblnbaaPureUtfAdds
namespace Go.Proofs.Ytijehblohblnbaa.UA
open Go.RowKit Go.Proofs.YtijehblohblnbaaW.PrintWords
set_option linter.unusedVariables false
set_option linter.unusedSimpArgs false

def hasBytes (c : Int) : Prop := 0 ≤ c ∧ c ≤ 1114111 ∧ ¬ (55296 ≤ c ∧ c ≤ 57343)
theorem seq_seqP {c : Int} (h : hasBytes c) : Seq (seqP c) 0 (c, ((seqP c).length : Int)) := by
  unfold hasBytes at h
  unfold seqP
  rw [if_neg (by omega)]
  by_cases h1 : c < 128
  · rw [if_pos h1]
    exact Seq.one (l := [c]) (a := 0) (by show c < 128; exact h1) (by simp)
  rw [if_neg h1]
  by_cases h2 : c < 2048
  · rw [if_pos h2]
    have e : c2 [192 + c / 64, 128 + c % 64] 0 = c := by show (192 + c / 64 - 192) * 64 + (128 + c % 64 - 128) = c; omega
    have s := Seq.two (l := [192 + c / 64, 128 + c % 64]) (a := 0) (by
      unfold g2; rw [e]
      show (192 ≤ 192 + c / 64 ∧ 192 + c / 64 < 224) ∧ (128 ≤ 128 + c % 64 ∧ 128 + c % 64 < 192) ∧ 128 ≤ c
      omega) (by simp)
    rw [e] at s; exact s
  rw [if_neg h2]
  by_cases h3 : c < 65536
  · rw [if_pos h3]
    have e : c3 [224 + c / 4096, 128 + c / 64 % 64, 128 + c % 64] 0 = c := by show ((224 + c / 4096 - 224) * 64 + (128 + c / 64 % 64 - 128)) * 64 + (128 + c % 64 - 128) = c; omega
    have s := Seq.three (l := [224 + c / 4096, 128 + c / 64 % 64, 128 + c % 64]) (a := 0) (by
      unfold g3; rw [e]
      show (224 ≤ 224 + c / 4096 ∧ 224 + c / 4096 < 240) ∧ (128 ≤ 128 + c / 64 % 64 ∧ 128 + c / 64 % 64 < 192) ∧ (128 ≤ 128 + c % 64 ∧ 128 + c % 64 < 192) ∧ 2048 ≤ c ∧ ¬ (55296 ≤ c ∧ c ≤ 57343)
      omega) (by simp)
    rw [e] at s; exact s
  · rw [if_neg h3]
    have e : c4 [240 + c / 262144, 128 + c / 4096 % 64, 128 + c / 64 % 64, 128 + c % 64] 0 = c := by show (((240 + c / 262144 - 240) * 64 + (128 + c / 4096 % 64 - 128)) * 64 + (128 + c / 64 % 64 - 128)) * 64 + (128 + c % 64 - 128) = c; omega
    have s := Seq.four (l := [240 + c / 262144, 128 + c / 4096 % 64, 128 + c / 64 % 64, 128 + c % 64]) (a := 0) (by
      unfold g4; rw [e]
      show (240 ≤ 240 + c / 262144 ∧ 240 + c / 262144 < 248) ∧ (128 ≤ 128 + c / 4096 % 64 ∧ 128 + c / 4096 % 64 < 192) ∧ (128 ≤ 128 + c / 64 % 64 ∧ 128 + c / 64 % 64 < 192) ∧ (128 ≤ 128 + c % 64 ∧ 128 + c % 64 < 192) ∧ 65536 ≤ c ∧ c ≤ 1114111
      omega) (by simp)
    rw [e] at s; exact s
theorem seqP_pos {c : Int} (h : hasBytes c) : 1 ≤ (seqP c).length ∧ (seqP c).length ≤ 4 := by
  unfold hasBytes at h
  unfold seqP
  rw [if_neg (by omega)]
  split
  · simp
  split
  · simp
  split
  · simp
  · simp
theorem pt_seqP {c : Int} (h : hasBytes c) : pt (seqP c) 0 = (c, ((seqP c).length : Int)) := by
  have hp := seqP_pos h
  exact pt_of_seq (byte_at (seqP_byte c) (by omega) (by omega)) (by omega) (seq_seqP h)
end Go.Proofs.Ytijehblohblnbaa.UA
