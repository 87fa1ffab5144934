import Derived.Test.YtijehblohblnbaaPu6
import Derived.Test.YtijehblohblnbaaUB1
namespace Go.Proofs.Ytijehblohblnbaa.Pure
open Go.RowKit Go.Proofs.Ytijehblohblnbaa.UA Go.Proofs.Ytijehblohblnbaa.UB Go.Proofs.YtijehblohblnbaaW.PrintWords Go.Proofs.YtijehblohblnbaaW.PrintLast
set_option linter.unusedVariables false
set_option linter.unusedSimpArgs false

theorem valid_B {l : List Int} (hN : l.length < 4611686018427387904) (hby : ∀ x ∈ l, Byte x) : ∀ (r : Nat) (a : Int), 0 ≤ a → a ≤ l.length → l.length - a ≤ r → (∃ x : Int, (0 ≤ x ∧ x < l.length) ∧ ∀ j, utf_Valid.l0 (r + 1 + j) l a = some (x, false)) ∨ V l a := by
  intro r
  induction r with
  | zero => intro a h0 h1 h2; rw [show a = (l.length : Int) by omega]; exact Or.inr .done
  | succ r ih =>
    intro a h0 h1 h2
    by_cases ha : a < l.length
    · by_cases h : (pt l a).2 > 0
      · have hp := seq_pos (byte_at hby h0 ha) (seq_of_pos hby h0 ha h)
        rcases ih (a + (pt l a).2) (by omega) (by omega) (by omega) with ⟨x, hx0, hx⟩ | hv
        · refine Or.inl ⟨x, hx0, fun j => ?_⟩
          rw [show r + 1 + 1 + j = (r + 1 + j) + 1 by omega, utf_Valid.l0, if_pos ha, point_f h0 ha hN hby, Option.bind_some, if_neg (by omega), w64 (by omega) (by omega)]
          exact hx j
        · exact Or.inr (.step a h0 ha h hv)
      · refine Or.inl ⟨a, ⟨h0, ha⟩, fun j => ?_⟩
        have h3 : (pt l a).2 = 0 := by
          rcases pt_range hby h0 ha with x | x
          · exact absurd x.2.1 (by omega)
          · rw [x]
        rw [show r + 1 + 1 + j = (r + 1 + j) + 1 by omega, utf_Valid.l0, if_pos ha, point_f h0 ha hN hby, Option.bind_some, if_pos h3]
    · rw [show a = (l.length : Int) by omega]; exact Or.inr .done
theorem ofP_seq {x : List Int} (h : 0 ≤ ofP x) : seqP (ofP x) = x ∧ x ≠ [] := by
  unfold ofP at h ⊢
  by_cases hh : seqP (codeOf x) = x ∧ x ≠ []
  · rw [if_pos hh]; exact hh
  · rw [if_neg hh] at h; exact absurd h (by omega)
/-- The bytes of the sequence at an offset are what Sequence makes of its code point. -/
theorem bytes_of {l : List Int} (hby : ∀ x ∈ l, Byte x) {a : Int} (h0 : 0 ≤ a) (ha : a < l.length) (h : (pt l a).2 > 0) :
    seqP (pt l a).1 = (l.take (a + (pt l a).2).toNat).drop a.toNat ∧ hasBytes (pt l a).1 := by
  have hp := seq_pos (byte_at hby h0 ha) (seq_of_pos hby h0 ha h)
  obtain ⟨n, hn⟩ : ∃ n : Nat, (pt l a).2 = n := ⟨(pt l a).2.toNat, by omega⟩
  have e := of_pt hby n h0 (by omega) (by omega)
  rw [if_pos hn] at e
  have hs := ofP_seq (x := (l.take (a + n).toNat).drop a.toNat) (by rw [e]; exact hp.1)
  rw [e] at hs
  rw [hn]
  refine ⟨hs.1, ?_⟩
  have hne : seqP (pt l a).1 ≠ [] := by rw [hs.1]; exact hs.2
  unfold hasBytes
  by_cases hh : (pt l a).1 < 0 ∨ (pt l a).1 > 1114111 ∨ (55296 ≤ (pt l a).1 ∧ (pt l a).1 ≤ 57343)
  · exact absurd (by unfold seqP; rw [if_pos hh]) hne
  · omega
/-- Where a sequence begins no byte stands that goes on. -/
theorem lead {l : List Int} {a : Int} {p : Int × Int} (h : Seq l a p) : ¬ cont (rd l a) := by
  intro hc
  cases h with
  | one x _ => have := hc.1; omega
  | two x _ => have := hc.2; have := x.1.1; omega
  | three x _ => have := hc.2; have := x.1.1; omega
  | four x _ => have := hc.2; have := x.1.1; omega
/-- Behind its first byte a sequence has bytes that go on. -/
theorem inner {l : List Int} {a : Int} {p : Int × Int} (h : Seq l a p) : ∀ i : Int, 1 ≤ i → i < p.2 → cont (rd l (a + i)) := by
  intro i h1 h2
  cases h with
  | one x _ => simp at h2; omega
  | two x _ => simp at h2; obtain rfl : i = 1 := by omega
               exact x.2.1
  | three x _ =>
    simp at h2
    obtain rfl | rfl : i = 1 ∨ i = 2 := by omega
    · exact x.2.1
    · exact x.2.2.1
  | four x _ =>
    simp at h2
    obtain rfl | rfl | rfl : i = 1 ∨ i = 2 ∨ i = 3 := by omega
    · exact x.2.1
    · exact x.2.2.1
    · exact x.2.2.2.1
/-- From the end of a sequence Prev goes back to where it begins. -/
theorem prev_back {l : List Int} (hby : ∀ x ∈ l, Byte x) {a : Int} (h0 : 0 ≤ a) (ha : a < l.length) (h : (pt l a).2 > 0) : prevP l (a + (pt l a).2) true = ((pt l a).1, a) := by
  have hq := seq_of_pos hby h0 ha h
  have hp := seq_pos (byte_at hby h0 ha) hq
  rw [prev_in (by omega), if_pos rfl]
  have key : ∀ n : Nat, n ≤ 4 → (pt l a).2 ≤ n → prevL l (a + (pt l a).2) n = ((pt l a).1, a) := by
    intro n
    induction n with
    | zero => intro _ hh; omega
    | succ n ih =>
      intro h4 hle
      unfold prevL
      by_cases e : (pt l a).2 = (n : Int) + 1
      · have ea : a + (pt l a).2 - ((n : Int) + 1) = a := by omega
        rw [ea, if_pos ⟨by omega, e⟩]
      · rw [if_neg, ih (by omega) (by omega)]
        rintro ⟨k1, k2⟩
        have hb0 : 0 ≤ a + (pt l a).2 - ((n : Int) + 1) := by omega
        have hb1 : a + (pt l a).2 - ((n : Int) + 1) < l.length := by omega
        have hq2 := seq_of_pos hby hb0 hb1 (by omega)
        have hin := inner hq2 ((n : Int) + 1 - (pt l a).2) (by omega) (by omega)
        rw [show a + (pt l a).2 - ((n : Int) + 1) + ((n : Int) + 1 - (pt l a).2) = a by omega] at hin
        exact lead hq hin
  exact key 4 (by omega) (by omega)
theorem take_more (l : List Int) {a n : Int} (h0 : 0 ≤ a) (hn : 0 ≤ n) : l.take a.toNat ++ (l.take (a + n).toNat).drop a.toNat = l.take (a + n).toNat := by
  have := List.take_append_drop a.toNat (l.take (a + n).toNat)
  rw [List.take_take, show min a.toNat (a + n).toNat = a.toNat by omega] at this
  exact this
theorem back_l0 {l : List Int} (hN : l.length < 4611686018427387904) (hby : ∀ x ∈ l, Byte x) (h5 : l.length ≤ 5000) {a : Int} (h : V l a) : ∀ (r j : Nat), l.length - a ≤ r → lurcherlaw01_UtfBack.l0 (r + 25 + j) l l.length (l.take a.toNat) a = some true := by
  induction h with
  | done =>
    intro r j _
    rw [show r + 25 + j = (r + 24 + j) + 1 by omega, lurcherlaw01_UtfBack.l0, if_neg (by omega), if_pos rfl, if_pos rfl, Int.toNat_natCast, List.take_length]
    simp
  | step a h0 ha hpos _ ih =>
    intro r j hr
    have hp := seq_pos (byte_at hby h0 ha) (seq_of_pos hby h0 ha hpos)
    obtain ⟨r, rfl⟩ : ∃ q, r = q + 1 := ⟨r - 1, by omega⟩
    have n1 : nextP l a true = ((pt l a).1, a + (pt l a).2) := by rw [next_in (by omega), if_pos ⟨rfl, hpos⟩]
    obtain ⟨b1, b2⟩ := bytes_of hby h0 ha hpos
    have he : encP (pt l a).1 true = (seqP (pt l a).1, 0) := by
      unfold encP
      rw [if_neg, if_neg (show ¬ (true = false) by simp)]
      unfold encBad; unfold hasBytes at b2; simp; omega
    have e1 := uNext hN hby (r + 24 + j) a true
    have e2 := uPrev hN hby (r + 5 + j) (a + (pt l a).2) true
    rw [show r + 24 + j + 1 = r + 25 + j by omega, n1] at e1
    rw [show r + 5 + j + 20 = r + 25 + j by omega, prev_back hby h0 ha hpos] at e2
    rw [show r + 1 + 25 + j = (r + 25 + j) + 1 by omega, lurcherlaw01_UtfBack.l0, if_pos ha, e1, Option.bind_some]
    show (some (encP (pt l a).1 true)).bind _ = _
    rw [Option.bind_some, he]
    show (utf_Prev.f (r + 25 + j) l (a + (pt l a).2) true).bind _ = _
    rw [e2, Option.bind_some, if_neg (show ¬ a + (pt l a).2 ≤ a by omega), if_pos rfl, if_pos rfl, if_pos rfl]
    have hsl := (seqP_pos b2).2
    show (if (l.take a.toNat).length + (seqP (pt l a).1).length < 140737488355328 then lurcherlaw01_UtfBack.l0 (r + 25 + j) l l.length (l.take a.toNat ++ seqP (pt l a).1) (a + (pt l a).2) else none) = _
    rw [if_pos (by rw [List.length_take]; omega), b1, take_more l h0 (by omega)]
    exact ih r j (by omega)
theorem UtfBack : lurcherlaw01_UtfBack.Pure := by
  intro l h1 h2 h3
  have hby := byte_of_wf h3
  have hN : l.length < 4611686018427387904 := by omega
  refine ⟨l.length + 200, ?_⟩
  unfold lurcherlaw01_UtfBack.f
  rw [show l.length + 200 = 100 + (l.length + 100) by omega, awake_up, Option.bind_some, if_pos rfl]
  by_cases h : (l.length : Int) > 5000
  · rw [if_pos h]
  rw [if_neg h]
  rcases valid_B hN hby l.length 0 (by omega) (by omega) (by omega) with ⟨x, hx0, hx⟩ | hv
  · have e := hx 199
    rw [show l.length + 1 + 199 = 100 + (l.length + 100) by omega] at e
    show (utf_Valid.l0 (100 + (l.length + 100)) l 0).bind _ = _
    rw [e, Option.bind_some, if_neg (show ¬ (false = true) by simp), if_pos (show x ≥ 0 by omega), decide_eq_true (show x < (l.length : Int) by omega)]
  · have e := V_valid hN hby hv l.length 199 (by omega)
    rw [show l.length + 1 + 199 = 100 + (l.length + 100) by omega] at e
    show (utf_Valid.l0 (100 + (l.length + 100)) l 0).bind _ = _
    rw [e, Option.bind_some, if_pos rfl]
    have := back_l0 hN hby (by omega) hv l.length 175 (by omega)
    rw [show l.length + 25 + 175 = 100 + (l.length + 100) by omega] at this
    exact this

end Go.Proofs.Ytijehblohblnbaa.Pure
