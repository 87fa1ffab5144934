/- The plain law: the reference's 'Same' on what scripts made is the vectors'. -/
import Derived.Test.YthjakmdflpkjkaaPure
import Derived.Test.YthjakmdflpkjkaaT8
namespace Go.Proofs.Ythjakmdflpkjkaa
open Go.RowKit Go.Proofs.YthjakmdflpkjkaaW.PrintWords PCapsSame

structure Off (N : Int) (g : Spans) : Prop where mk :: (eq : ∀ j : Nat, (j < 1 ∨ N < j) → g j = none)
theorem off_off (N : Int) : Off N off := ⟨fun _ _ => rfl⟩
theorem off_step {N : Int} {g : Spans} (h : Off N g) (o : S44) : Off N (stepG N g o) := by
  refine ⟨fun j hj => ?_⟩
  unfold stepG
  split
  · unfold withoutS
    split
    · unfold upd
      split
      · rfl
      · exact h.eq j hj
    · exact h.eq j hj
  · unfold withS
    split
    · rename_i hm
      unfold upd
      rw [if_neg (by omega)]
      exact h.eq j hj
    · exact h.eq j hj
theorem off_run (N : Int) (s : List S44) : ∀ i : Nat, Off N (runG N s i)
  | 0 => by simp [runG]; exact off_off N
  | i + 1 => by
    by_cases h : i < s.length
    · rw [runG_succ N s i h]; exact off_step (off_run N s i) _
    · have e : runG N s (i + 1) = runG N s i := by unfold runG; rw [List.take_of_length_le (by omega), List.take_of_length_le (by omega)]
      rw [e]; exact off_run N s i

theorem toS_inj {x y : Option (Nat × Nat)} : ((toS x).f0 = (toS y).f0 ∧ (toS x).f1 = (toS y).f1) ↔ x = y := by
  rcases x with _ | ⟨a, b⟩ <;> rcases y with _ | ⟨c, d⟩ <;> simp [toS] <;> omega
theorem wrap_k (i : Int) (h0 : 0 ≤ i) (h : i < 1000) : wrap64 (i + 1) = i + 1 := by unfold wrap64; omega
def agree (N : Int) (g h : Spans) (k : Int) : Prop := ∀ j, k ≤ j → j ≤ N → spanAt N g j = spanAt N h j
theorem sameR_loop {N : Int} {g h : Spans} {l m : List S58} (hg : Rel N g l) (hh : Rel N h m) (hl : l.length < 1000) (hm : m.length < 1000) (hN : N ≤ 60) :
    ∀ (d : Nat) (K : Nat) (k : Int), 1 ≤ k → k ≤ N + 1 → N + 1 - k = d → 2003 + d ≤ K → ∃ b : Bool, lurcherref16_Same.l0 K k N l N m = some b ∧ (b = true ↔ agree N g h k)
  | 0, K, k, h1, h2, hd, hK => by
    obtain ⟨K, rfl⟩ : ∃ m, K = m + 1 := ⟨K - 1, by omega⟩
    refine ⟨true, ?_, by simp [agree]; intro j a b; omega⟩
    simp only [lurcherref16_Same.l0]
    rw [if_neg (by omega)]
  | d + 1, K, k, h1, h2, hd, hK => by
    obtain ⟨K, rfl⟩ : ∃ m, K = m + 1 := ⟨K - 1, by omega⟩
    obtain ⟨b, ih, hb⟩ := sameR_loop hg hh hl hm hN d K (k + 1) (by omega) (by omega) (by omega) (by omega)
    simp only [lurcherref16_Same.l0]
    rw [if_pos (by omega), spanR_rel hg hl k K (by omega), spanR_rel hh hm k K (by omega)]
    simp only [Option.bind_some]
    by_cases e : spanAt N g k = spanAt N h k
    · rw [e]
      simp only [beq_self_eq_true, Bool.not_true, Bool.or_self, Bool.false_eq_true, if_false]
      rw [wrap_k k (by omega) (by omega)]
      refine ⟨b, ih, hb.trans ⟨fun hx j hj hj2 => ?_, fun hx j hj hj2 => hx j (by omega) hj2⟩⟩
      by_cases ek : j = k
      · subst ek; exact e
      · exact hx j (by omega) hj2
    · have hne : (!((toS (spanAt N g k)).f0 == (toS (spanAt N h k)).f0) || !((toS (spanAt N g k)).f1 == (toS (spanAt N h k)).f1)) = true := by
        by_cases e0 : (toS (spanAt N g k)).f0 = (toS (spanAt N h k)).f0
        · by_cases e1 : (toS (spanAt N g k)).f1 = (toS (spanAt N h k)).f1
          · exact absurd (toS_inj.1 ⟨e0, e1⟩) e
          · simp [e1]
        · simp [e0]
      rw [if_pos hne]
      exact ⟨false, rfl, by simp; intro hx; exact e (hx k (by omega) (by omega))⟩
theorem sameR_f {N M : Int} {g h : Spans} {l m : List S58} (hg : Rel N g l) (hh : Rel M h m) (og : Off N g) (oh : Off M h) (hl : l.length < 1000) (hm : m.length < 1000) (hN0 : 0 ≤ N) (hN : N ≤ 60) :
    lurcherref16_Same.f 3000 N l M m = some (decide (N = M) && sameB g h) := by
  unfold lurcherref16_Same.f
  by_cases e : N = M
  · subst e
    rw [if_pos rfl]
    obtain ⟨b, h1, h2⟩ := sameR_loop hg hh hl hm hN N.toNat 3000 1 (by omega) (by omega) (by omega) (by omega)
    rw [h1]
    congr 1
    rw [decide_eq_true rfl, Bool.true_and, Bool.eq_iff_iff, h2, sameB_iff]
    constructor
    · intro ha i hi
      by_cases hr : 1 ≤ (i : Int) ∧ (i : Int) ≤ N
      · have := ha i hr.1 hr.2
        unfold spanAt at this
        rw [if_pos hr, if_pos hr] at this
        simpa using this
      · rw [og.eq i (by omega), oh.eq i (by omega)]
    · intro ha j h3 h4
      unfold spanAt
      rw [if_pos ⟨h3, h4⟩, if_pos ⟨h3, h4⟩]
      exact ha _ (by omega)
  · rw [if_neg e, decide_eq_false e, Bool.false_and]
end Go.Proofs.Ythjakmdflpkjkaa
