/- The plain law: the reference's answers on what a script made are the vector's. -/
import Derived.Test.YthjakmdflpkjkaaT9
namespace Go.Proofs.Ythjakmdflpkjkaa
open Go.RowKit Go.Proofs.YthjakmdflpkjkaaW.PrintWords PCapsSame

/-- What the last thing done to a group says. -/
def one58 (d : S58) : Option S23 := if d.f2 = true then some d.f1 else none
def lk (l : List S58) (k : Int) : Option S23 := match l.reverse.find? (fun d => d.f0 == k) with
  | some d => one58 d
  | none => none
theorem lk_nil (k : Int) : lk [] k = none := rfl
theorem lk_snoc (l : List S58) (d : S58) (k : Int) : lk (l ++ [d]) k = if d.f0 = k then one58 d else lk l k := by
  unfold lk
  rw [List.reverse_append, List.reverse_singleton, List.singleton_append, List.find?_cons]
  by_cases h : d.f0 = k
  · simp [h]
  · have : (d.f0 == k) = false := by simpa using h
    simp only [this, if_neg h]
def trip : Option S23 → Int × Int × Bool
  | some s => (s.f0, s.f1, true)
  | none => (-1, -1, false)

theorem wrap_len (n : Nat) (h : n < 1000) : wrap64 ((n : Int) - 1) = (n : Int) - 1 := by unfold wrap64; omega
theorem wrap_i (i : Int) (h0 : 0 ≤ i) (h : i < 1000) : wrap64 (i - 1) = i - 1 := by unfold wrap64; omega

theorem spanR_loop (k N : Int) (hk : k ≤ N) (l : List S58) (hl : l.length < 1000) : ∀ (i : Nat) (K : Nat), i ≤ l.length → 2 * i + 2 ≤ K → lurcherref16_Vector_Span.l0 K k ((i : Int) - 1) N l = some (trip (lk (l.take i) k))
  | 0, K, _, hK => by
    obtain ⟨K, rfl⟩ : ∃ m, K = m + 2 := ⟨K - 2, by omega⟩
    simp only [lurcherref16_Vector_Span.l0]
    rw [if_neg (by omega)]
    simp only [lurcherref16_Vector_Span.j1, Bool.false_eq_true, if_false]
    rfl
  | i + 1, K, hi, hK => by
    obtain ⟨K, rfl⟩ : ∃ m, K = m + 2 := ⟨K - 2, by omega⟩
    have ih := spanR_loop k N hk l hl i K (by omega) (by omega)
    have e : ((i + 1 : Nat) : Int) - 1 = (i : Int) := by omega
    rw [e]
    simp only [lurcherref16_Vector_Span.l0]
    rw [if_pos (by omega), decide_eq_true hk]
    simp only [lurcherref16_Vector_Span.j1, if_true]
    rw [if_pos (by omega), if_pos (by omega)]
    have ht : l.take (i + 1) = l.take i ++ [rd_T58 l i] := by
      rw [List.take_succ_eq_append_getElem (by omega)]
      simp [rd_T58, List.getD_eq_getElem?_getD, List.getElem?_eq_getElem (show i < l.length by omega)]
    rw [ht, lk_snoc]
    by_cases h : (rd_T58 l i).f0 = k
    · rw [if_pos h, if_pos h]
      unfold one58
      by_cases h2 : (rd_T58 l i).f2 = true
      · rw [if_pos h2, if_pos h2]; rfl
      · rw [if_neg h2, if_neg h2]; rfl
    · rw [if_neg h, if_neg h, wrap_i _ (by omega) (by omega)]
      exact ih
theorem spanR_f (k N : Int) (l : List S58) (hl : l.length < 1000) (K : Nat) (hK : 2002 ≤ K) : lurcherref16_Vector_Span.f K N l k = some (trip (if k ≤ N then lk l k else none)) := by
  unfold lurcherref16_Vector_Span.f
  rw [wrap_len _ hl]
  by_cases hk : k ≤ N
  · rw [if_pos hk, spanR_loop k N hk l hl l.length K (Nat.le_refl _) (by omega), List.take_length]
  · rw [if_neg hk]
    obtain ⟨K, rfl⟩ : ∃ m, K = m + 2 := ⟨K - 2, by omega⟩
    simp only [lurcherref16_Vector_Span.l0]
    rw [decide_eq_false hk]
    split <;> (simp only [lurcherref16_Vector_Span.j1, Bool.false_eq_true, if_false]; rfl)

/-! The two vectors say the same. -/
def toP (p : Nat × Nat) : S23 := ⟨p.1, p.2⟩
structure Rel (N : Int) (g : Spans) (l : List S58) : Prop where mk :: (eq : ∀ k, k ≤ N → lk l k = (spanAt N g k).map toP)
theorem rel_nil (N : Int) : Rel N off [] := ⟨fun k _ => by rw [span_off]; rfl⟩
theorem spanAt_without (N : Int) (g : Spans) (j k : Int) : spanAt N (withoutS N g j) k = if j = k then none else spanAt N g k := by
  unfold spanAt withoutS
  by_cases hk : 1 ≤ k ∧ k ≤ N
  · rw [if_pos hk, if_pos hk]
    by_cases hj : 1 ≤ j ∧ j ≤ N
    · rw [if_pos hj]
      unfold upd
      by_cases e : j = k
      · rw [if_pos e, if_pos (by omega)]
      · rw [if_neg e, if_neg (by omega)]
    · rw [if_neg hj, if_neg (by omega)]
  · rw [if_neg hk, if_neg hk]
    split <;> rfl
theorem spanAt_with (N : Int) (g : Spans) (j s t k : Int) (hm : 1 ≤ j ∧ j ≤ N ∧ 0 ≤ s ∧ s ≤ t ∧ t ≤ 1073741824) : spanAt N (withS N g j s t) k = if j = k then some (s.toNat, t.toNat) else spanAt N g k := by
  unfold spanAt withS
  rw [if_pos hm]
  unfold upd
  by_cases hk : 1 ≤ k ∧ k ≤ N
  · rw [if_pos hk, if_pos hk]
    by_cases e : j = k
    · rw [if_pos e, if_pos (by omega)]
    · rw [if_neg e, if_neg (by omega)]
  · rw [if_neg hk, if_neg hk, if_neg (by omega)]
theorem rel_step {N : Int} {g : Spans} {l : List S58} (h : Rel N g l) (o : S44) : Rel N (stepG N g o) (stepL N l o) := by
  refine ⟨fun k hk => ?_⟩
  unfold stepG stepL
  by_cases hz : o.f0.tmod 4 = 0
  · rw [if_pos hz, if_pos hz, lk_snoc, spanAt_without]
    split
    · rfl
    · exact h.eq k hk
  · rw [if_neg hz, if_neg hz]
    by_cases hm : 1 ≤ o.f1 ∧ o.f1 ≤ N ∧ 0 ≤ o.f2.f0 ∧ o.f2.f0 ≤ o.f2.f1 ∧ o.f2.f1 ≤ 1073741824
    · rw [if_neg (by omega), lk_snoc, spanAt_with N g _ _ _ k hm]
      split
      · simp only [one58, if_true, Option.map_some, toP, Int.toNat_of_nonneg hm.2.2.1, Int.toNat_of_nonneg (show 0 ≤ o.f2.f1 by omega)]
      · exact h.eq k hk
    · rw [if_pos (by omega), with_not hm]
      exact h.eq k hk
theorem rel_run (N : Int) (s : List S44) : ∀ i : Nat, Rel N (runG N s i) (runL N s i)
  | 0 => by simp [runG, runL]; exact rel_nil N
  | i + 1 => by
    by_cases h : i < s.length
    · rw [runG_succ N s i h, runL_succ N s i h]; exact rel_step (rel_run N s i) _
    · have e : runG N s (i + 1) = runG N s i := by unfold runG; rw [List.take_of_length_le (by omega), List.take_of_length_le (by omega)]
      have e' : runL N s (i + 1) = runL N s i := by unfold runL; rw [List.take_of_length_le (by omega), List.take_of_length_le (by omega)]
      rw [e, e']; exact rel_run N s i
theorem trip_of (x : Option (Nat × Nat)) : trip (x.map toP) = ((toS x).f0, (toS x).f1, x.isSome) := by
  rcases x with _ | ⟨a, b⟩ <;> rfl
theorem spanR_rel {N : Int} {g : Spans} {l : List S58} (h : Rel N g l) (hl : l.length < 1000) (k : Int) (K : Nat) (hK : 2002 ≤ K) : lurcherref16_Vector_Span.f K N l k = some ((toS (spanAt N g k)).f0, (toS (spanAt N g k)).f1, (spanAt N g k).isSome) := by
  rw [spanR_f k N l hl K hK]
  by_cases hk : k ≤ N
  · rw [if_pos hk, h.eq k hk, trip_of]
  · rw [if_neg hk]
    have : spanAt N g k = none := by unfold spanAt; rw [if_neg (by omega)]
    rw [this]; rfl
end Go.Proofs.Ythjakmdflpkjkaa
