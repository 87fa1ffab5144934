/- The walk of 'played': a vector that a script made, and the reference's. -/
import Derived.Test.YthjakmdflpkjkaaT9
namespace Go.Proofs.Ythjakmdflpkjkaa
open Go.RowKit Go.Proofs.YthjakmdflpkjkaaW.PrintWords PCapsSame

theorem newR_any (n : Int) (w : World) : Calls Try.prog 14 #[.int .i64 n] w fun e w' => e = .returned (.agg #[.int .i64 (min (max n 0) 60), .slice none 0 0]) ∧ Below w.heap.size w w' := by
  by_cases h : n < 0
  · go_enter Try.func14, Try.ntmps14
    go_wp2
    refine bodyPost_ret (v := .agg #[.int .i64 0, .slice none 0 0]) (by simp [results, Try.results14, go_sem]) rfl ⟨by rw [show min (max n 0) 60 = 0 by omega], (Below.refl _ _).alloc (Nat.le_refl _) _⟩
  · by_cases h2 : 60 < n
    · go_enter Try.func14, Try.ntmps14
      go_wp2
      refine bodyPost_ret (v := .agg #[.int .i64 60, .slice none 0 0]) (by simp [results, Try.results14, go_sem]) rfl ⟨by rw [show min (max n 0) 60 = 60 by omega], (Below.refl _ _).alloc (Nat.le_refl _) _⟩
    · go_enter Try.func14, Try.ntmps14
      go_wp2
      refine bodyPost_ret (v := .agg #[.int .i64 n, .slice none 0 0]) (by simp [results, Try.results14, go_sem]) rfl ⟨by rw [show min (max n 0) 60 = n by omega], (Below.refl _ _).alloc (Nat.le_refl _) _⟩

/-- The reference's vector, a step on: what was there stays, but for the row's own block. -/
theorem withoutR_any (N k : Int) (u : Value) (l : List S58) (w0 w : World) (hl : l.length < 1000) (hb : Below w0.heap.size w0 w) (hR : Kd.R k58 58 w w0.heap.size (fun _ => True) u l) :
    Calls Try.prog 17 #[.agg #[.int .i64 N, u], .int .i64 k] w fun e w' => ∃ A c, e = .returned (.agg #[.int .i64 N, .slice A (l.length + 1) c]) ∧ Kd.R k58 58 w' w0.heap.size (fun _ => True) (.slice A (l.length + 1) c) (l ++ [⟨k, ⟨0, 0⟩, false⟩]) ∧ Below w.heap.size w w' := by
  obtain ⟨A, c, rfl, hc, hC⟩ := Kd.R_reads hR
  refine (lurcherref16_Vector_Without.calls N A c l k N (l ++ [⟨k, ⟨0, 0⟩, false⟩]) w hC hc ?_).mono ?_
  · unfold lurcherref16_Vector_Without.f
    rw [if_pos (by simp; omega)]
    simp only [List.nil_append, Option.bind_some]
    rw [if_pos (by omega)]
  · rintro e w' ⟨v, rfl, hR', hb'⟩
    obtain ⟨A', c', rfl⟩ := Kd.R_slice hR'
    rw [List.length_append, List.length_singleton] at hR' ⊢
    exact ⟨A', c', rfl, Kd.R_lower hR' (by have := hb.size; omega), hb'⟩
/-- What is no row of the reference's stays. -/
def Stays (w w' : World) : Prop := ∀ (j : Nat) (cs : Array Value) (t : TypeId), w.heap[j]? = some (Obj.cells cs t (0, 0)) → t ≠ 58 → w'.heap[j]? = some (Obj.cells cs t (0, 0))
theorem Stays.of_below {w w' : World} (h : Below w.heap.size w w') : Stays w w' := fun _ _ _ hj _ => hbel h hj

theorem withR_any (N k s t : Int) (u : Value) (l : List S58) (w0 w : World) (hl : l.length < 1000) (hb : Below w0.heap.size w0 w) (hR : Kd.R k58 58 w w0.heap.size (fun _ => True) u l) :
    Calls Try.prog 18 #[.agg #[.int .i64 N, u], .int .i64 k, .agg #[.int .i64 s, .int .i64 t]] w fun e w' => ∃ A n c, e = .returned (.agg #[.int .i64 N, .slice A n c]) ∧
      Kd.R k58 58 w' w0.heap.size (fun _ => True) (.slice A n c) (if k < 1 ∨ k > N ∨ s < 0 ∨ t < s ∨ t > 1073741824 then l else l ++ [⟨k, ⟨s, t⟩, true⟩]) ∧ Below w0.heap.size w0 w' ∧ Stays w w' := by
  have hRb := Kd.R_bound hR
  generalize hl2 : (if k < 1 ∨ k > N ∨ s < 0 ∨ t < s ∨ t > 1073741824 then l else l ++ [⟨k, ⟨s, t⟩, true⟩]) = l2
  refine (lurcherref16_Vector_With.calls N _ u l k s t N l2 w0 w hb hRb ?_).mono ?_
  · unfold lurcherref16_Vector_With.f
    by_cases h1 : k < 1
    · rw [if_pos h1, ← hl2, if_pos (by omega)]
    · rw [if_neg h1]
      by_cases h2 : k > N
      · rw [if_pos h2, ← hl2, if_pos (by omega)]
      · rw [if_neg h2]
        by_cases h3 : s < 0
        · rw [if_pos h3, ← hl2, if_pos (by omega)]
        · rw [if_neg h3]
          by_cases h4 : t < s
          · rw [if_pos h4, ← hl2, if_pos (by omega)]
          · rw [if_neg h4]
            by_cases h5 : t > 1073741824
            · rw [if_pos h5, ← hl2, if_pos (by omega)]
            · rw [if_neg h5, if_pos (by simp; omega)]
              simp only [List.nil_append, Option.bind_some]
              rw [if_pos (by omega), ← hl2, if_neg (by omega)]
  · rintro e w' ⟨v, rfl, hR', hb', hk⟩
    obtain ⟨A, c, rfl⟩ := Kd.R_slice hR'
    refine ⟨A, _, c, rfl, Kd.R_mono hR' (fun _ _ => trivial), hb', fun j cs q hj hq => ?_⟩
    refine (hk.2 j (blt hj) ?_).trans hj
    rintro ⟨_, _, _, q', hq', cells, hc⟩
    rw [hj] at hc
    simp only [Option.some.injEq, Obj.cells.injEq] at hc
    have : q' = 58 := by
      have h := hq'
      simp [k58, k23, Kd.iso, Kd.pair, Kd.int, Kd.bool, Kd.scalar] at h
      exact h
    exact hq (by rw [← this]; simp_all)
end Go.Proofs.Ythjakmdflpkjkaa
