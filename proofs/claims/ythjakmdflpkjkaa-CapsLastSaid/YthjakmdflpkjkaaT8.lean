import Derived.Test.YthjakmdflpkjkaaT7
namespace Go.Proofs.Ythjakmdflpkjkaa
open Go.RowKit Go.Proofs.YthjakmdflpkjkaaW.PrintWords PCapsSame

theorem sameB_refl (g : Spans) : sameB g g = true := by simp [sameB]
theorem sameB_iff (g h : Spans) : sameB g h = true ↔ ∀ i, i < 61 → g i = h i := by simp [sameB]

theorem span_with_may {N k s t : Int} (h1 : 1 ≤ k) (h2 : k ≤ N) (h3 : 0 ≤ s) (h4 : s ≤ t) (h5 : t ≤ 1073741824) (g : Spans) : spanAt N (withS N g k s t) k = some (s.toNat, t.toNat) := by
  unfold spanAt withS
  rw [if_pos ⟨h1, h2⟩, if_pos ⟨h1, h2, h3, h4, h5⟩]
  simp [upd]
theorem same_with_may {N k s t : Int} (h1 : 1 ≤ k) (h2 : k ≤ N) (hN : N ≤ 60) (h3 : 0 ≤ s) (h4 : s ≤ t) (h5 : t ≤ 1073741824) : sameB (withS N off k s t) off = false := by
  rcases hb : sameB (withS N off k s t) off with _ | _
  · rfl
  · have := (sameB_iff _ _).1 hb k.toNat (by omega)
    unfold withS at this
    rw [if_pos ⟨h1, h2, h3, h4, h5⟩] at this
    simp [upd, off] at this


theorem span_may {N k s t : Int} (hN : N ≤ 60) (h1 : 1 ≤ k) (h2 : k ≤ N) (h3 : 0 ≤ s) (h4 : s ≤ t) (h5 : t ≤ 1073741824) (w : World) :
    Calls Try.prog 11 #[.agg (vec N (withS N off k s t)), .int .i64 k] w fun e w' => e = .returned (.tuple #[.agg #[.int .i64 s, .int .i64 t], .bool true]) ∧ Below w.heap.size w w' := by
  have h := span_any N (withS N off k s t) k w hN (bounded_with bounded_off N k s t)
  rw [span_with_may h1 h2 h3 h4 h5] at h
  simp only [toS, Option.isSome, Int.toNat_of_nonneg h3, Int.toNat_of_nonneg (show 0 ≤ t by omega)] at h
  exact h
theorem span_none_off {N k : Int} (hN : N ≤ 60) (w : World) :
    Calls Try.prog 11 #[.agg (vec N off), .int .i64 k] w fun e w' => e = .returned (.tuple #[.agg #[.int .i64 (-1), .int .i64 (-1)], .bool false]) ∧ Below w.heap.size w w' := by
  have h := span_any N off k w hN bounded_off
  rw [span_off] at h
  exact h

set_option maxRecDepth 100000 in
set_option maxHeartbeats 800000 in
theorem bounds_yes (n k s t : Int) (w : World) (may : 1 ≤ k ∧ k ≤ min (max n 0) 60 ∧ 0 ≤ s ∧ s ≤ t ∧ t ≤ 1073741824) :
    Calls Try.prog 3 #[.int .i64 n, .int .i64 k, .agg #[.int .i64 s, .int .i64 t]] w fun e w' => e = .returned (.bool true) ∧ Below w.heap.size w w' := by
  obtain ⟨N, hN⟩ : ∃ N, N = min (max n 0) 60 := ⟨_, rfl⟩
  obtain ⟨h1, h2, h3, h4, h5⟩ := may
  rw [← hN] at h2
  have hN0 : 0 ≤ N := by omega
  have hN1 : N ≤ 60 := by omega
  have HN := Aside0.mk hN
  clear hN
  go_enter Try.func3, Try.ntmps3
  go_wp2_with fail
  refine (awake_any _).mono ?_
  rintro e w1 ⟨rfl, hb1⟩
  have S1 := Aside0.mk (hbel hb1 (heap_at w (.cells #[.int .i64 s, .int .i64 t] 23) rfl))
  have B1 := Aside0.mk (chain (below_alloc (Below.refl _ w) (.cells #[.int .i64 s, .int .i64 t] 23)) hb1)
  clear hb1
  go_wp2_with fail
  refine (new_any n _).mono ?_
  rintro e w2 ⟨rfl, hb2⟩
  rw [← HN.out]
  have S2 := Aside0.mk (hup (.cells (vec N off) 29) (hbel hb2 S1.out))
  have V2 := Aside0.mk (heap_at w2 (.cells (vec N off) 29) rfl)
  have B2 := Aside0.mk (below_alloc (chain B1.out hb2) (.cells (vec N off) 29))
  clear hb2
  have c0 := cell_of_row _ _ 0 _ _ _ S2.out
  have c1 := cell_of_row _ _ 1 _ _ _ S2.out
  simp at c0 c1
  go_wp2_with (first | refine op_alloc29 ?_ | ((with_reducible refine op_store29_new (W := w2) (cs := vec N off) ?_ ?_ (vec_size _ _) (vec_size _ _) (vec_one _ _) ?_); (next => rfl); (next => rfl)) | ((with_reducible refine op_loadg (g := w2.heap.size) (t := 29) V2.out (vec_size _ _) ?_ ?_ ?_); (next => rfl); (next => rfl)))
  refine (with_any N off k s t _ hN1).mono ?_
  rintro e w3 ⟨rfl, hb3⟩
  clear c0 c1
  have G := bounded_with bounded_off N k s t
  have e4 := same_with_may h1 h2 hN1 h3 h4 h5
  have hsp := fun w => span_may hN1 h1 h2 h3 h4 h5 w
  generalize hgg : withS N off k s t = g at *
  have E4 := Aside0.mk e4
  have HSP := Aside0.mk hsp
  clear e4 hsp
  have S3 := Aside0.mk (hup (.cells (vec N g) 29) (hbel hb3 S2.out))
  have V3 := Aside0.mk (hup (.cells (vec N g) 29) (hbel hb3 V2.out))
  have U3 := Aside0.mk (heap_at w3 (.cells (vec N g) 29) rfl)
  have B3 := Aside0.mk (below_alloc (chain B2.out hb3) (.cells (vec N g) 29))
  have HG := Aside0.mk hgg
  clear hb3 hgg
  go_wp2_with (first | refine op_alloc29 ?_ | ((with_reducible refine op_store29_new (W := w3) (cs := vec N g) ?_ ?_ (vec_size _ _) (vec_size _ _) (vec_one _ _) ?_); (next => rfl); (next => rfl)) | ((with_reducible refine op_loadg (g := w3.heap.size) (t := 29) U3.out (vec_size _ _) ?_ ?_ ?_); (next => rfl); (next => rfl)))
  refine (HSP.out _).mono ?_
  rintro e w4 ⟨rfl, hb4⟩
  have S4 := Aside0.mk (hup (.cells #[.int .i64 s, .int .i64 t] 23) (hbel hb4 S3.out))
  have V4 := Aside0.mk (hup (.cells #[.int .i64 s, .int .i64 t] 23) (hbel hb4 V3.out))
  have U4 := Aside0.mk (hup (.cells #[.int .i64 s, .int .i64 t] 23) (hbel hb4 U3.out))
  have X4 := Aside0.mk (heap_at w4 (.cells #[.int .i64 s, .int .i64 t] 23) rfl)
  have B4 := Aside0.mk (below_alloc (chain B3.out hb4) (.cells #[.int .i64 s, .int .i64 t] 23))
  clear hb4
  have x0 := cell_of_row _ _ 0 _ _ _ X4.out
  have x1 := cell_of_row _ _ 1 _ _ _ X4.out
  have c0 := cell_of_row _ _ 0 _ _ _ S4.out
  have c1 := cell_of_row _ _ 1 _ _ _ S4.out
  simp at x0 x1 c0 c1
  go_wp2_with ((with_reducible refine op_loadg (g := w2.heap.size) (t := 29) V4.out (vec_size _ _) ?_ ?_ ?_); (next => rfl); (next => rfl))
  refine (groups_any _ _ _).mono ?_
  rintro e w5 ⟨rfl, hb5⟩
  have S5 := Aside0.mk (hbel hb5 S4.out)
  have V5 := Aside0.mk (hbel hb5 V4.out)
  have U5 := Aside0.mk (hbel hb5 U4.out)
  have X5 := Aside0.mk (hbel hb5 X4.out)
  have B5 := Aside0.mk (chain B4.out hb5)
  clear hb5 x0 x1 c0 c1
  have x0 := cell_of_row _ _ 0 _ _ _ X5.out
  have x1 := cell_of_row _ _ 1 _ _ _ X5.out
  have c0 := cell_of_row _ _ 0 _ _ _ S5.out
  have c1 := cell_of_row _ _ 1 _ _ _ S5.out
  simp at x0 x1 c0 c1
  go_wp2_with (first | ((with_reducible refine op_loadg (g := w2.heap.size) (t := 29) V5.out (vec_size _ _) ?_ ?_ ?_); (next => rfl); (next => rfl)) | ((with_reducible refine op_loadg (g := w3.heap.size) (t := 29) U5.out (vec_size _ _) ?_ ?_ ?_); (next => rfl); (next => rfl)))
  refine (same_any _ _ _ _ G bounded_off _).mono ?_
  rintro e w6 ⟨rfl, hb6⟩
  rw [E4.out]
  have B6 := Aside0.mk (chain B5.out hb6)
  clear hb6
  go_wp2_with fail
  go_ret
  exact ⟨by simp, B6.out⟩

set_option maxRecDepth 100000 in
set_option maxHeartbeats 800000 in
theorem bounds_no1 (n k s t : Int) (w : World) (h1 : 1 ≤ k) (may : ¬(1 ≤ k ∧ k ≤ min (max n 0) 60 ∧ 0 ≤ s ∧ s ≤ t ∧ t ≤ 1073741824)) :
    Calls Try.prog 3 #[.int .i64 n, .int .i64 k, .agg #[.int .i64 s, .int .i64 t]] w fun e w' => e = .returned (.bool true) ∧ Below w.heap.size w w' := by
  obtain ⟨N, hN⟩ : ∃ N, N = min (max n 0) 60 := ⟨_, rfl⟩
  rw [← hN] at may
  have MAY := Aside0.mk may
  clear may
  have hN0 : 0 ≤ N := by omega
  have hN1 : N ≤ 60 := by omega
  have HN := Aside0.mk hN
  clear hN
  go_enter Try.func3, Try.ntmps3
  go_wp2_with fail
  refine (awake_any _).mono ?_
  rintro e w1 ⟨rfl, hb1⟩
  have S1 := Aside0.mk (hbel hb1 (heap_at w (.cells #[.int .i64 s, .int .i64 t] 23) rfl))
  have B1 := Aside0.mk (chain (below_alloc (Below.refl _ w) (.cells #[.int .i64 s, .int .i64 t] 23)) hb1)
  clear hb1
  go_wp2_with fail
  refine (new_any n _).mono ?_
  rintro e w2 ⟨rfl, hb2⟩
  rw [← HN.out]
  have S2 := Aside0.mk (hup (.cells (vec N off) 29) (hbel hb2 S1.out))
  have V2 := Aside0.mk (heap_at w2 (.cells (vec N off) 29) rfl)
  have B2 := Aside0.mk (below_alloc (chain B1.out hb2) (.cells (vec N off) 29))
  clear hb2
  have c0 := cell_of_row _ _ 0 _ _ _ S2.out
  have c1 := cell_of_row _ _ 1 _ _ _ S2.out
  simp at c0 c1
  go_wp2_with (first | refine op_alloc29 ?_ | ((with_reducible refine op_store29_new (W := w2) (cs := vec N off) ?_ ?_ (vec_size _ _) (vec_size _ _) (vec_one _ _) ?_); (next => rfl); (next => rfl)) | ((with_reducible refine op_loadg (g := w2.heap.size) (t := 29) V2.out (vec_size _ _) ?_ ?_ ?_); (next => rfl); (next => rfl)))
  refine (with_any N off k s t _ hN1).mono ?_
  rintro e w3 ⟨rfl, hb3⟩
  clear c0 c1
  rw [with_not MAY.out]
  have S3 := Aside0.mk (hup (.cells (vec N off) 29) (hbel hb3 S2.out))
  have V3 := Aside0.mk (hup (.cells (vec N off) 29) (hbel hb3 V2.out))
  have U3 := Aside0.mk (heap_at w3 (.cells (vec N off) 29) rfl)
  have B3 := Aside0.mk (below_alloc (chain B2.out hb3) (.cells (vec N off) 29))
  clear hb3
  go_wp2_with (first | refine op_alloc29 ?_ | ((with_reducible refine op_store29_new (W := w3) (cs := vec N off) ?_ ?_ (vec_size _ _) (vec_size _ _) (vec_one _ _) ?_); (next => rfl); (next => rfl)) | ((with_reducible refine op_loadg (g := w3.heap.size) (t := 29) U3.out (vec_size _ _) ?_ ?_ ?_); (next => rfl); (next => rfl)))
  refine (span_none_off hN1 _).mono ?_
  rintro e w4 ⟨rfl, hb4⟩
  have S4 := Aside0.mk (hup (.cells #[.int .i64 (-1), .int .i64 (-1)] 23) (hbel hb4 S3.out))
  have V4 := Aside0.mk (hup (.cells #[.int .i64 (-1), .int .i64 (-1)] 23) (hbel hb4 V3.out))
  have U4 := Aside0.mk (hup (.cells #[.int .i64 (-1), .int .i64 (-1)] 23) (hbel hb4 U3.out))
  have X4 := Aside0.mk (heap_at w4 (.cells #[.int .i64 (-1), .int .i64 (-1)] 23) rfl)
  have B4 := Aside0.mk (below_alloc (chain B3.out hb4) (.cells #[.int .i64 (-1), .int .i64 (-1)] 23))
  clear hb4
  have x0 := cell_of_row _ _ 0 _ _ _ X4.out
  have x1 := cell_of_row _ _ 1 _ _ _ X4.out
  have c0 := cell_of_row _ _ 0 _ _ _ S4.out
  have c1 := cell_of_row _ _ 1 _ _ _ S4.out
  simp at x0 x1 c0 c1
  have may := MAY.out
  go_wp2_with (first | ((with_reducible refine op_loadg (g := w2.heap.size) (t := 29) V4.out (vec_size _ _) ?_ ?_ ?_); (next => rfl); (next => rfl)))
  refine (groups_any _ _ _).mono ?_
  rintro e w5 ⟨rfl, hb5⟩
  have S5 := Aside0.mk (hbel hb5 S4.out)
  have V5 := Aside0.mk (hbel hb5 V4.out)
  have U5 := Aside0.mk (hbel hb5 U4.out)
  have B5 := Aside0.mk (chain B4.out hb5)
  have d0 := cell_of_row _ _ 0 _ _ _ S5.out
  have d1 := cell_of_row _ _ 1 _ _ _ S5.out
  simp at d0 d1
  clear hb5 x0 x1 c0 c1
  go_wp2_with (first | ((with_reducible refine op_loadg (g := w2.heap.size) (t := 29) V5.out (vec_size _ _) ?_ ?_ ?_); (next => rfl); (next => rfl)) | ((with_reducible refine op_loadg (g := w3.heap.size) (t := 29) U5.out (vec_size _ _) ?_ ?_ ?_); (next => rfl); (next => rfl)))
  all_goals
    refine (same_any _ _ _ _ bounded_off bounded_off _).mono ?_
    rintro e w6 ⟨rfl, hb6⟩
    rw [sameB_refl]
    have B6 := Aside0.mk (chain B5.out hb6)
    have V6 := Aside0.mk (hbel hb6 V5.out)
    clear hb6
    go_wp2_with (first | ((with_reducible refine op_loadg (g := w2.heap.size) (t := 29) V6.out (vec_size _ _) ?_ ?_ ?_); (next => rfl); (next => rfl)))
    refine (groups_any _ _ _).mono ?_
    rintro e w7 ⟨rfl, hb7⟩
    have B7 := Aside0.mk (chain B6.out hb7)
    have V7 := Aside0.mk (hbel hb7 V6.out)
    clear hb7
    go_wp2_with (first | ((with_reducible refine op_loadg (g := w2.heap.size) (t := 29) V7.out (vec_size _ _) ?_ ?_ ?_); (next => rfl); (next => rfl)))
    refine (groups_any _ _ _).mono ?_
    rintro e w8 ⟨rfl, hb8⟩
    have B8 := Aside0.mk (chain B7.out hb8)
    clear hb8
    go_wp2_with fail
    go_ret
    exact ⟨by simp <;> omega, B8.out⟩

set_option maxRecDepth 100000 in
set_option maxHeartbeats 800000 in
theorem bounds_no0 (n k s t : Int) (w : World) (h1 : k < 1) (may : ¬(1 ≤ k ∧ k ≤ min (max n 0) 60 ∧ 0 ≤ s ∧ s ≤ t ∧ t ≤ 1073741824)) :
    Calls Try.prog 3 #[.int .i64 n, .int .i64 k, .agg #[.int .i64 s, .int .i64 t]] w fun e w' => e = .returned (.bool true) ∧ Below w.heap.size w w' := by
  obtain ⟨N, hN⟩ : ∃ N, N = min (max n 0) 60 := ⟨_, rfl⟩
  rw [← hN] at may
  have MAY := Aside0.mk may
  clear may
  have hN0 : 0 ≤ N := by omega
  have hN1 : N ≤ 60 := by omega
  have HN := Aside0.mk hN
  clear hN
  go_enter Try.func3, Try.ntmps3
  go_wp2_with fail
  refine (awake_any _).mono ?_
  rintro e w1 ⟨rfl, hb1⟩
  have S1 := Aside0.mk (hbel hb1 (heap_at w (.cells #[.int .i64 s, .int .i64 t] 23) rfl))
  have B1 := Aside0.mk (chain (below_alloc (Below.refl _ w) (.cells #[.int .i64 s, .int .i64 t] 23)) hb1)
  clear hb1
  go_wp2_with fail
  refine (new_any n _).mono ?_
  rintro e w2 ⟨rfl, hb2⟩
  rw [← HN.out]
  have S2 := Aside0.mk (hup (.cells (vec N off) 29) (hbel hb2 S1.out))
  have V2 := Aside0.mk (heap_at w2 (.cells (vec N off) 29) rfl)
  have B2 := Aside0.mk (below_alloc (chain B1.out hb2) (.cells (vec N off) 29))
  clear hb2
  have c0 := cell_of_row _ _ 0 _ _ _ S2.out
  have c1 := cell_of_row _ _ 1 _ _ _ S2.out
  simp at c0 c1
  go_wp2_with (first | refine op_alloc29 ?_ | ((with_reducible refine op_store29_new (W := w2) (cs := vec N off) ?_ ?_ (vec_size _ _) (vec_size _ _) (vec_one _ _) ?_); (next => rfl); (next => rfl)) | ((with_reducible refine op_loadg (g := w2.heap.size) (t := 29) V2.out (vec_size _ _) ?_ ?_ ?_); (next => rfl); (next => rfl)))
  refine (with_any N off k s t _ hN1).mono ?_
  rintro e w3 ⟨rfl, hb3⟩
  clear c0 c1
  rw [with_not MAY.out]
  have S3 := Aside0.mk (hup (.cells (vec N off) 29) (hbel hb3 S2.out))
  have V3 := Aside0.mk (hup (.cells (vec N off) 29) (hbel hb3 V2.out))
  have U3 := Aside0.mk (heap_at w3 (.cells (vec N off) 29) rfl)
  have B3 := Aside0.mk (below_alloc (chain B2.out hb3) (.cells (vec N off) 29))
  clear hb3
  go_wp2_with (first | refine op_alloc29 ?_ | ((with_reducible refine op_store29_new (W := w3) (cs := vec N off) ?_ ?_ (vec_size _ _) (vec_size _ _) (vec_one _ _) ?_); (next => rfl); (next => rfl)) | ((with_reducible refine op_loadg (g := w3.heap.size) (t := 29) U3.out (vec_size _ _) ?_ ?_ ?_); (next => rfl); (next => rfl)))
  refine (span_none_off hN1 _).mono ?_
  rintro e w4 ⟨rfl, hb4⟩
  have S4 := Aside0.mk (hup (.cells #[.int .i64 (-1), .int .i64 (-1)] 23) (hbel hb4 S3.out))
  have V4 := Aside0.mk (hup (.cells #[.int .i64 (-1), .int .i64 (-1)] 23) (hbel hb4 V3.out))
  have U4 := Aside0.mk (hup (.cells #[.int .i64 (-1), .int .i64 (-1)] 23) (hbel hb4 U3.out))
  have X4 := Aside0.mk (heap_at w4 (.cells #[.int .i64 (-1), .int .i64 (-1)] 23) rfl)
  have B4 := Aside0.mk (below_alloc (chain B3.out hb4) (.cells #[.int .i64 (-1), .int .i64 (-1)] 23))
  clear hb4
  have x0 := cell_of_row _ _ 0 _ _ _ X4.out
  have x1 := cell_of_row _ _ 1 _ _ _ X4.out
  have c0 := cell_of_row _ _ 0 _ _ _ S4.out
  have c1 := cell_of_row _ _ 1 _ _ _ S4.out
  simp at x0 x1 c0 c1
  have may := MAY.out
  have S5 := S4
  have V5 := V4
  have U5 := U4
  have B5 := B4
  go_wp2_with (first | ((with_reducible refine op_loadg (g := w2.heap.size) (t := 29) V5.out (vec_size _ _) ?_ ?_ ?_); (next => rfl); (next => rfl)) | ((with_reducible refine op_loadg (g := w3.heap.size) (t := 29) U5.out (vec_size _ _) ?_ ?_ ?_); (next => rfl); (next => rfl)))
  all_goals
    refine (same_any _ _ _ _ bounded_off bounded_off _).mono ?_
    rintro e w6 ⟨rfl, hb6⟩
    rw [sameB_refl]
    have B6 := Aside0.mk (chain B5.out hb6)
    have V6 := Aside0.mk (hbel hb6 V5.out)
    clear hb6
    go_wp2_with (first | ((with_reducible refine op_loadg (g := w2.heap.size) (t := 29) V6.out (vec_size _ _) ?_ ?_ ?_); (next => rfl); (next => rfl)))
    refine (groups_any _ _ _).mono ?_
    rintro e w7 ⟨rfl, hb7⟩
    have B7 := Aside0.mk (chain B6.out hb7)
    have V7 := Aside0.mk (hbel hb7 V6.out)
    clear hb7
    go_wp2_with (first | ((with_reducible refine op_loadg (g := w2.heap.size) (t := 29) V7.out (vec_size _ _) ?_ ?_ ?_); (next => rfl); (next => rfl)))
    refine (groups_any _ _ _).mono ?_
    rintro e w8 ⟨rfl, hb8⟩
    have B8 := Aside0.mk (chain B7.out hb8)
    clear hb8
    go_wp2_with fail
    go_ret
    exact ⟨by simp <;> omega, B8.out⟩

theorem bounds_any (n k s t : Int) (w : World) :
    Calls Try.prog 3 #[.int .i64 n, .int .i64 k, .agg #[.int .i64 s, .int .i64 t]] w fun e w' => e = .returned (.bool true) ∧ Below w.heap.size w w' := by
  by_cases may : 1 ≤ k ∧ k ≤ min (max n 0) 60 ∧ 0 ≤ s ∧ s ≤ t ∧ t ≤ 1073741824
  · exact bounds_yes n k s t w may
  · by_cases h : 1 ≤ k
    · exact bounds_no1 n k s t w h may
    · exact bounds_no0 n k s t w (by omega) may
end Go.Proofs.Ythjakmdflpkjkaa
