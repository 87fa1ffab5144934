import Derived.Test.YthjakmdflpkjkaaT3
namespace Go.Proofs.Ythjakmdflpkjkaa
open Go.RowKit

theorem set_vec0 (n : Int) (g : Spans) (k : Nat) : (vec n g).setIfInBounds (1 + k) (Value.complex .f64 0 0) = vec n (upd g k none) := by
  rw [← vec_set]; rfl

set_option maxRecDepth 100000 in
set_option maxHeartbeats 400000 in
theorem without_yes (n : Int) (g : Spans) (k : Int) (w : World) (hn : n ≤ 60) (h1 : 1 ≤ k) (h2 : k ≤ n) :
    Calls Try.prog 16 #[.agg (vec n g), .int .i64 k] w fun e w' => e = .returned (.agg (vec n (upd g k.toNat none))) ∧ Below w.heap.size w w' := by
  go_enter Try.func16, Try.ntmps16
  go_wp2_with (first | refine op_alloc29 ?_ | (refine op_load29 (g := w.heap.size) (cs := vec n g) (t := 29) rfl (by repeat (first | exact heap_at _ _ (by simp) | refine heap_up _ _ (by simp; omega) ?_ | refine heap_up _ _ (by simp) ?_)) (vec_size _ _) ?_) | fail)
  refine (known_any _ _ _ _).mono ?_
  rintro e w1 ⟨rfl, hb1⟩
  have hv : w1.heap[w.heap.size]? = some (.cells (vec n g) 29 (0, 0)) := heap_below hb1 (by repeat (first | exact heap_at _ _ (by simp) | refine heap_up _ _ (by simp; omega) ?_ | refine heap_up _ _ (by simp) ?_)) (by simp; omega)
  have hr : w1.heap[w.heap.size + 1]? = some (.cells (vec 0 off) 29 (0, 0)) := heap_below hb1 (by repeat (first | exact heap_at _ _ (by simp) | refine heap_up _ _ (by simp; omega) ?_ | refine heap_up _ _ (by simp) ?_)) (by simp)
  have hB : Below w.heap.size w w1 := (((Below.refl _ _).alloc (Nat.le_refl _) _).alloc (by simp) _).trans (hb1.mono (by simp; omega))
  have cv := (cell_of_row w1 (w.heap.size) (1 + k.toNat) _ _ _ hv).trans (vec_at n g k.toNat (by omega))
  have fv := frozen_of_row w1 (w.heap.size) (1 + k.toNat) _ _ hv
  have hset := heap_setCell_same w1 w.heap.size (1 + k.toNat) _ _ (Value.complex .f64 0 0) hv
  rw [set_vec0 n g k.toNat] at hset
  have hset2 := (heap_setCell_other w1 ⟨w.heap.size, 1 + k.toNat, none⟩ (w.heap.size + 1) (Value.complex .f64 0 0) (show w.heap.size + 1 ≠ w.heap.size by omega)).trans hr
  have hB2 := hB.setCell (p := ⟨w.heap.size, 1 + k.toNat, none⟩) (Nat.le_refl _) (Value.complex .f64 0 0)
  have HS := Lib.hid hset
  have HS2 := Lib.hid hset2
  have HB := Lib.hid hB2
  clear hB hB2 hb1 hv hr hset hset2
  go_wp2_with (first | ((with_reducible refine op_load29 (g := w.heap.size) (t := 29) ?_ HS.out (vec_size _ _) ?_); (next => rfl)) | ((with_reducible refine op_store29 (g := w.heap.size + 1) (cs := vec n (upd g k.toNat none)) ?_ ?_ HS2.out (vec_size _ _) (vec_size _ _) (vec_one _ _) ?_); (next => rfl); (next => rfl)))
  refine bodyPost_ret (v := .agg (vec n (upd g k.toNat none))) ?_ rfl ⟨rfl, ?_⟩
  · exact result29 rfl rfl _ _ _ _ rfl (setRow_heap _ _ _ _ _ _ HS2.out) (vec_size _ _)
  · exact below_setRow HB.out (by omega) _

set_option maxRecDepth 100000 in
set_option maxHeartbeats 400000 in
theorem without_no (n : Int) (g : Spans) (k : Int) (w : World) (h : ¬(1 ≤ k ∧ k ≤ n)) :
    Calls Try.prog 16 #[.agg (vec n g), .int .i64 k] w fun e w' => e = .returned (.agg (vec n g)) ∧ Below w.heap.size w w' := by
  go_enter Try.func16, Try.ntmps16
  go_wp2_with (first | refine op_alloc29 ?_ | (refine op_load29 (g := w.heap.size) (cs := vec n g) (t := 29) rfl (by repeat (first | exact heap_at _ _ (by simp) | refine heap_up _ _ (by simp; omega) ?_ | refine heap_up _ _ (by simp) ?_)) (vec_size _ _) ?_) | fail)
  refine (known_any _ _ _ _).mono ?_
  rintro e w1 ⟨rfl, hb1⟩
  have hv : w1.heap[w.heap.size]? = some (.cells (vec n g) 29 (0, 0)) := heap_below hb1 (by repeat (first | exact heap_at _ _ (by simp) | refine heap_up _ _ (by simp; omega) ?_ | refine heap_up _ _ (by simp) ?_)) (by simp; omega)
  have hr : w1.heap[w.heap.size + 1]? = some (.cells (vec 0 off) 29 (0, 0)) := heap_below hb1 (by repeat (first | exact heap_at _ _ (by simp) | refine heap_up _ _ (by simp; omega) ?_ | refine heap_up _ _ (by simp) ?_)) (by simp)
  have hB : Below w.heap.size w w1 := (((Below.refl _ _).alloc (Nat.le_refl _) _).alloc (by simp) _).trans (hb1.mono (by simp; omega))
  have HV := Lib.hid hv
  have HR := Lib.hid hr
  have HB := Lib.hid hB
  clear hB hb1 hv hr
  go_wp2_with (first | ((with_reducible refine op_load29 (g := w.heap.size) (cs := vec n g) (t := 29) ?_ HV.out (vec_size _ _) ?_); (next => rfl)) | ((with_reducible refine op_store29 (g := w.heap.size + 1) (cs := vec n g) ?_ ?_ HR.out (vec_size _ _) (vec_size _ _) (vec_one _ _) ?_); (next => rfl); (next => rfl)))
  refine bodyPost_ret (v := .agg (vec n g)) ?_ rfl ⟨rfl, ?_⟩
  · exact result29 rfl rfl _ _ _ _ rfl (setRow_heap _ _ _ _ _ _ HR.out) (vec_size _ _)
  · exact below_setRow HB.out (by omega) _

/-! Span -/
def spanV : Option (Nat × Nat) → Value
  | none => .tuple #[.agg #[.int .i64 (-1), .int .i64 (-1)], .bool false]
  | some (a, b) => .tuple #[.agg #[.int .i64 a, .int .i64 b], .bool true]

theorem eq_zero_cell (w : World) (a b : Nat) (t : TypeId) (ha : a ≤ 1073741824) :
    (binOp .eql t (.complex .f64 (enc (a + 1)) (enc b)) (.complex .f64 0 0)).run Try.prog w = .ok (.bool false) w := by
  rw [run_eql_complex]
  have h := order_enc (a + 1) 0 (by omega) (by omega)
  rw [enc_zero] at h
  rw [h]; rfl
theorem eq_zero_none (w : World) (t : TypeId) : (binOp .eql t (.complex .f64 0 0) (.complex .f64 0 0)).run Try.prog w = .ok (.bool true) w := by
  rw [run_eql_complex]
  have h := order_enc 0 0 (by omega) (by omega)
  rw [enc_zero] at h
  rw [h]; rfl

theorem conv_enc (w : World) (m : Nat) (hm : m ≤ 1073741825) : (convert 56 3 (.float .f64 (enc m))).run Try.prog w = .ok (.int .i64 m) w := by
  refine run_convert_float_int w 56 3 .f64 .i64 (enc m) m (by rw [Try.underlying56]; rfl) Try.underlying3 ?_
  unfold floatToIntVal
  rw [toInt_enc m (by omega)]
  simp only
  rw [if_pos ⟨by simp only [IntKind.min, IntKind.bits]; omega, by simp only [IntKind.max, IntKind.bits]; omega⟩]

set_option maxRecDepth 100000 in
set_option maxHeartbeats 400000 in
theorem span_some (n : Int) (g : Spans) (k : Int) (w : World) (hn : n ≤ 60) (h1 : 1 ≤ k) (h2 : k ≤ n) (a b : Nat) (hg : g k.toNat = some (a, b)) (ha : a ≤ 1073741824) (hb : b ≤ 1073741824) :
    Calls Try.prog 11 #[.agg (vec n g), .int .i64 k] w fun e w' => e = .returned (.tuple #[.agg #[.int .i64 a, .int .i64 b], .bool true]) ∧ Below w.heap.size w w' := by
  go_enter Try.func11, Try.ntmps11
  go_wp2_with (first | (refine op_load29 (g := w.heap.size) (cs := vec n g) (t := 29) rfl (by repeat (first | exact heap_at _ _ (by simp) | refine heap_up _ _ (by simp; omega) ?_ | refine heap_up _ _ (by simp) ?_)) (vec_size _ _) ?_) | fail)
  refine (known_any _ _ _ _).mono ?_
  rintro e w1 ⟨rfl, hb1⟩
  have hv : w1.heap[w.heap.size]? = some (.cells (vec n g) 29 (0, 0)) := heap_below hb1 (by repeat (first | exact heap_at _ _ (by simp) | refine heap_up _ _ (by simp; omega) ?_ | refine heap_up _ _ (by simp) ?_)) (by simp; omega)
  have hr : w1.heap[w.heap.size + 1]? = some (.cells #[.int .i64 0, .int .i64 0] 23 (0, 0)) := heap_below hb1 (by repeat (first | exact heap_at _ _ (by simp) | refine heap_up _ _ (by simp; omega) ?_ | refine heap_up _ _ (by simp) ?_)) (by simp)
  have hB : Below w.heap.size w w1 := (((Below.refl _ _).alloc (Nat.le_refl _) _).alloc (by simp) _).trans (hb1.mono (by simp; omega))
  have cv := (cell_of_row w1 (w.heap.size) (1 + k.toNat) _ _ _ hv).trans (vec_at n g k.toNat (by omega))
  rw [hg] at cv
  have c0 := cell_of_row w1 (w.heap.size + 1) 0 _ _ _ hr
  have c1 := cell_of_row w1 (w.heap.size + 1) 1 _ _ _ hr
  have f0 := frozen_of_row w1 (w.heap.size + 1) 0 _ _ hr
  have f1 := frozen_of_row w1 (w.heap.size + 1) 1 _ _ hr
  simp at c0 c1
  simp only [cell1] at cv
  have hcb := fun w => conv_enc w b (by omega)
  have hca := fun w => conv_enc w (a + 1) (by omega)
  have hz := fun w => eq_zero_cell w a b 25 ha
  have HB := Lib.hid hB
  clear hB hb1 hv hr hg
  go_wp2_with fail
  refine bodyPost_ret (v := .tuple #[.agg #[.int .i64 a, .int .i64 b], .bool true]) (by simp [results, Try.results11, go_sem, c0, c1]) rfl ⟨rfl, ?_⟩
  exact (HB.out.setCell (by simp) _).setCell (by simp) _

set_option maxRecDepth 100000 in
set_option maxHeartbeats 400000 in
theorem span_none (n : Int) (g : Spans) (k : Int) (w : World) (hn : n ≤ 60) (h1 : 1 ≤ k) (h2 : k ≤ n) (hg : g k.toNat = none) :
    Calls Try.prog 11 #[.agg (vec n g), .int .i64 k] w fun e w' => e = .returned (.tuple #[.agg #[.int .i64 (-1), .int .i64 (-1)], .bool false]) ∧ Below w.heap.size w w' := by
  go_enter Try.func11, Try.ntmps11
  go_wp2_with (first | (refine op_load29 (g := w.heap.size) (cs := vec n g) (t := 29) rfl (by repeat (first | exact heap_at _ _ (by simp) | refine heap_up _ _ (by simp; omega) ?_ | refine heap_up _ _ (by simp) ?_)) (vec_size _ _) ?_) | fail)
  refine (known_any _ _ _ _).mono ?_
  rintro e w1 ⟨rfl, hb1⟩
  have hv : w1.heap[w.heap.size]? = some (.cells (vec n g) 29 (0, 0)) := heap_below hb1 (by repeat (first | exact heap_at _ _ (by simp) | refine heap_up _ _ (by simp; omega) ?_ | refine heap_up _ _ (by simp) ?_)) (by simp; omega)
  have hr : w1.heap[w.heap.size + 1]? = some (.cells #[.int .i64 0, .int .i64 0] 23 (0, 0)) := heap_below hb1 (by repeat (first | exact heap_at _ _ (by simp) | refine heap_up _ _ (by simp; omega) ?_ | refine heap_up _ _ (by simp) ?_)) (by simp)
  have hB : Below w.heap.size w w1 := (((Below.refl _ _).alloc (Nat.le_refl _) _).alloc (by simp) _).trans (hb1.mono (by simp; omega))
  have cv := (cell_of_row w1 (w.heap.size) (1 + k.toNat) _ _ _ hv).trans (vec_at n g k.toNat (by omega))
  rw [hg] at cv
  have c0 := cell_of_row w1 (w.heap.size + 1) 0 _ _ _ hr
  have c1 := cell_of_row w1 (w.heap.size + 1) 1 _ _ _ hr
  have f0 := frozen_of_row w1 (w.heap.size + 1) 0 _ _ hr
  have f1 := frozen_of_row w1 (w.heap.size + 1) 1 _ _ hr
  simp at c0 c1
  simp only [cell1] at cv
  have hz := fun w => eq_zero_none w 25
  have HB := Lib.hid hB
  clear hB hb1 hv hr hg
  go_wp2_with fail
  refine bodyPost_ret (v := .tuple #[.agg #[.int .i64 (-1), .int .i64 (-1)], .bool false]) (by simp [results, Try.results11, go_sem, c0, c1]) rfl ⟨rfl, ?_⟩
  exact (HB.out.setCell (by simp) _).setCell (by simp) _

set_option maxRecDepth 100000 in
set_option maxHeartbeats 400000 in
theorem span_no (n : Int) (g : Spans) (k : Int) (w : World) (h : ¬(1 ≤ k ∧ k ≤ n)) :
    Calls Try.prog 11 #[.agg (vec n g), .int .i64 k] w fun e w' => e = .returned (.tuple #[.agg #[.int .i64 (-1), .int .i64 (-1)], .bool false]) ∧ Below w.heap.size w w' := by
  go_enter Try.func11, Try.ntmps11
  go_wp2_with (first | (refine op_load29 (g := w.heap.size) (cs := vec n g) (t := 29) rfl (by repeat (first | exact heap_at _ _ (by simp) | refine heap_up _ _ (by simp; omega) ?_ | refine heap_up _ _ (by simp) ?_)) (vec_size _ _) ?_) | fail)
  refine (known_any _ _ _ _).mono ?_
  rintro e w1 ⟨rfl, hb1⟩
  have hv : w1.heap[w.heap.size]? = some (.cells (vec n g) 29 (0, 0)) := heap_below hb1 (by repeat (first | exact heap_at _ _ (by simp) | refine heap_up _ _ (by simp; omega) ?_ | refine heap_up _ _ (by simp) ?_)) (by simp; omega)
  have hr : w1.heap[w.heap.size + 1]? = some (.cells #[.int .i64 0, .int .i64 0] 23 (0, 0)) := heap_below hb1 (by repeat (first | exact heap_at _ _ (by simp) | refine heap_up _ _ (by simp; omega) ?_ | refine heap_up _ _ (by simp) ?_)) (by simp)
  have hB : Below w.heap.size w w1 := (((Below.refl _ _).alloc (Nat.le_refl _) _).alloc (by simp) _).trans (hb1.mono (by simp; omega))
  have c0 := cell_of_row w1 (w.heap.size + 1) 0 _ _ _ hr
  have c1 := cell_of_row w1 (w.heap.size + 1) 1 _ _ _ hr
  have f0 := frozen_of_row w1 (w.heap.size + 1) 0 _ _ hr
  have f1 := frozen_of_row w1 (w.heap.size + 1) 1 _ _ hr
  simp at c0 c1
  have HB := Lib.hid hB
  clear hB hb1 hv hr
  go_wp2_with fail
  refine bodyPost_ret (v := .tuple #[.agg #[.int .i64 (-1), .int .i64 (-1)], .bool false]) (by simp [results, Try.results11, go_sem, c0, c1]) rfl ⟨rfl, ?_⟩
  exact (HB.out.setCell (by simp) _).setCell (by simp) _

end Go.Proofs.Ythjakmdflpkjkaa
