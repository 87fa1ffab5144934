import Derived.Test.YthjakmdflpkjkaaT2
import Derived.Deep.DeepCutAuto
import Derived.Deep.CutBlock
namespace Go.Proofs.Ythjakmdflpkjkaa
open Go.RowKit

theorem set_vec (n : Int) (g : Spans) (k : Nat) (s t : Int) (hs : 0 ≤ s) (ht : 0 ≤ t) :
    (vec n g).setIfInBounds (1 + k) (Value.complex .f64 (floatOfInt .f64 (s + 1)) (floatOfInt .f64 t)) = vec n (upd g k (some (s.toNat, t.toNat))) := by
  rw [← vec_set]
  have e1 : enc (s.toNat + 1) = floatOfInt .f64 (s + 1) := by unfold enc; rw [show ((s.toNat + 1 : Nat) : Int) = s + 1 by omega]; rfl
  have e2 : enc t.toNat = floatOfInt .f64 t := by unfold enc; rw [show ((t.toNat : Nat) : Int) = t by omega]; rfl
  simp only [cell1, e1, e2]

theorem below_setRow {w w1 : World} {B g : Nat} (h : Below B w w1) (hg : B ≤ g) (cs : Array Value) : Below B w (w1.setRow g cs) :=
  ⟨h.os, h.tape, h.output, by simp; exact h.size, fun k hk => (setRow_other w1 g k cs (by omega)).trans (h.block k hk)⟩

set_option maxRecDepth 100000 in
set_option maxHeartbeats 400000 in
theorem with_yes (n : Int) (g : Spans) (k s t : Int) (w : World) (hn : n ≤ 60) (h1 : 1 ≤ k) (h2 : k ≤ n) (h3 : 0 ≤ s) (h4 : s ≤ t) (h5 : t ≤ 1073741824) :
    Calls Try.prog 10 #[.agg (vec n g), .int .i64 k, .agg #[.int .i64 s, .int .i64 t]] w fun e w' => e = .returned (.agg (vec n (upd g k.toNat (some (s.toNat, t.toNat))))) ∧ Below w.heap.size w w' := by
  go_enter Try.func10, Try.ntmps10
  go_wp2_with (first | refine op_alloc29 ?_ | (refine op_load29 (g := w.heap.size) (cs := vec n g) (t := 29) rfl (by repeat (first | exact heap_at _ _ (by simp) | refine heap_up _ _ (by simp; omega) ?_ | refine heap_up _ _ (by simp) ?_)) (vec_size _ _) ?_) | fail)
  refine (known_any _ _ _ _).mono ?_
  rintro e w1 ⟨rfl, hb1⟩
  have hv : w1.heap[w.heap.size]? = some (.cells (vec n g) 29 (0, 0)) := heap_below hb1 (by repeat (first | exact heap_at _ _ (by simp) | refine heap_up _ _ (by simp; omega) ?_ | refine heap_up _ _ (by simp) ?_)) (by simp; omega)
  have hs : w1.heap[w.heap.size + 1]? = some (.cells #[.int .i64 s, .int .i64 t] 23 (0, 0)) := heap_below hb1 (by repeat (first | exact heap_at _ _ (by simp) | refine heap_up _ _ (by simp; omega) ?_ | refine heap_up _ _ (by simp) ?_)) (by simp)
  have hr : w1.heap[w.heap.size + 1 + 1]? = some (.cells (vec 0 off) 29 (0, 0)) := heap_below hb1 (by repeat (first | exact heap_at _ _ (by simp) | refine heap_up _ _ (by simp; omega) ?_ | refine heap_up _ _ (by simp) ?_)) (by simp)
  have hz : w.heap.size + 2 < w1.heap.size := by have := hb1.size; simp at this; omega
  have hB : Below w.heap.size w w1 := ((((Below.refl _ _).alloc (Nat.le_refl _) _).alloc (by simp) _).alloc (by simp; omega) _).trans (hb1.mono (by simp; omega))
  have c0 := cell_of_row w1 (w.heap.size + 1) 0 _ _ _ hs
  have c1 := cell_of_row w1 (w.heap.size + 1) 1 _ _ _ hs
  have cv := (cell_of_row w1 (w.heap.size) (1 + k.toNat) _ _ _ hv).trans (vec_at n g k.toNat (by omega))
  have fv := frozen_of_row w1 (w.heap.size) (1 + k.toNat) _ _ hv
  simp at c0 c1
  have hset := heap_setCell_same w1 w.heap.size (1 + k.toNat) _ _ (Value.complex .f64 (floatOfInt .f64 (s + 1)) (floatOfInt .f64 t)) hv
  rw [set_vec n g k.toNat s t h3 (by omega)] at hset
  have hset2 := (heap_setCell_other w1 ⟨w.heap.size, 1 + k.toNat, none⟩ (w.heap.size + 1 + 1) (Value.complex .f64 (floatOfInt .f64 (s + 1)) (floatOfInt .f64 t)) (show w.heap.size + 1 + 1 ≠ w.heap.size by omega)).trans hr
  have hB2 := hB.setCell (p := ⟨w.heap.size, 1 + k.toNat, none⟩) (Nat.le_refl _) (Value.complex .f64 (floatOfInt .f64 (s + 1)) (floatOfInt .f64 t))
  have HS := Lib.hid hset
  have HS2 := Lib.hid hset2
  have HB := Lib.hid hB2
  clear hB hB2 hb1 hv hs hr hset hset2
  go_wp2_with (first | ((with_reducible refine op_load29 (g := w.heap.size) (t := 29) ?_ HS.out (vec_size _ _) ?_); (next => rfl)) | ((with_reducible refine op_store29 (g := w.heap.size + 1 + 1) (cs := vec n (upd g k.toNat (some (s.toNat, t.toNat)))) ?_ ?_ HS2.out (vec_size _ _) (vec_size _ _) (vec_one _ _) ?_); (next => rfl); (next => rfl)))
  refine bodyPost_ret (v := .agg (vec n (upd g k.toNat (some (s.toNat, t.toNat))))) ?_ rfl ⟨rfl, ?_⟩
  · exact result29 rfl rfl _ _ _ _ rfl (setRow_heap _ _ _ _ _ _ HS2.out) (vec_size _ _)
  · exact below_setRow HB.out (by omega) _

set_option maxRecDepth 100000 in
set_option maxHeartbeats 400000 in
theorem with_no (n : Int) (g : Spans) (k s t : Int) (w : World) (h : ¬(1 ≤ k ∧ k ≤ n ∧ 0 ≤ s ∧ s ≤ t ∧ t ≤ 1073741824)) :
    Calls Try.prog 10 #[.agg (vec n g), .int .i64 k, .agg #[.int .i64 s, .int .i64 t]] w fun e w' => e = .returned (.agg (vec n g)) ∧ Below w.heap.size w w' := by
  go_enter Try.func10, Try.ntmps10
  go_wp2_with (first | refine op_alloc29 ?_ | (refine op_load29 (g := w.heap.size) (cs := vec n g) (t := 29) rfl (by repeat (first | exact heap_at _ _ (by simp) | refine heap_up _ _ (by simp; omega) ?_ | refine heap_up _ _ (by simp) ?_)) (vec_size _ _) ?_) | fail)
  refine (known_any _ _ _ _).mono ?_
  rintro e w1 ⟨rfl, hb1⟩
  have hv : w1.heap[w.heap.size]? = some (.cells (vec n g) 29 (0, 0)) := heap_below hb1 (by repeat (first | exact heap_at _ _ (by simp) | refine heap_up _ _ (by simp; omega) ?_ | refine heap_up _ _ (by simp) ?_)) (by simp; omega)
  have hs : w1.heap[w.heap.size + 1]? = some (.cells #[.int .i64 s, .int .i64 t] 23 (0, 0)) := heap_below hb1 (by repeat (first | exact heap_at _ _ (by simp) | refine heap_up _ _ (by simp; omega) ?_ | refine heap_up _ _ (by simp) ?_)) (by simp)
  have hr : w1.heap[w.heap.size + 1 + 1]? = some (.cells (vec 0 off) 29 (0, 0)) := heap_below hb1 (by repeat (first | exact heap_at _ _ (by simp) | refine heap_up _ _ (by simp; omega) ?_ | refine heap_up _ _ (by simp) ?_)) (by simp)
  have hB : Below w.heap.size w w1 := ((((Below.refl _ _).alloc (Nat.le_refl _) _).alloc (by simp) _).alloc (by simp; omega) _).trans (hb1.mono (by simp; omega))
  have c0 := cell_of_row w1 (w.heap.size + 1) 0 _ _ _ hs
  have c1 := cell_of_row w1 (w.heap.size + 1) 1 _ _ _ hs
  simp at c0 c1
  have HV := Lib.hid hv
  have HR := Lib.hid hr
  have HB := Lib.hid hB
  clear hB hb1 hv hs hr
  go_wp2_with (first | ((with_reducible refine op_load29 (g := w.heap.size) (cs := vec n g) (t := 29) ?_ HV.out (vec_size _ _) ?_); (next => rfl)) | ((with_reducible refine op_store29 (g := w.heap.size + 1 + 1) (cs := vec n g) ?_ ?_ HR.out (vec_size _ _) (vec_size _ _) (vec_one _ _) ?_); (next => rfl); (next => rfl)))
  all_goals (refine bodyPost_ret (v := .agg (vec n g)) ?_ rfl ⟨rfl, ?_⟩; exact result29 rfl rfl _ _ _ _ rfl (setRow_heap _ _ _ _ _ _ HR.out) (vec_size _ _); exact below_setRow HB.out (by omega) _)
end Go.Proofs.Ythjakmdflpkjkaa
