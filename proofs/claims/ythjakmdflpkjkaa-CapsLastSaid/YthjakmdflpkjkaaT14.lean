/- The walk of CapsLast, printed by wip/caps/mk14.py. -/
import Derived.Test.YthjakmdflpkjkaaT12
import Derived.Test.YthjakmdflpkjkaaPure3
import Derived.Deep.DeepCutAuto
namespace Go.Proofs.Ythjakmdflpkjkaa
open Go.RowKit Go.Proofs.YthjakmdflpkjkaaW.PrintWords Go.Proofs.YthjakmdflpkjkaaW.PrintLast PCapsSame

/-- What the eight known boxes are worth: S, and the world that they stand in. -/
structure F0 (w wx : World) (L : List (Nat × Obj)) : Prop where
  box : Boxes wx L
  lt : ∀ x ∈ L, x.1 < wx.heap.size
  below : Below w.heap.size w wx
/-- The same with a fresh box. -/
structure F1 (w wx : World) (L : List (Nat × Obj)) (b : Nat) : Prop where
  box : Boxes wx ((b, .cells (vec 0 off) 29 (0, 0)) :: L)
  lt : ∀ x ∈ L, x.1 < b
  le : w.heap.size ≤ b
  below : Below w.heap.size w wx
theorem F0.call {w wx wy : World} {L : List (Nat × Obj)} (h : F0 w wx L) (hb : Below wx.heap.size wx wy) : F0 w wy L := ⟨Boxes.bel hb h.box, fun x hx => Nat.lt_of_lt_of_le (h.lt x hx) hb.size, chain h.below hb⟩
theorem F0.alloc {w wx : World} {L : List (Nat × Obj)} (h : F0 w wx L) : F1 w (wx.alloc (.cells (vec 0 off) 29)) L wx.heap.size := ⟨Boxes.push _ h.box, h.lt, h.below.size, below_alloc h.below _⟩
theorem F1.call {w wx wy : World} {L : List (Nat × Obj)} {b : Nat} (h : F1 w wx L b) (hb : Below wx.heap.size wx wy) : F1 w wy L b := ⟨Boxes.bel hb h.box, h.lt, h.le, chain h.below hb⟩
theorem run_alloc29 {ρ : Operand → Value} {dst : Option Tmp} {ty : TypeId} {pos : String} {after : Array Edge} {gd : Option (Nat × Bool)} (w : World) : (execOp ρ ⟨dst, .alloc 29, ty, pos, after, gd⟩).run Try.prog w = .ok (.value (.pointer (some ⟨w.heap.size, 0, none⟩))) (w.alloc (.cells (vec 0 off) 29)) := by
  simp only [execOp, Instr.alloc, Sem.run_bind, zero29, Result.andThen_ok]
  rfl

set_option maxRecDepth 100000 in
set_option maxHeartbeats 12800000 in
theorem last_law (n : Int) (A : Option Addr) (lenA capA : Nat) (l : List S44) (j k s t p q : Int) (w : World) (hA : Kd.C k44 w A lenA l) :
    Calls Try.prog 7 #[.int .i64 n, .slice A lenA capA, .int .i64 j, .int .i64 k, .agg #[.int .i64 s, .int .i64 t], .agg #[.int .i64 p, .int .i64 q]] w fun e w' => e = .returned (.bool true) ∧ Below w.heap.size w w' := by
  obtain ⟨N, hN⟩ : ∃ N, N = min (max n 0) 60 := ⟨_, rfl⟩
  have hN0 : 0 ≤ N := by omega
  have hN1 : N ≤ 60 := by omega
  have HA := Aside0.mk hA
  have HN := Aside0.mk hN
  clear hA hN
  have H0 : Aside0 (Boxes ((w.alloc (.cells #[.int .i64 s, .int .i64 t] 23)).alloc (.cells #[.int .i64 p, .int .i64 q] 23)) [(w.heap.size + 1, .cells #[.int .i64 p, .int .i64 q] 23 (0, 0)), (w.heap.size, .cells #[.int .i64 s, .int .i64 t] 23 (0, 0))]) := ⟨⟨fun x hx => by
    simp only [List.mem_cons, List.not_mem_nil, or_false] at hx
    rcases hx with rfl | rfl
    · exact heap_at _ _ (by simp)
    · exact hup _ (heap_at w _ rfl)⟩⟩
  have B0 := Aside0.mk (below_alloc (below_alloc (Below.refl _ w) (.cells #[.int .i64 s, .int .i64 t] 23)) (.cells #[.int .i64 p, .int .i64 q] 23))
  go_enter Try.func7, Try.ntmps7
  go_wp2_with fail
  refine (awake_any _).mono ?_
  rintro e w1 ⟨rfl, hb1⟩
  have H1 := Aside0.mk (Boxes.bel hb1 H0.out)
  have B1 := Aside0.mk (chain B0.out hb1)
  clear hb1
  go_wp2_with fail
  refine (played_loop n A lenA capA l _ (Kd.C_below HA.out B1.out) HA.out.1).mono ?_
  rintro e w2 ⟨u, rfl, hR2, hb2⟩
  rw [← HN.out] at hR2 ⊢
  have hG1 := bounded_run N l (min lenA 100)
  have hO1 := off_run N l (min lenA 100)
  generalize hG : runG N l (min lenA 100) = g at *
  have G1 := Aside0.mk hG1
  have O1 := Aside0.mk hO1
  obtain ⟨A2, n2, c2, rfl⟩ : ∃ A' n' c', u = .slice A' n' c' := by obtain ⟨A', c', e⟩ := Kd.R_slice hR2; exact ⟨A', _, c', e⟩
  have H2 := Aside0.mk (Boxes.up (.cells #[.int .i64 N, .slice A2 n2 c2] 40) (Boxes.push (.cells (vec N g) 29) (Boxes.bel hb2 H1.out)))
  have B2 := Aside0.mk (below_alloc (below_alloc (chain B1.out hb2) (.cells (vec N g) 29)) (.cells #[.int .i64 N, .slice A2 n2 c2] 40))
  clear hR2 hb2 hG hG1 hO1
  go_wp2_with (first | refine op_alloc29 ?_ | ((with_reducible refine op_st29_up (w := w2) (cs := vec N g) (vec_size _ _) (vec_size _ _) (vec_one _ _) ?_ ?_ ?_); (next => rfl); (next => rfl)) | ((with_reducible refine op_loadg (g := w2.heap.size) (t := 29) (H2.out.out (w2.heap.size, .cells (vec N g) 29 (0, 0)) (by simp)) (vec_size _ _) ?_ ?_ ?_); (next => rfl); (next => rfl)) | ((with_reducible refine op_ld (T := 23) (g := w.heap.size + 1) Try.underlying23 size23 (H2.out.out (w.heap.size + 1, .cells #[.int .i64 p, .int .i64 q] 23 (0, 0)) (by simp)) (sz2 _ _) ?_ ?_ ?_); (next => rfl); (next => rfl)) | ((with_reducible refine op_ld (T := 23) (g := w.heap.size) Try.underlying23 size23 (H2.out.out (w.heap.size, .cells #[.int .i64 s, .int .i64 t] 23 (0, 0)) (by simp)) (sz2 _ _) ?_ ?_ ?_); (next => rfl); (next => rfl)))
  refine (with_any N g j s t _ hN1).mono ?_
  rintro e w3 ⟨rfl, hb3⟩
  have X3 := Aside0.mk (Boxes.lt (Boxes.bel hb3 H2.out))
  have H3 := Aside0.mk (Boxes.push (.cells (vec N (withS N g j s t)) 29) (Boxes.bel hb3 H2.out))
  have B3 := Aside0.mk (below_alloc (chain B2.out hb3) (.cells (vec N (withS N g j s t)) 29))
  have Z3 : w.heap.size ≤ w3.heap.size := (chain B2.out hb3).size
  clear hb3
  go_wp2_with (first | refine op_alloc29 ?_ | ((with_reducible refine op_store29_new (W := w3) (cs := vec N (withS N g j s t)) ?_ ?_ (vec_size _ _) (vec_size _ _) (vec_one _ _) ?_); (next => rfl); (next => rfl)) | ((with_reducible refine op_loadg (g := w3.heap.size) (t := 29) (H3.out.out (w3.heap.size, .cells (vec N (withS N g j s t)) 29 (0, 0)) (by simp)) (vec_size _ _) ?_ ?_ ?_); (next => rfl); (next => rfl)) | ((with_reducible refine op_loadg (g := w2.heap.size) (t := 29) (H3.out.out (w2.heap.size, .cells (vec N g) 29 (0, 0)) (by simp)) (vec_size _ _) ?_ ?_ ?_); (next => rfl); (next => rfl)) | ((with_reducible refine op_ld (T := 23) (g := w.heap.size + 1) Try.underlying23 size23 (H3.out.out (w.heap.size + 1, .cells #[.int .i64 p, .int .i64 q] 23 (0, 0)) (by simp)) (sz2 _ _) ?_ ?_ ?_); (next => rfl); (next => rfl)) | ((with_reducible refine op_ld (T := 23) (g := w.heap.size) Try.underlying23 size23 (H3.out.out (w.heap.size, .cells #[.int .i64 s, .int .i64 t] 23 (0, 0)) (by simp)) (sz2 _ _) ?_ ?_ ?_); (next => rfl); (next => rfl)))
  refine (with_any N (withS N g j s t) k p q _ hN1).mono ?_
  rintro e w4 ⟨rfl, hb4⟩
  have K4 := Aside0.mk (hbel hb4 (H3.out.out (w3.heap.size, .cells (vec N (withS N g j s t)) 29 (0, 0)) (by simp)))
  have H4 := Aside0.mk (Boxes.set (vec N (withS N (withS N g j s t) k p q)) (Boxes.bel hb4 H3.out) X3.out)
  have B4 := Aside0.mk (below_setRow (g := w3.heap.size) (chain B3.out hb4) Z3 (vec N (withS N (withS N g j s t) k p q)))
  clear hb4
  go_wp2_with (first | ((with_reducible refine op_st (T := 29) (g := w3.heap.size) (cs := vec N (withS N (withS N g j s t) k p q)) size29 K4.out (vec_size _ _) (vec_size _ _) (vec_one _ _) ?_ ?_ ?_ ?_); (next => rfl); (next => rfl); (next => rfl)) | ((with_reducible refine op_loadg (g := w3.heap.size) (t := 29) (H4.out.out (w3.heap.size, .cells (vec N (withS N (withS N g j s t) k p q)) 29 (0, 0)) (by simp)) (vec_size _ _) ?_ ?_ ?_); (next => rfl); (next => rfl)) | ((with_reducible refine op_loadg (g := w2.heap.size) (t := 29) (H4.out.out (w2.heap.size, .cells (vec N g) 29 (0, 0)) (by simp)) (vec_size _ _) ?_ ?_ ?_); (next => rfl); (next => rfl)) | ((with_reducible refine op_ld (T := 23) (g := w.heap.size + 1) Try.underlying23 size23 (H4.out.out (w.heap.size + 1, .cells #[.int .i64 p, .int .i64 q] 23 (0, 0)) (by simp)) (sz2 _ _) ?_ ?_ ?_); (next => rfl); (next => rfl)) | ((with_reducible refine op_ld (T := 23) (g := w.heap.size) Try.underlying23 size23 (H4.out.out (w.heap.size, .cells #[.int .i64 s, .int .i64 t] 23 (0, 0)) (by simp)) (sz2 _ _) ?_ ?_ ?_); (next => rfl); (next => rfl)))
  refine (with_any N g k p q _ hN1).mono ?_
  rintro e w5 ⟨rfl, hb5⟩
  have X5 := Aside0.mk (Boxes.lt (Boxes.bel hb5 H4.out))
  have H5 := Aside0.mk (Boxes.push (.cells (vec N (withS N g k p q)) 29) (Boxes.bel hb5 H4.out))
  have B5 := Aside0.mk (below_alloc (chain B4.out hb5) (.cells (vec N (withS N g k p q)) 29))
  have Z5 : w.heap.size ≤ w5.heap.size := (chain B4.out hb5).size
  clear hb5
  go_wp2_with (first | refine op_alloc29 ?_ | ((with_reducible refine op_store29_new (W := w5) (cs := vec N (withS N g k p q)) ?_ ?_ (vec_size _ _) (vec_size _ _) (vec_one _ _) ?_); (next => rfl); (next => rfl)) | ((with_reducible refine op_loadg (g := w5.heap.size) (t := 29) (H5.out.out (w5.heap.size, .cells (vec N (withS N g k p q)) 29 (0, 0)) (by simp)) (vec_size _ _) ?_ ?_ ?_); (next => rfl); (next => rfl)) | ((with_reducible refine op_loadg (g := w3.heap.size) (t := 29) (H5.out.out (w3.heap.size, .cells (vec N (withS N (withS N g j s t) k p q)) 29 (0, 0)) (by simp)) (vec_size _ _) ?_ ?_ ?_); (next => rfl); (next => rfl)) | ((with_reducible refine op_loadg (g := w2.heap.size) (t := 29) (H5.out.out (w2.heap.size, .cells (vec N g) 29 (0, 0)) (by simp)) (vec_size _ _) ?_ ?_ ?_); (next => rfl); (next => rfl)) | ((with_reducible refine op_ld (T := 23) (g := w.heap.size + 1) Try.underlying23 size23 (H5.out.out (w.heap.size + 1, .cells #[.int .i64 p, .int .i64 q] 23 (0, 0)) (by simp)) (sz2 _ _) ?_ ?_ ?_); (next => rfl); (next => rfl)) | ((with_reducible refine op_ld (T := 23) (g := w.heap.size) Try.underlying23 size23 (H5.out.out (w.heap.size, .cells #[.int .i64 s, .int .i64 t] 23 (0, 0)) (by simp)) (sz2 _ _) ?_ ?_ ?_); (next => rfl); (next => rfl)))
  refine (with_any N (withS N g k p q) j s t _ hN1).mono ?_
  rintro e w6 ⟨rfl, hb6⟩
  have K6 := Aside0.mk (hbel hb6 (H5.out.out (w5.heap.size, .cells (vec N (withS N g k p q)) 29 (0, 0)) (by simp)))
  have H6 := Aside0.mk (Boxes.set (vec N (withS N (withS N g k p q) j s t)) (Boxes.bel hb6 H5.out) X5.out)
  have B6 := Aside0.mk (below_setRow (g := w5.heap.size) (chain B5.out hb6) Z5 (vec N (withS N (withS N g k p q) j s t)))
  clear hb6
  go_wp2_with (first | ((with_reducible refine op_st (T := 29) (g := w5.heap.size) (cs := vec N (withS N (withS N g k p q) j s t)) size29 K6.out (vec_size _ _) (vec_size _ _) (vec_one _ _) ?_ ?_ ?_ ?_); (next => rfl); (next => rfl); (next => rfl)) | ((with_reducible refine op_loadg (g := w5.heap.size) (t := 29) (H6.out.out (w5.heap.size, .cells (vec N (withS N (withS N g k p q) j s t)) 29 (0, 0)) (by simp)) (vec_size _ _) ?_ ?_ ?_); (next => rfl); (next => rfl)) | ((with_reducible refine op_loadg (g := w3.heap.size) (t := 29) (H6.out.out (w3.heap.size, .cells (vec N (withS N (withS N g j s t) k p q)) 29 (0, 0)) (by simp)) (vec_size _ _) ?_ ?_ ?_); (next => rfl); (next => rfl)) | ((with_reducible refine op_loadg (g := w2.heap.size) (t := 29) (H6.out.out (w2.heap.size, .cells (vec N g) 29 (0, 0)) (by simp)) (vec_size _ _) ?_ ?_ ?_); (next => rfl); (next => rfl)) | ((with_reducible refine op_ld (T := 23) (g := w.heap.size + 1) Try.underlying23 size23 (H6.out.out (w.heap.size + 1, .cells #[.int .i64 p, .int .i64 q] 23 (0, 0)) (by simp)) (sz2 _ _) ?_ ?_ ?_); (next => rfl); (next => rfl)) | ((with_reducible refine op_ld (T := 23) (g := w.heap.size) Try.underlying23 size23 (H6.out.out (w.heap.size, .cells #[.int .i64 s, .int .i64 t] 23 (0, 0)) (by simp)) (sz2 _ _) ?_ ?_ ?_); (next => rfl); (next => rfl)))
  refine (with_any N g j s t _ hN1).mono ?_
  rintro e w7 ⟨rfl, hb7⟩
  have X7 := Aside0.mk (Boxes.lt (Boxes.bel hb7 H6.out))
  have H7 := Aside0.mk (Boxes.push (.cells (vec N (withS N g j s t)) 29) (Boxes.bel hb7 H6.out))
  have B7 := Aside0.mk (below_alloc (chain B6.out hb7) (.cells (vec N (withS N g j s t)) 29))
  have Z7 : w.heap.size ≤ w7.heap.size := (chain B6.out hb7).size
  clear hb7
  go_wp2_with (first | refine op_alloc29 ?_ | ((with_reducible refine op_store29_new (W := w7) (cs := vec N (withS N g j s t)) ?_ ?_ (vec_size _ _) (vec_size _ _) (vec_one _ _) ?_); (next => rfl); (next => rfl)) | ((with_reducible refine op_loadg (g := w7.heap.size) (t := 29) (H7.out.out (w7.heap.size, .cells (vec N (withS N g j s t)) 29 (0, 0)) (by simp)) (vec_size _ _) ?_ ?_ ?_); (next => rfl); (next => rfl)) | ((with_reducible refine op_loadg (g := w5.heap.size) (t := 29) (H7.out.out (w5.heap.size, .cells (vec N (withS N (withS N g k p q) j s t)) 29 (0, 0)) (by simp)) (vec_size _ _) ?_ ?_ ?_); (next => rfl); (next => rfl)) | ((with_reducible refine op_loadg (g := w3.heap.size) (t := 29) (H7.out.out (w3.heap.size, .cells (vec N (withS N (withS N g j s t) k p q)) 29 (0, 0)) (by simp)) (vec_size _ _) ?_ ?_ ?_); (next => rfl); (next => rfl)) | ((with_reducible refine op_loadg (g := w2.heap.size) (t := 29) (H7.out.out (w2.heap.size, .cells (vec N g) 29 (0, 0)) (by simp)) (vec_size _ _) ?_ ?_ ?_); (next => rfl); (next => rfl)) | ((with_reducible refine op_ld (T := 23) (g := w.heap.size + 1) Try.underlying23 size23 (H7.out.out (w.heap.size + 1, .cells #[.int .i64 p, .int .i64 q] 23 (0, 0)) (by simp)) (sz2 _ _) ?_ ?_ ?_); (next => rfl); (next => rfl)) | ((with_reducible refine op_ld (T := 23) (g := w.heap.size) Try.underlying23 size23 (H7.out.out (w.heap.size, .cells #[.int .i64 s, .int .i64 t] 23 (0, 0)) (by simp)) (sz2 _ _) ?_ ?_ ?_); (next => rfl); (next => rfl)))
  refine (without_any N (withS N g j s t) j _ hN1).mono ?_
  rintro e w8 ⟨rfl, hb8⟩
  have K8 := Aside0.mk (hbel hb8 (H7.out.out (w7.heap.size, .cells (vec N (withS N g j s t)) 29 (0, 0)) (by simp)))
  have H8 := Aside0.mk (Boxes.set (vec N (withoutS N (withS N g j s t) j)) (Boxes.bel hb8 H7.out) X7.out)
  have B8 := Aside0.mk (below_setRow (g := w7.heap.size) (chain B7.out hb8) Z7 (vec N (withoutS N (withS N g j s t) j)))
  clear hb8
  go_wp2_with (first | ((with_reducible refine op_st (T := 29) (g := w7.heap.size) (cs := vec N (withoutS N (withS N g j s t) j)) size29 K8.out (vec_size _ _) (vec_size _ _) (vec_one _ _) ?_ ?_ ?_ ?_); (next => rfl); (next => rfl); (next => rfl)) | ((with_reducible refine op_loadg (g := w7.heap.size) (t := 29) (H8.out.out (w7.heap.size, .cells (vec N (withoutS N (withS N g j s t) j)) 29 (0, 0)) (by simp)) (vec_size _ _) ?_ ?_ ?_); (next => rfl); (next => rfl)) | ((with_reducible refine op_loadg (g := w5.heap.size) (t := 29) (H8.out.out (w5.heap.size, .cells (vec N (withS N (withS N g k p q) j s t)) 29 (0, 0)) (by simp)) (vec_size _ _) ?_ ?_ ?_); (next => rfl); (next => rfl)) | ((with_reducible refine op_loadg (g := w3.heap.size) (t := 29) (H8.out.out (w3.heap.size, .cells (vec N (withS N (withS N g j s t) k p q)) 29 (0, 0)) (by simp)) (vec_size _ _) ?_ ?_ ?_); (next => rfl); (next => rfl)) | ((with_reducible refine op_loadg (g := w2.heap.size) (t := 29) (H8.out.out (w2.heap.size, .cells (vec N g) 29 (0, 0)) (by simp)) (vec_size _ _) ?_ ?_ ?_); (next => rfl); (next => rfl)) | ((with_reducible refine op_ld (T := 23) (g := w.heap.size + 1) Try.underlying23 size23 (H8.out.out (w.heap.size + 1, .cells #[.int .i64 p, .int .i64 q] 23 (0, 0)) (by simp)) (sz2 _ _) ?_ ?_ ?_); (next => rfl); (next => rfl)) | ((with_reducible refine op_ld (T := 23) (g := w.heap.size) Try.underlying23 size23 (H8.out.out (w.heap.size, .cells #[.int .i64 s, .int .i64 t] 23 (0, 0)) (by simp)) (sz2 _ _) ?_ ?_ ?_); (next => rfl); (next => rfl)))
  refine (with_any N g j 5 4 _ hN1).mono ?_
  rintro e w9 ⟨rfl, hb9⟩
  rw [with_not (show ¬(1 ≤ j ∧ j ≤ N ∧ (0 : Int) ≤ 5 ∧ (5 : Int) ≤ 4 ∧ (4 : Int) ≤ 1073741824) by omega)]
  have X9 := Aside0.mk (Boxes.lt (Boxes.bel hb9 H8.out))
  have H9 := Aside0.mk (Boxes.push (.cells (vec N g) 29) (Boxes.bel hb9 H8.out))
  have B9 := Aside0.mk (below_alloc (chain B8.out hb9) (.cells (vec N g) 29))
  have Z9 : w.heap.size ≤ w9.heap.size := (chain B8.out hb9).size
  clear hb9
  go_wp2_with (first | refine op_alloc29 ?_ | ((with_reducible refine op_store29_new (W := w9) (cs := vec N g) ?_ ?_ (vec_size _ _) (vec_size _ _) (vec_one _ _) ?_); (next => rfl); (next => rfl)) | ((with_reducible refine op_loadg (g := w9.heap.size) (t := 29) (H9.out.out (w9.heap.size, .cells (vec N g) 29 (0, 0)) (by simp)) (vec_size _ _) ?_ ?_ ?_); (next => rfl); (next => rfl)) | ((with_reducible refine op_loadg (g := w7.heap.size) (t := 29) (H9.out.out (w7.heap.size, .cells (vec N (withoutS N (withS N g j s t) j)) 29 (0, 0)) (by simp)) (vec_size _ _) ?_ ?_ ?_); (next => rfl); (next => rfl)) | ((with_reducible refine op_loadg (g := w5.heap.size) (t := 29) (H9.out.out (w5.heap.size, .cells (vec N (withS N (withS N g k p q) j s t)) 29 (0, 0)) (by simp)) (vec_size _ _) ?_ ?_ ?_); (next => rfl); (next => rfl)) | ((with_reducible refine op_loadg (g := w3.heap.size) (t := 29) (H9.out.out (w3.heap.size, .cells (vec N (withS N (withS N g j s t) k p q)) 29 (0, 0)) (by simp)) (vec_size _ _) ?_ ?_ ?_); (next => rfl); (next => rfl)) | ((with_reducible refine op_loadg (g := w2.heap.size) (t := 29) (H9.out.out (w2.heap.size, .cells (vec N g) 29 (0, 0)) (by simp)) (vec_size _ _) ?_ ?_ ?_); (next => rfl); (next => rfl)) | ((with_reducible refine op_ld (T := 23) (g := w.heap.size + 1) Try.underlying23 size23 (H9.out.out (w.heap.size + 1, .cells #[.int .i64 p, .int .i64 q] 23 (0, 0)) (by simp)) (sz2 _ _) ?_ ?_ ?_); (next => rfl); (next => rfl)) | ((with_reducible refine op_ld (T := 23) (g := w.heap.size) Try.underlying23 size23 (H9.out.out (w.heap.size, .cells #[.int .i64 s, .int .i64 t] 23 (0, 0)) (by simp)) (sz2 _ _) ?_ ?_ ?_); (next => rfl); (next => rfl)))
  refine (with_any N g 0 s t _ hN1).mono ?_
  rintro e w10 ⟨rfl, hb10⟩
  rw [with_not (show ¬(1 ≤ (0 : Int) ∧ (0 : Int) ≤ N ∧ 0 ≤ s ∧ s ≤ t ∧ t ≤ 1073741824) by omega)]
  have X10 := Aside0.mk (Boxes.lt (Boxes.bel hb10 H9.out))
  have H10 := Aside0.mk (Boxes.push (.cells (vec N g) 29) (Boxes.bel hb10 H9.out))
  have B10 := Aside0.mk (below_alloc (chain B9.out hb10) (.cells (vec N g) 29))
  have Z10 : w.heap.size ≤ w10.heap.size := (chain B9.out hb10).size
  clear hb10
  go_upto_region 13 with (first | refine op_alloc29 ?_ | ((with_reducible refine op_store29_new (W := w10) (cs := vec N g) ?_ ?_ (vec_size _ _) (vec_size _ _) (vec_one _ _) ?_); (next => rfl); (next => rfl)) | ((with_reducible refine op_loadg (g := w10.heap.size) (t := 29) (H10.out.out (w10.heap.size, .cells (vec N g) 29 (0, 0)) (by simp)) (vec_size _ _) ?_ ?_ ?_); (next => rfl); (next => rfl)) | ((with_reducible refine op_loadg (g := w9.heap.size) (t := 29) (H10.out.out (w9.heap.size, .cells (vec N g) 29 (0, 0)) (by simp)) (vec_size _ _) ?_ ?_ ?_); (next => rfl); (next => rfl)) | ((with_reducible refine op_loadg (g := w7.heap.size) (t := 29) (H10.out.out (w7.heap.size, .cells (vec N (withoutS N (withS N g j s t) j)) 29 (0, 0)) (by simp)) (vec_size _ _) ?_ ?_ ?_); (next => rfl); (next => rfl)) | ((with_reducible refine op_loadg (g := w5.heap.size) (t := 29) (H10.out.out (w5.heap.size, .cells (vec N (withS N (withS N g k p q) j s t)) 29 (0, 0)) (by simp)) (vec_size _ _) ?_ ?_ ?_); (next => rfl); (next => rfl)) | ((with_reducible refine op_loadg (g := w3.heap.size) (t := 29) (H10.out.out (w3.heap.size, .cells (vec N (withS N (withS N g j s t) k p q)) 29 (0, 0)) (by simp)) (vec_size _ _) ?_ ?_ ?_); (next => rfl); (next => rfl)) | ((with_reducible refine op_loadg (g := w2.heap.size) (t := 29) (H10.out.out (w2.heap.size, .cells (vec N g) 29 (0, 0)) (by simp)) (vec_size _ _) ?_ ?_ ?_); (next => rfl); (next => rfl)) | ((with_reducible refine op_ld (T := 23) (g := w.heap.size + 1) Try.underlying23 size23 (H10.out.out (w.heap.size + 1, .cells #[.int .i64 p, .int .i64 q] 23 (0, 0)) (by simp)) (sz2 _ _) ?_ ?_ ?_); (next => rfl); (next => rfl)) | ((with_reducible refine op_ld (T := 23) (g := w.heap.size) Try.underlying23 size23 (H10.out.out (w.heap.size, .cells #[.int .i64 s, .int .i64 t] 23 (0, 0)) (by simp)) (sz2 _ _) ?_ ?_ ?_); (next => rfl); (next => rfl)))
  simp only [Act.put, List.setIfInBounds_toArray, List.set_cons_zero, List.set_cons_succ]
  have wN : IntKind.i64.wrap (N + 1) = N + 1 := by rw [IntKind.wrap_i64]; omega
  have F : F0 w (w10.alloc (.cells (vec N g) 29)).drew ([(w10.heap.size, .cells (vec N g) 29 (0, 0)), (w9.heap.size, .cells (vec N g) 29 (0, 0)), (w7.heap.size, .cells (vec N (withoutS N (withS N g j s t) j)) 29 (0, 0)), (w5.heap.size, .cells (vec N (withS N (withS N g k p q) j s t)) 29 (0, 0)), (w3.heap.size, .cells (vec N (withS N (withS N g j s t) k p q)) 29 (0, 0)), (w2.heap.size, .cells (vec N g) 29 (0, 0)), (w.heap.size + 1, .cells #[.int .i64 p, .int .i64 q] 23 (0, 0)), (w.heap.size, .cells #[.int .i64 s, .int .i64 t] 23 (0, 0))] : List (Nat × Obj)) := ⟨⟨H10.out.out⟩, fun x hx => Boxes.lt H10.out x hx, below_drew B10.out⟩
  refine start_ (n := 8) (S := fun w' => Boxes w' ([(w10.heap.size, .cells (vec N g) 29 (0, 0)), (w9.heap.size, .cells (vec N g) 29 (0, 0)), (w7.heap.size, .cells (vec N (withoutS N (withS N g j s t) j)) 29 (0, 0)), (w5.heap.size, .cells (vec N (withS N (withS N g k p q) j s t)) 29 (0, 0)), (w3.heap.size, .cells (vec N (withS N (withS N g j s t) k p q)) 29 (0, 0)), (w2.heap.size, .cells (vec N g) 29 (0, 0)), (w.heap.size + 1, .cells #[.int .i64 p, .int .i64 q] 23 (0, 0)), (w.heap.size, .cells #[.int .i64 s, .int .i64 t] 23 (0, 0))] : List (Nat × Obj))) (ds := []) #[false, false, false, false, false, false, false, false] (by kernel_rfl) rfl rfl F.box (fun hS => ?_)
  generalize (w10.alloc (.cells (vec N g) 29)).drew = wd at *
  refine take_ (i := 0) (N := some 64) (v := .agg (vec N g)) (a' := ?_) #[true, false, false, false, false, false, false, false] rfl rfl (by kernel_rfl) (fun _ _ _ h => h) (Or.inl ⟨by rfl, fun w' hw => run_loadOp rfl (run_loadVar_row w' _ 29 29 _ (0, 0) _ (hw.out (w2.heap.size, .cells (vec N g) 29 (0, 0)) (by simp)) Try.underlying29 rfl (by rw [size29, vec_size]))⟩) hS ?_ ?_
  rotate_left
  · simp only [Act.put, List.setIfInBounds_toArray, List.set_cons_zero, List.set_cons_succ]; rfl
  refine take_ (i := 1) (N := some 65) (v := .agg (vec N g)) (a' := ?_) #[true, true, false, false, false, false, false, false] rfl rfl (by kernel_rfl) (fun _ _ _ h => h) (Or.inl ⟨by rfl, fun w' hw => run_loadOp rfl (run_loadVar_row w' _ 29 29 _ (0, 0) _ (hw.out (w2.heap.size, .cells (vec N g) 29 (0, 0)) (by simp)) Try.underlying29 rfl (by rw [size29, vec_size]))⟩) hS ?_ ?_
  rotate_left
  · simp only [Act.put, List.setIfInBounds_toArray, List.set_cons_zero, List.set_cons_succ]; rfl
  refine take_ (i := 4) (N := some 68) (v := .agg #[.int .i64 s, .int .i64 t]) (a' := ?_) #[true, true, false, false, true, false, false, false] rfl rfl (by kernel_rfl) (fun _ _ _ h => h) (Or.inl ⟨by rfl, fun w' hw => run_loadOp rfl (run_loadVar_row w' _ 23 23 _ (0, 0) _ (hw.out (w.heap.size, .cells #[.int .i64 s, .int .i64 t] 23 (0, 0)) (by simp)) Try.underlying23 rfl (by rw [size23, sz2]))⟩) hS ?_ ?_
  rotate_left
  · simp only [Act.put, List.setIfInBounds_toArray, List.set_cons_zero, List.set_cons_succ]; rfl
  refine join_ 1 #[true, true, true, true, true, true, true, false] (fun b : Nat => [(66, .int .i64 N), (67, .int .i64 (N + 1)), (69, .agg (vec N g)), (21, .pointer (some ⟨b, 0, none⟩))]) (fun b w' => F1 w w' ([(w10.heap.size, .cells (vec N g) 29 (0, 0)), (w9.heap.size, .cells (vec N g) 29 (0, 0)), (w7.heap.size, .cells (vec N (withoutS N (withS N g j s t) j)) 29 (0, 0)), (w5.heap.size, .cells (vec N (withS N (withS N g k p q) j s t)) 29 (0, 0)), (w3.heap.size, .cells (vec N (withS N (withS N g j s t) k p q)) 29 (0, 0)), (w2.heap.size, .cells (vec N g) 29 (0, 0)), (w.heap.size + 1, .cells #[.int .i64 p, .int .i64 q] 23 (0, 0)), (w.heap.size, .cells #[.int .i64 s, .int .i64 t] 23 (0, 0))] : List (Nat × Obj)) b) ?rest (fun hj => ?orders)
  case orders =>
    refine two_ (i := 2) (j := 6) (Ni := some 66) (Nj := some 21) #[true, true, true, false, true, false, false, false] #[true, true, false, false, true, false, true, false] rfl rfl rfl rfl (by kernel_rfl) (by decide) (by decide) (fun K hK => ?_) (fun K hK => ?_)
    · skip
      refine goes_ Try.func12 (by kernel_rfl) rfl #[.agg (vec N g)] (by rfl) rfl rfl (by go_simp) ?_
      refine (groups_any N g _).mono ?_
      rintro e wa ⟨rfl, hb⟩
      have Fwa := F.call hb
      refine ⟨_, rfl, hK.out _ _ Fwa.box (fun hS => ?_)⟩
      clear hK K hb
      refine norm_ (by simp only [Act.put, List.setIfInBounds_toArray, List.set_cons_zero, List.set_cons_succ]; rfl) ?_
      refine pure_ (i := 3) (N := some 67) (v := .int .i64 (N + 1)) (a' := ?_) #[true, true, true, true, true, false, false, false] rfl rfl (by kernel_rfl) (fun _ _ _ h => h) (Or.inl ⟨by rfl, fun w' => by first | (go_simp; exact wN) | (go_simp; done)⟩) ?_ ?_
      rotate_left
      · simp only [Act.put, List.setIfInBounds_toArray, List.set_cons_zero, List.set_cons_succ]; rfl
      refine two_ (i := 5) (j := 6) (Ni := some 69) (Nj := some 21) #[true, true, true, true, true, true, false, false] #[true, true, true, true, true, false, true, false] rfl rfl rfl rfl (by kernel_rfl) (by decide) (by decide) (fun K hK => ?_) (fun K hK => ?_)
      · skip
        refine goes_ Try.func10 (by kernel_rfl) rfl #[.agg (vec N g), .int .i64 (N + 1), .agg #[.int .i64 s, .int .i64 t]] (by rfl) rfl rfl (by go_simp) ?_
        refine (with_any N g (N + 1) s t _ hN1).mono ?_
        rintro e wb ⟨rfl, hb⟩
        rw [with_not (show ¬(1 ≤ N + 1 ∧ N + 1 ≤ N ∧ 0 ≤ s ∧ s ≤ t ∧ t ≤ 1073741824) by omega)]
        have Fwb := Fwa.call hb
        refine ⟨_, rfl, hK.out _ _ Fwb.box (fun hS => ?_)⟩
        clear hK K hb
        refine norm_ (by simp only [Act.put, List.setIfInBounds_toArray, List.set_cons_zero, List.set_cons_succ]; rfl) ?_
        refine one_ (i := 6) (N := some 21) #[true, true, true, true, true, true, true, false] rfl rfl (by kernel_rfl) (by decide) (fun K hK => ?_)
        refine value_ (by rfl) rfl (run_alloc29 _) ?_
        have Fc := Fwb.alloc
        refine hK.out _ _ (Boxes.tail Fc.box) (fun hS => ?_)
        clear hK K
        refine norm_ (by simp only [Act.put, List.setIfInBounds_toArray, List.set_cons_zero, List.set_cons_succ]; rfl) ?_
        exact hj _ _ Fc
      · skip
        refine value_ (by rfl) rfl (run_alloc29 _) ?_
        have Fb := Fwa.alloc
        refine hK.out _ _ (Boxes.tail Fb.box) (fun hS => ?_)
        clear hK K
        refine norm_ (by simp only [Act.put, List.setIfInBounds_toArray, List.set_cons_zero, List.set_cons_succ]; rfl) ?_
        refine one_ (i := 5) (N := some 69) #[true, true, true, true, true, true, true, false] rfl rfl (by kernel_rfl) (by decide) (fun K hK => ?_)
        refine goes_ Try.func10 (by kernel_rfl) rfl #[.agg (vec N g), .int .i64 (N + 1), .agg #[.int .i64 s, .int .i64 t]] (by rfl) rfl rfl (by go_simp) ?_
        refine (with_any N g (N + 1) s t _ hN1).mono ?_
        rintro e wc ⟨rfl, hb⟩
        rw [with_not (show ¬(1 ≤ N + 1 ∧ N + 1 ≤ N ∧ 0 ≤ s ∧ s ≤ t ∧ t ≤ 1073741824) by omega)]
        have Fwc := Fb.call hb
        refine ⟨_, rfl, hK.out _ _ (Boxes.tail Fwc.box) (fun hS => ?_)⟩
        clear hK K hb
        refine norm_ (by simp only [Act.put, List.setIfInBounds_toArray, List.set_cons_zero, List.set_cons_succ]; rfl) ?_
        exact hj _ _ Fwc
    · skip
      refine value_ (by rfl) rfl (run_alloc29 _) ?_
      have Fa := F.alloc
      refine hK.out _ _ (Boxes.tail Fa.box) (fun hS => ?_)
      clear hK K
      refine norm_ (by simp only [Act.put, List.setIfInBounds_toArray, List.set_cons_zero, List.set_cons_succ]; rfl) ?_
      refine one_ (i := 2) (N := some 66) #[true, true, true, false, true, false, true, false] rfl rfl (by kernel_rfl) (by decide) (fun K hK => ?_)
      refine goes_ Try.func12 (by kernel_rfl) rfl #[.agg (vec N g)] (by rfl) rfl rfl (by go_simp) ?_
      refine (groups_any N g _).mono ?_
      rintro e wb ⟨rfl, hb⟩
      have Fwb := Fa.call hb
      refine ⟨_, rfl, hK.out _ _ (Boxes.tail Fwb.box) (fun hS => ?_)⟩
      clear hK K hb
      refine norm_ (by simp only [Act.put, List.setIfInBounds_toArray, List.set_cons_zero, List.set_cons_succ]; rfl) ?_
      refine pure_ (i := 3) (N := some 67) (v := .int .i64 (N + 1)) (a' := ?_) #[true, true, true, true, true, false, true, false] rfl rfl (by kernel_rfl) (fun _ _ _ h => h) (Or.inl ⟨by rfl, fun w' => by first | (go_simp; exact wN) | (go_simp; done)⟩) ?_ ?_
      rotate_left
      · simp only [Act.put, List.setIfInBounds_toArray, List.set_cons_zero, List.set_cons_succ]; rfl
      refine one_ (i := 5) (N := some 69) #[true, true, true, true, true, true, true, false] rfl rfl (by kernel_rfl) (by decide) (fun K hK => ?_)
      refine goes_ Try.func10 (by kernel_rfl) rfl #[.agg (vec N g), .int .i64 (N + 1), .agg #[.int .i64 s, .int .i64 t]] (by rfl) rfl rfl (by go_simp) ?_
      refine (with_any N g (N + 1) s t _ hN1).mono ?_
      rintro e wc ⟨rfl, hb⟩
      rw [with_not (show ¬(1 ≤ N + 1 ∧ N + 1 ≤ N ∧ 0 ≤ s ∧ s ≤ t ∧ t ≤ 1073741824) by omega)]
      have Fwc := Fwb.call hb
      refine ⟨_, rfl, hK.out _ _ (Boxes.tail Fwc.box) (fun hS => ?_)⟩
      clear hK K hb
      refine norm_ (by simp only [Act.put, List.setIfInBounds_toArray, List.set_cons_zero, List.set_cons_succ]; rfl) ?_
      exact hj _ _ Fwc
  case rest =>
    intro b wx F1b
    refine norm_ (by simp only [putAll, Act.put, List.setIfInBounds_toArray, List.set_cons_zero, List.set_cons_succ]; rfl) ?_
    refine one_ (i := 7) (N := none) #[true, true, true, true, true, true, true, true] rfl rfl (by kernel_rfl) (by decide) (fun K hK => ?_)
    have hbb := F1b.box.out (b, .cells (vec 0 off) 29 (0, 0)) (by simp)
    have H11 := Aside0.mk (Boxes.set (vec N g) F1b.box F1b.lt)
    have B11 := Aside0.mk (below_setRow (g := b) F1b.below F1b.le (vec N g))
    refine skip_ (w1 := wx.setRow b (vec N g)) (by rfl) rfl (run_storeOp rfl rfl (run_storeVar_row _ _ 29 29 _ _ hbb (by rw [size29, vec_size]) (by rw [vec_size, vec_size]) (vec_one _ _))) ?_
    refine hK.out _ _ (Boxes.tail H11.out) (fun _ => ?_)
    clear hK K hbb F1b F hS
    refine done_ (by kernel_rfl) ?_
    generalize wx.setRow b (vec N g) = wy at *
    clear H0 H1 H2 H3 H4 H5 H6 H7 H8 H9 H10 B0 B1 B2 B3 B4 B5 B6 B7 B8 B9 B10 X3 X5 X7 X9 X10 Z3 Z5 Z7 Z9 Z10 K4 K6 K8 wN
    go_wp2_with (first | ((with_reducible refine op_loadg (g := b) (t := 29) (H11.out.out (b, .cells (vec N g) 29 (0, 0)) (by simp)) (vec_size _ _) ?_ ?_ ?_); (next => rfl); (next => rfl)) | ((with_reducible refine op_loadg (g := w10.heap.size) (t := 29) (H11.out.out (w10.heap.size, .cells (vec N g) 29 (0, 0)) (by simp)) (vec_size _ _) ?_ ?_ ?_); (next => rfl); (next => rfl)) | ((with_reducible refine op_loadg (g := w9.heap.size) (t := 29) (H11.out.out (w9.heap.size, .cells (vec N g) 29 (0, 0)) (by simp)) (vec_size _ _) ?_ ?_ ?_); (next => rfl); (next => rfl)) | ((with_reducible refine op_loadg (g := w7.heap.size) (t := 29) (H11.out.out (w7.heap.size, .cells (vec N (withoutS N (withS N g j s t) j)) 29 (0, 0)) (by simp)) (vec_size _ _) ?_ ?_ ?_); (next => rfl); (next => rfl)) | ((with_reducible refine op_loadg (g := w5.heap.size) (t := 29) (H11.out.out (w5.heap.size, .cells (vec N (withS N (withS N g k p q) j s t)) 29 (0, 0)) (by simp)) (vec_size _ _) ?_ ?_ ?_); (next => rfl); (next => rfl)) | ((with_reducible refine op_loadg (g := w3.heap.size) (t := 29) (H11.out.out (w3.heap.size, .cells (vec N (withS N (withS N g j s t) k p q)) 29 (0, 0)) (by simp)) (vec_size _ _) ?_ ?_ ?_); (next => rfl); (next => rfl)) | ((with_reducible refine op_loadg (g := w2.heap.size) (t := 29) (H11.out.out (w2.heap.size, .cells (vec N g) 29 (0, 0)) (by simp)) (vec_size _ _) ?_ ?_ ?_); (next => rfl); (next => rfl)) | ((with_reducible refine op_ld (T := 23) (g := w.heap.size + 1) Try.underlying23 size23 (H11.out.out (w.heap.size + 1, .cells #[.int .i64 p, .int .i64 q] 23 (0, 0)) (by simp)) (sz2 _ _) ?_ ?_ ?_); (next => rfl); (next => rfl)) | ((with_reducible refine op_ld (T := 23) (g := w.heap.size) Try.underlying23 size23 (H11.out.out (w.heap.size, .cells #[.int .i64 s, .int .i64 t] 23 (0, 0)) (by simp)) (sz2 _ _) ?_ ?_ ?_); (next => rfl); (next => rfl)))
    refine (span_any N (withS N (withS N g j s t) k p q) k _ hN1 (bounded_with (bounded_with G1.out _ _ _ _) _ _ _ _)).mono ?_
    rintro e w12 ⟨rfl, hb12⟩
    generalize hy : spanAt N (withS N (withS N g j s t) k p q) k = y at *
    have Y := Aside0.mk hy
    have H12 := Aside0.mk (Boxes.push (.cells #[.int .i64 (toS y).f0, .int .i64 (toS y).f1] 23) (Boxes.bel hb12 H11.out))
    have B12 := Aside0.mk (below_alloc (chain B11.out hb12) (.cells #[.int .i64 (toS y).f0, .int .i64 (toS y).f1] 23))
    clear hb12 hy H11
    go_upto_region 15 with (first | ((with_reducible refine op_ld (T := 23) (g := w12.heap.size) Try.underlying23 size23 (H12.out.out (w12.heap.size, .cells #[.int .i64 (toS y).f0, .int .i64 (toS y).f1] 23 (0, 0)) (by simp)) (sz2 _ _) ?_ ?_ ?_); (next => rfl); (next => rfl)) | ((with_reducible refine op_loadg (g := b) (t := 29) (H12.out.out (b, .cells (vec N g) 29 (0, 0)) (by simp)) (vec_size _ _) ?_ ?_ ?_); (next => rfl); (next => rfl)) | ((with_reducible refine op_loadg (g := w10.heap.size) (t := 29) (H12.out.out (w10.heap.size, .cells (vec N g) 29 (0, 0)) (by simp)) (vec_size _ _) ?_ ?_ ?_); (next => rfl); (next => rfl)) | ((with_reducible refine op_loadg (g := w9.heap.size) (t := 29) (H12.out.out (w9.heap.size, .cells (vec N g) 29 (0, 0)) (by simp)) (vec_size _ _) ?_ ?_ ?_); (next => rfl); (next => rfl)) | ((with_reducible refine op_loadg (g := w7.heap.size) (t := 29) (H12.out.out (w7.heap.size, .cells (vec N (withoutS N (withS N g j s t) j)) 29 (0, 0)) (by simp)) (vec_size _ _) ?_ ?_ ?_); (next => rfl); (next => rfl)) | ((with_reducible refine op_loadg (g := w5.heap.size) (t := 29) (H12.out.out (w5.heap.size, .cells (vec N (withS N (withS N g k p q) j s t)) 29 (0, 0)) (by simp)) (vec_size _ _) ?_ ?_ ?_); (next => rfl); (next => rfl)) | ((with_reducible refine op_loadg (g := w3.heap.size) (t := 29) (H12.out.out (w3.heap.size, .cells (vec N (withS N (withS N g j s t) k p q)) 29 (0, 0)) (by simp)) (vec_size _ _) ?_ ?_ ?_); (next => rfl); (next => rfl)) | ((with_reducible refine op_loadg (g := w2.heap.size) (t := 29) (H12.out.out (w2.heap.size, .cells (vec N g) 29 (0, 0)) (by simp)) (vec_size _ _) ?_ ?_ ?_); (next => rfl); (next => rfl)) | ((with_reducible refine op_ld (T := 23) (g := w.heap.size + 1) Try.underlying23 size23 (H12.out.out (w.heap.size + 1, .cells #[.int .i64 p, .int .i64 q] 23 (0, 0)) (by simp)) (sz2 _ _) ?_ ?_ ?_); (next => rfl); (next => rfl)) | ((with_reducible refine op_ld (T := 23) (g := w.heap.size) Try.underlying23 size23 (H12.out.out (w.heap.size, .cells #[.int .i64 s, .int .i64 t] 23 (0, 0)) (by simp)) (sz2 _ _) ?_ ?_ ?_); (next => rfl); (next => rfl)))
    skip
    go_cut [24] (fun s24 wx => ∃ kn : Bool, s24 = .bool kn ∧ (kn = true → 1 ≤ k ∧ k ≤ N ∧ 0 ≤ p ∧ p ≤ q ∧ q ≤ 1073741824) ∧ Aside0 (Boxes wx ([(w12.heap.size, .cells #[.int .i64 (toS y).f0, .int .i64 (toS y).f1] 23 (0, 0)), (b, .cells (vec N g) 29 (0, 0)), (w10.heap.size, .cells (vec N g) 29 (0, 0)), (w9.heap.size, .cells (vec N g) 29 (0, 0)), (w7.heap.size, .cells (vec N (withoutS N (withS N g j s t) j)) 29 (0, 0)), (w5.heap.size, .cells (vec N (withS N (withS N g k p q) j s t)) 29 (0, 0)), (w3.heap.size, .cells (vec N (withS N (withS N g j s t) k p q)) 29 (0, 0)), (w2.heap.size, .cells (vec N g) 29 (0, 0)), (w.heap.size + 1, .cells #[.int .i64 p, .int .i64 q] 23 (0, 0)), (w.heap.size, .cells #[.int .i64 s, .int .i64 t] 23 (0, 0))] : List (Nat × Obj))) ∧ Aside0 (Below w.heap.size w wx))
    case first =>
      by_cases hk1 : k < 1
      · go_wp2_with fail
        go_meet
        case rel => exact ⟨false, rfl, by simp, H12, B12⟩
      · skip
        go_wp2_with (first | ((with_reducible refine op_ld (T := 23) (g := w12.heap.size) Try.underlying23 size23 (H12.out.out (w12.heap.size, .cells #[.int .i64 (toS y).f0, .int .i64 (toS y).f1] 23 (0, 0)) (by simp)) (sz2 _ _) ?_ ?_ ?_); (next => rfl); (next => rfl)) | ((with_reducible refine op_loadg (g := b) (t := 29) (H12.out.out (b, .cells (vec N g) 29 (0, 0)) (by simp)) (vec_size _ _) ?_ ?_ ?_); (next => rfl); (next => rfl)) | ((with_reducible refine op_loadg (g := w10.heap.size) (t := 29) (H12.out.out (w10.heap.size, .cells (vec N g) 29 (0, 0)) (by simp)) (vec_size _ _) ?_ ?_ ?_); (next => rfl); (next => rfl)) | ((with_reducible refine op_loadg (g := w9.heap.size) (t := 29) (H12.out.out (w9.heap.size, .cells (vec N g) 29 (0, 0)) (by simp)) (vec_size _ _) ?_ ?_ ?_); (next => rfl); (next => rfl)) | ((with_reducible refine op_loadg (g := w7.heap.size) (t := 29) (H12.out.out (w7.heap.size, .cells (vec N (withoutS N (withS N g j s t) j)) 29 (0, 0)) (by simp)) (vec_size _ _) ?_ ?_ ?_); (next => rfl); (next => rfl)) | ((with_reducible refine op_loadg (g := w5.heap.size) (t := 29) (H12.out.out (w5.heap.size, .cells (vec N (withS N (withS N g k p q) j s t)) 29 (0, 0)) (by simp)) (vec_size _ _) ?_ ?_ ?_); (next => rfl); (next => rfl)) | ((with_reducible refine op_loadg (g := w3.heap.size) (t := 29) (H12.out.out (w3.heap.size, .cells (vec N (withS N (withS N g j s t) k p q)) 29 (0, 0)) (by simp)) (vec_size _ _) ?_ ?_ ?_); (next => rfl); (next => rfl)) | ((with_reducible refine op_loadg (g := w2.heap.size) (t := 29) (H12.out.out (w2.heap.size, .cells (vec N g) 29 (0, 0)) (by simp)) (vec_size _ _) ?_ ?_ ?_); (next => rfl); (next => rfl)) | ((with_reducible refine op_ld (T := 23) (g := w.heap.size + 1) Try.underlying23 size23 (H12.out.out (w.heap.size + 1, .cells #[.int .i64 p, .int .i64 q] 23 (0, 0)) (by simp)) (sz2 _ _) ?_ ?_ ?_); (next => rfl); (next => rfl)) | ((with_reducible refine op_ld (T := 23) (g := w.heap.size) Try.underlying23 size23 (H12.out.out (w.heap.size, .cells #[.int .i64 s, .int .i64 t] 23 (0, 0)) (by simp)) (sz2 _ _) ?_ ?_ ?_); (next => rfl); (next => rfl)))
        refine (groups_any N g _).mono ?_
        rintro e w13 ⟨rfl, hb13⟩
        have H13 := Aside0.mk (Boxes.bel hb13 H12.out)
        have B13 := Aside0.mk (chain B12.out hb13)
        have c0 : w13.cell? ⟨w.heap.size + 1, 0, none⟩ = some (.int .i64 p) := cell_of_row w13 _ 0 _ _ _ (H13.out.out (w.heap.size + 1, .cells #[.int .i64 p, .int .i64 q] 23 (0, 0)) (by simp))
        have c1 : w13.cell? ⟨w.heap.size + 1, 1, none⟩ = some (.int .i64 q) := cell_of_row w13 _ 1 _ _ _ (H13.out.out (w.heap.size + 1, .cells #[.int .i64 p, .int .i64 q] 23 (0, 0)) (by simp))
        clear hb13 H12 B12
        go_wp2_with fail
        all_goals go_meet
        all_goals exact ⟨_, rfl, fun h => by first | (cases h; done) | omega | (simp at h; omega), H13, B13⟩
    case rest =>
      obtain ⟨kn, rfl, hkn, H14, B14⟩ := hcut
      skip
      have hkk : (kn = true ∧ (toS y).f0 = p ∧ (toS y).f1 = q ∧ y.isSome = true) ∨ kn = false := by
        cases kn
        · exact Or.inr rfl
        · obtain ⟨h1, h2, h3, h4, h5⟩ := hkn rfl
          have ey : y = some (p.toNat, q.toNat) := by rw [← Y.out]; exact last_known ⟨h1, h2, h3, h4, h5⟩
          rw [ey]; exact Or.inl ⟨rfl, by simp [toS]; omega, by simp [toS]; omega, rfl⟩
      rcases hkk with ⟨rfl, e0, e1, e2⟩ | rfl
      · skip
        rw [e0, e1] at H14
        rw [e2]
        by_cases hjk : j = k
        · skip
          have HJ := Aside0.mk hjk
          clear hjk
          go_wp2_with fail
          refine q_region (by kernel_rfl) (by kernel_rfl) ?_
          refine q_val (a' := ?_) (.int .i64 j) rfl (fun w' _ => by go_simp) ?_ ?_
          rotate_left
          · simp only [Act.put, List.setIfInBounds_toArray, List.set_cons_zero, List.set_cons_succ]; rfl
          refine q_val (a' := ?_) (.int .i64 k) rfl (fun w' _ => by go_simp) ?_ ?_
          rotate_left
          · simp only [Act.put, List.setIfInBounds_toArray, List.set_cons_zero, List.set_cons_succ]; rfl
          refine q_val (a' := ?_) (.bool true) rfl (fun w' _ => by have hjk := HJ.out; go_simp) ?_ ?_
          rotate_left
          · simp only [Act.put, List.setIfInBounds_toArray, List.set_cons_zero, List.set_cons_succ]; rfl
          refine q_val (a' := ?_) (.bool true) rfl (fun w' _ => by go_simp) ?_ ?_
          rotate_left
          · simp only [Act.put, List.setIfInBounds_toArray, List.set_cons_zero, List.set_cons_succ]; rfl
          refine q_skip (a' := ?_) rfl ?_ ?_
          rotate_left
          · simp only [Act.put, List.setIfInBounds_toArray, List.set_cons_zero, List.set_cons_succ]; rfl
          refine q_skip (a' := ?_) rfl ?_ ?_
          rotate_left
          · simp only [Act.put, List.setIfInBounds_toArray, List.set_cons_zero, List.set_cons_succ]; rfl
          refine q_skip (a' := ?_) rfl ?_ ?_
          rotate_left
          · simp only [Act.put, List.setIfInBounds_toArray, List.set_cons_zero, List.set_cons_succ]; rfl
          refine q_val (a' := ?_) (.bool true) rfl (fun w' _ => by go_simp) ?_ ?_
          rotate_left
          · simp only [Act.put, List.setIfInBounds_toArray, List.set_cons_zero, List.set_cons_succ]; rfl
          refine q_val (a' := ?_) (.bool true) rfl (fun w' _ => by go_simp) ?_ ?_
          rotate_left
          · simp only [Act.put, List.setIfInBounds_toArray, List.set_cons_zero, List.set_cons_succ]; rfl
          refine q_val (a' := ?_) _ rfl (q_ld Try.underlying29 size29 (H14.out.out (w7.heap.size, .cells (vec N (withoutS N (withS N g j s t) j)) 29 (0, 0)) (by simp)) (vec_size _ _) rfl) ?_ ?_
          rotate_left
          · simp only [Act.put, List.setIfInBounds_toArray, List.set_cons_zero, List.set_cons_succ]; rfl
          refine q_val (a' := ?_) _ rfl (q_ld Try.underlying29 size29 (H14.out.out (w2.heap.size, .cells (vec N g) 29 (0, 0)) (by simp)) (vec_size _ _) rfl) ?_ ?_
          rotate_left
          · simp only [Act.put, List.setIfInBounds_toArray, List.set_cons_zero, List.set_cons_succ]; rfl
          refine q_val (a' := ?_) (.int .i64 j) rfl (fun w' _ => by go_simp) ?_ ?_
          rotate_left
          · simp only [Act.put, List.setIfInBounds_toArray, List.set_cons_zero, List.set_cons_succ]; rfl
          refine q_call (a' := ?_) 16 _ _ rfl (fun w' => by go_simp) (fun w' => without_any N g j w' hN1) ?_ ?_
          rotate_left
          · simp only [Act.put, List.setIfInBounds_toArray, List.set_cons_zero, List.set_cons_succ]; rfl
          refine q_call (a' := ?_) 13 _ _ rfl (fun w' => by go_simp) (fun w' => same_any N N (withoutS N (withS N g j s t) j) (withoutS N g j) (bounded_without (bounded_with G1.out _ _ _ _) _ _) (bounded_without G1.out _ _) w') ?_ ?_
          rotate_left
          · simp only [Act.put, List.setIfInBounds_toArray, List.set_cons_zero, List.set_cons_succ]; rfl
          refine q_val (a' := ?_) (.bool true) rfl (fun w' _ => by have := last_without (j := j) (s := s) (t := t) O1.out; go_simp) ?_ ?_
          rotate_left
          · simp only [Act.put, List.setIfInBounds_toArray, List.set_cons_zero, List.set_cons_succ]; rfl
          refine q_val (a' := ?_) (.bool true) rfl (fun w' _ => by go_simp) ?_ ?_
          rotate_left
          · simp only [Act.put, List.setIfInBounds_toArray, List.set_cons_zero, List.set_cons_succ]; rfl
          refine q_val (a' := ?_) _ rfl (q_ld Try.underlying29 size29 (H14.out.out (w9.heap.size, .cells (vec N g) 29 (0, 0)) (by simp)) (vec_size _ _) rfl) ?_ ?_
          rotate_left
          · simp only [Act.put, List.setIfInBounds_toArray, List.set_cons_zero, List.set_cons_succ]; rfl
          refine q_val (a' := ?_) _ rfl (q_ld Try.underlying29 size29 (H14.out.out (w2.heap.size, .cells (vec N g) 29 (0, 0)) (by simp)) (vec_size _ _) rfl) ?_ ?_
          rotate_left
          · simp only [Act.put, List.setIfInBounds_toArray, List.set_cons_zero, List.set_cons_succ]; rfl
          refine q_call (a' := ?_) 13 _ _ rfl (fun w' => by go_simp) (fun w' => same_any N N g g G1.out G1.out w') ?_ ?_
          rotate_left
          · simp only [Act.put, List.setIfInBounds_toArray, List.set_cons_zero, List.set_cons_succ]; rfl
          refine q_val (a' := ?_) (.bool true) rfl (fun w' _ => by have := sameB_refl g; go_simp) ?_ ?_
          rotate_left
          · simp only [Act.put, List.setIfInBounds_toArray, List.set_cons_zero, List.set_cons_succ]; rfl
          refine q_val (a' := ?_) (.bool true) rfl (fun w' _ => by go_simp) ?_ ?_
          rotate_left
          · simp only [Act.put, List.setIfInBounds_toArray, List.set_cons_zero, List.set_cons_succ]; rfl
          refine q_val (a' := ?_) _ rfl (q_ld Try.underlying29 size29 (H14.out.out (w10.heap.size, .cells (vec N g) 29 (0, 0)) (by simp)) (vec_size _ _) rfl) ?_ ?_
          rotate_left
          · simp only [Act.put, List.setIfInBounds_toArray, List.set_cons_zero, List.set_cons_succ]; rfl
          refine q_val (a' := ?_) _ rfl (q_ld Try.underlying29 size29 (H14.out.out (w2.heap.size, .cells (vec N g) 29 (0, 0)) (by simp)) (vec_size _ _) rfl) ?_ ?_
          rotate_left
          · simp only [Act.put, List.setIfInBounds_toArray, List.set_cons_zero, List.set_cons_succ]; rfl
          refine q_call (a' := ?_) 13 _ _ rfl (fun w' => by go_simp) (fun w' => same_any N N g g G1.out G1.out w') ?_ ?_
          rotate_left
          · simp only [Act.put, List.setIfInBounds_toArray, List.set_cons_zero, List.set_cons_succ]; rfl
          refine q_val (a' := ?_) (.bool true) rfl (fun w' _ => by have := sameB_refl g; go_simp) ?_ ?_
          rotate_left
          · simp only [Act.put, List.setIfInBounds_toArray, List.set_cons_zero, List.set_cons_succ]; rfl
          refine q_val (a' := ?_) (.bool true) rfl (fun w' _ => by go_simp) ?_ ?_
          rotate_left
          · simp only [Act.put, List.setIfInBounds_toArray, List.set_cons_zero, List.set_cons_succ]; rfl
          refine q_val (a' := ?_) _ rfl (q_ld Try.underlying29 size29 (H14.out.out (b, .cells (vec N g) 29 (0, 0)) (by simp)) (vec_size _ _) rfl) ?_ ?_
          rotate_left
          · simp only [Act.put, List.setIfInBounds_toArray, List.set_cons_zero, List.set_cons_succ]; rfl
          refine q_val (a' := ?_) _ rfl (q_ld Try.underlying29 size29 (H14.out.out (w2.heap.size, .cells (vec N g) 29 (0, 0)) (by simp)) (vec_size _ _) rfl) ?_ ?_
          rotate_left
          · simp only [Act.put, List.setIfInBounds_toArray, List.set_cons_zero, List.set_cons_succ]; rfl
          refine q_call (a' := ?_) 13 _ _ rfl (fun w' => by go_simp) (fun w' => same_any N N g g G1.out G1.out w') ?_ ?_
          rotate_left
          · simp only [Act.put, List.setIfInBounds_toArray, List.set_cons_zero, List.set_cons_succ]; rfl
          refine q_val (a' := ?_) (.bool true) rfl (fun w' _ => by have := sameB_refl g; go_simp) ?_ ?_
          rotate_left
          · simp only [Act.put, List.setIfInBounds_toArray, List.set_cons_zero, List.set_cons_succ]; rfl
          refine q_val (a' := ?_) (.bool true) rfl (fun w' _ => by go_simp) ?_ ?_
          rotate_left
          · simp only [Act.put, List.setIfInBounds_toArray, List.set_cons_zero, List.set_cons_succ]; rfl
          refine q_val (a' := ?_) (.bool true) rfl (fun w' _ => by go_simp) ?_ ?_
          rotate_left
          · simp only [Act.put, List.setIfInBounds_toArray, List.set_cons_zero, List.set_cons_succ]; rfl
          refine q_val (a' := ?_) (.bool false) rfl (fun w' _ => by go_simp) ?_ ?_
          rotate_left
          · simp only [Act.put, List.setIfInBounds_toArray, List.set_cons_zero, List.set_cons_succ]; rfl
          refine q_val (a' := ?_) (.bool false) rfl (fun w' _ => by go_simp) ?_ ?_
          rotate_left
          · simp only [Act.put, List.setIfInBounds_toArray, List.set_cons_zero, List.set_cons_succ]; rfl
          refine q_val (a' := ?_) (.bool true) rfl (fun w' _ => by go_simp) ?_ ?_
          rotate_left
          · simp only [Act.put, List.setIfInBounds_toArray, List.set_cons_zero, List.set_cons_succ]; rfl
          refine q_val (a' := ?_) (.bool true) rfl (fun w' _ => by go_simp) ?_ ?_
          rotate_left
          · simp only [Act.put, List.setIfInBounds_toArray, List.set_cons_zero, List.set_cons_succ]; rfl
          refine q_val (a' := ?_) _ rfl (q_ld Try.underlying23 size23 (H14.out.out (w12.heap.size, .cells #[.int .i64 p, .int .i64 q] 23 (0, 0)) (by simp)) (sz2 _ _) rfl) ?_ ?_
          rotate_left
          · simp only [Act.put, List.setIfInBounds_toArray, List.set_cons_zero, List.set_cons_succ]; rfl
          refine q_val (a' := ?_) _ rfl (q_ld Try.underlying23 size23 (H14.out.out (w.heap.size + 1, .cells #[.int .i64 p, .int .i64 q] 23 (0, 0)) (by simp)) (sz2 _ _) rfl) ?_ ?_
          rotate_left
          · simp only [Act.put, List.setIfInBounds_toArray, List.set_cons_zero, List.set_cons_succ]; rfl
          refine q_val (a' := ?_) (.bool true) rfl (fun w' _ => by go_simp) ?_ ?_
          rotate_left
          · simp only [Act.put, List.setIfInBounds_toArray, List.set_cons_zero, List.set_cons_succ]; rfl
          refine q_val (a' := ?_) (.bool true) rfl (fun w' _ => by go_simp) ?_ ?_
          rotate_left
          · simp only [Act.put, List.setIfInBounds_toArray, List.set_cons_zero, List.set_cons_succ]; rfl
          refine q_val (a' := ?_) (.bool true) rfl (fun w' _ => by go_simp) ?_ ?_
          rotate_left
          · simp only [Act.put, List.setIfInBounds_toArray, List.set_cons_zero, List.set_cons_succ]; rfl
          refine q_val (a' := ?_) (.bool true) rfl (fun w' _ => by go_simp) ?_ ?_
          rotate_left
          · simp only [Act.put, List.setIfInBounds_toArray, List.set_cons_zero, List.set_cons_succ]; rfl
          refine q_val (a' := ?_) (.bool true) rfl (fun w' _ => by go_simp) ?_ ?_
          rotate_left
          · simp only [Act.put, List.setIfInBounds_toArray, List.set_cons_zero, List.set_cons_succ]; rfl
          refine wpQuiet_nil ?_
          intro w15 hb15
          go_wp2_with fail
          go_ret
          exact ⟨rfl, chain B14.out hb15⟩
        · skip
          have HJ := Aside0.mk hjk
          clear hjk
          go_wp2_with fail
          refine q_region (by kernel_rfl) (by kernel_rfl) ?_
          refine q_val (a' := ?_) (.int .i64 j) rfl (fun w' _ => by go_simp) ?_ ?_
          rotate_left
          · simp only [Act.put, List.setIfInBounds_toArray, List.set_cons_zero, List.set_cons_succ]; rfl
          refine q_val (a' := ?_) (.int .i64 k) rfl (fun w' _ => by go_simp) ?_ ?_
          rotate_left
          · simp only [Act.put, List.setIfInBounds_toArray, List.set_cons_zero, List.set_cons_succ]; rfl
          refine q_val (a' := ?_) (.bool false) rfl (fun w' _ => by have hjk := HJ.out; go_simp) ?_ ?_
          rotate_left
          · simp only [Act.put, List.setIfInBounds_toArray, List.set_cons_zero, List.set_cons_succ]; rfl
          refine q_val (a' := ?_) (.bool false) rfl (fun w' _ => by go_simp) ?_ ?_
          rotate_left
          · simp only [Act.put, List.setIfInBounds_toArray, List.set_cons_zero, List.set_cons_succ]; rfl
          refine q_val (a' := ?_) _ rfl (q_ld Try.underlying29 size29 (H14.out.out (w3.heap.size, .cells (vec N (withS N (withS N g j s t) k p q)) 29 (0, 0)) (by simp)) (vec_size _ _) rfl) ?_ ?_
          rotate_left
          · simp only [Act.put, List.setIfInBounds_toArray, List.set_cons_zero, List.set_cons_succ]; rfl
          refine q_val (a' := ?_) _ rfl (q_ld Try.underlying29 size29 (H14.out.out (w5.heap.size, .cells (vec N (withS N (withS N g k p q) j s t)) 29 (0, 0)) (by simp)) (vec_size _ _) rfl) ?_ ?_
          rotate_left
          · simp only [Act.put, List.setIfInBounds_toArray, List.set_cons_zero, List.set_cons_succ]; rfl
          refine q_call (a' := ?_) 13 _ _ rfl (fun w' => by go_simp) (fun w' => same_any N N (withS N (withS N g j s t) k p q) (withS N (withS N g k p q) j s t) (bounded_with (bounded_with G1.out _ _ _ _) _ _ _ _) (bounded_with (bounded_with G1.out _ _ _ _) _ _ _ _) w') ?_ ?_
          rotate_left
          · simp only [Act.put, List.setIfInBounds_toArray, List.set_cons_zero, List.set_cons_succ]; rfl
          refine q_val (a' := ?_) (.bool true) rfl (fun w' _ => by have := last_swap (s := s) (t := t) (p := p) (q := q) O1.out HJ.out; go_simp) ?_ ?_
          rotate_left
          · simp only [Act.put, List.setIfInBounds_toArray, List.set_cons_zero, List.set_cons_succ]; rfl
          refine q_val (a' := ?_) (.bool true) rfl (fun w' _ => by go_simp) ?_ ?_
          rotate_left
          · simp only [Act.put, List.setIfInBounds_toArray, List.set_cons_zero, List.set_cons_succ]; rfl
          refine q_val (a' := ?_) _ rfl (q_ld Try.underlying29 size29 (H14.out.out (w7.heap.size, .cells (vec N (withoutS N (withS N g j s t) j)) 29 (0, 0)) (by simp)) (vec_size _ _) rfl) ?_ ?_
          rotate_left
          · simp only [Act.put, List.setIfInBounds_toArray, List.set_cons_zero, List.set_cons_succ]; rfl
          refine q_val (a' := ?_) _ rfl (q_ld Try.underlying29 size29 (H14.out.out (w2.heap.size, .cells (vec N g) 29 (0, 0)) (by simp)) (vec_size _ _) rfl) ?_ ?_
          rotate_left
          · simp only [Act.put, List.setIfInBounds_toArray, List.set_cons_zero, List.set_cons_succ]; rfl
          refine q_val (a' := ?_) (.int .i64 j) rfl (fun w' _ => by go_simp) ?_ ?_
          rotate_left
          · simp only [Act.put, List.setIfInBounds_toArray, List.set_cons_zero, List.set_cons_succ]; rfl
          refine q_call (a' := ?_) 16 _ _ rfl (fun w' => by go_simp) (fun w' => without_any N g j w' hN1) ?_ ?_
          rotate_left
          · simp only [Act.put, List.setIfInBounds_toArray, List.set_cons_zero, List.set_cons_succ]; rfl
          refine q_call (a' := ?_) 13 _ _ rfl (fun w' => by go_simp) (fun w' => same_any N N (withoutS N (withS N g j s t) j) (withoutS N g j) (bounded_without (bounded_with G1.out _ _ _ _) _ _) (bounded_without G1.out _ _) w') ?_ ?_
          rotate_left
          · simp only [Act.put, List.setIfInBounds_toArray, List.set_cons_zero, List.set_cons_succ]; rfl
          refine q_val (a' := ?_) (.bool true) rfl (fun w' _ => by have := last_without (j := j) (s := s) (t := t) O1.out; go_simp) ?_ ?_
          rotate_left
          · simp only [Act.put, List.setIfInBounds_toArray, List.set_cons_zero, List.set_cons_succ]; rfl
          refine q_val (a' := ?_) (.bool true) rfl (fun w' _ => by go_simp) ?_ ?_
          rotate_left
          · simp only [Act.put, List.setIfInBounds_toArray, List.set_cons_zero, List.set_cons_succ]; rfl
          refine q_val (a' := ?_) _ rfl (q_ld Try.underlying29 size29 (H14.out.out (w9.heap.size, .cells (vec N g) 29 (0, 0)) (by simp)) (vec_size _ _) rfl) ?_ ?_
          rotate_left
          · simp only [Act.put, List.setIfInBounds_toArray, List.set_cons_zero, List.set_cons_succ]; rfl
          refine q_val (a' := ?_) _ rfl (q_ld Try.underlying29 size29 (H14.out.out (w2.heap.size, .cells (vec N g) 29 (0, 0)) (by simp)) (vec_size _ _) rfl) ?_ ?_
          rotate_left
          · simp only [Act.put, List.setIfInBounds_toArray, List.set_cons_zero, List.set_cons_succ]; rfl
          refine q_call (a' := ?_) 13 _ _ rfl (fun w' => by go_simp) (fun w' => same_any N N g g G1.out G1.out w') ?_ ?_
          rotate_left
          · simp only [Act.put, List.setIfInBounds_toArray, List.set_cons_zero, List.set_cons_succ]; rfl
          refine q_val (a' := ?_) (.bool true) rfl (fun w' _ => by have := sameB_refl g; go_simp) ?_ ?_
          rotate_left
          · simp only [Act.put, List.setIfInBounds_toArray, List.set_cons_zero, List.set_cons_succ]; rfl
          refine q_val (a' := ?_) (.bool true) rfl (fun w' _ => by go_simp) ?_ ?_
          rotate_left
          · simp only [Act.put, List.setIfInBounds_toArray, List.set_cons_zero, List.set_cons_succ]; rfl
          refine q_val (a' := ?_) _ rfl (q_ld Try.underlying29 size29 (H14.out.out (w10.heap.size, .cells (vec N g) 29 (0, 0)) (by simp)) (vec_size _ _) rfl) ?_ ?_
          rotate_left
          · simp only [Act.put, List.setIfInBounds_toArray, List.set_cons_zero, List.set_cons_succ]; rfl
          refine q_val (a' := ?_) _ rfl (q_ld Try.underlying29 size29 (H14.out.out (w2.heap.size, .cells (vec N g) 29 (0, 0)) (by simp)) (vec_size _ _) rfl) ?_ ?_
          rotate_left
          · simp only [Act.put, List.setIfInBounds_toArray, List.set_cons_zero, List.set_cons_succ]; rfl
          refine q_call (a' := ?_) 13 _ _ rfl (fun w' => by go_simp) (fun w' => same_any N N g g G1.out G1.out w') ?_ ?_
          rotate_left
          · simp only [Act.put, List.setIfInBounds_toArray, List.set_cons_zero, List.set_cons_succ]; rfl
          refine q_val (a' := ?_) (.bool true) rfl (fun w' _ => by have := sameB_refl g; go_simp) ?_ ?_
          rotate_left
          · simp only [Act.put, List.setIfInBounds_toArray, List.set_cons_zero, List.set_cons_succ]; rfl
          refine q_val (a' := ?_) (.bool true) rfl (fun w' _ => by go_simp) ?_ ?_
          rotate_left
          · simp only [Act.put, List.setIfInBounds_toArray, List.set_cons_zero, List.set_cons_succ]; rfl
          refine q_val (a' := ?_) _ rfl (q_ld Try.underlying29 size29 (H14.out.out (b, .cells (vec N g) 29 (0, 0)) (by simp)) (vec_size _ _) rfl) ?_ ?_
          rotate_left
          · simp only [Act.put, List.setIfInBounds_toArray, List.set_cons_zero, List.set_cons_succ]; rfl
          refine q_val (a' := ?_) _ rfl (q_ld Try.underlying29 size29 (H14.out.out (w2.heap.size, .cells (vec N g) 29 (0, 0)) (by simp)) (vec_size _ _) rfl) ?_ ?_
          rotate_left
          · simp only [Act.put, List.setIfInBounds_toArray, List.set_cons_zero, List.set_cons_succ]; rfl
          refine q_call (a' := ?_) 13 _ _ rfl (fun w' => by go_simp) (fun w' => same_any N N g g G1.out G1.out w') ?_ ?_
          rotate_left
          · simp only [Act.put, List.setIfInBounds_toArray, List.set_cons_zero, List.set_cons_succ]; rfl
          refine q_val (a' := ?_) (.bool true) rfl (fun w' _ => by have := sameB_refl g; go_simp) ?_ ?_
          rotate_left
          · simp only [Act.put, List.setIfInBounds_toArray, List.set_cons_zero, List.set_cons_succ]; rfl
          refine q_val (a' := ?_) (.bool true) rfl (fun w' _ => by go_simp) ?_ ?_
          rotate_left
          · simp only [Act.put, List.setIfInBounds_toArray, List.set_cons_zero, List.set_cons_succ]; rfl
          refine q_val (a' := ?_) (.bool true) rfl (fun w' _ => by go_simp) ?_ ?_
          rotate_left
          · simp only [Act.put, List.setIfInBounds_toArray, List.set_cons_zero, List.set_cons_succ]; rfl
          refine q_val (a' := ?_) (.bool false) rfl (fun w' _ => by go_simp) ?_ ?_
          rotate_left
          · simp only [Act.put, List.setIfInBounds_toArray, List.set_cons_zero, List.set_cons_succ]; rfl
          refine q_val (a' := ?_) (.bool false) rfl (fun w' _ => by go_simp) ?_ ?_
          rotate_left
          · simp only [Act.put, List.setIfInBounds_toArray, List.set_cons_zero, List.set_cons_succ]; rfl
          refine q_val (a' := ?_) (.bool true) rfl (fun w' _ => by go_simp) ?_ ?_
          rotate_left
          · simp only [Act.put, List.setIfInBounds_toArray, List.set_cons_zero, List.set_cons_succ]; rfl
          refine q_val (a' := ?_) (.bool true) rfl (fun w' _ => by go_simp) ?_ ?_
          rotate_left
          · simp only [Act.put, List.setIfInBounds_toArray, List.set_cons_zero, List.set_cons_succ]; rfl
          refine q_val (a' := ?_) _ rfl (q_ld Try.underlying23 size23 (H14.out.out (w12.heap.size, .cells #[.int .i64 p, .int .i64 q] 23 (0, 0)) (by simp)) (sz2 _ _) rfl) ?_ ?_
          rotate_left
          · simp only [Act.put, List.setIfInBounds_toArray, List.set_cons_zero, List.set_cons_succ]; rfl
          refine q_val (a' := ?_) _ rfl (q_ld Try.underlying23 size23 (H14.out.out (w.heap.size + 1, .cells #[.int .i64 p, .int .i64 q] 23 (0, 0)) (by simp)) (sz2 _ _) rfl) ?_ ?_
          rotate_left
          · simp only [Act.put, List.setIfInBounds_toArray, List.set_cons_zero, List.set_cons_succ]; rfl
          refine q_val (a' := ?_) (.bool true) rfl (fun w' _ => by go_simp) ?_ ?_
          rotate_left
          · simp only [Act.put, List.setIfInBounds_toArray, List.set_cons_zero, List.set_cons_succ]; rfl
          refine q_val (a' := ?_) (.bool true) rfl (fun w' _ => by go_simp) ?_ ?_
          rotate_left
          · simp only [Act.put, List.setIfInBounds_toArray, List.set_cons_zero, List.set_cons_succ]; rfl
          refine q_val (a' := ?_) (.bool true) rfl (fun w' _ => by go_simp) ?_ ?_
          rotate_left
          · simp only [Act.put, List.setIfInBounds_toArray, List.set_cons_zero, List.set_cons_succ]; rfl
          refine q_val (a' := ?_) (.bool true) rfl (fun w' _ => by go_simp) ?_ ?_
          rotate_left
          · simp only [Act.put, List.setIfInBounds_toArray, List.set_cons_zero, List.set_cons_succ]; rfl
          refine q_val (a' := ?_) (.bool true) rfl (fun w' _ => by go_simp) ?_ ?_
          rotate_left
          · simp only [Act.put, List.setIfInBounds_toArray, List.set_cons_zero, List.set_cons_succ]; rfl
          refine wpQuiet_nil ?_
          intro w15 hb15
          go_wp2_with fail
          go_ret
          exact ⟨rfl, chain B14.out hb15⟩
      · skip
        by_cases hjk : j = k
        · skip
          have HJ := Aside0.mk hjk
          clear hjk
          go_wp2_with fail
          refine q_region (by kernel_rfl) (by kernel_rfl) ?_
          refine q_val (a' := ?_) (.int .i64 j) rfl (fun w' _ => by go_simp) ?_ ?_
          rotate_left
          · simp only [Act.put, List.setIfInBounds_toArray, List.set_cons_zero, List.set_cons_succ]; rfl
          refine q_val (a' := ?_) (.int .i64 k) rfl (fun w' _ => by go_simp) ?_ ?_
          rotate_left
          · simp only [Act.put, List.setIfInBounds_toArray, List.set_cons_zero, List.set_cons_succ]; rfl
          refine q_val (a' := ?_) (.bool true) rfl (fun w' _ => by have hjk := HJ.out; go_simp) ?_ ?_
          rotate_left
          · simp only [Act.put, List.setIfInBounds_toArray, List.set_cons_zero, List.set_cons_succ]; rfl
          refine q_val (a' := ?_) (.bool true) rfl (fun w' _ => by go_simp) ?_ ?_
          rotate_left
          · simp only [Act.put, List.setIfInBounds_toArray, List.set_cons_zero, List.set_cons_succ]; rfl
          refine q_skip (a' := ?_) rfl ?_ ?_
          rotate_left
          · simp only [Act.put, List.setIfInBounds_toArray, List.set_cons_zero, List.set_cons_succ]; rfl
          refine q_skip (a' := ?_) rfl ?_ ?_
          rotate_left
          · simp only [Act.put, List.setIfInBounds_toArray, List.set_cons_zero, List.set_cons_succ]; rfl
          refine q_skip (a' := ?_) rfl ?_ ?_
          rotate_left
          · simp only [Act.put, List.setIfInBounds_toArray, List.set_cons_zero, List.set_cons_succ]; rfl
          refine q_val (a' := ?_) (.bool true) rfl (fun w' _ => by go_simp) ?_ ?_
          rotate_left
          · simp only [Act.put, List.setIfInBounds_toArray, List.set_cons_zero, List.set_cons_succ]; rfl
          refine q_val (a' := ?_) (.bool true) rfl (fun w' _ => by go_simp) ?_ ?_
          rotate_left
          · simp only [Act.put, List.setIfInBounds_toArray, List.set_cons_zero, List.set_cons_succ]; rfl
          refine q_val (a' := ?_) _ rfl (q_ld Try.underlying29 size29 (H14.out.out (w7.heap.size, .cells (vec N (withoutS N (withS N g j s t) j)) 29 (0, 0)) (by simp)) (vec_size _ _) rfl) ?_ ?_
          rotate_left
          · simp only [Act.put, List.setIfInBounds_toArray, List.set_cons_zero, List.set_cons_succ]; rfl
          refine q_val (a' := ?_) _ rfl (q_ld Try.underlying29 size29 (H14.out.out (w2.heap.size, .cells (vec N g) 29 (0, 0)) (by simp)) (vec_size _ _) rfl) ?_ ?_
          rotate_left
          · simp only [Act.put, List.setIfInBounds_toArray, List.set_cons_zero, List.set_cons_succ]; rfl
          refine q_val (a' := ?_) (.int .i64 j) rfl (fun w' _ => by go_simp) ?_ ?_
          rotate_left
          · simp only [Act.put, List.setIfInBounds_toArray, List.set_cons_zero, List.set_cons_succ]; rfl
          refine q_call (a' := ?_) 16 _ _ rfl (fun w' => by go_simp) (fun w' => without_any N g j w' hN1) ?_ ?_
          rotate_left
          · simp only [Act.put, List.setIfInBounds_toArray, List.set_cons_zero, List.set_cons_succ]; rfl
          refine q_call (a' := ?_) 13 _ _ rfl (fun w' => by go_simp) (fun w' => same_any N N (withoutS N (withS N g j s t) j) (withoutS N g j) (bounded_without (bounded_with G1.out _ _ _ _) _ _) (bounded_without G1.out _ _) w') ?_ ?_
          rotate_left
          · simp only [Act.put, List.setIfInBounds_toArray, List.set_cons_zero, List.set_cons_succ]; rfl
          refine q_val (a' := ?_) (.bool true) rfl (fun w' _ => by have := last_without (j := j) (s := s) (t := t) O1.out; go_simp) ?_ ?_
          rotate_left
          · simp only [Act.put, List.setIfInBounds_toArray, List.set_cons_zero, List.set_cons_succ]; rfl
          refine q_val (a' := ?_) (.bool true) rfl (fun w' _ => by go_simp) ?_ ?_
          rotate_left
          · simp only [Act.put, List.setIfInBounds_toArray, List.set_cons_zero, List.set_cons_succ]; rfl
          refine q_val (a' := ?_) _ rfl (q_ld Try.underlying29 size29 (H14.out.out (w9.heap.size, .cells (vec N g) 29 (0, 0)) (by simp)) (vec_size _ _) rfl) ?_ ?_
          rotate_left
          · simp only [Act.put, List.setIfInBounds_toArray, List.set_cons_zero, List.set_cons_succ]; rfl
          refine q_val (a' := ?_) _ rfl (q_ld Try.underlying29 size29 (H14.out.out (w2.heap.size, .cells (vec N g) 29 (0, 0)) (by simp)) (vec_size _ _) rfl) ?_ ?_
          rotate_left
          · simp only [Act.put, List.setIfInBounds_toArray, List.set_cons_zero, List.set_cons_succ]; rfl
          refine q_call (a' := ?_) 13 _ _ rfl (fun w' => by go_simp) (fun w' => same_any N N g g G1.out G1.out w') ?_ ?_
          rotate_left
          · simp only [Act.put, List.setIfInBounds_toArray, List.set_cons_zero, List.set_cons_succ]; rfl
          refine q_val (a' := ?_) (.bool true) rfl (fun w' _ => by have := sameB_refl g; go_simp) ?_ ?_
          rotate_left
          · simp only [Act.put, List.setIfInBounds_toArray, List.set_cons_zero, List.set_cons_succ]; rfl
          refine q_val (a' := ?_) (.bool true) rfl (fun w' _ => by go_simp) ?_ ?_
          rotate_left
          · simp only [Act.put, List.setIfInBounds_toArray, List.set_cons_zero, List.set_cons_succ]; rfl
          refine q_val (a' := ?_) _ rfl (q_ld Try.underlying29 size29 (H14.out.out (w10.heap.size, .cells (vec N g) 29 (0, 0)) (by simp)) (vec_size _ _) rfl) ?_ ?_
          rotate_left
          · simp only [Act.put, List.setIfInBounds_toArray, List.set_cons_zero, List.set_cons_succ]; rfl
          refine q_val (a' := ?_) _ rfl (q_ld Try.underlying29 size29 (H14.out.out (w2.heap.size, .cells (vec N g) 29 (0, 0)) (by simp)) (vec_size _ _) rfl) ?_ ?_
          rotate_left
          · simp only [Act.put, List.setIfInBounds_toArray, List.set_cons_zero, List.set_cons_succ]; rfl
          refine q_call (a' := ?_) 13 _ _ rfl (fun w' => by go_simp) (fun w' => same_any N N g g G1.out G1.out w') ?_ ?_
          rotate_left
          · simp only [Act.put, List.setIfInBounds_toArray, List.set_cons_zero, List.set_cons_succ]; rfl
          refine q_val (a' := ?_) (.bool true) rfl (fun w' _ => by have := sameB_refl g; go_simp) ?_ ?_
          rotate_left
          · simp only [Act.put, List.setIfInBounds_toArray, List.set_cons_zero, List.set_cons_succ]; rfl
          refine q_val (a' := ?_) (.bool true) rfl (fun w' _ => by go_simp) ?_ ?_
          rotate_left
          · simp only [Act.put, List.setIfInBounds_toArray, List.set_cons_zero, List.set_cons_succ]; rfl
          refine q_val (a' := ?_) _ rfl (q_ld Try.underlying29 size29 (H14.out.out (b, .cells (vec N g) 29 (0, 0)) (by simp)) (vec_size _ _) rfl) ?_ ?_
          rotate_left
          · simp only [Act.put, List.setIfInBounds_toArray, List.set_cons_zero, List.set_cons_succ]; rfl
          refine q_val (a' := ?_) _ rfl (q_ld Try.underlying29 size29 (H14.out.out (w2.heap.size, .cells (vec N g) 29 (0, 0)) (by simp)) (vec_size _ _) rfl) ?_ ?_
          rotate_left
          · simp only [Act.put, List.setIfInBounds_toArray, List.set_cons_zero, List.set_cons_succ]; rfl
          refine q_call (a' := ?_) 13 _ _ rfl (fun w' => by go_simp) (fun w' => same_any N N g g G1.out G1.out w') ?_ ?_
          rotate_left
          · simp only [Act.put, List.setIfInBounds_toArray, List.set_cons_zero, List.set_cons_succ]; rfl
          refine q_val (a' := ?_) (.bool true) rfl (fun w' _ => by have := sameB_refl g; go_simp) ?_ ?_
          rotate_left
          · simp only [Act.put, List.setIfInBounds_toArray, List.set_cons_zero, List.set_cons_succ]; rfl
          refine q_val (a' := ?_) (.bool true) rfl (fun w' _ => by go_simp) ?_ ?_
          rotate_left
          · simp only [Act.put, List.setIfInBounds_toArray, List.set_cons_zero, List.set_cons_succ]; rfl
          refine q_val (a' := ?_) (.bool false) rfl (fun w' _ => by go_simp) ?_ ?_
          rotate_left
          · simp only [Act.put, List.setIfInBounds_toArray, List.set_cons_zero, List.set_cons_succ]; rfl
          refine q_val (a' := ?_) (.bool true) rfl (fun w' _ => by go_simp) ?_ ?_
          rotate_left
          · simp only [Act.put, List.setIfInBounds_toArray, List.set_cons_zero, List.set_cons_succ]; rfl
          refine q_val (a' := ?_) (.bool true) rfl (fun w' _ => by go_simp) ?_ ?_
          rotate_left
          · simp only [Act.put, List.setIfInBounds_toArray, List.set_cons_zero, List.set_cons_succ]; rfl
          refine q_skip (a' := ?_) rfl ?_ ?_
          rotate_left
          · simp only [Act.put, List.setIfInBounds_toArray, List.set_cons_zero, List.set_cons_succ]; rfl
          refine q_skip (a' := ?_) rfl ?_ ?_
          rotate_left
          · simp only [Act.put, List.setIfInBounds_toArray, List.set_cons_zero, List.set_cons_succ]; rfl
          refine q_skip (a' := ?_) rfl ?_ ?_
          rotate_left
          · simp only [Act.put, List.setIfInBounds_toArray, List.set_cons_zero, List.set_cons_succ]; rfl
          refine q_skip (a' := ?_) rfl ?_ ?_
          rotate_left
          · simp only [Act.put, List.setIfInBounds_toArray, List.set_cons_zero, List.set_cons_succ]; rfl
          refine q_skip (a' := ?_) rfl ?_ ?_
          rotate_left
          · simp only [Act.put, List.setIfInBounds_toArray, List.set_cons_zero, List.set_cons_succ]; rfl
          refine q_skip (a' := ?_) rfl ?_ ?_
          rotate_left
          · simp only [Act.put, List.setIfInBounds_toArray, List.set_cons_zero, List.set_cons_succ]; rfl
          refine q_val (a' := ?_) (.bool true) rfl (fun w' _ => by go_simp) ?_ ?_
          rotate_left
          · simp only [Act.put, List.setIfInBounds_toArray, List.set_cons_zero, List.set_cons_succ]; rfl
          refine q_val (a' := ?_) (.bool true) rfl (fun w' _ => by go_simp) ?_ ?_
          rotate_left
          · simp only [Act.put, List.setIfInBounds_toArray, List.set_cons_zero, List.set_cons_succ]; rfl
          refine q_val (a' := ?_) (.bool true) rfl (fun w' _ => by go_simp) ?_ ?_
          rotate_left
          · simp only [Act.put, List.setIfInBounds_toArray, List.set_cons_zero, List.set_cons_succ]; rfl
          refine wpQuiet_nil ?_
          intro w15 hb15
          go_wp2_with fail
          go_ret
          exact ⟨rfl, chain B14.out hb15⟩
        · skip
          have HJ := Aside0.mk hjk
          clear hjk
          go_wp2_with fail
          refine q_region (by kernel_rfl) (by kernel_rfl) ?_
          refine q_val (a' := ?_) (.int .i64 j) rfl (fun w' _ => by go_simp) ?_ ?_
          rotate_left
          · simp only [Act.put, List.setIfInBounds_toArray, List.set_cons_zero, List.set_cons_succ]; rfl
          refine q_val (a' := ?_) (.int .i64 k) rfl (fun w' _ => by go_simp) ?_ ?_
          rotate_left
          · simp only [Act.put, List.setIfInBounds_toArray, List.set_cons_zero, List.set_cons_succ]; rfl
          refine q_val (a' := ?_) (.bool false) rfl (fun w' _ => by have hjk := HJ.out; go_simp) ?_ ?_
          rotate_left
          · simp only [Act.put, List.setIfInBounds_toArray, List.set_cons_zero, List.set_cons_succ]; rfl
          refine q_val (a' := ?_) (.bool false) rfl (fun w' _ => by go_simp) ?_ ?_
          rotate_left
          · simp only [Act.put, List.setIfInBounds_toArray, List.set_cons_zero, List.set_cons_succ]; rfl
          refine q_val (a' := ?_) _ rfl (q_ld Try.underlying29 size29 (H14.out.out (w3.heap.size, .cells (vec N (withS N (withS N g j s t) k p q)) 29 (0, 0)) (by simp)) (vec_size _ _) rfl) ?_ ?_
          rotate_left
          · simp only [Act.put, List.setIfInBounds_toArray, List.set_cons_zero, List.set_cons_succ]; rfl
          refine q_val (a' := ?_) _ rfl (q_ld Try.underlying29 size29 (H14.out.out (w5.heap.size, .cells (vec N (withS N (withS N g k p q) j s t)) 29 (0, 0)) (by simp)) (vec_size _ _) rfl) ?_ ?_
          rotate_left
          · simp only [Act.put, List.setIfInBounds_toArray, List.set_cons_zero, List.set_cons_succ]; rfl
          refine q_call (a' := ?_) 13 _ _ rfl (fun w' => by go_simp) (fun w' => same_any N N (withS N (withS N g j s t) k p q) (withS N (withS N g k p q) j s t) (bounded_with (bounded_with G1.out _ _ _ _) _ _ _ _) (bounded_with (bounded_with G1.out _ _ _ _) _ _ _ _) w') ?_ ?_
          rotate_left
          · simp only [Act.put, List.setIfInBounds_toArray, List.set_cons_zero, List.set_cons_succ]; rfl
          refine q_val (a' := ?_) (.bool true) rfl (fun w' _ => by have := last_swap (s := s) (t := t) (p := p) (q := q) O1.out HJ.out; go_simp) ?_ ?_
          rotate_left
          · simp only [Act.put, List.setIfInBounds_toArray, List.set_cons_zero, List.set_cons_succ]; rfl
          refine q_val (a' := ?_) (.bool true) rfl (fun w' _ => by go_simp) ?_ ?_
          rotate_left
          · simp only [Act.put, List.setIfInBounds_toArray, List.set_cons_zero, List.set_cons_succ]; rfl
          refine q_val (a' := ?_) _ rfl (q_ld Try.underlying29 size29 (H14.out.out (w7.heap.size, .cells (vec N (withoutS N (withS N g j s t) j)) 29 (0, 0)) (by simp)) (vec_size _ _) rfl) ?_ ?_
          rotate_left
          · simp only [Act.put, List.setIfInBounds_toArray, List.set_cons_zero, List.set_cons_succ]; rfl
          refine q_val (a' := ?_) _ rfl (q_ld Try.underlying29 size29 (H14.out.out (w2.heap.size, .cells (vec N g) 29 (0, 0)) (by simp)) (vec_size _ _) rfl) ?_ ?_
          rotate_left
          · simp only [Act.put, List.setIfInBounds_toArray, List.set_cons_zero, List.set_cons_succ]; rfl
          refine q_val (a' := ?_) (.int .i64 j) rfl (fun w' _ => by go_simp) ?_ ?_
          rotate_left
          · simp only [Act.put, List.setIfInBounds_toArray, List.set_cons_zero, List.set_cons_succ]; rfl
          refine q_call (a' := ?_) 16 _ _ rfl (fun w' => by go_simp) (fun w' => without_any N g j w' hN1) ?_ ?_
          rotate_left
          · simp only [Act.put, List.setIfInBounds_toArray, List.set_cons_zero, List.set_cons_succ]; rfl
          refine q_call (a' := ?_) 13 _ _ rfl (fun w' => by go_simp) (fun w' => same_any N N (withoutS N (withS N g j s t) j) (withoutS N g j) (bounded_without (bounded_with G1.out _ _ _ _) _ _) (bounded_without G1.out _ _) w') ?_ ?_
          rotate_left
          · simp only [Act.put, List.setIfInBounds_toArray, List.set_cons_zero, List.set_cons_succ]; rfl
          refine q_val (a' := ?_) (.bool true) rfl (fun w' _ => by have := last_without (j := j) (s := s) (t := t) O1.out; go_simp) ?_ ?_
          rotate_left
          · simp only [Act.put, List.setIfInBounds_toArray, List.set_cons_zero, List.set_cons_succ]; rfl
          refine q_val (a' := ?_) (.bool true) rfl (fun w' _ => by go_simp) ?_ ?_
          rotate_left
          · simp only [Act.put, List.setIfInBounds_toArray, List.set_cons_zero, List.set_cons_succ]; rfl
          refine q_val (a' := ?_) _ rfl (q_ld Try.underlying29 size29 (H14.out.out (w9.heap.size, .cells (vec N g) 29 (0, 0)) (by simp)) (vec_size _ _) rfl) ?_ ?_
          rotate_left
          · simp only [Act.put, List.setIfInBounds_toArray, List.set_cons_zero, List.set_cons_succ]; rfl
          refine q_val (a' := ?_) _ rfl (q_ld Try.underlying29 size29 (H14.out.out (w2.heap.size, .cells (vec N g) 29 (0, 0)) (by simp)) (vec_size _ _) rfl) ?_ ?_
          rotate_left
          · simp only [Act.put, List.setIfInBounds_toArray, List.set_cons_zero, List.set_cons_succ]; rfl
          refine q_call (a' := ?_) 13 _ _ rfl (fun w' => by go_simp) (fun w' => same_any N N g g G1.out G1.out w') ?_ ?_
          rotate_left
          · simp only [Act.put, List.setIfInBounds_toArray, List.set_cons_zero, List.set_cons_succ]; rfl
          refine q_val (a' := ?_) (.bool true) rfl (fun w' _ => by have := sameB_refl g; go_simp) ?_ ?_
          rotate_left
          · simp only [Act.put, List.setIfInBounds_toArray, List.set_cons_zero, List.set_cons_succ]; rfl
          refine q_val (a' := ?_) (.bool true) rfl (fun w' _ => by go_simp) ?_ ?_
          rotate_left
          · simp only [Act.put, List.setIfInBounds_toArray, List.set_cons_zero, List.set_cons_succ]; rfl
          refine q_val (a' := ?_) _ rfl (q_ld Try.underlying29 size29 (H14.out.out (w10.heap.size, .cells (vec N g) 29 (0, 0)) (by simp)) (vec_size _ _) rfl) ?_ ?_
          rotate_left
          · simp only [Act.put, List.setIfInBounds_toArray, List.set_cons_zero, List.set_cons_succ]; rfl
          refine q_val (a' := ?_) _ rfl (q_ld Try.underlying29 size29 (H14.out.out (w2.heap.size, .cells (vec N g) 29 (0, 0)) (by simp)) (vec_size _ _) rfl) ?_ ?_
          rotate_left
          · simp only [Act.put, List.setIfInBounds_toArray, List.set_cons_zero, List.set_cons_succ]; rfl
          refine q_call (a' := ?_) 13 _ _ rfl (fun w' => by go_simp) (fun w' => same_any N N g g G1.out G1.out w') ?_ ?_
          rotate_left
          · simp only [Act.put, List.setIfInBounds_toArray, List.set_cons_zero, List.set_cons_succ]; rfl
          refine q_val (a' := ?_) (.bool true) rfl (fun w' _ => by have := sameB_refl g; go_simp) ?_ ?_
          rotate_left
          · simp only [Act.put, List.setIfInBounds_toArray, List.set_cons_zero, List.set_cons_succ]; rfl
          refine q_val (a' := ?_) (.bool true) rfl (fun w' _ => by go_simp) ?_ ?_
          rotate_left
          · simp only [Act.put, List.setIfInBounds_toArray, List.set_cons_zero, List.set_cons_succ]; rfl
          refine q_val (a' := ?_) _ rfl (q_ld Try.underlying29 size29 (H14.out.out (b, .cells (vec N g) 29 (0, 0)) (by simp)) (vec_size _ _) rfl) ?_ ?_
          rotate_left
          · simp only [Act.put, List.setIfInBounds_toArray, List.set_cons_zero, List.set_cons_succ]; rfl
          refine q_val (a' := ?_) _ rfl (q_ld Try.underlying29 size29 (H14.out.out (w2.heap.size, .cells (vec N g) 29 (0, 0)) (by simp)) (vec_size _ _) rfl) ?_ ?_
          rotate_left
          · simp only [Act.put, List.setIfInBounds_toArray, List.set_cons_zero, List.set_cons_succ]; rfl
          refine q_call (a' := ?_) 13 _ _ rfl (fun w' => by go_simp) (fun w' => same_any N N g g G1.out G1.out w') ?_ ?_
          rotate_left
          · simp only [Act.put, List.setIfInBounds_toArray, List.set_cons_zero, List.set_cons_succ]; rfl
          refine q_val (a' := ?_) (.bool true) rfl (fun w' _ => by have := sameB_refl g; go_simp) ?_ ?_
          rotate_left
          · simp only [Act.put, List.setIfInBounds_toArray, List.set_cons_zero, List.set_cons_succ]; rfl
          refine q_val (a' := ?_) (.bool true) rfl (fun w' _ => by go_simp) ?_ ?_
          rotate_left
          · simp only [Act.put, List.setIfInBounds_toArray, List.set_cons_zero, List.set_cons_succ]; rfl
          refine q_val (a' := ?_) (.bool false) rfl (fun w' _ => by go_simp) ?_ ?_
          rotate_left
          · simp only [Act.put, List.setIfInBounds_toArray, List.set_cons_zero, List.set_cons_succ]; rfl
          refine q_val (a' := ?_) (.bool true) rfl (fun w' _ => by go_simp) ?_ ?_
          rotate_left
          · simp only [Act.put, List.setIfInBounds_toArray, List.set_cons_zero, List.set_cons_succ]; rfl
          refine q_val (a' := ?_) (.bool true) rfl (fun w' _ => by go_simp) ?_ ?_
          rotate_left
          · simp only [Act.put, List.setIfInBounds_toArray, List.set_cons_zero, List.set_cons_succ]; rfl
          refine q_skip (a' := ?_) rfl ?_ ?_
          rotate_left
          · simp only [Act.put, List.setIfInBounds_toArray, List.set_cons_zero, List.set_cons_succ]; rfl
          refine q_skip (a' := ?_) rfl ?_ ?_
          rotate_left
          · simp only [Act.put, List.setIfInBounds_toArray, List.set_cons_zero, List.set_cons_succ]; rfl
          refine q_skip (a' := ?_) rfl ?_ ?_
          rotate_left
          · simp only [Act.put, List.setIfInBounds_toArray, List.set_cons_zero, List.set_cons_succ]; rfl
          refine q_skip (a' := ?_) rfl ?_ ?_
          rotate_left
          · simp only [Act.put, List.setIfInBounds_toArray, List.set_cons_zero, List.set_cons_succ]; rfl
          refine q_skip (a' := ?_) rfl ?_ ?_
          rotate_left
          · simp only [Act.put, List.setIfInBounds_toArray, List.set_cons_zero, List.set_cons_succ]; rfl
          refine q_skip (a' := ?_) rfl ?_ ?_
          rotate_left
          · simp only [Act.put, List.setIfInBounds_toArray, List.set_cons_zero, List.set_cons_succ]; rfl
          refine q_val (a' := ?_) (.bool true) rfl (fun w' _ => by go_simp) ?_ ?_
          rotate_left
          · simp only [Act.put, List.setIfInBounds_toArray, List.set_cons_zero, List.set_cons_succ]; rfl
          refine q_val (a' := ?_) (.bool true) rfl (fun w' _ => by go_simp) ?_ ?_
          rotate_left
          · simp only [Act.put, List.setIfInBounds_toArray, List.set_cons_zero, List.set_cons_succ]; rfl
          refine q_val (a' := ?_) (.bool true) rfl (fun w' _ => by go_simp) ?_ ?_
          rotate_left
          · simp only [Act.put, List.setIfInBounds_toArray, List.set_cons_zero, List.set_cons_succ]; rfl
          refine wpQuiet_nil ?_
          intro w15 hb15
          go_wp2_with fail
          go_ret
          exact ⟨rfl, chain B14.out hb15⟩
end Go.Proofs.Ythjakmdflpkjkaa
