/- The walk of 'is': a vector tells what the reference's tells. -/
import Derived.Test.YthjakmdflpkjkaaT13
namespace Go.Proofs.Ythjakmdflpkjkaa
open Go.RowKit Go.Proofs.YthjakmdflpkjkaaW.PrintWords PCapsSame

/-- The reference's vector's list, read. -/
structure Ref (w : World) (A : Option Addr) (n c : Nat) (l : List S58) : Prop where
  len : n = l.length
  cap : l.length ≤ c
  row : Kd.C k58 w A l.length l
theorem Ref.bel {w w1 : World} {A : Option Addr} {n c : Nat} {l : List S58} (h : Ref w A n c l) (hb : Below w.heap.size w w1) : Ref w1 A n c l := ⟨h.len, h.cap, Kd.C_below h.row hb⟩
theorem Ref.up {w : World} {A : Option Addr} {n c : Nat} {l : List S58} (h : Ref w A n c l) (o : Obj) : Ref (w.alloc o) A n c l := h.bel (below_alloc (Below.refl _ w) o)

theorem spanRef_any {N : Int} {g : Spans} {l : List S58} {A : Option Addr} {n c : Nat} {w : World} (hr : Rel N g l) (hl : l.length < 1000) (h : Ref w A n c l) (k : Int) :
    Calls Try.prog 23 #[.agg #[.int .i64 N, .slice A n c], .int .i64 k] w fun e w' => e = .returned (.tuple #[.agg #[.int .i64 (toS (spanAt N g k)).f0, .int .i64 (toS (spanAt N g k)).f1], .bool (spanAt N g k).isSome]) ∧ Below w.heap.size w w' := by
  obtain ⟨rfl, hc, hC⟩ := h
  exact lurcherref16_Vector_Span.calls 3000 N A c l k _ _ _ w hC hc (spanR_rel hr hl k 3000 (by omega))

set_option maxRecDepth 100000 in
set_option maxHeartbeats 6400000 in
theorem is_any (N : Int) (g : Spans) (l : List S58) (A : Option Addr) (lenA c : Nat) (other : Int) (w : World) (hN0 : 0 ≤ N) (hN1 : N ≤ 60) (hG1 : Bounded g) (hr : Rel N g l) (hl : l.length < 1000) (hA : Ref w A lenA c l) :
    Calls Try.prog 15 #[.agg (vec N g), .agg #[.int .i64 N, .slice A lenA c], .int .i64 other] w fun e w' => e = .returned (.bool true) ∧ Below w.heap.size w w' := by
  have E := Aside0.mk (And.intro hr hl)
  have V0 := Aside0.mk (hup (.cells #[.int .i64 N, .slice A lenA c] 40) (heap_at w (.cells (vec N g) 29) rfl))
  have Q0 := Aside0.mk (heap_at (w.alloc (.cells (vec N g) 29)) (.cells #[.int .i64 N, .slice A lenA c] 40) (j := w.heap.size + 1) (by simp))
  have A0 := Aside0.mk ((hA.up (.cells (vec N g) 29)).up (.cells #[.int .i64 N, .slice A lenA c] 40))
  have B0 := Aside0.mk (below_alloc (below_alloc (Below.refl _ w) (.cells (vec N g) 29)) (.cells #[.int .i64 N, .slice A lenA c] 40))
  have Z0 : ((w.alloc (.cells (vec N g) 29)).alloc (.cells #[.int .i64 N, .slice A lenA c] 40)).heap.size = w.heap.size + 2 := by simp
  obtain ⟨n, rfl⟩ : ∃ n : Nat, N = (n : Int) := ⟨N.toNat, by omega⟩
  clear hA hr hl
  go_enter Try.func15, Try.ntmps15
  go_wp2_with (first | ((with_reducible refine op_loadg (g := w.heap.size) (t := 29) V0.out (vec_size _ _) ?_ ?_ ?_); (next => rfl); (next => rfl)))
  refine (spans_any n g hN0 hN1 hG1 _).mono ?_
  rintro e w1 ⟨v, rfl, hR1, hb1⟩
  have V1 := Aside0.mk (hbel hb1 V0.out)
  have Q1 := Aside0.mk (hbel hb1 Q0.out)
  have A1 := Aside0.mk (A0.out.bel hb1)
  have B1 := Aside0.mk (chain B0.out hb1)
  rw [Int.toNat_natCast] at hR1
  obtain ⟨A3, c3, rfl⟩ := Kd.R_slice hR1
  rw [spanL_length] at hR1 ⊢
  have L1 := Aside0.mk (rowAt_of (B := w.heap.size + 2) hR1 (by omega))
  clear hR1 hb1 V0 Q0 A0 B0 Z0
  go_wp2_with fail
  have hce : decide ((n : Int) = (n : Int)) = true := by simp
  refine q_region (by kernel_rfl) (by kernel_rfl) ?_
  refine q_val (a' := ?_) _ rfl (q_ld Try.underlying29 size29 V1.out (vec_size _ _) rfl) ?_ ?_
  rotate_left
  · simp only [Act.put, List.setIfInBounds_toArray, List.set_cons_zero, List.set_cons_succ]; rfl
  refine q_call (a' := ?_) 12 _ _ rfl (fun w' => by go_simp) (fun w' => groups_any n g w') ?_ ?_
  rotate_left
  · simp only [Act.put, List.setIfInBounds_toArray, List.set_cons_zero, List.set_cons_succ]; rfl
  refine q_val (a' := ?_) (.pointer (some ⟨w.heap.size + 1, 0, none⟩)) rfl (fun w' _ => by go_simp) ?_ ?_
  rotate_left
  · simp only [Act.put, List.setIfInBounds_toArray, List.set_cons_zero, List.set_cons_succ]; rfl
  refine q_val (a' := ?_) (.int .i64 (n : Int)) rfl (fun w' hb => by have c0 : w'.cell? ⟨w.heap.size + 1, 0, none⟩ = some (.int .i64 (n : Int)) := cell_of_row w' _ 0 _ _ _ (hbel hb Q1.out); go_simp) ?_ ?_
  rotate_left
  · simp only [Act.put, List.setIfInBounds_toArray, List.set_cons_zero, List.set_cons_succ]; rfl
  refine q_val (a' := ?_) (.bool false) rfl (fun w' _ => by go_simp) ?_ ?_
  rotate_left
  · simp only [Act.put, List.setIfInBounds_toArray, List.set_cons_zero, List.set_cons_succ]; rfl
  refine q_val (a' := ?_) (.bool false) rfl (fun w' _ => by go_simp) ?_ ?_
  rotate_left
  · simp only [Act.put, List.setIfInBounds_toArray, List.set_cons_zero, List.set_cons_succ]; rfl
  refine q_val (a' := ?_) (.slice A3 n c3) rfl (fun w' _ => by go_simp) ?_ ?_
  rotate_left
  · simp only [Act.put, List.setIfInBounds_toArray, List.set_cons_zero, List.set_cons_succ]; rfl
  refine q_val (a' := ?_) (.int .i64 (n : Int)) rfl (fun w' _ => by go_simp) ?_ ?_
  rotate_left
  · simp only [Act.put, List.setIfInBounds_toArray, List.set_cons_zero, List.set_cons_succ]; rfl
  refine q_val (a' := ?_) (.pointer (some ⟨w.heap.size + 1, 0, none⟩)) rfl (fun w' _ => by go_simp) ?_ ?_
  rotate_left
  · simp only [Act.put, List.setIfInBounds_toArray, List.set_cons_zero, List.set_cons_succ]; rfl
  refine q_val (a' := ?_) (.int .i64 (n : Int)) rfl (fun w' hb => by have c0 : w'.cell? ⟨w.heap.size + 1, 0, none⟩ = some (.int .i64 (n : Int)) := cell_of_row w' _ 0 _ _ _ (hbel hb Q1.out); go_simp) ?_ ?_
  rotate_left
  · simp only [Act.put, List.setIfInBounds_toArray, List.set_cons_zero, List.set_cons_succ]; rfl
  refine q_val (a' := ?_) (.bool false) rfl (fun w' _ => by go_simp) ?_ ?_
  rotate_left
  · simp only [Act.put, List.setIfInBounds_toArray, List.set_cons_zero, List.set_cons_succ]; rfl
  refine q_val (a' := ?_) (.bool false) rfl (fun w' _ => by go_simp) ?_ ?_
  rotate_left
  · simp only [Act.put, List.setIfInBounds_toArray, List.set_cons_zero, List.set_cons_succ]; rfl
  refine wpQuiet_nil ?_
  intro w2 hb2
  have V2 := Aside0.mk (hbel hb2 V1.out)
  have Q2 := Aside0.mk (hbel hb2 Q1.out)
  have A2 := Aside0.mk (A1.out.bel hb2)
  have B2 := Aside0.mk (chain B1.out hb2)
  have L2 := Aside0.mk (L1.out.below hb2)
  clear hb2 V1 Q1 A1 B1 L1
  go_wp2_with fail
  go_loopw [8] (fun i wr => ∃ k : Nat, k ≤ n ∧ i = .int .i64 ((k : Int) + 1) ∧ Aside0 (RowAt wr A3 (w.heap.size + 2) 0 n g) ∧ Aside0 (wr.heap[w.heap.size]? = some (.cells (vec n g) 29 (0, 0))) ∧ Aside0 (wr.heap[w.heap.size + 1]? = some (.cells #[.int .i64 (n : Int), .slice A lenA c] 40 (0, 0))) ∧ Aside0 (Ref wr A lenA c l) ∧ Aside0 (Below w.heap.size w wr)) (fun i _ => n + 1 - (intOf i).toNat)
  case atStart => exact ⟨0, Nat.zero_le _, rfl, L2, V2, Q2, A2, B2⟩
  case round =>
    obtain ⟨k, hk, rfl, HL, HV, HQ, HA, HB⟩ := hrel
    have q0 : wr.cell? ⟨w.heap.size + 1, 0, none⟩ = some (.int .i64 (n : Int)) := cell_of_row wr _ 0 _ _ _ HQ.out
    have hw : IntKind.i64.wrap ((k : Int) + 1 - 1) = (k : Int) := by rw [IntKind.wrap_i64]; omega
    by_cases h1 : k < n
    · obtain ⟨b, cells, rfl, hb0, hb1, hb2⟩ := HL.out.at_ (by omega)
      obtain ⟨d0, d1⟩ := hb2 k (Nat.zero_le _) h1
      have Hb := Aside0.mk hb1
      clear hb1 hb2
      have e1 : spanAt n g ((k : Int) + 1) = g (k + 1) := by unfold spanAt; rw [if_pos ⟨by omega, by omega⟩]; congr 1
      have E1 := Aside0.mk e1
      clear e1
      go_wp2_with (first | ((with_reducible refine op_loadg (g := w.heap.size) (t := 29) HV.out (vec_size _ _) ?_ ?_ ?_); (next => rfl); (next => rfl)))
      refine (span_any n g _ _ hN1 hG1).mono ?_
      rintro e w3 ⟨rfl, hb3⟩
      rw [E1.out]
      generalize hx : g (k + 1) = x at *
      have V3 := Aside0.mk (hup (.cells #[.int .i64 (toS x).f0, .int .i64 (toS x).f1] 23) (hbel hb3 HV.out))
      have Q3 := Aside0.mk (hup (.cells #[.int .i64 (toS x).f0, .int .i64 (toS x).f1] 23) (hbel hb3 HQ.out))
      have A3 := Aside0.mk ((HA.out.bel hb3).up (.cells #[.int .i64 (toS x).f0, .int .i64 (toS x).f1] 23))
      have L3 := Aside0.mk ((HL.out.below hb3).below (below_alloc (Below.refl _ w3) (.cells #[.int .i64 (toS x).f0, .int .i64 (toS x).f1] 23)))
      have R3 := Aside0.mk (hup (.cells #[.int .i64 (toS x).f0, .int .i64 (toS x).f1] 23) (hbel hb3 Hb.out))
      have X3 := Aside0.mk (heap_at w3 (.cells #[.int .i64 (toS x).f0, .int .i64 (toS x).f1] 23) rfl)
      have B3 := Aside0.mk (below_alloc (chain HB.out hb3) (.cells #[.int .i64 (toS x).f0, .int .i64 (toS x).f1] 23))
      clear hb3 hx q0
      go_wp2_with (first | ((with_reducible refine op_ld (T := 40) (g := w.heap.size + 1) Try.underlying40 size40 Q3.out (sz2 _ _) ?_ ?_ ?_); (next => rfl); (next => rfl)))
      refine (spanRef_any E.out.1 E.out.2 A3.out _).mono ?_
      rintro e w4 ⟨rfl, hb4⟩
      rw [E1.out]
      have V4 := Aside0.mk (hup (.cells #[.int .i64 (toS x).f0, .int .i64 (toS x).f1] 23) (hbel hb4 V3.out))
      have Q4 := Aside0.mk (hup (.cells #[.int .i64 (toS x).f0, .int .i64 (toS x).f1] 23) (hbel hb4 Q3.out))
      have A4 := Aside0.mk ((A3.out.bel hb4).up (.cells #[.int .i64 (toS x).f0, .int .i64 (toS x).f1] 23))
      have L4 := Aside0.mk ((L3.out.below hb4).below (below_alloc (Below.refl _ w4) (.cells #[.int .i64 (toS x).f0, .int .i64 (toS x).f1] 23)))
      have R4 := Aside0.mk (hup (.cells #[.int .i64 (toS x).f0, .int .i64 (toS x).f1] 23) (hbel hb4 R3.out))
      have X4 := Aside0.mk (hup (.cells #[.int .i64 (toS x).f0, .int .i64 (toS x).f1] 23) (hbel hb4 X3.out))
      have B4 := Aside0.mk (below_alloc (chain B3.out hb4) (.cells #[.int .i64 (toS x).f0, .int .i64 (toS x).f1] 23))
      clear hb4
      have c0 := (cell_of_row _ _ (k * 2) _ _ _ R4.out).trans d0
      have c1 := (cell_of_row _ _ (k * 2 + 1) _ _ _ R4.out).trans d1
      have x0 : (w4.alloc (.cells #[.int .i64 (toS x).f0, .int .i64 (toS x).f1] 23)).cell? ⟨w3.heap.size, 0, none⟩ = some (.int .i64 (toS x).f0) := cell_of_row _ _ 0 _ _ _ X4.out
      have x1 : (w4.alloc (.cells #[.int .i64 (toS x).f0, .int .i64 (toS x).f1] 23)).cell? ⟨w3.heap.size, 1, none⟩ = some (.int .i64 (toS x).f1) := cell_of_row _ _ 1 _ _ _ X4.out
      clear d0 d1
      go_wp2_with fail
      go_quiet (fail)
      go_wp2_with fail
      go_roundw
      case rel => exact ⟨k + 1, by omega, by go_num, ⟨⟨fun h => L4.out.at_ h⟩⟩, ⟨V4.out⟩, ⟨Q4.out⟩, ⟨⟨A4.out.len, A4.out.cap, Kd.C_drewN A4.out.row _⟩⟩, ⟨below_drewN' B4.out _⟩⟩
      case measure => simp [intOf]; omega
    · obtain rfl : k = n := by omega
      have e0 : spanAt (k : Int) g 0 = none := by unfold spanAt; rw [if_neg (by omega)]
      have E0 := Aside0.mk e0
      clear e0
      go_wp2_with (first | ((with_reducible refine op_loadg (g := w.heap.size) (t := 29) HV.out (vec_size _ _) ?_ ?_ ?_); (next => rfl); (next => rfl)))
      refine (span_any k g _ _ hN1 hG1).mono ?_
      rintro e w3 ⟨rfl, hb3⟩
      generalize hx : spanAt (k : Int) g other = x at *
      have E1 := Aside0.mk hx
      clear hx
      have V3 := Aside0.mk (hup (.cells #[.int .i64 (toS x).f0, .int .i64 (toS x).f1] 23) (hbel hb3 HV.out))
      have Q3 := Aside0.mk (hup (.cells #[.int .i64 (toS x).f0, .int .i64 (toS x).f1] 23) (hbel hb3 HQ.out))
      have A3 := Aside0.mk ((HA.out.bel hb3).up (.cells #[.int .i64 (toS x).f0, .int .i64 (toS x).f1] 23))
      have X3 := Aside0.mk (heap_at w3 (.cells #[.int .i64 (toS x).f0, .int .i64 (toS x).f1] 23) rfl)
      have B3 := Aside0.mk (below_alloc (chain HB.out hb3) (.cells #[.int .i64 (toS x).f0, .int .i64 (toS x).f1] 23))
      clear hb3 q0
      go_wp2_with (first | ((with_reducible refine op_ld (T := 40) (g := w.heap.size + 1) Try.underlying40 size40 Q3.out (sz2 _ _) ?_ ?_ ?_); (next => rfl); (next => rfl)))
      refine (spanRef_any E.out.1 E.out.2 A3.out _).mono ?_
      rintro e w4 ⟨rfl, hb4⟩
      rw [E1.out]
      have V4 := Aside0.mk (hup (.cells #[.int .i64 (toS x).f0, .int .i64 (toS x).f1] 23) (hbel hb4 V3.out))
      have X4 := Aside0.mk (hup (.cells #[.int .i64 (toS x).f0, .int .i64 (toS x).f1] 23) (hbel hb4 X3.out))
      have Y4 := Aside0.mk (heap_at w4 (.cells #[.int .i64 (toS x).f0, .int .i64 (toS x).f1] 23) rfl)
      have B4 := Aside0.mk (below_alloc (chain B3.out hb4) (.cells #[.int .i64 (toS x).f0, .int .i64 (toS x).f1] 23))
      clear hb4
      go_wp2_with (first | ((with_reducible refine op_loadg (g := w.heap.size) (t := 29) V4.out (vec_size _ _) ?_ ?_ ?_); (next => rfl); (next => rfl)))
      refine (span_any k g _ _ hN1 hG1).mono ?_
      rintro e w5 ⟨rfl, hb5⟩
      rw [E0.out]
      have X5 := hup (.cells #[.int .i64 (-1), .int .i64 (-1)] 23) (hbel hb5 X4.out)
      have Y5 := hup (.cells #[.int .i64 (-1), .int .i64 (-1)] 23) (hbel hb5 Y4.out)
      have B5 := Aside0.mk (below_alloc (chain B4.out hb5) (.cells #[.int .i64 (-1), .int .i64 (-1)] 23))
      clear hb5
      have x0 : (w5.alloc (.cells #[.int .i64 (-1), .int .i64 (-1)] 23)).cell? ⟨w3.heap.size, 0, none⟩ = some (.int .i64 (toS x).f0) := cell_of_row _ _ 0 _ _ _ X5
      have x1 : (w5.alloc (.cells #[.int .i64 (-1), .int .i64 (-1)] 23)).cell? ⟨w3.heap.size, 1, none⟩ = some (.int .i64 (toS x).f1) := cell_of_row _ _ 1 _ _ _ X5
      have y0 : (w5.alloc (.cells #[.int .i64 (-1), .int .i64 (-1)] 23)).cell? ⟨w4.heap.size, 0, none⟩ = some (.int .i64 (toS x).f0) := cell_of_row _ _ 0 _ _ _ Y5
      have y1 : (w5.alloc (.cells #[.int .i64 (-1), .int .i64 (-1)] 23)).cell? ⟨w4.heap.size, 1, none⟩ = some (.int .i64 (toS x).f1) := cell_of_row _ _ 1 _ _ _ Y5
      clear X5 Y5
      have t0 : toS none = ⟨-1, -1⟩ := rfl
      rw [t0]
      go_wp2_with fail
      go_ret
      exact ⟨rfl, B5.out⟩
end Go.Proofs.Ythjakmdflpkjkaa
