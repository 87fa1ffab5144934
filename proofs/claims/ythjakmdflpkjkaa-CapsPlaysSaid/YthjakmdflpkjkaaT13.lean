/- The walk of CapsSpans. -/
import Derived.Test.YthjakmdflpkjkaaT12
import Derived.Deep.QuietTactic
import Derived.BigQuiet
namespace Go.Proofs.Ythjakmdflpkjkaa
open Go.RowKit Go.Proofs.YthjakmdflpkjkaaW.PrintWords PCapsSame

theorem rd23 (i n : Nat) (g : Spans) (h : i < n) : (spanL n g).getD i z23 = toS (g (i + 1)) := by
  simp [spanL, List.getD_eq_getElem?_getD, List.getElem?_map, List.getElem?_range h]
/-- The cells of a new row of spans. -/
theorem row23 {w : World} {base : Nat} {ok : Nat → Prop} {v : Value} {n : Nat} {g : Spans} (h : Kd.R k23 23 w base ok v (spanL n g)) (hn : 0 < n) :
    ∃ b c cells, v = .slice (some ⟨b, 0, none⟩) n c ∧ base ≤ b ∧ w.heap[b]? = some (.cells cells 23 (0, 0)) ∧ ∀ j, j < n → cells[j * 2]? = some (.int .i64 (toS (g (j + 1))).f0) ∧ cells[j * 2 + 1]? = some (.int .i64 (toS (g (j + 1))).f1) := by
  obtain ⟨A, c, rfl, hc, hC⟩ := Kd.R_reads h
  have hl := spanL_length n g
  obtain ⟨b, cap, e, h1, h2, cells, h3⟩ := Kd.R_form h (by rw [hl]; exact hn)
  simp only [Value.slice.injEq] at e
  obtain ⟨rfl, _, rfl⟩ := e
  rw [hl]
  refine ⟨b, c, cells, rfl, h1, h3, fun j hj => ?_⟩
  rw [hl] at hC
  obtain ⟨ad, d, e, _, hK, hc0⟩ := Kd.C_get hC z23 (j : Int) (by omega) (by omega)
  cases e
  have hk := k23_open hK
  rw [Int.toNat_natCast, rd23 j n g hj] at hk
  subst hk
  have a0 := hc0 0 _ rfl
  have a1 := hc0 1 _ rfl
  rw [add_plain, cell_of_row w b _ cells 23 (0, 0) h3] at a0 a1
  exact ⟨a0, a1⟩

/-- From element k on the row tells the vector's spans. -/
structure RowAt (wr : World) (A : Option Addr) (B k n : Nat) (g : Spans) : Prop where mk ::
  (at_ : k < n → ∃ (b : Nat) (cells : Array Value), A = some ⟨b, 0, none⟩ ∧ B ≤ b ∧ wr.heap[b]? = some (.cells cells 23 (0, 0)) ∧ ∀ j, k ≤ j → j < n → cells[j * 2]? = some (.int .i64 (toS (g (j + 1))).f0) ∧ cells[j * 2 + 1]? = some (.int .i64 (toS (g (j + 1))).f1))
theorem rowAt_of {w : World} {base : Nat} {ok : Nat → Prop} {A : Option Addr} {n c B : Nat} {g : Spans} (h : Kd.R k23 23 w base ok (.slice A n c) (spanL n g)) (hB : B ≤ base) : RowAt w A B 0 n g := by
  refine ⟨fun hn => ?_⟩
  obtain ⟨b, c', cells, e, h1, h2, h3⟩ := row23 h hn
  cases e
  exact ⟨b, cells, rfl, by omega, h2, fun j _ hj => h3 j hj⟩
theorem RowAt.below {w w1 : World} {A : Option Addr} {B k n : Nat} {g : Spans} (h : RowAt w A B k n g) (hb : Below w.heap.size w w1) : RowAt w1 A B k n g := ⟨fun hk => by
  obtain ⟨b, cells, h1, h2, h3, h4⟩ := h.at_ hk
  exact ⟨b, cells, h1, h2, hbel hb h3, h4⟩⟩

theorem row_next {W : World} {b k n B : Nat} {cells : Array Value} {g : Spans} (v : Value) (hB : B ≤ b) (hh : W.heap[b]? = some (.cells cells 23 (0, 0)))
    (D : ∀ j, k ≤ j → j < n → cells[j * 2]? = some (.int .i64 (toS (g (j + 1))).f0) ∧ cells[j * 2 + 1]? = some (.int .i64 (toS (g (j + 1))).f1)) : RowAt (W.setCell ⟨b, k * 2, none⟩ v) (some ⟨b, 0, none⟩) B (k + 1) n g := by
  refine ⟨fun _ => ⟨b, cells.setIfInBounds (k * 2) v, rfl, hB, heap_setCell_same W b (k * 2) _ _ v hh, fun j h1 h2 => ?_⟩⟩
  obtain ⟨d0, d1⟩ := D j (by omega) h2
  rw [Array.getElem?_setIfInBounds, Array.getElem?_setIfInBounds, if_neg (by omega), if_neg (by omega)]
  exact ⟨d0, d1⟩
theorem below_drewN' {B : Nat} {w W : World} (h : Below B w W) (n : Nat) : Below B w (W.drewN n) := ⟨h.os, h.tape, h.output, h.size, h.block⟩

set_option maxRecDepth 100000 in
set_option maxHeartbeats 1600000 in
theorem spans_law (a : Int) (A : Option Addr) (lenA capA : Nat) (s : List S44) (w : World) (hA : Kd.C k44 w A lenA s) :
    Calls Try.prog 5 #[.int .i64 a, .slice A lenA capA] w fun e w' => e = .returned (.bool true) ∧ Below w.heap.size w w' := by
  obtain ⟨N, hN⟩ : ∃ N, N = min (max a 0) 60 := ⟨_, rfl⟩
  have hN0 : 0 ≤ N := by omega
  have hN1 : N ≤ 60 := by omega
  have HA := Aside0.mk hA
  have HN := Aside0.mk hN
  clear hA hN
  go_enter Try.func5, Try.ntmps5
  go_wp2_with fail
  refine (awake_any _).mono ?_
  rintro e w1 ⟨rfl, hb1⟩
  have B1 := Aside0.mk hb1
  clear hb1
  go_wp2_with fail
  refine (played_loop a A lenA capA s _ (Kd.C_below HA.out B1.out) HA.out.1).mono ?_
  rintro e w2 ⟨u, rfl, hR2, hb2⟩
  rw [← HN.out] at hR2 ⊢
  have hG1 := bounded_run N s (min lenA 100)
  generalize hG : runG N s (min lenA 100) = g at *
  obtain ⟨A2, n2, c2, rfl⟩ : ∃ A' n' c', u = .slice A' n' c' := by obtain ⟨A', c', e⟩ := Kd.R_slice hR2; exact ⟨A', _, c', e⟩
  have V2 := Aside0.mk (hup (.cells #[.int .i64 N, .slice A2 n2 c2] 40) (heap_at w2 (.cells (vec N g) 29) rfl))
  have B2 := Aside0.mk (below_alloc (below_alloc (chain B1.out hb2) (.cells (vec N g) 29)) (.cells #[.int .i64 N, .slice A2 n2 c2] 40))
  have Z2 : w.heap.size ≤ w2.heap.size := (chain B1.out hb2).size
  clear hR2 hb2 hG
  go_wp2_with (first | refine op_alloc29 ?_ | ((with_reducible refine op_st29_up (w := w2) (cs := vec N g) (vec_size _ _) (vec_size _ _) (vec_one _ _) ?_ ?_ ?_); (next => rfl); (next => rfl)) | ((with_reducible refine op_loadg (g := w2.heap.size) (t := 29) V2.out (vec_size _ _) ?_ ?_ ?_); (next => rfl); (next => rfl)))
  refine (spans_any N g hN0 hN1 hG1 _).mono ?_
  rintro e w3 ⟨v, rfl, hR3, hb3⟩
  have V3 := Aside0.mk (hbel hb3 V2.out)
  have B3 := Aside0.mk (chain B2.out hb3)
  obtain ⟨n, rfl⟩ : ∃ n : Nat, N = (n : Int) := ⟨N.toNat, by omega⟩
  rw [Int.toNat_natCast] at hR3
  obtain ⟨A3, c3, rfl⟩ := Kd.R_slice hR3
  rw [spanL_length] at hR3 ⊢
  have R3 := Aside0.mk hR3
  have Z3 : w2.heap.size < w3.heap.size := by have := hb3.size; simp at this; omega
  clear hR3 hb3
  go_wp2_with ((with_reducible refine op_loadg (g := w2.heap.size) (t := 29) V3.out (vec_size _ _) ?_ ?_ ?_); (next => rfl); (next => rfl))
  refine (groups_any _ _ _).mono ?_
  rintro e w4 ⟨rfl, hb4⟩
  have V4 := Aside0.mk (hbel hb4 V3.out)
  have B4 := Aside0.mk (chain B3.out hb4)
  have R4 := Aside0.mk (Kd.R_below R3.out hb4)
  have Z4 : w2.heap.size < w4.heap.size := by have := hb4.size; omega
  clear hb4
  go_wp2_with fail
  have L4 := Aside0.mk (rowAt_of (B := w2.heap.size) R4.out (by simp; omega))
  go_loopw [9] (fun i wr => ∃ k : Nat, k ≤ n ∧ i = .int .i64 k ∧ Aside0 (RowAt wr A3 w2.heap.size k n g) ∧ Aside0 (wr.heap[w2.heap.size]? = some (.cells (vec n g) 29 (0, 0))) ∧ Aside0 (Below w.heap.size w wr)) (fun i _ => n - (intOf i).toNat)
  case atStart => exact ⟨0, Nat.zero_le _, rfl, L4, V4, B4⟩
  case round =>
    obtain ⟨k, hk, rfl, HL, HV, HB⟩ := hrel
    by_cases h1 : k < n
    · obtain ⟨b, cells, rfl, hb0, hb1, hb2⟩ := HL.out.at_ h1
      obtain ⟨d0, d1⟩ := hb2 k (Nat.le_refl _) h1
      have hne : w2.heap.size ≠ b := by
        intro e
        rw [← e, HV.out] at hb1
        simp at hb1
      have D := Aside0.mk hb2
      have Hb := Aside0.mk hb1
      clear hb1 hb2
      have e1 : spanAt n g ((k : Int) + 1) = g (k + 1) := by unfold spanAt; rw [if_pos ⟨by omega, by omega⟩]; congr 1
      have E1 := Aside0.mk e1
      clear e1
      go_wp2_with (first | ((with_reducible refine op_loadg (g := w2.heap.size) (t := 29) HV.out (vec_size _ _) ?_ ?_ ?_); (next => rfl); (next => rfl)))
      refine (span_any n g _ _ hN1 hG1).mono ?_
      rintro e w5 ⟨rfl, hb5⟩
      rw [E1.out]
      generalize hx : g (k + 1) = x at *
      have HX := Aside0.mk hx
      clear hx
      have V5 := Aside0.mk (hup (.cells #[.int .i64 (toS x).f0, .int .i64 (toS x).f1] 23) (hbel hb5 HV.out))
      have b5 := Aside0.mk (hup (.cells #[.int .i64 (toS x).f0, .int .i64 (toS x).f1] 23) (hbel hb5 Hb.out))
      have B5 := Aside0.mk (below_alloc (chain HB.out hb5) (.cells #[.int .i64 (toS x).f0, .int .i64 (toS x).f1] 23))
      clear hb5
      have c0 := (cell_of_row _ _ (k * 2) _ _ _ b5.out).trans d0
      have c1 := (cell_of_row _ _ (k * 2 + 1) _ _ _ b5.out).trans d1
      have fb := frozen_of_row _ _ (k * 2) _ _ b5.out
      have hs : decide (0 ≤ (toS x).f0) = x.isSome := by rcases x with _ | ⟨p, q⟩ <;> simp [toS]
      clear d0 d1
      go_wp2_with fail
      go_quiet (fail)
      have H1 := Aside0.mk (row_next (.int .i64 99) hb0 (show ((w5.alloc (.cells #[.int .i64 (toS x).f0, .int .i64 (toS x).f1] 23)).drewN nq).heap[b]? = _ from b5.out) D.out)
      have H2 := Aside0.mk ((heap_setCell_other _ ⟨b, k * 2, none⟩ w2.heap.size (.int .i64 99) hne).trans (show ((w5.alloc (.cells #[.int .i64 (toS x).f0, .int .i64 (toS x).f1] 23)).drewN nq).heap[w2.heap.size]? = _ from V5.out))
      have H3 := Aside0.mk ((below_drewN' B5.out nq).setCell (p := ⟨b, k * 2, none⟩) (show w.heap.size ≤ b by omega) (.int .i64 99))
      go_wp2_with fail
      go_roundw
      case rel => exact ⟨k + 1, by omega, by go_num, H1, H2, H3⟩
      case measure => simp [intOf]; omega
    · have hk2 : k = n := by omega
      go_wp2_with (first | ((with_reducible refine op_loadg (g := w2.heap.size) (t := 29) HV.out (vec_size _ _) ?_ ?_ ?_); (next => rfl); (next => rfl)))
      refine (spans_any n g hN0 hN1 hG1 _).mono ?_
      rintro e w6 ⟨v, rfl, hR6, hb6⟩
      rw [Int.toNat_natCast] at hR6
      obtain ⟨A6, c6, rfl⟩ := Kd.R_slice hR6
      rw [spanL_length] at hR6 ⊢
      have V6 := Aside0.mk (hbel hb6 HV.out)
      have B6 := Aside0.mk (chain HB.out hb6)
      have L6 := Aside0.mk (rowAt_of (B := 0) hR6 (by omega))
      clear hR6 hb6
      obtain ⟨wo, rfl⟩ : ∃ wo : World, wo = wr := ⟨_, rfl⟩
      go_wp2_with fail
      go_loopw [13] (fun i wr => ∃ j : Nat, j ≤ n ∧ i = .int .i64 j ∧ Aside0 (RowAt wr A6 0 0 n g) ∧ Aside0 (wr.heap[w2.heap.size]? = some (.cells (vec n g) 29 (0, 0))) ∧ Aside0 (Below w.heap.size w wr)) (fun i _ => n - (intOf i).toNat)
      case atStart => exact ⟨0, Nat.zero_le _, rfl, L6, V6, B6⟩
      case round =>
        obtain ⟨j, hj, rfl, HL7, HV7, HB7⟩ := hrel
        by_cases h7 : j < n
        · obtain ⟨b, cells, rfl, hb0, hb1, hb2⟩ := HL7.out.at_ (by omega)
          obtain ⟨d0, d1⟩ := hb2 j (Nat.zero_le _) h7
          have Hb := Aside0.mk hb1
          clear hb1 hb2
          have e1 : spanAt n g ((j : Int) + 1) = g (j + 1) := by unfold spanAt; rw [if_pos ⟨by omega, by omega⟩]; congr 1
          have E1 := Aside0.mk e1
          clear e1
          go_wp2_with (first | ((with_reducible refine op_loadg (g := w2.heap.size) (t := 29) HV7.out (vec_size _ _) ?_ ?_ ?_); (next => rfl); (next => rfl)))
          refine (span_any n g _ _ hN1 hG1).mono ?_
          rintro e w8 ⟨rfl, hb8⟩
          rw [E1.out]
          generalize hx : g (j + 1) = x at *
          have V8 := Aside0.mk (hup (.cells #[.int .i64 (toS x).f0, .int .i64 (toS x).f1] 23) (hbel hb8 HV7.out))
          have L8 := Aside0.mk ((HL7.out.below hb8).below (below_alloc (Below.refl _ w8) (.cells #[.int .i64 (toS x).f0, .int .i64 (toS x).f1] 23)))
          have b8 := Aside0.mk (hup (.cells #[.int .i64 (toS x).f0, .int .i64 (toS x).f1] 23) (hbel hb8 Hb.out))
          have B8 := Aside0.mk (below_alloc (chain HB7.out hb8) (.cells #[.int .i64 (toS x).f0, .int .i64 (toS x).f1] 23))
          clear hb8 hx
          have c0 := (cell_of_row _ _ (j * 2) _ _ _ b8.out).trans d0
          have c1 := (cell_of_row _ _ (j * 2 + 1) _ _ _ b8.out).trans d1
          clear d0 d1
          go_wp2_with fail
          go_quiet (fail)
          go_wp2_with fail
          go_roundw
          case rel => exact ⟨j + 1, by omega, by go_num, ⟨⟨fun h => L8.out.at_ h⟩⟩, ⟨V8.out⟩, ⟨below_drewN' B8.out _⟩⟩
          case measure => simp [intOf]; omega
        · go_wp2_with fail
          go_ret
          exact ⟨rfl, HB7.out⟩
end Go.Proofs.Ythjakmdflpkjkaa
