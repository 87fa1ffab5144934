/- The walk of CapsPlays, printed by wip/caps/mk16.py. -/
import Derived.Test.YthjakmdflpkjkaaT15
import Derived.Test.YthjakmdflpkjkaaRef2
namespace Go.Proofs.Ythjakmdflpkjkaa
open Go.RowKit Go.Proofs.YthjakmdflpkjkaaW.PrintWords Go.Proofs.YthjakmdflpkjkaaW.PrintLast PCapsSame

structure PI (N : Int) (s : List S44) (i : Nat) (b6 b7 : Nat) (w wr : World) (u : Value) : Prop where
  H6 : wr.heap[b6]? = some (.cells (vec N (runG N s i)) 29 (0, 0))
  H7 : wr.heap[b7]? = some (.cells #[.int .i64 N, u] 40 (0, 0))
  R : Kd.R k58 58 wr w.heap.size (fun _ => True) u (runL N s i)
  B : Below w.heap.size w wr
  ne : b6 ≠ b7
  l6 : w.heap.size ≤ b6
  l7 : w.heap.size ≤ b7
theorem PI.bel {N : Int} {s : List S44} {i b6 b7 : Nat} {w wr wx : World} {u : Value} (h : PI N s i b6 b7 w wr u) (hb : Below wr.heap.size wr wx) : PI N s i b6 b7 w wx u :=
  ⟨hbel hb h.H6, hbel hb h.H7, Kd.R_below h.R hb, chain h.B hb, h.ne, h.l6, h.l7⟩

theorem isP {N : Int} {g : Spans} {l : List S58} {u : Value} {base : Nat} (other : Int) {w : World} (hN0 : 0 ≤ N) (hN1 : N ≤ 60) (hG : Bounded g) (hr : Rel N g l) (hl : l.length < 1000) (hR : Kd.R k58 58 w base (fun _ => True) u l) :
    Calls Try.prog 15 #[.agg (vec N g), .agg #[.int .i64 N, u], .int .i64 other] w fun e w' => e = .returned (.bool true) ∧ Below w.heap.size w w' := by
  obtain ⟨A, c, rfl⟩ := Kd.R_slice hR
  obtain ⟨h1, h2, h3⟩ := Kd.R_reads' hR
  exact is_any N g l A _ c other w hN0 hN1 hG hr hl ⟨h1, h2, h3⟩

theorem withR_any2 (N k s t : Int) (u : Value) (l : List S58) (w0 w : World) (hl : l.length < 1000) (hb : Below w0.heap.size w0 w) (hR : Kd.R k58 58 w w0.heap.size (fun _ => True) u l) :
    Calls Try.prog 18 #[.agg #[.int .i64 N, u], .int .i64 k, .agg #[.int .i64 s, .int .i64 t]] w fun e w' => ∃ A n c, e = .returned (.agg #[.int .i64 N, .slice A n c]) ∧
      Kd.R k58 58 w' w0.heap.size (fun _ => True) (.slice A n c) (if k < 1 ∨ k > N ∨ s < 0 ∨ t < s ∨ t > 1073741824 then l else l ++ [⟨k, ⟨s, t⟩, true⟩]) ∧ Below w0.heap.size w0 w' ∧ Stays w w' ∧ Kd.R k58 58 w' w0.heap.size (fun _ => True) u l := by
  have hRb := Kd.R_bound hR
  generalize hl2 : (if k < 1 ∨ k > N ∨ s < 0 ∨ t < s ∨ t > 1073741824 then l else l ++ [⟨k, ⟨s, t⟩, true⟩]) = l2
  refine (lurcherref16_Vector_With.calls2 N _ u l k s t N l2 w0 w hb hRb ?_).mono ?_
  · unfold lurcherref16_Vector_With.f
    by_cases h1 : k < 1
    · rw [if_pos h1, ← hl2, if_pos (by omega)]
    · rw [if_neg h1]
      by_cases h2 : k > N
      · rw [if_pos h2, ← hl2, if_pos (by omega)]
      · rw [if_neg h2]
        by_cases h3 : s < 0
        · rw [if_pos h3, ← hl2, if_pos (by omega)]
        · rw [if_neg h3]
          by_cases h4 : t < s
          · rw [if_pos h4, ← hl2, if_pos (by omega)]
          · rw [if_neg h4]
            by_cases h5 : t > 1073741824
            · rw [if_pos h5, ← hl2, if_pos (by omega)]
            · rw [if_neg h5, if_pos (by simp; omega)]
              simp only [List.nil_append, Option.bind_some]
              rw [if_pos (by omega), ← hl2, if_neg (by omega)]
  · rintro e w' ⟨v, rfl, hR', hb', hk, ho⟩
    obtain ⟨A, c, rfl⟩ := Kd.R_slice hR'
    refine ⟨A, _, c, rfl, Kd.R_mono hR' (fun _ _ => trivial), hb', fun j cs q hj hq => ?_, Kd.R_mono ho (fun _ _ => trivial)⟩
    refine (hk.2 j (blt hj) ?_).trans hj
    rintro ⟨_, _, _, q', hq', cells, hc⟩
    rw [hj] at hc
    simp only [Option.some.injEq, Obj.cells.injEq] at hc
    have : q' = 58 := by
      have h := hq'
      simp [k58, k23, Kd.iso, Kd.pair, Kd.int, Kd.bool, Kd.scalar] at h
      exact h
    exact hq (by rw [← this]; simp_all)

set_option maxRecDepth 100000 in
set_option maxHeartbeats 6400000 in
theorem plays_law (n : Int) (A : Option Addr) (len cap : Nat) (s : List S44) (other : Int) (w : World) (hC : Kd.C k44 w A len s) :
    Calls Try.prog 4 #[.int .i64 n, .slice A len cap, .int .i64 other] w fun e w' => e = .returned (.bool true) ∧ Below w.heap.size w w' := by
  obtain ⟨N, hN⟩ : ∃ N, N = min (max n 0) 60 := ⟨_, rfl⟩
  have hN0 : 0 ≤ N := by omega
  have hN1 : N ≤ 60 := by omega
  have HN := Aside0.mk hN
  clear hN
  have HL := Aside0.mk (show s.length = len from hC.1)
  have HC := Aside0.mk hC
  have hmax : len ≤ 9223372036854775807 := Kd.C_max hC
  clear hC
  go_enter Try.func4, Try.ntmps4
  go_wp2_with fail
  refine (awake_any _).mono ?_
  rintro e w1 ⟨rfl, hb1⟩
  have B1 := Aside0.mk hb1
  clear hb1
  go_wp2_with fail
  refine (new_any n _).mono ?_
  rintro e w2 ⟨rfl, hb2⟩
  rw [← HN.out]
  have B2 := Aside0.mk (below_alloc (chain B1.out hb2) (.cells (vec N off) 29))
  have V2 := Aside0.mk (heap_at w2 (.cells (vec N off) 29) rfl)
  have Z2 : w.heap.size ≤ w2.heap.size := (chain B1.out hb2).size
  clear hb2
  go_wp2_with (first | refine op_alloc29 ?_ | ((with_reducible refine op_store29_new (W := w2) (cs := vec N off) ?_ ?_ (vec_size _ _) (vec_size _ _) (vec_one _ _) ?_); (next => rfl); (next => rfl)))
  refine (newR_any n _).mono ?_
  rintro e w3 ⟨rfl, hb3⟩
  rw [← HN.out]
  have Z3 : w2.heap.size < w3.heap.size := by have := hb3.size; simp at this; omega
  have I3 := Aside0.mk (⟨hup (.cells #[.int .i64 N, .slice none 0 0] 40) (hbel hb3 V2.out), heap_at w3 (.cells #[.int .i64 N, .slice none 0 0] 40) rfl, Kd.R_nil _ _ _ _ _, below_alloc (chain B2.out hb3) _, by omega, Z2, by omega⟩ : PI N s 0 w2.heap.size w3.heap.size w (w3.alloc (.cells #[.int .i64 N, .slice none 0 0] 40)) (.slice none 0 0))
  have H6 := Aside0.mk I3.out.H6
  have H7 := Aside0.mk I3.out.H7
  clear hb3 V2 B2
  go_wp2_with (first | ((with_reducible refine op_loadg (g := w2.heap.size) (t := 29) H6.out (vec_size _ _) ?_ ?_ ?_); (next => rfl); (next => rfl)) | ((with_reducible refine op_ld (T := 40) (g := w3.heap.size) Try.underlying40 size40 H7.out (sz2 _ _) ?_ ?_ ?_); (next => rfl); (next => rfl)))
  refine (isP other hN0 hN1 (bounded_run N s 0) (rel_run N s 0) (by have := runL_length N s 0; omega) I3.out.R).mono ?_
  rintro e w4 ⟨rfl, hb4⟩
  have I4 := Aside0.mk (I3.out.bel hb4)
  clear hb4 H6 H7 I3 B1
  go_wp2_with fail
  go_loopw [10] (fun k wr => ∃ (i : Nat) (u : Value), i ≤ len ∧ i ≤ 100 ∧ k = .int .i64 i ∧ Aside0 (PI N s i w2.heap.size w3.heap.size w wr u)) (fun k _ => (101 - intOf k).toNat)
  case atStart => exact ⟨0, _, by omega, by omega, rfl, I4⟩
  case round =>
    obtain ⟨i, u, hi, hi2, rfl, HI⟩ := hrel
    by_cases h1 : i < len
    · by_cases h2 : i < 100
      · obtain ⟨A', n', c', rfl⟩ : ∃ A' n' c', u = .slice A' n' c' := by obtain ⟨A', c', e⟩ := Kd.R_slice HI.out.R; exact ⟨A', _, c', e⟩
        have bX := Aside0.mk (below_alloc (below_alloc HI.out.B (.cells (vec N (runG N s i)) 29)) (.cells #[.int .i64 N, .slice A' n' c'] 40))
        obtain ⟨ad, rfl, q0, q1, q2, q3⟩ := at_T44 (Kd.C_below HC.out bX.out) i h1
        obtain ⟨o, ho⟩ : ∃ o, o = rd_T44 s i := ⟨_, rfl⟩
        rw [← ho] at q0 q1 q2 q3
        have HO := Aside0.mk ho
        clear ho
        have EG := Aside0.mk (runG_succ N s i (by rw [HL.out]; exact h1))
        have EL := Aside0.mk (runL_succ N s i (by rw [HL.out]; exact h1))
        rw [← HO.out] at EG EL
        have hll := runL_length N s i
        have z6 := blt HI.out.H6
        have z7 := blt HI.out.H7
        have a7 := Aside0.mk (hup (.cells (vec N (runG N s i)) 29) HI.out.H7)
        have b1 := Aside0.mk (hup (.cells #[.int .i64 o.f0, .int .i64 o.f1, .int .i64 o.f2.f0, .int .i64 o.f2.f1] 44) (hup (.cells #[.int .i64 N, .slice A' n' c'] 40) (hup (.cells (vec N (runG N s i)) 29) HI.out.H6)))
        have b2 := Aside0.mk (hup (.cells #[.int .i64 o.f0, .int .i64 o.f1, .int .i64 o.f2.f0, .int .i64 o.f2.f1] 44) (hup (.cells #[.int .i64 N, .slice A' n' c'] 40) a7.out))
        have b3 := Aside0.mk (hup (.cells #[.int .i64 o.f0, .int .i64 o.f1, .int .i64 o.f2.f0, .int .i64 o.f2.f1] 44) (hup (.cells #[.int .i64 N, .slice A' n' c'] 40) (heap_at wr (.cells (vec N (runG N s i)) 29) rfl)))
        have b4 := Aside0.mk (hup (.cells #[.int .i64 o.f0, .int .i64 o.f1, .int .i64 o.f2.f0, .int .i64 o.f2.f1] 44) (heap_at (wr.alloc (.cells (vec N (runG N s i)) 29)) (.cells #[.int .i64 N, .slice A' n' c'] 40) (j := wr.heap.size + 1) (by simp)))
        have b5 := Aside0.mk (heap_at ((wr.alloc (.cells (vec N (runG N s i)) 29)).alloc (.cells #[.int .i64 N, .slice A' n' c'] 40)) (.cells #[.int .i64 o.f0, .int .i64 o.f1, .int .i64 o.f2.f0, .int .i64 o.f2.f1] 44) (j := wr.heap.size + 2) (by simp))
        have b6 := Aside0.mk (Kd.R_alloc (Kd.R_alloc (Kd.R_alloc HI.out.R (.cells (vec N (runG N s i)) 29)) (.cells #[.int .i64 N, .slice A' n' c'] 40)) (.cells #[.int .i64 o.f0, .int .i64 o.f1, .int .i64 o.f2.f0, .int .i64 o.f2.f1] 44))
        have b7 := Aside0.mk (below_alloc bX.out (.cells #[.int .i64 o.f0, .int .i64 o.f1, .int .i64 o.f2.f0, .int .i64 o.f2.f1] 44))
        have hI6 := Aside0.mk HI.out.H6
        by_cases hz : o.f0.tmod 4 = 0
        · have hzb : ((o.f0.tmod 4) == 0) = true := by simp [hz]
          have HZ := Aside0.mk hz
          clear hz
          go_wp2_with (first | ((with_reducible refine op_loadg (g := w2.heap.size) (t := 29) b1.out (vec_size _ _) ?_ ?_ ?_); (next => rfl); (next => rfl)) | refine op_alloc29 ?_ | ((with_reducible refine op_store29_new (W := wr) (cs := vec N (runG N s i)) ?_ ?_ (vec_size _ _) (vec_size _ _) (vec_one _ _) ?_); (next => rfl); (next => rfl)) | ((with_reducible refine op_loadg (g := w2.heap.size) (t := 29) hI6.out (vec_size _ _) ?_ ?_ ?_); (next => rfl); (next => rfl)) | ((with_reducible refine op_ld (T := 40) (g := w3.heap.size) Try.underlying40 size40 a7.out (sz2 _ _) ?_ ?_ ?_); (next => rfl); (next => rfl)))
          refine (without_any N _ o.f1 _ hN1).mono ?_
          rintro e w5 ⟨rfl, hb5⟩
          have c1 := Aside0.mk (hbel hb5 b1.out)
          have c2 := Aside0.mk (hset (g := w2.heap.size) (vec N (withoutS N (runG N s i) o.f1)) HI.out.ne.symm (hbel hb5 b2.out))
          have c3 := Aside0.mk (hset (g := w2.heap.size) (vec N (withoutS N (runG N s i) o.f1)) (by omega) (hbel hb5 b3.out))
          have c4 := Aside0.mk (hset (g := w2.heap.size) (vec N (withoutS N (runG N s i) o.f1)) (by omega) (hbel hb5 b4.out))
          have c5 := Aside0.mk (hset (g := w2.heap.size) (vec N (withoutS N (runG N s i) o.f1)) (by omega) (hbel hb5 b5.out))
          have c6 := Aside0.mk (R_row (vec N (withoutS N (runG N s i) o.f1)) (Kd.R_below b6.out hb5) c1.out (by decide))
          have c7 := Aside0.mk (below_setRow (g := w2.heap.size) (chain b7.out hb5) HI.out.l6 (vec N (withoutS N (runG N s i) o.f1)))
          have c8 := Aside0.mk (setRow_heap w5 w2.heap.size _ (vec N (withoutS N (runG N s i) o.f1)) _ _ c1.out)
          clear hb5
          have d1 := cell_of_row _ _ 1 _ _ _ c5.out
          simp at d1
          go_wp2_with (first | ((with_reducible refine op_st (T := 29) (g := w2.heap.size) (cs := vec N (withoutS N (runG N s i) o.f1)) size29 c1.out (vec_size _ _) (vec_size _ _) (vec_one _ _) ?_ ?_ ?_ ?_); (next => rfl); (next => rfl); (next => rfl)) | ((with_reducible refine op_ld (T := 40) (g := w3.heap.size) Try.underlying40 size40 c2.out (sz2 _ _) ?_ ?_ ?_); (next => rfl); (next => rfl)))
          refine (withoutR_any N o.f1 _ _ w _ (by omega) c7.out c6.out).mono ?_
          rintro e w6 ⟨A5, n5, rfl, hR6, hb6⟩
          have e1 := Aside0.mk (hset (g := w3.heap.size) #[.int .i64 N, .slice A5 ((runL N s i).length + 1) n5] HI.out.ne (hbel hb6 c8.out))
          have e5 := Aside0.mk (hbel hb6 c2.out)
          have e2 := Aside0.mk (setRow_heap w6 w3.heap.size _ #[.int .i64 N, .slice A5 ((runL N s i).length + 1) n5] _ _ e5.out)
          have e3 := Aside0.mk (hset (g := w3.heap.size) #[.int .i64 N, .slice A5 ((runL N s i).length + 1) n5] (by omega) (hbel hb6 c3.out))
          have e4 := Aside0.mk (hset (g := w3.heap.size) #[.int .i64 N, .slice A5 ((runL N s i).length + 1) n5] (by omega) (hbel hb6 c4.out))
          have e6 := Aside0.mk (R_row #[.int .i64 N, .slice A5 ((runL N s i).length + 1) n5] hR6 e5.out (by decide))
          have e7 := Aside0.mk (R_row #[.int .i64 N, .slice A5 ((runL N s i).length + 1) n5] (Kd.R_below c6.out hb6) e5.out (by decide))
          have e8 := Aside0.mk (below_setRow (g := w3.heap.size) (chain c7.out hb6) HI.out.l7 #[.int .i64 N, .slice A5 ((runL N s i).length + 1) n5])
          clear hR6 hb6
          have I6 := Aside0.mk (⟨by rw [EG.out]; unfold stepG; rw [if_pos HZ.out]; exact e1.out, e2.out, by rw [EL.out]; unfold stepL; rw [if_pos HZ.out]; exact e6.out, e8.out, HI.out.ne, HI.out.l6, HI.out.l7⟩ : PI N s (i + 1) w2.heap.size w3.heap.size w (w6.setRow w3.heap.size #[.int .i64 N, .slice A5 ((runL N s i).length + 1) n5]) _)
          have G6 : Aside0 (runG N s (i + 1) = (withoutS N (runG N s i) o.f1)) := ⟨by rw [EG.out]; unfold stepG; rw [if_pos HZ.out]⟩
          go_wp2_with (first | ((with_reducible refine op_st (T := 40) (g := w3.heap.size) (cs := #[.int .i64 N, .slice A5 ((runL N s i).length + 1) n5]) size40 e5.out (sz2 _ _) (sz2 _ _) (one40 _ _ _ _) ?_ ?_ ?_ ?_); (next => rfl); (next => rfl); (next => rfl)) | ((with_reducible refine op_loadg (g := w2.heap.size) (t := 29) e1.out (vec_size _ _) ?_ ?_ ?_); (next => rfl); (next => rfl)) | ((with_reducible refine op_ld (T := 40) (g := w3.heap.size) Try.underlying40 size40 e2.out (sz2 _ _) ?_ ?_ ?_); (next => rfl); (next => rfl)))
          rw [← G6.out]
          refine (isP other hN0 hN1 (bounded_run N s (i + 1)) (rel_run N s (i + 1)) (by have := runL_length N s (i + 1); omega) I6.out.R).mono ?_
          rintro e w7 ⟨rfl, hb7⟩
          have I7 := Aside0.mk (I6.out.bel hb7)
          have f3 := Aside0.mk (hbel hb7 e3.out)
          have f4 := Aside0.mk (hbel hb7 e4.out)
          have f7 := Aside0.mk (Kd.R_below e7.out hb7)
          clear hb7
          go_wp2_with (first | ((with_reducible refine op_loadg (g := wr.heap.size) (t := 29) f3.out (vec_size _ _) ?_ ?_ ?_); (next => rfl); (next => rfl)) | ((with_reducible refine op_ld (T := 40) (g := wr.heap.size + 1) Try.underlying40 size40 f4.out (sz2 _ _) ?_ ?_ ?_); (next => rfl); (next => rfl)))
          refine (isP other hN0 hN1 (bounded_run N s i) (rel_run N s i) (by omega) f7.out).mono ?_
          rintro e w8 ⟨rfl, hb8⟩
          have I8 := Aside0.mk (I7.out.bel hb8)
          clear hb8
          go_wp2_with fail
          go_roundw
          case rel => exact ⟨i + 1, _, by omega, by omega, by go_num, I8⟩
          case measure => simp [intOf]; omega
        · have hzb : ((o.f0.tmod 4) == 0) = false := by simp [hz]
          have HZ := Aside0.mk hz
          clear hz
          go_wp2_with (first | ((with_reducible refine op_loadg (g := w2.heap.size) (t := 29) b1.out (vec_size _ _) ?_ ?_ ?_); (next => rfl); (next => rfl)) | refine op_alloc29 ?_ | ((with_reducible refine op_store29_new (W := wr) (cs := vec N (runG N s i)) ?_ ?_ (vec_size _ _) (vec_size _ _) (vec_one _ _) ?_); (next => rfl); (next => rfl)) | ((with_reducible refine op_loadg (g := w2.heap.size) (t := 29) hI6.out (vec_size _ _) ?_ ?_ ?_); (next => rfl); (next => rfl)) | ((with_reducible refine op_ld (T := 40) (g := w3.heap.size) Try.underlying40 size40 a7.out (sz2 _ _) ?_ ?_ ?_); (next => rfl); (next => rfl)))
          refine (with_any N _ o.f1 o.f2.f0 o.f2.f1 _ hN1).mono ?_
          rintro e w5 ⟨rfl, hb5⟩
          have c1 := Aside0.mk (hbel hb5 b1.out)
          have c2 := Aside0.mk (hset (g := w2.heap.size) (vec N (withS N (runG N s i) o.f1 o.f2.f0 o.f2.f1)) HI.out.ne.symm (hbel hb5 b2.out))
          have c3 := Aside0.mk (hset (g := w2.heap.size) (vec N (withS N (runG N s i) o.f1 o.f2.f0 o.f2.f1)) (by omega) (hbel hb5 b3.out))
          have c4 := Aside0.mk (hset (g := w2.heap.size) (vec N (withS N (runG N s i) o.f1 o.f2.f0 o.f2.f1)) (by omega) (hbel hb5 b4.out))
          have c5 := Aside0.mk (hset (g := w2.heap.size) (vec N (withS N (runG N s i) o.f1 o.f2.f0 o.f2.f1)) (by omega) (hbel hb5 b5.out))
          have c6 := Aside0.mk (R_row (vec N (withS N (runG N s i) o.f1 o.f2.f0 o.f2.f1)) (Kd.R_below b6.out hb5) c1.out (by decide))
          have c7 := Aside0.mk (below_setRow (g := w2.heap.size) (chain b7.out hb5) HI.out.l6 (vec N (withS N (runG N s i) o.f1 o.f2.f0 o.f2.f1)))
          have c8 := Aside0.mk (setRow_heap w5 w2.heap.size _ (vec N (withS N (runG N s i) o.f1 o.f2.f0 o.f2.f1)) _ _ c1.out)
          clear hb5
          have d1 := cell_of_row _ _ 1 _ _ _ c5.out
          have d2 := cell_of_row _ _ 2 _ _ _ c5.out
          have d3 := cell_of_row _ _ 3 _ _ _ c5.out
          simp at d1 d2 d3
          go_wp2_with (first | ((with_reducible refine op_st (T := 29) (g := w2.heap.size) (cs := vec N (withS N (runG N s i) o.f1 o.f2.f0 o.f2.f1)) size29 c1.out (vec_size _ _) (vec_size _ _) (vec_one _ _) ?_ ?_ ?_ ?_); (next => rfl); (next => rfl); (next => rfl)) | ((with_reducible refine op_ld (T := 40) (g := w3.heap.size) Try.underlying40 size40 c2.out (sz2 _ _) ?_ ?_ ?_); (next => rfl); (next => rfl)))
          refine (withR_any2 N o.f1 o.f2.f0 o.f2.f1 _ _ w _ (by omega) c7.out c6.out).mono ?_
          rintro e w6 ⟨A5, m5, n5, rfl, hR6, hb6, hk6, ho6⟩
          have e1 := Aside0.mk (hset (g := w3.heap.size) #[.int .i64 N, .slice A5 m5 n5] HI.out.ne (hk6 _ _ _ c8.out (by decide)))
          have e5 := Aside0.mk (hk6 _ _ _ c2.out (by decide))
          have e2 := Aside0.mk (setRow_heap w6 w3.heap.size _ #[.int .i64 N, .slice A5 m5 n5] _ _ e5.out)
          have e3 := Aside0.mk (hset (g := w3.heap.size) #[.int .i64 N, .slice A5 m5 n5] (by omega) (hk6 _ _ _ c3.out (by decide)))
          have e4 := Aside0.mk (hset (g := w3.heap.size) #[.int .i64 N, .slice A5 m5 n5] (by omega) (hk6 _ _ _ c4.out (by decide)))
          have e6 := Aside0.mk (R_row #[.int .i64 N, .slice A5 m5 n5] hR6 e5.out (by decide))
          have e7 := Aside0.mk (R_row #[.int .i64 N, .slice A5 m5 n5] ho6 e5.out (by decide))
          have e8 := Aside0.mk (below_setRow (g := w3.heap.size) hb6 HI.out.l7 #[.int .i64 N, .slice A5 m5 n5])
          clear hR6 hb6 hk6 ho6
          have I6 := Aside0.mk (⟨by rw [EG.out]; unfold stepG; rw [if_neg HZ.out]; exact e1.out, e2.out, by rw [EL.out]; unfold stepL; rw [if_neg HZ.out]; exact e6.out, e8.out, HI.out.ne, HI.out.l6, HI.out.l7⟩ : PI N s (i + 1) w2.heap.size w3.heap.size w (w6.setRow w3.heap.size #[.int .i64 N, .slice A5 m5 n5]) _)
          have G6 : Aside0 (runG N s (i + 1) = (withS N (runG N s i) o.f1 o.f2.f0 o.f2.f1)) := ⟨by rw [EG.out]; unfold stepG; rw [if_neg HZ.out]⟩
          go_wp2_with (first | ((with_reducible refine op_st (T := 40) (g := w3.heap.size) (cs := #[.int .i64 N, .slice A5 m5 n5]) size40 e5.out (sz2 _ _) (sz2 _ _) (one40 _ _ _ _) ?_ ?_ ?_ ?_); (next => rfl); (next => rfl); (next => rfl)) | ((with_reducible refine op_loadg (g := w2.heap.size) (t := 29) e1.out (vec_size _ _) ?_ ?_ ?_); (next => rfl); (next => rfl)) | ((with_reducible refine op_ld (T := 40) (g := w3.heap.size) Try.underlying40 size40 e2.out (sz2 _ _) ?_ ?_ ?_); (next => rfl); (next => rfl)))
          rw [← G6.out]
          refine (isP other hN0 hN1 (bounded_run N s (i + 1)) (rel_run N s (i + 1)) (by have := runL_length N s (i + 1); omega) I6.out.R).mono ?_
          rintro e w7 ⟨rfl, hb7⟩
          have I7 := Aside0.mk (I6.out.bel hb7)
          have f3 := Aside0.mk (hbel hb7 e3.out)
          have f4 := Aside0.mk (hbel hb7 e4.out)
          have f7 := Aside0.mk (Kd.R_below e7.out hb7)
          clear hb7
          go_wp2_with (first | ((with_reducible refine op_loadg (g := wr.heap.size) (t := 29) f3.out (vec_size _ _) ?_ ?_ ?_); (next => rfl); (next => rfl)) | ((with_reducible refine op_ld (T := 40) (g := wr.heap.size + 1) Try.underlying40 size40 f4.out (sz2 _ _) ?_ ?_ ?_); (next => rfl); (next => rfl)))
          refine (isP other hN0 hN1 (bounded_run N s i) (rel_run N s i) (by omega) f7.out).mono ?_
          rintro e w8 ⟨rfl, hb8⟩
          have I8 := Aside0.mk (I7.out.bel hb8)
          clear hb8
          go_wp2_with fail
          go_roundw
          case rel => exact ⟨i + 1, _, by omega, by omega, by go_num, I8⟩
          case measure => simp [intOf]; omega
      · go_wp2_with fail
        go_ret
        exact ⟨rfl, HI.out.B⟩
    · go_wp2_with fail
      go_ret
      exact ⟨rfl, HI.out.B⟩
end Go.Proofs.Ythjakmdflpkjkaa
