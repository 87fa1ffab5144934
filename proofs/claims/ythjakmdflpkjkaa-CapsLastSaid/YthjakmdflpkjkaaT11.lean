/- The walk of 'played': a vector that a script made, and the reference's. -/
import Derived.Test.YthjakmdflpkjkaaT10
namespace Go.Proofs.Ythjakmdflpkjkaa
open Go.RowKit Go.Proofs.YthjakmdflpkjkaaW.PrintWords Go.Proofs.YthjakmdflpkjkaaW.PrintLast PCapsSame

structure PlayInv (n N : Int) (s : List S44) (i : Nat) (b6 b7 : Nat) (w wr : World) (u : Value) : Prop where
  H6 : wr.heap[b6]? = some (.cells (vec N (runG N s i)) 29 (0, 0))
  H7 : wr.heap[b7]? = some (.cells #[.int .i64 N, u] 40 (0, 0))
  R : Kd.R k58 58 wr w.heap.size (fun _ => True) u (runL N s i)
  B : Below w.heap.size w wr
  ne : b6 ≠ b7
  l6 : w.heap.size + 2 ≤ b6
  l7 : w.heap.size + 2 ≤ b7

theorem sz2 (a b : Value) : (#[a, b] : Array Value).size = 2 := rfl
theorem one40 (N : Int) (A : Option Addr) (n c : Nat) : (#[.int .i64 N, .slice A n c] : Array Value).all (·.oneCell') = true := by simp; exact ⟨rfl, rfl⟩
theorem R_row {w : World} {base g : Nat} {u : Value} {l : List S58} {old : Array Value} {t : TypeId} (cs : Array Value) (h : Kd.R k58 58 w base (fun _ => True) u l) (hg : w.heap[g]? = some (.cells old t (0, 0))) (ht : t ≠ 58) :
    Kd.R k58 58 (w.setRow g cs) base (fun _ => True) u l := by
  refine Kd.R_mono (Kd.R_step (Kd.R_types h hg ?_) (fun k hk _ => setRow_other w g k cs hk.2)) (fun _ _ => trivial)
  intro q hq he
  have h : q = 58 := by
    simp [k58, k23, Kd.iso, Kd.pair, Kd.int, Kd.bool, Kd.scalar] at hq
    exact hq
  exact ht (by rw [← he, h])

theorem run_storeOp {ρ : Operand → Value} {w w' : World} {dst : Option Tmp} {ty : TypeId} {pos : String} {after : Array Edge} {t : TypeId} {p x : Operand} {ad : Addr} {v : Value} {g : Option (Nat × Bool)} (hp : ρ p = .pointer (some ad)) (hx : ρ x = v) (h : (storeVar t ad v).run Try.prog w = .ok () w') :
    (execOp ρ ⟨dst, .store t p x, ty, pos, after, g⟩).run Try.prog w = .ok .skip w' := by
  simp only [execOp, hp, hx, Instr.storeAt, Instr.sureAddr, Sem.run_bind, Sem.run_pure, Result.andThen_ok, h]
theorem results_two29 {fn : Func} {p q : Tmp} {t1 t2 : TypeId} {tmps : Array Value} {w : World} {a b : Addr} {v u : Value} (h1 : (loadVar t1 a).run Try.prog w = .ok v w) (h2 : (loadVar t2 b).run Try.prog w = .ok u w)
    (hr : fn.results = #[.cell p t1, .cell q t2]) (hp : tmps.getD p undef = .pointer (some a)) (hq : tmps.getD q undef = .pointer (some b)) : (results fn tmps).run Try.prog w = .ok (.tuple #[v, u]) w := by
  have hp' : tmps[p]?.getD undef = .pointer (some a) := by simpa using hp
  have hq' : tmps[q]?.getD undef = .pointer (some b) := by simpa using hq
  simp [results, hr, hp', hq', asAddr, h1, h2]

set_option maxRecDepth 100000 in
set_option maxHeartbeats 1600000 in
theorem played_loop (n : Int) (A : Option Addr) (len cap : Nat) (s : List S44) (w : World) (hC : Kd.C k44 w A len s) (hlen : s.length = len) :
    Calls Try.prog 19 #[.int .i64 n, .slice A len cap] w fun e w' => ∃ u, e = .returned (.tuple #[.agg (vec (min (max n 0) 60) (runG (min (max n 0) 60) s (min len 100))), .agg #[.int .i64 (min (max n 0) 60), u]]) ∧
      Kd.R k58 58 w' w.heap.size (fun _ => True) u (runL (min (max n 0) 60) s (min len 100)) ∧ Below w.heap.size w w' := by
  obtain ⟨N, hN⟩ : ∃ N, N = min (max n 0) 60 := ⟨_, rfl⟩
  have hN1 : N ≤ 60 := by omega
  have HN := Aside0.mk hN
  rw [← hN]
  clear hN
  have HC := Aside0.mk hC
  have HL := Aside0.mk hlen
  have hmax : len ≤ 9223372036854775807 := Kd.C_max hC
  clear hC hlen
  go_enter Try.func19, Try.ntmps19
  go_wp2_with (first | refine op_alloc29 ?_ | fail)
  refine (new_any n _).mono ?_
  rintro e w2 ⟨rfl, hb2⟩
  rw [← HN.out]
  have B2 := Aside0.mk (below_alloc (chain (below_alloc (below_alloc (Below.refl _ w) (.cells (vec 0 off) 29)) (.cells #[.int .i64 0, .slice none 0 0] 40)) hb2) (.cells (vec N off) 29))
  have R2 := Aside0.mk (hup (.cells (vec N off) 29) (hbel hb2 (hup (.cells #[.int .i64 0, .slice none 0 0] 40) (heap_at w (.cells (vec 0 off) 29) rfl))))
  have Q2 := Aside0.mk (hup (.cells (vec N off) 29) (hbel hb2 (heap_at (w.alloc (.cells (vec 0 off) 29)) (.cells #[.int .i64 0, .slice none 0 0] 40) rfl)))
  have V2 := Aside0.mk (heap_at w2 (.cells (vec N off) 29) rfl)
  have Z2 : w.heap.size + 2 ≤ w2.heap.size := by have := hb2.size; simp at this; omega
  clear hb2
  go_wp2_with (first | refine op_alloc29 ?_ | ((with_reducible refine op_store29_new (W := w2) (cs := vec N off) ?_ ?_ (vec_size _ _) (vec_size _ _) (vec_one _ _) ?_); (next => rfl); (next => rfl)))
  refine (newR_any n _).mono ?_
  rintro e w3 ⟨rfl, hb3⟩
  rw [← HN.out]
  have INV := Aside0.mk (⟨hup (.cells #[.int .i64 N, .slice none 0 0] 40) (hbel hb3 V2.out), heap_at w3 (.cells #[.int .i64 N, .slice none 0 0] 40) rfl, Kd.R_nil _ _ _ _ _, below_alloc (chain B2.out hb3) _, by have := hb3.size; simp at this; omega, Z2, by have := hb3.size; simp at this; omega⟩ : PlayInv n N s 0 w2.heap.size w3.heap.size w (w3.alloc (.cells #[.int .i64 N, .slice none 0 0] 40)) (.slice none 0 0))
  have RB := Aside0.mk (hup (.cells #[.int .i64 N, .slice none 0 0] 40) (hbel hb3 R2.out))
  have QB := Aside0.mk (hup (.cells #[.int .i64 N, .slice none 0 0] 40) (hbel hb3 Q2.out))
  have Z3 : w2.heap.size < w3.heap.size := by have := hb3.size; simp at this; omega
  clear hb3
  go_wp2_with fail
  go_loopw [8] (fun k wr => ∃ (i : Nat) (u : Value), i ≤ len ∧ i ≤ 100 ∧ k = .int .i64 i ∧ Aside0 (PlayInv n N s i w2.heap.size w3.heap.size w wr u) ∧ Aside0 (wr.heap[w.heap.size]? = some (.cells (vec 0 off) 29 (0, 0))) ∧ Aside0 (wr.heap[w.heap.size + 1]? = some (.cells #[.int .i64 0, .slice none 0 0] 40 (0, 0)))) (fun k _ => (101 - intOf k).toNat)
  case atStart => exact ⟨0, _, by omega, by omega, rfl, INV, RB, ⟨by have := QB.out; simpa using this⟩⟩
  case round =>
    obtain ⟨i, u, hi, hi2, rfl, HI, HRB, HQB⟩ := hrel
    by_cases h1 : i < len
    · by_cases h2 : i < 100
      · obtain ⟨ad, rfl, q0, q1, q2, q3⟩ := at_T44 (Kd.C_below HC.out HI.out.B) i h1
        obtain ⟨o, ho⟩ : ∃ o, o = rd_T44 s i := ⟨_, rfl⟩
        rw [← ho] at q0 q1 q2 q3
        have HO := Aside0.mk ho
        clear ho
        have eG := runG_succ N s i (by rw [HL.out]; exact h1)
        have eL := runL_succ N s i (by rw [HL.out]; exact h1)
        rw [← HO.out] at eG eL
        have hll := runL_length N s i
        have G := bounded_run N s i
        have EG := Aside0.mk eG
        have EL := Aside0.mk eL
        have b1 := Aside0.mk (hup (.cells #[.int .i64 o.f0, .int .i64 o.f1, .int .i64 o.f2.f0, .int .i64 o.f2.f1] 44) HI.out.H6)
        have b2 := Aside0.mk (hup (.cells #[.int .i64 o.f0, .int .i64 o.f1, .int .i64 o.f2.f0, .int .i64 o.f2.f1] 44) HI.out.H7)
        have b3 := Aside0.mk (hup (.cells #[.int .i64 o.f0, .int .i64 o.f1, .int .i64 o.f2.f0, .int .i64 o.f2.f1] 44) HRB.out)
        have b4 := Aside0.mk (hup (.cells #[.int .i64 o.f0, .int .i64 o.f1, .int .i64 o.f2.f0, .int .i64 o.f2.f1] 44) HQB.out)
        have b5 := Aside0.mk (heap_at wr (.cells #[.int .i64 o.f0, .int .i64 o.f1, .int .i64 o.f2.f0, .int .i64 o.f2.f1] 44) rfl)
        have b6 := Aside0.mk (Kd.R_alloc HI.out.R (.cells #[.int .i64 o.f0, .int .i64 o.f1, .int .i64 o.f2.f0, .int .i64 o.f2.f1] 44))
        have b7 := Aside0.mk (below_alloc HI.out.B (.cells #[.int .i64 o.f0, .int .i64 o.f1, .int .i64 o.f2.f0, .int .i64 o.f2.f1] 44))
        clear eG eL
        by_cases hz : o.f0.tmod 4 = 0
        · have hzb : ((o.f0.tmod 4) == 0) = true := by simp [hz]
          have HZ := Aside0.mk hz
          clear hz
          go_wp2_with ((with_reducible refine op_loadg (g := w2.heap.size) (t := 29) b1.out (vec_size _ _) ?_ ?_ ?_); (next => rfl); (next => rfl))
          refine (without_any N _ o.f1 _ hN1).mono ?_
          rintro e w4 ⟨rfl, hb4⟩
          have c1 := Aside0.mk (hbel hb4 b1.out)
          have c2 := Aside0.mk (hset (g := w2.heap.size) (vec N (withoutS N (runG N s i) o.f1)) HI.out.ne.symm (hbel hb4 b2.out))
          have c3 := Aside0.mk (hset (g := w2.heap.size) (vec N (withoutS N (runG N s i) o.f1)) (by omega) (hbel hb4 b3.out))
          have c4 := Aside0.mk (hset (g := w2.heap.size) (vec N (withoutS N (runG N s i) o.f1)) (by omega) (hbel hb4 b4.out))
          have c5 := Aside0.mk (hset (g := w2.heap.size) (vec N (withoutS N (runG N s i) o.f1)) (by have := blt HI.out.H6; omega) (hbel hb4 b5.out))
          have c6 := Aside0.mk (R_row (vec N (withoutS N (runG N s i) o.f1)) (Kd.R_below b6.out hb4) c1.out (by decide))
          have c7 := Aside0.mk (below_setRow (g := w2.heap.size) (chain b7.out hb4) (by omega) (vec N (withoutS N (runG N s i) o.f1)))
          have c8 := Aside0.mk (setRow_heap w4 w2.heap.size _ (vec N (withoutS N (runG N s i) o.f1)) _ _ c1.out)
          clear hb4
          have d1 := cell_of_row _ _ 1 _ _ _ c5.out
          simp at d1
          go_wp2_with (first | ((with_reducible refine op_st (T := 29) (g := w2.heap.size) (cs := vec N (withoutS N (runG N s i) o.f1)) size29 c1.out (vec_size _ _) (vec_size _ _) (vec_one _ _) ?_ ?_ ?_ ?_); (next => rfl); (next => rfl); (next => rfl)) | ((with_reducible refine op_ld (T := 40) (g := w3.heap.size) Try.underlying40 size40 c2.out (sz2 _ _) ?_ ?_ ?_); (next => rfl); (next => rfl)))
          refine (withoutR_any N o.f1 u _ w _ (by omega) c7.out c6.out).mono ?_
          rintro e w5 ⟨A5, n5, rfl, hR5, hb5⟩
          have e1 := Aside0.mk (hset (g := w3.heap.size) #[.int .i64 N, .slice A5 ((runL N s i).length + 1) n5] HI.out.ne (hbel hb5 c8.out))
          have e2 := Aside0.mk (setRow_heap w5 w3.heap.size _ #[.int .i64 N, .slice A5 ((runL N s i).length + 1) n5] _ _ (hbel hb5 c2.out))
          have e3 := Aside0.mk (hset (g := w3.heap.size) #[.int .i64 N, .slice A5 ((runL N s i).length + 1) n5] (by omega) (hbel hb5 c3.out))
          have e4 := Aside0.mk (hset (g := w3.heap.size) #[.int .i64 N, .slice A5 ((runL N s i).length + 1) n5] (by omega) (hbel hb5 c4.out))
          have e5 := Aside0.mk (hbel hb5 c2.out)
          have e6 := Aside0.mk (R_row #[.int .i64 N, .slice A5 ((runL N s i).length + 1) n5] hR5 e5.out (by decide))
          have e7 := Aside0.mk (below_setRow (g := w3.heap.size) (chain c7.out hb5) (by omega) #[.int .i64 N, .slice A5 ((runL N s i).length + 1) n5])
          clear hb5 hR5
          go_wp2_with (first | ((with_reducible refine op_st (T := 40) (g := w3.heap.size) (cs := #[.int .i64 N, .slice A5 ((runL N s i).length + 1) n5]) size40 e5.out (sz2 _ _) (sz2 _ _) (one40 _ _ _ _) ?_ ?_ ?_ ?_); (next => rfl); (next => rfl); (next => rfl)))
          go_roundw
          case rel => exact ⟨i + 1, _, by omega, by omega, by go_num, ⟨⟨by rw [EG.out]; unfold stepG; rw [if_pos HZ.out]; exact e1.out, e2.out, by rw [EL.out]; unfold stepL; rw [if_pos HZ.out]; exact e6.out, e7.out, HI.out.ne, HI.out.l6, HI.out.l7⟩⟩, e3, e4⟩
          case measure => simp [intOf]; omega
        · have hzb : ((o.f0.tmod 4) == 0) = false := by simp [hz]
          have HZ := Aside0.mk hz
          clear hz
          go_wp2_with ((with_reducible refine op_loadg (g := w2.heap.size) (t := 29) b1.out (vec_size _ _) ?_ ?_ ?_); (next => rfl); (next => rfl))
          refine (with_any N _ o.f1 o.f2.f0 o.f2.f1 _ hN1).mono ?_
          rintro e w4 ⟨rfl, hb4⟩
          have c1 := Aside0.mk (hbel hb4 b1.out)
          have c2 := Aside0.mk (hset (g := w2.heap.size) (vec N (withS N (runG N s i) o.f1 o.f2.f0 o.f2.f1)) HI.out.ne.symm (hbel hb4 b2.out))
          have c3 := Aside0.mk (hset (g := w2.heap.size) (vec N (withS N (runG N s i) o.f1 o.f2.f0 o.f2.f1)) (by omega) (hbel hb4 b3.out))
          have c4 := Aside0.mk (hset (g := w2.heap.size) (vec N (withS N (runG N s i) o.f1 o.f2.f0 o.f2.f1)) (by omega) (hbel hb4 b4.out))
          have c5 := Aside0.mk (hset (g := w2.heap.size) (vec N (withS N (runG N s i) o.f1 o.f2.f0 o.f2.f1)) (by have := blt HI.out.H6; omega) (hbel hb4 b5.out))
          have c6 := Aside0.mk (R_row (vec N (withS N (runG N s i) o.f1 o.f2.f0 o.f2.f1)) (Kd.R_below b6.out hb4) c1.out (by decide))
          have c7 := Aside0.mk (below_setRow (g := w2.heap.size) (chain b7.out hb4) (by omega) (vec N (withS N (runG N s i) o.f1 o.f2.f0 o.f2.f1)))
          have c8 := Aside0.mk (setRow_heap w4 w2.heap.size _ (vec N (withS N (runG N s i) o.f1 o.f2.f0 o.f2.f1)) _ _ c1.out)
          clear hb4
          have d1 := cell_of_row _ _ 1 _ _ _ c5.out
          have d2 := cell_of_row _ _ 2 _ _ _ c5.out
          have d3 := cell_of_row _ _ 3 _ _ _ c5.out
          simp at d1 d2 d3
          go_wp2_with (first | ((with_reducible refine op_st (T := 29) (g := w2.heap.size) (cs := vec N (withS N (runG N s i) o.f1 o.f2.f0 o.f2.f1)) size29 c1.out (vec_size _ _) (vec_size _ _) (vec_one _ _) ?_ ?_ ?_ ?_); (next => rfl); (next => rfl); (next => rfl)) | ((with_reducible refine op_ld (T := 40) (g := w3.heap.size) Try.underlying40 size40 c2.out (sz2 _ _) ?_ ?_ ?_); (next => rfl); (next => rfl)))
          refine (withR_any N o.f1 o.f2.f0 o.f2.f1 u _ w _ (by omega) c7.out c6.out).mono ?_
          rintro e w5 ⟨A5, m5, n5, rfl, hR5, hb5, hk5⟩
          have e1 := Aside0.mk (hset (g := w3.heap.size) #[.int .i64 N, .slice A5 m5 n5] HI.out.ne (hk5 _ _ _ c8.out (by decide)))
          have e2 := Aside0.mk (setRow_heap w5 w3.heap.size _ #[.int .i64 N, .slice A5 m5 n5] _ _ (hk5 _ _ _ c2.out (by decide)))
          have e3 := Aside0.mk (hset (g := w3.heap.size) #[.int .i64 N, .slice A5 m5 n5] (by omega) (hk5 _ _ _ c3.out (by decide)))
          have e4 := Aside0.mk (hset (g := w3.heap.size) #[.int .i64 N, .slice A5 m5 n5] (by omega) (hk5 _ _ _ c4.out (by decide)))
          have e5 := Aside0.mk (hk5 _ _ _ c2.out (by decide))
          have e6 := Aside0.mk (R_row #[.int .i64 N, .slice A5 m5 n5] hR5 e5.out (by decide))
          have e7 := Aside0.mk (below_setRow (g := w3.heap.size) hb5 (by omega) #[.int .i64 N, .slice A5 m5 n5])
          clear hb5 hR5 hk5
          go_wp2_with (first | ((with_reducible refine op_st (T := 40) (g := w3.heap.size) (cs := #[.int .i64 N, .slice A5 m5 n5]) size40 e5.out (sz2 _ _) (sz2 _ _) (one40 _ _ _ _) ?_ ?_ ?_ ?_); (next => rfl); (next => rfl); (next => rfl)))
          go_roundw
          case rel => exact ⟨i + 1, _, by omega, by omega, by go_num, ⟨⟨by rw [EG.out]; unfold stepG; rw [if_neg HZ.out]; exact e1.out, e2.out, by rw [EL.out]; unfold stepL; rw [if_neg HZ.out]; exact e6.out, e7.out, HI.out.ne, HI.out.l6, HI.out.l7⟩⟩, e3, e4⟩
          case measure => simp [intOf]; omega
      · have hcut : i = 100 := by omega
        have HM := Aside0.mk (show min len 100 = i by omega)
        go_wp2_with fail
        obtain ⟨A', n', c', rfl⟩ : ∃ A' n' c', u = .slice A' n' c' := by obtain ⟨A', c', e⟩ := Kd.R_slice HI.out.R; exact ⟨A', _, c', e⟩
        refine start_ (n := 4) (S := fun w' => w'.heap[w2.heap.size]? = some (.cells (vec N (runG N s i)) 29 (0, 0)) ∧ w'.heap[w3.heap.size]? = some (.cells #[.int .i64 N, .slice A' n' c'] 40 (0, 0))) (ds := []) #[false, false, false, false] (by kernel_rfl) rfl rfl ⟨HI.out.H6, HI.out.H7⟩ (fun hS => ?_)
        have g1 := Aside0.mk (show wr.drew.heap[w.heap.size]? = _ from HRB.out)
        have g2 := Aside0.mk (show wr.drew.heap[w.heap.size + 1]? = _ from HQB.out)
        have g3 := Aside0.mk (Kd.R_drew HI.out.R)
        have g4 := Aside0.mk (below_drew HI.out.B)
        generalize wr.drew = wd at *
        refine take_ (i := 0) (N := some 52) (v := .agg (vec N (runG N s i))) (a' := ?_) #[true, false, false, false] rfl rfl (by kernel_rfl) (fun _ _ _ h => h) (Or.inl ⟨by rfl, ?_⟩) hS ?_ ?_
        · rintro w' ⟨s0, s1⟩
          exact run_loadOp rfl (run_loadVar_row w' _ 29 29 _ (0, 0) _ s0 Try.underlying29 rfl (by rw [size29, vec_size]))
        rotate_left
        · simp only [Act.put, List.setIfInBounds_toArray, List.set_cons_zero, List.set_cons_succ]
          rfl
        refine take_ (i := 1) (N := some 53) (v := .agg #[.int .i64 N, .slice A' n' c']) (a' := ?_) #[true, true, false, false] rfl rfl (by kernel_rfl) (fun _ _ _ h => h) (Or.inl ⟨by rfl, ?_⟩) hS ?_ ?_
        · rintro w' ⟨s0, s1⟩
          exact run_loadOp rfl (run_loadVar_row w' _ 40 40 _ (0, 0) _ s1 Try.underlying40 rfl (by rw [size40, sz2]))
        rotate_left
        · simp only [Act.put, List.setIfInBounds_toArray, List.set_cons_zero, List.set_cons_succ]
          rfl
        refine one_ (i := 2) (N := none) #[true, true, true, false] rfl rfl (by kernel_rfl) (by decide) (fun K hK => ?_)
        refine skip_ (w1 := wd.setRow w.heap.size (vec N (runG N s i))) (by rfl) rfl (run_storeOp rfl rfl (run_storeVar_row _ _ 29 29 _ _ g1.out (by rw [size29, vec_size]) (by rw [vec_size, vec_size]) (vec_one _ _))) ?_
        refine hK.out _ _ ⟨hset (vec N (runG N s i)) (by omega) hS.1, hset (vec N (runG N s i)) (by omega) hS.2⟩ (fun hS2 => ?_)
        clear hK K
        refine one_ (i := 3) (N := none) #[true, true, true, true] rfl rfl (by kernel_rfl) (by decide) (fun K hK => ?_)
        have g5 := Aside0.mk (hset (g := w.heap.size) (vec N (runG N s i)) (show w.heap.size + 1 ≠ w.heap.size by omega) g2.out)
        have g6 := Aside0.mk (setRow_heap wd w.heap.size _ (vec N (runG N s i)) _ _ g1.out)
        refine skip_ (w1 := (wd.setRow w.heap.size (vec N (runG N s i))).setRow (w.heap.size + 1) #[.int .i64 N, .slice A' n' c']) (by rfl) rfl (run_storeOp rfl rfl (run_storeVar_row _ _ 40 40 _ _ g5.out (by rw [size40, sz2]) (by rw [sz2, sz2]) (one40 _ _ _ _))) ?_
        refine hK.out _ _ ⟨hset _ (by omega) hS2.1, hset _ (by omega) hS2.2⟩ (fun _ => ?_)
        clear hK K
        refine done_ (by kernel_rfl) ?_
        try go_wp2
        refine bodyPost_ret (v := .tuple #[.agg (vec N (runG N s i)), .agg #[.int .i64 N, .slice A' n' c']]) ?_ rfl ⟨.slice A' n' c', by rw [HM.out], ?_, ?_⟩
        · have r1 := run_loadVar_row (P := Try.prog) _ _ 29 29 _ (0, 0) _ (hset (g := w.heap.size + 1) #[.int .i64 N, .slice A' n' c'] (by omega) g6.out) Try.underlying29 rfl (by rw [size29, vec_size])
          have r2 := run_loadVar_row (P := Try.prog) _ _ 40 40 _ (0, 0) _ (setRow_heap _ (w.heap.size + 1) _ #[.int .i64 N, .slice A' n' c'] _ _ g5.out) Try.underlying40 rfl (by rw [size40, sz2])
          exact results_two29 r1 r2 rfl rfl rfl
        · rw [HM.out]
          exact R_row _ (R_row _ g3.out g1.out (by decide)) g5.out (by decide)
        · exact below_setRow (below_setRow g4.out (Nat.le_refl _) _) (by omega) _
    · have hcut : i = len := by omega
      have HM := Aside0.mk (show min len 100 = i by omega)
      go_wp2_with fail
      obtain ⟨A', n', c', rfl⟩ : ∃ A' n' c', u = .slice A' n' c' := by obtain ⟨A', c', e⟩ := Kd.R_slice HI.out.R; exact ⟨A', _, c', e⟩
      refine start_ (n := 4) (S := fun w' => w'.heap[w2.heap.size]? = some (.cells (vec N (runG N s i)) 29 (0, 0)) ∧ w'.heap[w3.heap.size]? = some (.cells #[.int .i64 N, .slice A' n' c'] 40 (0, 0))) (ds := []) #[false, false, false, false] (by kernel_rfl) rfl rfl ⟨HI.out.H6, HI.out.H7⟩ (fun hS => ?_)
      have g1 := Aside0.mk (show wr.drew.heap[w.heap.size]? = _ from HRB.out)
      have g2 := Aside0.mk (show wr.drew.heap[w.heap.size + 1]? = _ from HQB.out)
      have g3 := Aside0.mk (Kd.R_drew HI.out.R)
      have g4 := Aside0.mk (below_drew HI.out.B)
      generalize wr.drew = wd at *
      refine take_ (i := 0) (N := some 52) (v := .agg (vec N (runG N s i))) (a' := ?_) #[true, false, false, false] rfl rfl (by kernel_rfl) (fun _ _ _ h => h) (Or.inl ⟨by rfl, ?_⟩) hS ?_ ?_
      · rintro w' ⟨s0, s1⟩
        exact run_loadOp rfl (run_loadVar_row w' _ 29 29 _ (0, 0) _ s0 Try.underlying29 rfl (by rw [size29, vec_size]))
      rotate_left
      · simp only [Act.put, List.setIfInBounds_toArray, List.set_cons_zero, List.set_cons_succ]
        rfl
      refine take_ (i := 1) (N := some 53) (v := .agg #[.int .i64 N, .slice A' n' c']) (a' := ?_) #[true, true, false, false] rfl rfl (by kernel_rfl) (fun _ _ _ h => h) (Or.inl ⟨by rfl, ?_⟩) hS ?_ ?_
      · rintro w' ⟨s0, s1⟩
        exact run_loadOp rfl (run_loadVar_row w' _ 40 40 _ (0, 0) _ s1 Try.underlying40 rfl (by rw [size40, sz2]))
      rotate_left
      · simp only [Act.put, List.setIfInBounds_toArray, List.set_cons_zero, List.set_cons_succ]
        rfl
      refine one_ (i := 2) (N := none) #[true, true, true, false] rfl rfl (by kernel_rfl) (by decide) (fun K hK => ?_)
      refine skip_ (w1 := wd.setRow w.heap.size (vec N (runG N s i))) (by rfl) rfl (run_storeOp rfl rfl (run_storeVar_row _ _ 29 29 _ _ g1.out (by rw [size29, vec_size]) (by rw [vec_size, vec_size]) (vec_one _ _))) ?_
      refine hK.out _ _ ⟨hset (vec N (runG N s i)) (by omega) hS.1, hset (vec N (runG N s i)) (by omega) hS.2⟩ (fun hS2 => ?_)
      clear hK K
      refine one_ (i := 3) (N := none) #[true, true, true, true] rfl rfl (by kernel_rfl) (by decide) (fun K hK => ?_)
      have g5 := Aside0.mk (hset (g := w.heap.size) (vec N (runG N s i)) (show w.heap.size + 1 ≠ w.heap.size by omega) g2.out)
      have g6 := Aside0.mk (setRow_heap wd w.heap.size _ (vec N (runG N s i)) _ _ g1.out)
      refine skip_ (w1 := (wd.setRow w.heap.size (vec N (runG N s i))).setRow (w.heap.size + 1) #[.int .i64 N, .slice A' n' c']) (by rfl) rfl (run_storeOp rfl rfl (run_storeVar_row _ _ 40 40 _ _ g5.out (by rw [size40, sz2]) (by rw [sz2, sz2]) (one40 _ _ _ _))) ?_
      refine hK.out _ _ ⟨hset _ (by omega) hS2.1, hset _ (by omega) hS2.2⟩ (fun _ => ?_)
      clear hK K
      refine done_ (by kernel_rfl) ?_
      try go_wp2
      refine bodyPost_ret (v := .tuple #[.agg (vec N (runG N s i)), .agg #[.int .i64 N, .slice A' n' c']]) ?_ rfl ⟨.slice A' n' c', by rw [HM.out], ?_, ?_⟩
      · have r1 := run_loadVar_row (P := Try.prog) _ _ 29 29 _ (0, 0) _ (hset (g := w.heap.size + 1) #[.int .i64 N, .slice A' n' c'] (by omega) g6.out) Try.underlying29 rfl (by rw [size29, vec_size])
        have r2 := run_loadVar_row (P := Try.prog) _ _ 40 40 _ (0, 0) _ (setRow_heap _ (w.heap.size + 1) _ #[.int .i64 N, .slice A' n' c'] _ _ g5.out) Try.underlying40 rfl (by rw [size40, sz2])
        exact results_two29 r1 r2 rfl rfl rfl
      · rw [HM.out]
        exact R_row _ (R_row _ g3.out g1.out (by decide)) g5.out (by decide)
      · exact below_setRow (below_setRow g4.out (Nat.le_refl _) _) (by omega) _
end Go.Proofs.Ythjakmdflpkjkaa
