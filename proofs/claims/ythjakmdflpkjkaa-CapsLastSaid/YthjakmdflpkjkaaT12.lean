/- The walk of CapsSame. -/
import Derived.Test.YthjakmdflpkjkaaQ
import Derived.Test.YthjakmdflpkjkaaPure2
namespace Go.Proofs.Ythjakmdflpkjkaa
open Go.RowKit Go.Proofs.YthjakmdflpkjkaaW.PrintWords PCapsSame

/-- A load of a whole box, in every later world. -/
theorem q_ld {T : TypeId} {fs : Array Field} {n : Nat} {ρ : Operand → Value} {w : World} {dst : Option Tmp} {ty : TypeId} {pos : String} {after : Array Edge} {gd : Option (Nat × Bool)} {p : Operand} {g : Nat} {cs : Array Value} {t : TypeId}
    (hu : Try.prog.underlying T = some (.struct fs)) (hi : (Try.prog.info? T).map (·.size) = some n) (hg : w.heap[g]? = some (.cells cs t (0, 0))) (hs : cs.size = n) (hp : ρ p = .pointer (some ⟨g, 0, none⟩)) :
    ∀ w', Below w.heap.size w w' → (execOp ρ ⟨dst, .load T p, ty, pos, after, gd⟩).run Try.prog w' = .ok (.value (.agg cs)) w' :=
  fun w' hb => run_loadOp hp (run_loadVar_row w' g t T cs (0, 0) _ (hbel hb hg) hu rfl (by rw [hi, hs]))

theorem setRow_alloc (w : World) (o : Obj) (g : Nat) (cs : Array Value) (h : g < w.heap.size) : (w.alloc o).setRow g cs = (w.setRow g cs).alloc o := by
  simp only [World.setRow, World.alloc]
  congr 1
  apply Array.ext_getElem?
  intro i
  rw [Array.getElem?_modify, Array.getElem?_push, Array.getElem?_push, Array.getElem?_modify, Array.size_modify]
  by_cases hi : i = w.heap.size
  · rw [if_pos hi, if_pos hi, if_neg (by omega)]
  · rw [if_neg hi, if_neg hi]
section
variable {ops : Array Oper} {rest : List Oper} {a : Act} {w : World} {Q : Exit → Act → World → Prop} {dst : Option Tmp} {ty : TypeId} {pos : String} {after : Array Edge} {gd : Option (Nat × Bool)}
/-- Into the block ahead of the last one. -/
theorem op_st29_up {p x : Operand} {cs old : Array Value} {t : TypeId} {o2 : Obj} (ho : old.size = 62) (hs : cs.size = 62) (h1 : cs.all (·.oneCell') = true)
    (hp : a.eval p = .pointer (some ⟨w.heap.size, 0, none⟩)) (hx : a.eval x = .agg cs)
    (h : wpList Try.prog ops Q rest (a.put dst undef) ((w.alloc (.cells cs t)).alloc o2)) : wpList Try.prog ops Q (⟨dst, .store 29 p x, ty, pos, after, none⟩ :: rest) a ((w.alloc (.cells old t)).alloc o2) := by
  refine op_st (g := w.heap.size) (cs := cs) size29 (hup o2 (heap_at w (.cells old t) rfl)) ho hs h1 hp hx rfl ?_
  rw [setRow_alloc _ _ _ _ (by simp), World.setRow_alloc_new]
  exact h
end
theorem sameB_comm (g h : Spans) : sameB g h = sameB h g := by
  rw [Bool.eq_iff_iff, sameB_iff, sameB_iff]
  exact ⟨fun e i hi => (e i hi).symm, fun e i hi => (e i hi).symm⟩
theorem q_callC {ops : Array Oper} {rest : List Oper} {o : Oper} {a a' : Act} {w : World} {K : Act → Prop} (f : FuncId) (args : Array Value) (v : Value) (hw : Region.wanted o (yielded ops a.tmps) = true) (hr : ∀ w', (execOp a.eval o).run Try.prog w' = .ok (.enter f args) w')
    (hc : ∀ w', Below w.heap.size w w' → Calls Try.prog f args w' fun e w'' => e = .returned v ∧ Below w'.heap.size w' w'') (ha : a.put o.dst v = a')
    (h : wpQuiet Try.prog ops (fun w' => Below w.heap.size w w') K rest a') : wpQuiet Try.prog ops (fun w' => Below w.heap.size w w') K (o :: rest) a := by
  subst ha
  unfold wpQuiet
  rw [if_pos hw]
  refine ⟨v, fun w' hw' => ?_, h⟩
  unfold Oper.quietAt
  rw [hr w']
  refine ⟨rfl, (hc w' hw').mono ?_⟩
  rintro e w'' ⟨he, hb⟩
  exact ⟨he, chain hw' hb⟩
theorem sameR_any {N M : Int} {g h : Spans} {l m : List S58} {A B : Option Addr} {n k c d base base' : Nat} {w : World} (hg : Rel N g l) (hh : Rel M h m) (og : Off N g) (oh : Off M h) (hll : l.length < 1000) (hml : m.length < 1000) (hN0 : 0 ≤ N) (hN : N ≤ 60)
    (hl : Kd.R k58 58 w base (fun _ => True) (.slice A n c) l) (hm : Kd.R k58 58 w base' (fun _ => True) (.slice B k d) m) :
    ∀ w', Below w.heap.size w w' → Calls Try.prog 21 #[.agg #[.int .i64 N, .slice A n c], .agg #[.int .i64 M, .slice B k d]] w' fun e w'' => e = .returned (.bool (decide (N = M) && sameB g h)) ∧ Below w'.heap.size w' w'' := by
  intro w' hb
  obtain ⟨rfl, hc, hC⟩ := Kd.R_reads' (Kd.R_below hl hb)
  obtain ⟨rfl, hc', hC'⟩ := Kd.R_reads' (Kd.R_below hm hb)
  exact lurcherref16_Same.calls 3000 N A c l M B d m _ w' hC hc hC' hc' (sameR_f hg hh og oh hll hml hN0 hN)

set_option maxRecDepth 100000 in
set_option maxHeartbeats 1600000 in
theorem same_law (a b : Int) (A : Option Addr) (lenA capA : Nat) (s : List S44) (B : Option Addr) (lenB capB : Nat) (t : List S44) (w : World) (hA : Kd.C k44 w A lenA s) (hB : Kd.C k44 w B lenB t) :
    Calls Try.prog 6 #[.int .i64 a, .int .i64 b, .slice A lenA capA, .slice B lenB capB] w fun e w' => e = .returned (.bool true) ∧ Below w.heap.size w w' := by
  obtain ⟨N, hN⟩ : ∃ N, N = min (max a 0) 60 := ⟨_, rfl⟩
  obtain ⟨M, hM⟩ : ∃ M, M = min (max b 0) 60 := ⟨_, rfl⟩
  have HA := Aside0.mk hA
  have HB := Aside0.mk hB
  have HN := Aside0.mk hN
  have HM := Aside0.mk hM
  clear hA hB hN hM
  go_enter Try.func6, Try.ntmps6
  go_wp2_with fail
  refine (awake_any _).mono ?_
  rintro e w1 ⟨rfl, hb1⟩
  have B1 := Aside0.mk hb1
  clear hb1
  go_wp2_with fail
  refine (played_loop a A lenA capA s _ (Kd.C_below HA.out B1.out) HA.out.1).mono ?_
  rintro e w2 ⟨u, rfl, hR2, hb2⟩
  rw [← HN.out] at hR2 ⊢
  generalize hG : runG N s (min lenA 100) = g at *
  generalize hL : runL N s (min lenA 100) = l at *
  have HG := Aside0.mk hG
  have HL := Aside0.mk hL
  obtain ⟨A2, n2, c2, rfl⟩ : ∃ A' n' c', u = .slice A' n' c' := by obtain ⟨A', c', e⟩ := Kd.R_slice hR2; exact ⟨A', _, c', e⟩
  have R2 := Aside0.mk (Kd.R_alloc (Kd.R_alloc hR2 (.cells (vec N g) 29)) (.cells #[.int .i64 N, .slice A2 n2 c2] 40))
  have V2 := Aside0.mk (hup (.cells #[.int .i64 N, .slice A2 n2 c2] 40) (heap_at w2 (.cells (vec N g) 29) rfl))
  have Q2 := Aside0.mk (heap_at (w2.alloc (.cells (vec N g) 29)) (.cells #[.int .i64 N, .slice A2 n2 c2] 40) (j := w2.heap.size + 1) (by simp))
  have B2 := Aside0.mk (below_alloc (below_alloc (chain B1.out hb2) (.cells (vec N g) 29)) (.cells #[.int .i64 N, .slice A2 n2 c2] 40))
  clear hR2 hb2 hG hL
  have G1 : Aside0 (Bounded g) := ⟨by rw [← HG.out]; exact bounded_run _ _ _⟩
  go_wp2_with (first | refine op_alloc29 ?_ | ((with_reducible refine op_st29_up (w := w2) (cs := vec N g) (vec_size _ _) (vec_size _ _) (vec_one _ _) ?_ ?_ ?_); (next => rfl); (next => rfl)))
  refine (played_loop b B lenB capB t _ (Kd.C_below HB.out B2.out) HB.out.1).mono ?_
  rintro e w3 ⟨u, rfl, hR3, hb3⟩
  rw [← HM.out] at hR3 ⊢
  generalize hG : runG M t (min lenB 100) = h at *
  generalize hL : runL M t (min lenB 100) = m at *
  have HG2 := Aside0.mk hG
  have HL2 := Aside0.mk hL
  obtain ⟨A3, n3, c3, rfl⟩ : ∃ A' n' c', u = .slice A' n' c' := by obtain ⟨A', c', e⟩ := Kd.R_slice hR3; exact ⟨A', _, c', e⟩
  have R3 := Aside0.mk (Kd.R_alloc (Kd.R_alloc hR3 (.cells (vec M h) 29)) (.cells #[.int .i64 M, .slice A3 n3 c3] 40))
  have R23 := Aside0.mk (Kd.R_alloc (Kd.R_alloc (Kd.R_below R2.out hb3) (.cells (vec M h) 29)) (.cells #[.int .i64 M, .slice A3 n3 c3] 40))
  have V23 := Aside0.mk (hup (.cells #[.int .i64 M, .slice A3 n3 c3] 40) (hup (.cells (vec M h) 29) (hbel hb3 V2.out)))
  have Q23 := Aside0.mk (hup (.cells #[.int .i64 M, .slice A3 n3 c3] 40) (hup (.cells (vec M h) 29) (hbel hb3 Q2.out)))
  have V3 := Aside0.mk (hup (.cells #[.int .i64 M, .slice A3 n3 c3] 40) (heap_at w3 (.cells (vec M h) 29) rfl))
  have Q3 := Aside0.mk (heap_at (w3.alloc (.cells (vec M h) 29)) (.cells #[.int .i64 M, .slice A3 n3 c3] 40) (j := w3.heap.size + 1) (by simp))
  have B3 := Aside0.mk (below_alloc (below_alloc (chain B2.out hb3) (.cells (vec M h) 29)) (.cells #[.int .i64 M, .slice A3 n3 c3] 40))
  clear hR3 hb3 hG hL
  have G2 : Aside0 (Bounded h) := ⟨by rw [← HG2.out]; exact bounded_run _ _ _⟩
  go_wp2_with (first | refine op_alloc29 ?_ | ((with_reducible refine op_st29_up (w := w3) (cs := vec M h) (vec_size _ _) (vec_size _ _) (vec_one _ _) ?_ ?_ ?_); (next => rfl); (next => rfl)))
  have Z1 := Aside0.mk (show 0 ≤ N ∧ N ≤ 60 ∧ 0 ≤ M ∧ M ≤ 60 by have := HN.out; have := HM.out; omega)
  have E1 : Aside0 (Rel N g l) := ⟨by rw [← HG.out, ← HL.out]; exact rel_run _ _ _⟩
  have E2 : Aside0 (Rel M h m) := ⟨by rw [← HG2.out, ← HL2.out]; exact rel_run _ _ _⟩
  have E3 : Aside0 (Off N g) := ⟨by rw [← HG.out]; exact off_run _ _ _⟩
  have E4 : Aside0 (Off M h) := ⟨by rw [← HG2.out]; exact off_run _ _ _⟩
  have E5 : Aside0 (l.length < 1000) := ⟨by rw [← HL.out]; have := runL_length N s (min lenA 100); omega⟩
  have E6 : Aside0 (m.length < 1000) := ⟨by rw [← HL2.out]; have := runL_length M t (min lenB 100); omega⟩
  have k1 := Aside0.mk (sameR_any E1.out E2.out E3.out E4.out E5.out E6.out Z1.out.1 Z1.out.2.1 R23.out R3.out)
  refine q_region (by kernel_rfl) (by kernel_rfl) ?_
  have hsym : (decide (M = N) && sameB h g) = (decide (N = M) && sameB g h) := by rw [sameB_comm]; congr 1; exact decide_eq_decide.2 ⟨fun e => e.symm, fun e => e.symm⟩
  refine q_val (a' := ?_) _ rfl (q_ld Try.underlying29 size29 V23.out (vec_size _ _) rfl) ?_ ?_
  rotate_left
  · simp only [Act.put, List.setIfInBounds_toArray, List.set_cons_zero, List.set_cons_succ]; rfl
  refine q_val (a' := ?_) _ rfl (q_ld Try.underlying29 size29 V3.out (vec_size _ _) rfl) ?_ ?_
  rotate_left
  · simp only [Act.put, List.setIfInBounds_toArray, List.set_cons_zero, List.set_cons_succ]; rfl
  refine q_call (a' := ?_) 13 _ _ rfl (fun w' => by go_simp) (fun w' => same_any N M g h G1.out G2.out w') ?_ ?_
  rotate_left
  · simp only [Act.put, List.setIfInBounds_toArray, List.set_cons_zero, List.set_cons_succ]; rfl
  refine q_val (a' := ?_) _ rfl (q_ld Try.underlying40 size40 Q23.out (sz2 _ _) rfl) ?_ ?_
  rotate_left
  · simp only [Act.put, List.setIfInBounds_toArray, List.set_cons_zero, List.set_cons_succ]; rfl
  refine q_val (a' := ?_) _ rfl (q_ld Try.underlying40 size40 Q3.out (sz2 _ _) rfl) ?_ ?_
  rotate_left
  · simp only [Act.put, List.setIfInBounds_toArray, List.set_cons_zero, List.set_cons_succ]; rfl
  refine q_callC (a' := ?_) 21 _ _ rfl (fun w' => by go_simp) k1.out ?_ ?_
  rotate_left
  · simp only [Act.put, List.setIfInBounds_toArray, List.set_cons_zero, List.set_cons_succ]; rfl
  refine q_val (a' := ?_) (.bool true) rfl (fun w' _ => by go_simp) ?_ ?_
  rotate_left
  · simp only [Act.put, List.setIfInBounds_toArray, List.set_cons_zero, List.set_cons_succ]; rfl
  refine q_val (a' := ?_) (.bool true) rfl (fun w' _ => by go_simp) ?_ ?_
  rotate_left
  · simp only [Act.put, List.setIfInBounds_toArray, List.set_cons_zero, List.set_cons_succ]; rfl
  refine q_val (a' := ?_) _ rfl (q_ld Try.underlying29 size29 V3.out (vec_size _ _) rfl) ?_ ?_
  rotate_left
  · simp only [Act.put, List.setIfInBounds_toArray, List.set_cons_zero, List.set_cons_succ]; rfl
  refine q_val (a' := ?_) _ rfl (q_ld Try.underlying29 size29 V23.out (vec_size _ _) rfl) ?_ ?_
  rotate_left
  · simp only [Act.put, List.setIfInBounds_toArray, List.set_cons_zero, List.set_cons_succ]; rfl
  refine q_call (a' := ?_) 13 _ _ rfl (fun w' => by go_simp) (fun w' => same_any M N h g G2.out G1.out w') ?_ ?_
  rotate_left
  · simp only [Act.put, List.setIfInBounds_toArray, List.set_cons_zero, List.set_cons_succ]; rfl
  refine q_val (a' := ?_) _ rfl (q_ld Try.underlying40 size40 Q23.out (sz2 _ _) rfl) ?_ ?_
  rotate_left
  · simp only [Act.put, List.setIfInBounds_toArray, List.set_cons_zero, List.set_cons_succ]; rfl
  refine q_val (a' := ?_) _ rfl (q_ld Try.underlying40 size40 Q3.out (sz2 _ _) rfl) ?_ ?_
  rotate_left
  · simp only [Act.put, List.setIfInBounds_toArray, List.set_cons_zero, List.set_cons_succ]; rfl
  refine q_callC (a' := ?_) 21 _ _ rfl (fun w' => by go_simp) k1.out ?_ ?_
  rotate_left
  · simp only [Act.put, List.setIfInBounds_toArray, List.set_cons_zero, List.set_cons_succ]; rfl
  refine q_val (a' := ?_) (.bool true) rfl (fun w' _ => by rw [← hsym]; go_simp) ?_ ?_
  rotate_left
  · simp only [Act.put, List.setIfInBounds_toArray, List.set_cons_zero, List.set_cons_succ]; rfl
  refine q_val (a' := ?_) (.bool true) rfl (fun w' _ => by go_simp) ?_ ?_
  rotate_left
  · simp only [Act.put, List.setIfInBounds_toArray, List.set_cons_zero, List.set_cons_succ]; rfl
  refine q_val (a' := ?_) (.bool true) rfl (fun w' _ => by go_simp) ?_ ?_
  rotate_left
  · simp only [Act.put, List.setIfInBounds_toArray, List.set_cons_zero, List.set_cons_succ]; rfl
  refine q_val (a' := ?_) _ rfl (q_ld Try.underlying29 size29 V23.out (vec_size _ _) rfl) ?_ ?_
  rotate_left
  · simp only [Act.put, List.setIfInBounds_toArray, List.set_cons_zero, List.set_cons_succ]; rfl
  refine q_val (a' := ?_) _ rfl (q_ld Try.underlying29 size29 V23.out (vec_size _ _) rfl) ?_ ?_
  rotate_left
  · simp only [Act.put, List.setIfInBounds_toArray, List.set_cons_zero, List.set_cons_succ]; rfl
  refine q_call (a' := ?_) 13 _ _ rfl (fun w' => by go_simp) (fun w' => same_any N N g g G1.out G1.out w') ?_ ?_
  rotate_left
  · simp only [Act.put, List.setIfInBounds_toArray, List.set_cons_zero, List.set_cons_succ]; rfl
  refine q_val (a' := ?_) (.bool true) rfl (fun w' _ => by have := sameB_refl g; go_simp) ?_ ?_
  rotate_left
  · simp only [Act.put, List.setIfInBounds_toArray, List.set_cons_zero, List.set_cons_succ]; rfl
  refine q_val (a' := ?_) (.bool true) rfl (fun w' _ => by go_simp) ?_ ?_
  rotate_left
  · simp only [Act.put, List.setIfInBounds_toArray, List.set_cons_zero, List.set_cons_succ]; rfl
  refine wpQuiet_nil ?_
  intro w4 hb4
  go_wp2_with fail
  go_ret
  exact ⟨rfl, chain B3.out hb4⟩
end Go.Proofs.Ythjakmdflpkjkaa
