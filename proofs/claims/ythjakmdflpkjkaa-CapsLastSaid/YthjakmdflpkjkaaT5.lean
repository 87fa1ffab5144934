import Derived.Test.YthjakmdflpkjkaaT4
import Derived.ChangeKeysEq
namespace Go.Proofs.Ythjakmdflpkjkaa
open Go.RowKit

def rowV (g : Spans) : Array Value := (rowL g).toArray
theorem rowV_size (g : Spans) : (rowV g).size = 61 := by simp [rowV, rowL]
theorem rowV_at (g : Spans) (k : Nat) (h : k < 61) : (rowV g)[k]? = some (cell1 (g k)) := by simp [rowV, rowL, h]
theorem info27 : (Try.prog.info? 27).map (fun i => i.size) = some 61 := by kernel_rfl
theorem info25 : (Try.prog.info? 25).map (fun i => i.size) = some 1 := by kernel_rfl

/-- All spans that there may be are those of a vector as the program has it. -/
structure Bounded (g : Spans) : Prop where mk :: (le : ∀ k a b, g k = some (a, b) → a ≤ 1073741824 ∧ b ≤ 1073741824)

theorem cell1_order (x y : Option (Nat × Nat)) (hx : ∀ a b, x = some (a, b) → a ≤ 1073741824 ∧ b ≤ 1073741824) (hy : ∀ a b, y = some (a, b) → a ≤ 1073741824 ∧ b ≤ 1073741824) (d : Nat) (w : World) :
    (Op.equalIn (d + 1) 25 (cell1 x) (cell1 y)).run Try.prog w = .ok (decide (x = y)) w := by
  have h00 : (FloatKind.f64.format.order 0 0 == some .eq) = true := by have h := order_enc 0 0 (by omega) (by omega); rwa [enc_zero] at h
  rcases x with _ | ⟨a, b⟩ <;> rcases y with _ | ⟨a', b'⟩
  · simp [cell1, Op.equalIn, run_underlying Try.underlying25, Op.floatEq, h00]
  · obtain ⟨h1, h2⟩ := hy a' b' rfl
    have h := order_enc 0 (a' + 1) (by omega) (by omega)
    rw [enc_zero] at h
    simp [cell1, Op.equalIn, run_underlying Try.underlying25, Op.floatEq, h]
  · obtain ⟨h1, h2⟩ := hx a b rfl
    have h := order_enc (a + 1) 0 (by omega) (by omega)
    rw [enc_zero] at h
    simp [cell1, Op.equalIn, run_underlying Try.underlying25, Op.floatEq, h]
  · obtain ⟨h1, h2⟩ := hx a b rfl
    obtain ⟨h3, h4⟩ := hy a' b' rfl
    have h := order_enc (a + 1) (a' + 1) (by omega) (by omega)
    have h' := order_enc b b' (by omega) (by omega)
    simp only [cell1, Op.equalIn, Sem.run_bind, run_underlying Try.underlying25, Result.andThen_ok, Op.floatEq, h, h', if_true, Sem.run_pure]
    by_cases e1 : a = a' <;> by_cases e2 : b = b' <;> simp [e1, e2]

theorem part25 (cs : Array Value) (k : Nat) (v : Value) (h : cs[k]? = some v) (w : World) : (part 25 cs (k * 1)).run Try.prog w = .ok v w := by
  simp [part, isAgg, run_underlying Try.underlying25, h]

theorem eq_items (g h : Spans) (hg : Bounded g) (hh : Bounded h) (d : Nat) (w : World) : ∀ is : List Nat, (∀ i ∈ is, i < 61) →
    (Op.eqItems (d + 1) 25 1 (rowV g) (rowV h) is).run Try.prog w = .ok (is.all fun i => decide (g i = h i)) w
  | [], _ => by simp [Op.eqItems]
  | i :: is, hi => by
    have h0 : i < 61 := hi i (by simp)
    simp only [Op.eqItems, Sem.run_bind, part25 _ _ _ (rowV_at g i h0), part25 _ _ _ (rowV_at h i h0), Result.andThen_ok, cell1_order _ _ (hg.le i) (hh.le i)]
    have ih := eq_items g h hg hh d w is (fun j hj => hi j (by simp [hj]))
    by_cases e : g i = h i
    · simp [e, ih]
    · simp [e]

def sameB (g h : Spans) : Bool := (List.range 61).all fun i => decide (g i = h i)

theorem cells25 : Try.prog.cellsOf 25 = 1 := by kernel_rfl
theorem run_eq27 (g h : Spans) (hg : Bounded g) (hh : Bounded h) (w : World) : (binOp .eql 27 (.agg (rowV g)) (.agg (rowV h))).run Try.prog w = .ok (.bool (sameB g h)) w := by
  rw [run_eql_struct]
  obtain ⟨i, hi⟩ : ∃ i, Try.prog.info? 25 = some i := by
    cases hq : Try.prog.info? 25 with
    | none => have := info25; rw [hq] at this; cases this
    | some i => exact ⟨i, rfl⟩
  rw [run_equalIn_array w 9999 (rowV g) (rowV h) Try.underlying27 hi, cells25, eq_items g h hg hh 9998 w (List.range 61) (fun i hi => by simpa using hi)]
  rfl

section
variable {ops : Array Oper} {rest : List Oper} {a : Act} {w : World} {Q : Exit → Act → World → Prop} {dst : Option Tmp} {ty : TypeId} {pos : String} {after : Array Edge}
theorem run_load27 (b : Nat) (n : Int) (g : Spans) (t : TypeId) (w : World) (hb : w.heap[b]? = some (.cells (vec n g) t (0, 0))) : (loadVar 27 ⟨b, 1, none⟩).run Try.prog w = .ok (.agg (rowV g)) w := by
  have hl : (loadCells ⟨b, 1, none⟩ (rowL g).length).run Try.prog w = .ok (rowL g).toArray w :=
    run_loadCells_list (P := Try.prog) w ⟨b, 1, none⟩ (rowL g) (fun j v hv => by
      have hadd : (⟨b, 1, none⟩ : Addr).add j = ⟨b, 1 + j, none⟩ := by unfold Addr.add; split <;> simp_all
      have hj : j < 61 := by
        rcases Nat.lt_or_ge j 61 with h | h
        · exact h
        · rw [List.getElem?_eq_none (by simp [rowL]; exact h)] at hv; cases hv
      have hc : (rowL g)[j]? = some (cell1 (g j)) := by simp [rowL, hj]
      rw [hc] at hv
      cases hv
      rw [hadd, cell_of_row w b (1 + j) _ t (0, 0) hb]
      exact vec_at n g j hj)
  obtain ⟨i, hi, hs⟩ : ∃ i, Try.prog.info? 27 = some i ∧ i.size = 61 := by
    cases hq : Try.prog.info? 27 with
    | none => have := info27; rw [hq] at this; cases this
    | some i => have := info27; rw [hq] at this; exact ⟨i, rfl, by simpa using this⟩
  have hagg : (isAgg 27).run Try.prog w = .ok true w := by
    unfold isAgg
    rw [Sem.run_bind, run_underlying Try.underlying27 w]
    rfl
  have hlen : (rowL g).length = 61 := by simp [rowL]
  rw [hlen] at hl
  simp [loadVar, Sem.run_bind, hagg, sizeOf, typeInfo, hi, hs, hl, rowV]
theorem op_want {o : Oper} {v : Value} {w' : World} (hg : Region.wanted o (yielded ops a.tmps) = true) (hr : (execOp a.eval o).run Try.prog w = .ok (.value v) w')
    (h : wpList Try.prog ops Q rest (a.put o.dst v) w') : wpList Try.prog ops Q (o :: rest) a w := by
  refine BigFrame.wpList_want hg fun K hK => ?_
  unfold Oper.wp
  rw [hr]
  exact hK _ _ h
theorem run_loadOp {ρ : Operand → Value} {t : TypeId} {p : Operand} {ad : Addr} {v : Value} {g : Option (Nat × Bool)} (hp : ρ p = .pointer (some ad)) (h : (loadVar t ad).run Try.prog w = .ok v w) :
    (execOp ρ ⟨dst, .load t p, ty, pos, after, g⟩).run Try.prog w = .ok (.value v) w := by
  simp only [execOp, hp, Instr.loadAt, Instr.sureAddr, Sem.run_bind, Sem.run_pure, Result.andThen_ok, h]
end

set_option maxRecDepth 100000 in
set_option maxHeartbeats 400000 in
theorem same_any (n m : Int) (g h : Spans) (hg : Bounded g) (hh : Bounded h) (w : World) :
    Calls Try.prog 13 #[.agg (vec n g), .agg (vec m h)] w fun e w' => e = .returned (.bool (decide (n = m) && sameB g h)) ∧ Below w.heap.size w w' := by
  have hB : Below w.heap.size w ((w.alloc (.cells (vec n g) 29)).alloc (.cells (vec m h) 29)) := ((Below.refl _ _).alloc (Nat.le_refl _) _).alloc (by simp) _
  have h1 : ((w.alloc (.cells (vec n g) 29)).alloc (.cells (vec m h) 29)).heap[w.heap.size]? = some (.cells (vec n g) 29 (0, 0)) := heap_up _ _ (by simp) (heap_at _ _ rfl)
  have h2 : ((w.alloc (.cells (vec n g) 29)).alloc (.cells (vec m h) 29)).heap[w.heap.size + 1]? = some (.cells (vec m h) 29 (0, 0)) := heap_at _ _ (by simp)
  have l1 := run_load27 _ _ _ _ _ h1
  have l2 := run_load27 _ _ _ _ _ h2
  have c1 := (cell_of_row _ _ 0 _ _ _ h1).trans (vec_0 n g)
  have c2 := (cell_of_row _ _ 0 _ _ _ h2).trans (vec_0 m h)
  have he := run_eq27 g h hg hh
  have HB := Lib.hid hB
  clear hB h1 h2
  by_cases e : n = m
  · subst e
    go_enter Try.func13, Try.ntmps13
    go_wp2_with (first | (refine op_want (o := ⟨some 12, _, _, _, _, _⟩) rfl (run_loadOp rfl l1) ?_) | (refine op_want (o := ⟨some 14, _, _, _, _, _⟩) rfl (run_loadOp rfl l2) ?_))
    go_ret
    exact ⟨by simp, HB.out⟩
  · go_enter Try.func13, Try.ntmps13
    go_wp2_with fail
    go_ret
    exact ⟨by simp [e], HB.out⟩
end Go.Proofs.Ythjakmdflpkjkaa
