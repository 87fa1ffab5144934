/- A region that draws its order, whose operations only read and whose calls leave what was there: walked once, in the order of the text. -/
import Derived.Test.YthjakmdflpkjkaaT11
import Derived.Deep.Quiet
namespace Go.Proofs.Ythjakmdflpkjkaa
open Go.RowKit

section
variable {ops : Array Oper} {rest : List Oper} {o : Oper} {a a' : Act} {w : World} {K : Act → Prop}
theorem q_region {id : Nat} {Q : Exit → Act → World → Prop} {l : List Oper} (hm : Try.prog.follows .mixedOrders = true) (hB : Region.lexB .any l.toArray = true)
    (h : wpQuiet Try.prog l.toArray (fun w' => Below w.heap.size w w') (fun a' => ∀ w', Below w.heap.size w w' → Q .normal a' w') l a) : (Code.region id l.toArray true).wp Try.prog Q a w :=
  wp_region_quiet (C := fun w' => Below w.heap.size w w') hm hB (by exact (Below.refl _ w).drew) (by simpa using h)
theorem q_skip (hw : Region.wanted o (yielded ops a.tmps) = false) (ha : a.put o.dst undef = a') (h : wpQuiet Try.prog ops (fun w' => Below w.heap.size w w') K rest a') : wpQuiet Try.prog ops (fun w' => Below w.heap.size w w') K (o :: rest) a := by
  subst ha
  unfold wpQuiet
  rw [if_neg (by rw [hw]; simp)]
  exact h
theorem q_val (v : Value) (hw : Region.wanted o (yielded ops a.tmps) = true) (hr : ∀ w', Below w.heap.size w w' → (execOp a.eval o).run Try.prog w' = .ok (.value v) w') (ha : a.put o.dst v = a')
    (h : wpQuiet Try.prog ops (fun w' => Below w.heap.size w w') K rest a') : wpQuiet Try.prog ops (fun w' => Below w.heap.size w w') K (o :: rest) a := by
  subst ha
  unfold wpQuiet
  rw [if_pos hw]
  refine ⟨v, fun w' hw' => ?_, h⟩
  unfold Oper.quietAt
  rw [hr w' hw']
  exact ⟨rfl, rfl⟩
theorem q_call (f : FuncId) (args : Array Value) (v : Value) (hw : Region.wanted o (yielded ops a.tmps) = true) (hr : ∀ w', (execOp a.eval o).run Try.prog w' = .ok (.enter f args) w')
    (hc : ∀ w', Calls Try.prog f args w' fun e w'' => e = .returned v ∧ Below w'.heap.size w' w'') (ha : a.put o.dst v = a')
    (h : wpQuiet Try.prog ops (fun w' => Below w.heap.size w w') K rest a') : wpQuiet Try.prog ops (fun w' => Below w.heap.size w w') K (o :: rest) a := by
  subst ha
  unfold wpQuiet
  rw [if_pos hw]
  refine ⟨v, fun w' hw' => ?_, h⟩
  unfold Oper.quietAt
  rw [hr w']
  refine ⟨rfl, (hc w').mono ?_⟩
  rintro e w'' ⟨he, hb⟩
  exact ⟨he, chain hw' hb⟩
end
end Go.Proofs.Ythjakmdflpkjkaa
