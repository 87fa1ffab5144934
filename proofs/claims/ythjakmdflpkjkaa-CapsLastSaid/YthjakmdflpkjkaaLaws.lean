/- Laws by which the walks carry a vector (62 cells) whole: a new one, its load, its store, its parts. -/
import Derived.Test.YthjakmdflpkjkaaVec
import Derived.WalkKit
import Derived.WalkSpells
import Derived.WalkLawsBesides
import Derived.Deep.WholeRow
import Derived.Lib.Hide
namespace Go.Proofs.Ythjakmdflpkjkaa
open Go.RowKit

def off : Spans := fun _ => none
theorem info29 : (Try.prog.info? 29).map (fun i => (i.zero, i.size)) = some (some (.agg (vec 0 off)), 62) := by kernel_rfl
theorem size29 : (Try.prog.info? 29).map (·.size) = some 62 := by kernel_rfl
theorem zero29 (w : World) : (zeroValue 29).run Try.prog w = .ok (.agg (vec 0 off)) w := (zero_of_info info29).1 w

theorem heap_alloc_if (w : World) (o : Obj) (j : Nat) : (w.alloc o).heap[j]? = if j = w.heap.size then some o else w.heap[j]? := by
  show (w.heap.push o)[j]? = _
  rw [Array.getElem?_push]
theorem size_alloc' (w : World) (o : Obj) : (w.alloc o).heap.size = w.heap.size + 1 := by
  show (w.heap.push o).size = _
  simp

theorem heap_at (w : World) (o : Obj) {j : Nat} (h : j = w.heap.size) : (w.alloc o).heap[j]? = some o := by rw [heap_alloc_if, if_pos h]
theorem heap_up (w : World) (o : Obj) {j : Nat} {p : Obj} (h : j < w.heap.size) (hp : w.heap[j]? = some p) : (w.alloc o).heap[j]? = some p := by
  rw [heap_alloc_if, if_neg (Nat.ne_of_lt h)]; exact hp
theorem heap_below {w w1 : World} {B j : Nat} {o : Obj} (hb : Below B w w1) (h : w.heap[j]? = some o) (hj : j < B) : w1.heap[j]? = some o := (hb.block j hj).trans h
theorem run_store_complex {P : Program} (w : World) (a : Addr) (k : FloatKind) (x y : Nat) (m : Mode) : (store a (.complex k x y) m).run P w = stored P w a (.complex k x y) m := run_store P w a _ m rfl
attribute [go_sem] run_store_complex

section
variable {ops : Array Oper} {rest : List Oper} {a : Act} {w : World} {Q : Exit → Act → World → Prop} {dst : Option Tmp} {ty : TypeId} {pos : String} {after : Array Edge}

theorem op_of_run {o : Oper} {v : Value} {w' : World} (hg : o.guard = none) (hr : (execOp a.eval o).run Try.prog w = .ok (.value v) w')
    (h : wpList Try.prog ops Q rest (a.put o.dst v) w') : wpList Try.prog ops Q (o :: rest) a w := by
  refine wpList_plain hg fun K hK => ?_
  unfold Oper.wp
  rw [hr]
  exact hK _ _ h

theorem op_alloc29 (h : wpList Try.prog ops Q rest (a.put dst (.pointer (some ⟨w.heap.size, 0, none⟩))) (w.alloc (.cells (vec 0 off) 29))) :
    wpList Try.prog ops Q (⟨dst, .alloc 29, ty, pos, after, none⟩ :: rest) a w := by
  refine op_of_run rfl ?_ h
  simp only [execOp, Instr.alloc, Sem.run_bind, zero29, Result.andThen_ok]
  rfl

theorem op_store29 {p x : Operand} {g : Nat} {cs old : Array Value} {t : TypeId} (hp : a.eval p = .pointer (some ⟨g, 0, none⟩)) (hx : a.eval x = .agg cs) (hg : w.heap[g]? = some (.cells old t (0, 0)))
    (ho : old.size = 62) (hs : cs.size = 62) (h1 : cs.all (·.oneCell') = true)
    (h : wpList Try.prog ops Q rest (a.put dst undef) (w.setRow g cs)) :
    wpList Try.prog ops Q (⟨dst, .store 29 p x, ty, pos, after, none⟩ :: rest) a w := by
  refine wpList_plain rfl fun K hK => ?_
  unfold Oper.wp
  have hr : (execOp a.eval ⟨dst, .store 29 p x, ty, pos, after, none⟩).run Try.prog w = .ok .skip (w.setRow g cs) := by
    simp only [execOp, hp, hx, Instr.storeAt, Instr.sureAddr, Sem.run_bind, Sem.run_pure, Result.andThen_ok, run_storeVar_row w g t 29 old cs hg (by rw [size29, hs]) (by omega) h1]
  rw [hr]
  exact hK _ _ h

/-- Into the block that was made last. -/
theorem op_store29_new {W : World} {p x : Operand} {cs old : Array Value} {t : TypeId} (hp : a.eval p = .pointer (some ⟨W.heap.size, 0, none⟩)) (hx : a.eval x = .agg cs) (ho : old.size = 62) (hs : cs.size = 62) (h1 : cs.all (·.oneCell') = true)
    (h : wpList Try.prog ops Q rest (a.put dst undef) (W.alloc (.cells cs t))) :
    wpList Try.prog ops Q (⟨dst, .store 29 p x, ty, pos, after, none⟩ :: rest) a (W.alloc (.cells old t)) := by
  refine op_store29 hp hx (heap_alloc_last W _) ho hs h1 ?_
  rw [World.setRow_alloc_new]
  exact h

theorem op_build29 {x : Operand} {n : Int} (hx : a.eval x = .int .i64 n) (h : wpList Try.prog ops Q rest (a.put dst (.agg (vec n off))) w) :
    wpList Try.prog ops Q (⟨dst, .build 29 #[(0, x)], ty, pos, after, none⟩ :: rest) a w := by
  refine op_of_run rfl ?_ h
  have hc : Try.prog.built 29 [(0, Value.int .i64 n)] = some (vec n off) := by kernel_rfl
  simp only [execOp, List.map_toArray, List.map_cons, List.map_nil, hx, Sem.run_bind, run_build w 29 #[(0, .int .i64 n)] _ hc, Result.andThen_ok]
  rfl

theorem op_load29 {p : Operand} {g : Nat} {cs : Array Value} {t : TypeId} (hp : a.eval p = .pointer (some ⟨g, 0, none⟩)) (hg : w.heap[g]? = some (.cells cs t (0, 0))) (hs : cs.size = 62)
    (h : wpList Try.prog ops Q rest (a.put dst (.agg cs)) w) : wpList Try.prog ops Q (⟨dst, .load 29 p, ty, pos, after, none⟩ :: rest) a w :=
  wpList_load_row rfl 29 p rfl g hp t cs (0, 0) _ hg Try.underlying29 rfl (by rw [size29, hs]) h
end
end Go.Proofs.Ythjakmdflpkjkaa
