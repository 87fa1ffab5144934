/- A part of the ground of the proof. No condition. -/
import Derived.Test.YtnoohgiecnmajaaGE24

/- The engine, part 25: a struct with a map in it is made (groups.Number). -/
namespace Go.Proofs.Ytnoohgiecnmajaa.VC
open Go Go.RowKit
set_option linter.unusedVariables false
set_option linter.unusedSimpArgs false
theorem built69 (n : Nat) : Try.prog.built 69 [(2, .map (some n))] = some #[.int .i64 0, .slice none 0 0, .map (some n), .int .i64 0, .int .i64 0] := by kernel_rfl
def St.counter (st : St) : St :=
  (((st.newMap 9).put 10 .dead).newBox 11 69 [.pv (.val (.int .i64 0)), .pv (.val nilV), .map 9, .pv (.val (.int .i64 0)), .pv (.val (.int .i64 0))]).put 7 (.ptr 11 0)
theorem RWP.counter {id : Nat} {ops : Array Oper} {Q : Ex → St → Prop} {st : St} {o1 o2 o3 o4 : Oper} (ho : ops.toList = [o1, o2, o3, o4])
    (h1 : o1.op = .makeMap 67 none ∧ o1.dst = some 9 ∧ o1.guard = none) (h2 : o2.op = .build 69 #[(2, .tmp 9)] ∧ o2.dst = some 10 ∧ o2.guard = none)
    (h3 : o3.op = .box 69 (.tmp 10) ∧ o3.dst = some 11 ∧ o3.guard = none) (h4 : o4.op = .assign (.tmp 11) ∧ o4.dst = some 7 ∧ o4.guard = none)
    (hn : Nat.blt 11 st.n = true) (k : Q .normal st.counter) : RWP Try.prog tab (.region id ops false) Q st := by
  have hn : 11 < st.n := Nat.le_of_ble_eq_true hn
  refine ⟨fun M0 base a w hr => ?_⟩
  obtain ⟨g, hr⟩ := hr
  apply wp_region_list
  rw [ho]
  have wt : ∀ (o : Oper) a', o.guard = none → Region.wanted o (yielded ops a') = true := fun o a' h => by simp [Region.wanted, h]
  unfold wpList
  rw [if_pos (wt _ _ h1.2.2)]
  refine .inl ?_
  refine wp_of_run (v := .map (some w.heap.size)) (w' := w.alloc (.map #[] 0)) (by have := run_makeMap (P := Try.prog) 67 w; simp [execOp, h1.1, this]) ?_
  have hp1 := hr.newMap (d := 9) (by omega)
  rw [h1.2.1]
  generalize hg1 : ({ g with μ := fun s => if s = 9 then w.heap.size else g.μ s } : Gh) = g1 at hp1
  have hμ : g1.μ 9 = w.heap.size := by rw [← hg1]; simp
  have hsz1 : (a.put (some 9) (.map (some w.heap.size))).tmps.size = st.n := hp1.size
  have e9 : (a.put (some 9) (.map (some w.heap.size))).eval (.tmp 9) = .map (some w.heap.size) := by
    have hsz : a.tmps.size = st.n := hr.size
    have hlt : 9 < a.tmps.size := by omega
    simp [Act.put, Act.eval, hlt]
  generalize a.put (some 9) (.map (some w.heap.size)) = a1 at *
  generalize w.alloc (.map #[] 0) = w1 at *
  unfold wpList
  rw [if_pos (wt _ _ h2.2.2)]
  refine .inl ?_
  have hb : (Instr.build 69 #[(2, a1.eval (.tmp 9))]).run Try.prog w1 = .ok (.agg #[.int .i64 0, .slice none 0 0, .map (some w.heap.size), .int .i64 0, .int .i64 0]) w1 := by
    rw [e9]; exact run_build w1 69 _ _ (built69 _)
  refine wp_of_run (v := .agg #[.int .i64 0, .slice none 0 0, .map (some w.heap.size), .int .i64 0, .int .i64 0]) (w' := w1) (by simp [execOp, h2.1, hb]) ?_
  rw [h2.2.1]
  have hp2 := Rp.set hp1 (some 10) (show 10 < (st.newMap 9).n from by show 10 < st.n; omega) (fe := .dead) (v := .agg #[.int .i64 0, .slice none 0 0, .map (some w.heap.size), .int .i64 0, .int .i64 0]) trivial
  have e10 : (a1.put (some 10) (.agg #[.int .i64 0, .slice none 0 0, .map (some w.heap.size), .int .i64 0, .int .i64 0])).eval (.tmp 10) = .agg #[.int .i64 0, .slice none 0 0, .map (some w.heap.size), .int .i64 0, .int .i64 0] := by
    have hlt : 10 < a1.tmps.size := by omega
    simp [Act.put, Act.eval, hlt]
  generalize a1.put (some 10) (.agg #[.int .i64 0, .slice none 0 0, .map (some w.heap.size), .int .i64 0, .int .i64 0]) = a2 at *
  unfold wpList
  rw [if_pos (wt _ _ h3.2.2)]
  refine .inl ?_
  have hbx : (execOp a2.eval o3).run Try.prog w1 = .ok (.value (.pointer (some ⟨w1.heap.size, 0, none⟩))) (w1.alloc (.cells #[.int .i64 0, .slice none 0 0, .map (some w.heap.size), .int .i64 0, .int .i64 0] 69)) := by
    simp [execOp, h3.1, Instr.box, newVar, newRow, e10, Value.cells]
  refine wp_of_run hbx ?_
  rw [h3.2.1]
  have hnew : (w1.alloc (.cells #[.int .i64 0, .slice none 0 0, .map (some w.heap.size), .int .i64 0, .int .i64 0] 69)).heap[w1.heap.size]? = some (.cells [.int .i64 0, .slice none 0 0, .map (some w.heap.size), .int .i64 0, .int .i64 0].toArray 69 (0, 0)) := by rw [heap_alloc_new]
  have hp3 := Rp.newBox (d := 11) hp2 (hp2.below.alloc _) (Hold.alloc w1 _) hnew (cs := [.pv (.val (.int .i64 0)), .pv (.val nilV), .map 9, .pv (.val (.int .i64 0)), .pv (.val (.int .i64 0))]) (by
    refine ⟨_, _, rfl, rfl, rfl, _, _, rfl, rfl, rfl, _, _, rfl, ?_, rfl, _, _, rfl, rfl, rfl, _, _, rfl, rfl, rfl, rfl⟩
    show _ = Value.map (some (g1.μ 9))
    rw [hμ]) (show 11 < st.n by omega)
  generalize a2.put (some 11) (.pointer (some ⟨w1.heap.size, 0, none⟩)) = a3 at *
  generalize w1.alloc (.cells #[.int .i64 0, .slice none 0 0, .map (some w.heap.size), .int .i64 0, .int .i64 0] 69) = w3 at *
  unfold wpList
  rw [if_pos (wt _ _ h4.2.2)]
  refine .inl ?_
  obtain ⟨v, hv1, hv2⟩ := hp3.env 11 (.ptr 11 0) (by simp [St.newBox, look_ins])
  have e11 : a3.eval (.tmp 11) = v := by simp [Act.eval, hv1]
  refine wp_of_run (v := v) (w' := w3) (by simp [execOp, h4.1, e11]) ?_
  rw [h4.2.1]
  have hp4 := Rp.set hp3 (some 7) (show 7 < st.n by omega) (fe := .ptr 11 0) hv2
  exact ⟨_, k, _, hp4⟩
end Go.Proofs.Ytnoohgiecnmajaa.VC

