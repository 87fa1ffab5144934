/- A part of the ground of the proof. No condition. -/
import Derived.Laws.Entries
import Derived.Test.YtnoohgiecnmajaaGE35

/- The engine, part 36: parse's table of kinds. -/
namespace Go.Proofs.Ytnoohgiecnmajaa.VC
open Go Go.RowKit
set_option linter.unusedVariables false
set_option linter.unusedSimpArgs false
def kindsL : List Int := [0, 1, 2, 3, 4, 5, 6, 0, 0, 0, 0, 7, 8, 9, 10, 11]
def kindsV : List Value := kindsL.map (Value.int .i64)
def zeros16 : List Value := List.replicate 16 (Value.int .i64 0)
theorem info92 : ∃ i, Try.prog.info? 92 = some i ∧ i.size = 16 ∧ i.zero = some (.agg zeros16.toArray) := by
  have h : (Try.prog.info? 92).map (fun i => (i.size, i.zero)) = some (16, some (.agg zeros16.toArray)) := by kernel_rfl
  obtain ⟨i, h1, h2⟩ := Option.map_eq_some_iff.1 h
  simp only [Prod.mk.injEq] at h2
  exact ⟨i, h1, h2.1, h2.2⟩
theorem size92 (w : World) : (sizeOf 92).run Try.prog w = .ok 16 w := by
  obtain ⟨i, h1, h2, h3⟩ := info92
  simp [sizeOf, typeInfo, h1, h2]
theorem alloc92 (w : World) : (Instr.alloc 92 true (.tuple #[])).run Try.prog w = .ok (.pointer (some ⟨w.heap.size, 0, none⟩)) (w.alloc (.cells zeros16.toArray 92)) := by
  obtain ⟨i, h1, h2, h3⟩ := info92
  simp [Instr.alloc, zeroValue, typeInfo, h1, h3, newVar, newRow, Value.cells]
theorem store92 {w : World} {b : Nat} {cur : List Value} (hg : w.heap[b]? = some (.cells cur.toArray 92 (0, 0))) (hl : cur.length = 16) :
    (Instr.storeAt 92 (.pointer (some ⟨b, 0, none⟩)) (.agg kindsV.toArray)).run Try.prog w = .ok () (w.setRow b kindsV.toArray) := by
  have e1 := run_storeCells_at Try.prog b 0 92 kindsV 0 cur.toArray w hg (by simp only [List.size_toArray, hl]; decide) (by decide)
  simp only [Nat.add_zero, List.take_zero, List.nil_append, Nat.zero_add] at e1
  rw [List.drop_eq_nil_of_le (by simp [hl]; decide), List.append_nil] at e1
  have hk : kindsV.length = 16 := rfl
  simp only [Instr.storeAt, Instr.sureAddr, Sem.run_bind, Sem.run_pure, Result.andThen_ok, storeVar, size92 w]
  simp [Value.cells, e1, hk]
theorem built92 : Try.prog.built 92 [(1, .int .i64 1), (2, .int .i64 2), (3, .int .i64 3), (4, .int .i64 4), (5, .int .i64 5), (6, .int .i64 6), (11, .int .i64 7), (12, .int .i64 8), (13, .int .i64 9), (14, .int .i64 10), (15, .int .i64 11)] = some kindsV.toArray := by kernel_rfl
theorem load92 {w : World} {b : Nat} (hg : w.heap[b]? = some (.cells kindsV.toArray 92 (0, 0))) : (loadVar 92 ⟨b, 0, none⟩).run Try.prog w = .ok (.agg kindsV.toArray) w := by
  obtain ⟨i, h1, h2, h3⟩ := info92
  have := run_loadVar_mid (P := Try.prog) w b 0 92 kindsV (.array 16 3) (fun j v hj => by rw [Nat.zero_add, cells_of_row hg]; simpa using hj) Try.underlying92 rfl (by rw [h1]; show some i.size = some 16; rw [h2])
  exact this
theorem calls_arr {fn : Func} {f : FuncId} {i0 i1 : Nat} {ops0 ops1 : Array Oper} {o1 o2 o3 : Oper} {parts : Array (Nat × Operand)} (hf : Try.prog.funcs[f]? = some fn) (hb : fn.body = some (.seq (.region i0 ops0 false) (.seq (.region i1 ops1 false) .ret))) (hn : fn.ntmps = 2) (hr : fn.results = #[.cell 0 92])
    (h0 : ops0.toList = [o1]) (h1 : ops1.toList = [o2, o3]) (e1 : o1.op = .alloc 92 ∧ o1.dst = some 0 ∧ o1.guard = none) (e2 : o2.op = .build 92 parts ∧ o2.dst = some 1 ∧ o2.guard = none) (e3 : o3.op = .store 92 (.tmp 0) (.tmp 1) ∧ o3.dst = none ∧ o3.guard = none)
    (hp : ∀ a : Act, Try.prog.built 92 (parts.map fun p => (p.1, a.eval p.2)).toList = some kindsV.toArray) (w : World) : Calls Try.prog f #[] w (fun e w' => e = .returned (.agg kindsV.toArray) ∧ Below w.heap.size w w') := by
  have S := @store92
  have L := @load92
  generalize kindsV = kv at *
  refine calls_of_wp hf hb ?_
  rw [hn]
  generalize ha : ({ tmps := #[] ++ Array.replicate (2 - (#[] : Array Value).size) undef, defers := [] } : Act) = a
  have hd : a.defers = [] := by rw [← ha]
  have hsz : a.tmps.size = 2 := by rw [← ha]; rfl
  clear ha
  have wt : ∀ (o : Oper) (ops : Array Oper) a', o.guard = none → Region.wanted o (yielded ops a') = true := fun o ops a' h => by simp [Region.wanted, h]
  refine wp_seq (wp_region_list ?_)
  rw [h0]
  unfold wpList
  rw [if_pos (wt _ _ _ e1.2.2)]
  refine .inl ?_
  refine wp_of_run (v := .pointer (some ⟨w.heap.size, 0, none⟩)) (w' := w.alloc (.cells zeros16.toArray 92)) (by simp [execOp, e1.1, alloc92]) ?_
  rw [e1.2.1]
  unfold wpList
  have hnew := heap_alloc_new w (.cells zeros16.toArray 92)
  have hold := heap_alloc_old w (.cells zeros16.toArray 92)
  have hw : (w.alloc (.cells zeros16.toArray 92)).os = w.os ∧ (w.alloc (.cells zeros16.toArray 92)).tape = w.tape ∧ (w.alloc (.cells zeros16.toArray 92)).output = w.output ∧ w.heap.size ≤ (w.alloc (.cells zeros16.toArray 92)).heap.size := ⟨rfl, rfl, rfl, by simp⟩
  generalize w.alloc (.cells zeros16.toArray 92) = w1 at *
  refine wp_seq (wp_region_list ?_)
  rw [h1]
  unfold wpList
  rw [if_pos (wt _ _ _ e2.2.2)]
  refine .inl ?_
  refine wp_of_run (v := .agg kv.toArray) (w' := w1) (by
    have hp0 := hp (a.put (some 0) (.pointer (some ⟨w.heap.size, 0, none⟩)))
    have e := run_build (P := Try.prog) w1 92 (parts.map fun p => (p.1, (a.put (some 0) (.pointer (some ⟨w.heap.size, 0, none⟩))).eval p.2)) kv.toArray (by simpa only using hp0)
    have e' : (Instr.build 92 (parts.map fun (i, x) => (i, (a.put (some 0) (.pointer (some ⟨w.heap.size, 0, none⟩))).eval x))).run Try.prog w1 = .ok (.agg kv.toArray) w1 := e
    simp only [execOp, e2.1, Sem.run_bind, Sem.run_pure, e', Result.andThen_ok]) ?_
  rw [e2.2.1]
  unfold wpList
  rw [if_pos (wt _ _ _ e3.2.2)]
  refine .inl ?_
  have v0 : ((a.put (some 0) (.pointer (some ⟨w.heap.size, 0, none⟩))).put (some 1) (.agg kv.toArray)).eval (.tmp 0) = .pointer (some ⟨w.heap.size, 0, none⟩) := by simp [Act.put, Act.eval, hsz]
  have v1 : ((a.put (some 0) (.pointer (some ⟨w.heap.size, 0, none⟩))).put (some 1) (.agg kv.toArray)).eval (.tmp 1) = .agg kv.toArray := by simp [Act.put, Act.eval, hsz]
  have v2 : ((a.put (some 0) (.pointer (some ⟨w.heap.size, 0, none⟩))).put (some 1) (.agg kv.toArray)).tmps.getD 0 undef = .pointer (some ⟨w.heap.size, 0, none⟩) := by simp [Act.put, hsz]
  have hd2 : ((a.put (some 0) (.pointer (some ⟨w.heap.size, 0, none⟩))).put (some 1) (.agg kv.toArray)).defers = [] := by simp [Act.put, hd]
  generalize (a.put (some 0) (.pointer (some ⟨w.heap.size, 0, none⟩))).put (some 1) (.agg kv.toArray) = a2 at *
  refine wp_of_skip (w' := w1.setRow w.heap.size kv.toArray) (by
    have := S (w := w1) (b := w.heap.size) (cur := zeros16) hnew rfl
    simp only [execOp, e3.1, v0, v1, Sem.run_bind, this, Result.andThen_ok, Sem.run_pure]) ?_
  rw [e3.2.1]
  unfold wpList
  refine wp_ret ?_
  have hrow := setRow_heap w1 w.heap.size _ kv.toArray _ _ hnew
  refine ⟨hd2, .agg kv.toArray, ?_, rfl, ⟨hw.1, hw.2.1, hw.2.2.1, ?_, fun k hk => ?_⟩⟩
  · have := L hrow
    have v3 : (a2.put none undef).tmps.getD 0 undef = .pointer (some ⟨w.heap.size, 0, none⟩) := v2
    rw [results_eq, hr]
    simp [getRes, v3, asAddr, this]
  · simp [World.setRow]; exact hw.2.2.2
  · rw [setRow_other _ _ _ _ (by omega)]
    exact hold k hk
theorem calls54 (w : World) : Calls Try.prog 54 #[] w (fun e w' => e = .returned (.agg kindsV.toArray) ∧ Below w.heap.size w w') :=
  calls_arr Try.func54 rfl rfl rfl rfl rfl ⟨rfl, rfl, rfl⟩ ⟨rfl, rfl, rfl⟩ ⟨rfl, rfl, rfl⟩ (fun a => by simpa [Act.eval] using built92) w
end Go.Proofs.Ytnoohgiecnmajaa.VC

