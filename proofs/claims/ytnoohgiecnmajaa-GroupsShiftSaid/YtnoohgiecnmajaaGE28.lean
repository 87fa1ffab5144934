/- A part of the ground of the proof. No condition. -/
import Derived.Lib.SlBytesConst
import Derived.Test.YtnoohgiecnmajaaGE27

/- The engine, part 28: bytes of a constant text are made: a row of constants and a conversion to its own type. -/
namespace Go.Proofs.Ytnoohgiecnmajaa.VC
open Go Go.RowKit
set_option linter.unusedVariables false
set_option linter.unusedSimpArgs false
theorem zero5 (w : World) : (zeroValue 5).run Try.prog w = .ok (.int .u8 0) w := by
  have h : (Try.prog.info? 5).map (·.zero) = some (some (.int .u8 0)) := by kernel_rfl
  obtain ⟨i, h1, h2⟩ := Option.map_eq_some_iff.1 h
  simp [zeroValue, typeInfo, h1, h2]
theorem size5 (w : World) : (sizeOf 5).run Try.prog w = .ok 1 w := by
  have h : (Try.prog.info? 5).map (·.size) = some 1 := by kernel_rfl
  obtain ⟨i, h1, h2⟩ := Option.map_eq_some_iff.1 h
  simp [sizeOf, typeInfo, h1, h2]
def byteVals (l : List Int) : Array Value := (l.map (Value.int .u8)).toArray
theorem VRc_bytes {M : Region} {w : World} : ∀ l : List Int, VRc M w (byteRows l).flatten (l.map (Value.int .u8))
  | [] => by simp [byteRows, VRc]
  | n :: l => by
    have ih := VRc_bytes (M := M) (w := w) l
    unfold byteRows at ih ⊢
    simp only [List.map_cons, List.flatten_cons, List.cons_append, List.nil_append, VRc, VR]
    exact ⟨_, _, rfl, rfl, rfl, ih⟩
theorem RWP.konst {id : Nat} {ops : Array Oper} {rest : List Oper} {Q : Ex → St → Prop} {st : St} {o1 o2 : Oper} {n d1 d2 : Nat} {parts : Array (Nat × Operand)} (l : List Int)
    (ho : ops.toList = o1 :: o2 :: rest) (h1 : o1.op = .buildSlice 22 n parts ∧ o1.dst = some d1 ∧ o1.guard = none) (h2 : o2.op = .convert 22 22 (.tmp d1) ∧ o2.dst = some d2 ∧ o2.guard = none)
    (hd : (Nat.blt d1 st.n && Nat.blt d2 st.n) = true) (hl : l.length = n) (hpos : (Nat.blt 0 n && Nat.blt n 1000) = true)
    (hfill : ∀ a : Act, Instr.fill (fun i => some (i * 1, 1)) ((Array.range (n * 1)).map (fun i => #[Value.int .u8 0][i % 1]!)) (parts.map fun (i, x) => (i, a.eval x)).toList = some (byteVals l))
    (k : xops Try.prog tab ops.toList (Q .normal) rest ((st.put d1 .dead).put d2 (.pv (.sl 1 (byteRows l))))) : RWP Try.prog tab (.region id ops false) Q st := by
  rw [Bool.and_eq_true] at hd hpos
  have hd1 : d1 < st.n := Nat.le_of_ble_eq_true hd.1
  have hd2 : d2 < st.n := Nat.le_of_ble_eq_true hd.2
  have hn0 : 0 < n := Nat.le_of_ble_eq_true hpos.1
  have hn1 : n < 1000 := Nat.le_of_ble_eq_true hpos.2
  refine ⟨fun M0 base a w hr => ?_⟩
  obtain ⟨g, hr⟩ := hr
  apply wp_region_list
  rw [ho]
  have wt : ∀ (o : Oper) a', o.guard = none → Region.wanted o (yielded ops a') = true := fun o a' h => by simp [Region.wanted, h]
  unfold wpList
  rw [if_pos (wt _ _ h1.2.2)]
  refine .inl ?_
  have hrun : (execOp a.eval o1).run Try.prog w = .ok (.value (.slice (some ⟨w.heap.size, 0, none⟩) n n)) (w.alloc (.cells (byteVals l) 5)) := by
    have hle : ¬ (n * 1 > 2 ^ 24) := by omega
    have hl0 : ¬ (n * 1 = 0) := by omega
    have hf := hfill a
    simp only [execOp, h1.1, Sem.run_bind, Sem.run_pure, Instr.buildSlice, run_underlying Try.underlying22, Result.andThen_ok, size5, hle, if_false, hl0, zero5]
    have hz : (Value.int IntKind.u8 0).cells = #[Value.int .u8 0] := rfl
    have hf' : Instr.fill (fun i => some (i * 1, 1)) ((Array.range (n * 1)).map (fun x => (Value.int IntKind.u8 0).cells[x % (Value.int IntKind.u8 0).cells.size]!)) (parts.map fun (i, x) => (i, a.eval x)).toList = some (byteVals l) := hf
    simp only [hf', newRow]
    simp
  refine wp_of_run hrun ?_
  rw [h1.2.1]
  generalize hv1 : Value.slice (some ⟨w.heap.size, 0, none⟩) n n = v1
  have hsz0 : a.tmps.size = st.n := hr.size
  have e1 : (a.put (some d1) v1).eval (.tmp d1) = v1 := by
    have hlt : d1 < a.tmps.size := by omega
    simp [Act.put, Act.eval, hlt]
  unfold wpList
  rw [if_pos (wt _ _ h2.2.2)]
  refine .inl ?_
  have hcs : (byteVals l).size = n := by simp [byteVals, hl]
  have hrun2 : (execOp (a.put (some d1) v1).eval o2).run Try.prog (w.alloc (.cells (byteVals l) 5)) = .ok (.value v1) (w.alloc (.cells (byteVals l) 5 ((byteVals l).size, (byteVals l).size + 1))) := by
    have hc := Lib.run_convert_bytes_const (P := Try.prog) w 22 5 (byteVals l) n n Try.underlying22 Try.underlying5
    rw [hv1] at hc
    simp only [execOp, h2.1, Sem.run_bind, Sem.run_pure, e1, hc, Result.andThen_ok]
  refine wp_of_run hrun2 ?_
  rw [h2.2.1]
  have hold : Hold w (w.alloc (.cells (byteVals l) 5 ((byteVals l).size, (byteVals l).size + 1))) := Hold.alloc w _
  have hp := Rp.world hr (hr.below.alloc _) hold
  have hp1 := Rp.set hp (some d1) (show d1 < st.n from hd1) (fe := .dead) (v := v1) trivial
  have hlen : (byteRows l).length = n := by simp [byteRows, hl]
  have hp2 := Rp.set hp1 (some d2) (show d2 < st.n from hd2) (fe := .pv (.sl 1 (byteRows l))) (v := v1) (by
    simp only [FR, VR]
    refine ⟨some ⟨w.heap.size, 0, none⟩, n, by rw [hlen, hv1], by rw [hlen]; exact Nat.le_refl _, .inr ⟨w.heap.size, 0, rfl, ?_⟩⟩
    refine Rows.of_vals (vs := l.map (Value.int .u8)) (by intro y hy; simp only [byteRows, List.mem_map] at hy; obtain ⟨n, _, rfl⟩ := hy; rfl) (VRc_bytes l) ?_
    intro j u hj
    refine ⟨?_, fun hh => ?_⟩
    · have hnew := heap_alloc_new w (.cells (byteVals l) 5 ((byteVals l).size, (byteVals l).size + 1))
      rw [cells_of_row hnew, Nat.zero_add]
      simpa [byteVals] using hj
    · have := hr.m_lt _ _ hh
      omega)
  exact vops_sound tabOk (fun g' st' a' w' hq hp => ⟨_, hq, _, hp⟩) _ _ _ _ _ (xops_ok (fun _ q => q) _ _ k) hp2
end Go.Proofs.Ytnoohgiecnmajaa.VC

