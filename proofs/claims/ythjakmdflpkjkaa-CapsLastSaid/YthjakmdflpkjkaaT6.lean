import Derived.Test.YthjakmdflpkjkaaT5
import Derived.Test.YthjakmdflpkjkaaPCapsSamex0
namespace Go.Proofs.Ythjakmdflpkjkaa
open Go.RowKit Go.Proofs.YthjakmdflpkjkaaW.PrintWords PCapsSame

def toS : Option (Nat × Nat) → S23
  | none => ⟨-1, -1⟩
  | some (a, b) => ⟨a, b⟩
/-- What a vector tells of a group. -/
def spanAt (n : Int) (g : Spans) (k : Int) : Option (Nat × Nat) := if 1 ≤ k ∧ k ≤ n then g k.toNat else none
def spanL (i : Nat) (g : Spans) : List S23 := (List.range i).map fun k => toS (g (k + 1))
theorem spanL_length (i : Nat) (g : Spans) : (spanL i g).length = i := by simp [spanL]
theorem spanL_succ (i : Nat) (g : Spans) : spanL (i + 1) g = spanL i g ++ [toS (g (i + 1))] := by simp [spanL, List.range_succ]

theorem span_any (n : Int) (g : Spans) (k : Int) (w : World) (hn : n ≤ 60) (hg : Bounded g) :
    Calls Try.prog 11 #[.agg (vec n g), .int .i64 k] w fun e w' => e = .returned (.tuple #[.agg #[.int .i64 (toS (spanAt n g k)).f0, .int .i64 (toS (spanAt n g k)).f1], .bool (spanAt n g k).isSome]) ∧ Below w.heap.size w w' := by
  unfold spanAt
  by_cases h : 1 ≤ k ∧ k ≤ n
  · rw [if_pos h]
    rcases hx : g k.toNat with _ | ⟨a, b⟩
    · exact span_none n g k w hn h.1 h.2 hx
    · obtain ⟨h1, h2⟩ := hg.le _ _ _ hx
      exact span_some n g k w hn h.1 h.2 a b hx h1 h2
  · rw [if_neg h]
    exact span_no n g k w h

set_option maxRecDepth 100000 in
set_option maxHeartbeats 400000 in
theorem spans_any (n : Int) (g : Spans) (hn0 : 0 ≤ n) (hn : n ≤ 60) (hg : Bounded g) (w : World) :
    Calls Try.prog 20 #[.agg (vec n g)] w fun e w' => ∃ v, e = .returned v ∧ Kd.R k23 23 w' w.heap.size (fun _ => True) v (spanL n.toNat g) ∧ Below w.heap.size w w' := by
  have hinfo23 : (Try.prog.info? 23).map (fun i => (i.zero, i.size, i.bytes)) = some (some (.agg #[.int .i64 0, .int .i64 0]), 2, 16) := by kernel_rfl
  have HF := Lib.hid hinfo23
  clear hinfo23
  have c0 : (w.alloc (.cells (vec n g) 29)).heap[w.heap.size]? = some (.cells (vec n g) 29 (0, 0)) := heap_at _ _ rfl
  have C0 := Lib.hid c0
  clear c0
  go_enter Try.func20, Try.ntmps20
  go_wp2_with fail
  go_loopw [3, 4] (fun out k wr => ∃ i : Nat, (i : Int) ≤ n ∧ k = .int .i64 (i + 1) ∧ Aside0 (Kd.R k23 23 wr (w.heap.size + 1) (fun _ => True) out (spanL i g)) ∧ Aside0 (Below (w.heap.size + 1) (w.alloc (.cells (vec n g) 29)) wr)) (fun _ k _ => (61 - intOf k).toNat)
  case atStart => exact ⟨0, by omega, rfl, ⟨Kd.R_nil _ _ _ _ _⟩, ⟨by have h := Below.refl (w.heap.size + 1) (w.alloc (.cells (vec n g) 29)); exact h⟩⟩
  case round =>
    obtain ⟨i, hi, rfl, HR, HB⟩ := hrel
    have hv : wr.heap[w.heap.size]? = some (.cells (vec n g) 29 (0, 0)) := heap_below HB.out C0.out (by omega)
    have cn := (cell_of_row wr (w.heap.size) 0 _ _ _ hv).trans (vec_0 n g)
    have HV := Lib.hid hv
    clear hv
    by_cases hlt : (i : Int) < n
    · have HE : Aside0 (spanAt n g ((i : Int) + 1) = g (i + 1)) := ⟨by unfold spanAt; rw [if_pos ⟨by omega, by omega⟩]; congr 1⟩
      go_wp2_with (first | ((with_reducible refine op_load29 (g := w.heap.size) (t := 29) ?_ HV.out (vec_size _ _) ?_); (next => rfl)) | (go_at_call 11; refine (span_any n g (i + 1) _ hn hg).mono ?_; rintro e w1 ⟨rfl, hb1⟩; have Hb1 := Aside0.mk hb1; clear hb1) | (at_builtin; refine Kd.R_append k23 (w0 := w.alloc (.cells (vec n g) 29)) (w.heap.size + 1) rfl _ _ 49 23 (.agg #[.int .i64 0, .int .i64 0]) 16 rfl Try.underlying49 HF.out rfl (by decide) (by decide) _ (spanL i g) (toS (spanAt n g (i + 1))) [.int .i64 (toS (spanAt n g (i + 1))).f0, .int .i64 (toS (spanAt n g (i + 1))).f1] (fun _ => True) (fun _ => False) rfl ?o1 (k23_mkM _ _ _ _) (fun _ h => h.elim) (fun _ _ => trivial) (Kd.R_alloc (Kd.R_below HR.out Hb1.out) _) ?o2 ?o3 ?o4 ?_))
      case o1 => rw [size_alloc']; rfl
      case o2 => exact (HB.out.trans (Hb1.out.mono (by have := HB.out.size; simpa using this))).alloc (by have := HB.out.size; have := Hb1.out.size; simp at *; omega) _
      case o3 => have := HB.out.size; have := Hb1.out.size; simp at *; omega
      case o4 => rw [spanL_length]; omega
      intro v1 w2 hR2 hB2 _ _
      have HR2 := Aside0.mk hR2
      have HB2 := Aside0.mk hB2
      clear hR2 hB2
      go_wp2_with fail
      go_roundw
      case rel => exact ⟨i + 1, by omega, by go_num, ⟨by rw [spanL_succ, ← HE.out]; exact HR2.out⟩, HB2⟩
      case measure => simp [intOf]; omega
    · go_wp2_with fail
      go_ret
      obtain rfl : n = (i : Int) := by omega
      refine ⟨_, rfl, ?_, ?_⟩
      · rw [Int.toNat_natCast]; exact Kd.R_lower HR.out (by omega)
      · exact ((Below.refl _ _).alloc (Nat.le_refl _) _).trans (HB.out.mono (by omega))
end Go.Proofs.Ythjakmdflpkjkaa
