import Derived.Test.YthjakmdflpkjkaaLaws
namespace Go.Proofs.Ythjakmdflpkjkaa
open Go.RowKit

set_option maxHeartbeats 400000 in
theorem known_any (n : Int) (g : Spans) (k : Int) (w : World) :
    Calls Try.prog 22 #[.agg (vec n g), .int .i64 k] w fun e w' => e = .returned (.bool (decide (1 ≤ k ∧ k ≤ n))) ∧ Below w.heap.size w w' := by
  have hn := vec_0 n g
  go_enter Try.func22, Try.ntmps22
  go_wp2
  all_goals (go_ret; exact ⟨by simp <;> omega, (Below.refl _ _).alloc (Nat.le_refl _) _⟩)

set_option maxHeartbeats 400000 in
theorem groups_any (n : Int) (g : Spans) (w : World) :
    Calls Try.prog 12 #[.agg (vec n g)] w fun e w' => e = .returned (.int .i64 n) ∧ Below w.heap.size w w' := by
  have hn := vec_0 n g
  go_enter Try.func12, Try.ntmps12
  go_wp2
  go_ret; exact ⟨rfl, (Below.refl _ _).alloc (Nat.le_refl _) _⟩

theorem result29 {fn : Func} {p : Tmp} {ty : TypeId} (h : fn.results = #[.cell p ty]) (hty : ty = 29) (tmps : Array Value) (w : World) (g : Nat) (cs : Array Value)
    (hp : tmps.getD p undef = .pointer (some ⟨g, 0, none⟩)) (hg : w.heap[g]? = some (.cells cs 29 (0, 0))) (hs : cs.size = 62) :
    (results fn tmps).run Try.prog w = .ok (.agg cs) w := by
  subst hty
  exact results_cell_row h tmps w g 29 cs (0, 0) _ hp hg Try.underlying29 rfl (by rw [size29, hs])

set_option maxHeartbeats 400000 in
theorem new_any (n : Int) (w : World) :
    Calls Try.prog 9 #[.int .i64 n] w fun e w' => e = .returned (.agg (vec (min (max n 0) 60) off)) ∧ Below w.heap.size w w' := by
  have hfin : ∀ m : Int, m = min (max n 0) 60 → ∀ a : Act, a.tmps.getD 2 undef = .pointer (some ⟨w.heap.size, 0, none⟩) → a.defers = [] →
      bodyPost Try.prog Try.f9 (fun e w' => e = .returned (.agg (vec (min (max n 0) 60) off)) ∧ Below w.heap.size w w') Exit.ret a (w.alloc (.cells (vec m off) 29)) := by
    rintro m rfl a ha hd
    exact bodyPost_ret (result29 rfl rfl _ _ _ _ ha (heap_alloc_last w _) (vec_size _ _)) hd ⟨rfl, (Below.refl _ _).alloc (Nat.le_refl _) _⟩
  have Hf := Lib.hid hfin
  clear hfin
  go_enter Try.func9, Try.ntmps9
  go_wp2_with (first | refine op_alloc29 ?_ | (refine op_build29 rfl ?_) | (refine op_store29_new rfl rfl (vec_size _ _) (vec_size _ _) (vec_one _ _) ?_))
  all_goals exact Hf.out _ (by omega) _ rfl rfl
end Go.Proofs.Ythjakmdflpkjkaa
