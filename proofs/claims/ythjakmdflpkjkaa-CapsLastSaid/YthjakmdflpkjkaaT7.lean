import Derived.Test.YthjakmdflpkjkaaT6
namespace Go.Proofs.Ythjakmdflpkjkaa
open Go.RowKit Go.Proofs.YthjakmdflpkjkaaW.PrintWords PCapsSame

theorem blt {w : World} {j : Nat} {o : Obj} (h : w.heap[j]? = some o) : j < w.heap.size := (Array.getElem?_eq_some_iff.1 h).1
theorem hup {w : World} {j : Nat} {p : Obj} (o : Obj) (h : w.heap[j]? = some p) : (w.alloc o).heap[j]? = some p := heap_up _ _ (blt h) h
theorem hbel {w w1 : World} {j : Nat} {p : Obj} (hb : Below w.heap.size w w1) (h : w.heap[j]? = some p) : w1.heap[j]? = some p := heap_below hb h (blt h)
theorem hset {w : World} {j g : Nat} {p : Obj} (cs : Array Value) (hne : j ≠ g) (h : w.heap[j]? = some p) : (w.setRow g cs).heap[j]? = some p := by rw [setRow_other w g j cs hne]; exact h
theorem chain {w w1 w2 : World} (h : Below w.heap.size w w1) (k : Below w1.heap.size w1 w2) : Below w.heap.size w w2 := h.trans (k.mono h.size)

def withS (n : Int) (g : Spans) (k s t : Int) : Spans := if 1 ≤ k ∧ k ≤ n ∧ 0 ≤ s ∧ s ≤ t ∧ t ≤ 1073741824 then upd g k.toNat (some (s.toNat, t.toNat)) else g
theorem with_any (n : Int) (g : Spans) (k s t : Int) (w : World) (hn : n ≤ 60) :
    Calls Try.prog 10 #[.agg (vec n g), .int .i64 k, .agg #[.int .i64 s, .int .i64 t]] w fun e w' => e = .returned (.agg (vec n (withS n g k s t))) ∧ Below w.heap.size w w' := by
  unfold withS
  by_cases h : 1 ≤ k ∧ k ≤ n ∧ 0 ≤ s ∧ s ≤ t ∧ t ≤ 1073741824
  · rw [if_pos h]; exact with_yes n g k s t w hn h.1 h.2.1 h.2.2.1 h.2.2.2.1 h.2.2.2.2
  · rw [if_neg h]; exact with_no n g k s t w h
def withoutS (n : Int) (g : Spans) (k : Int) : Spans := if 1 ≤ k ∧ k ≤ n then upd g k.toNat none else g
theorem without_any (n : Int) (g : Spans) (k : Int) (w : World) (hn : n ≤ 60) :
    Calls Try.prog 16 #[.agg (vec n g), .int .i64 k] w fun e w' => e = .returned (.agg (vec n (withoutS n g k))) ∧ Below w.heap.size w w' := by
  unfold withoutS
  by_cases h : 1 ≤ k ∧ k ≤ n
  · rw [if_pos h]; exact without_yes n g k w hn h.1 h.2
  · rw [if_neg h]; exact without_no n g k w h
theorem bounded_off : Bounded off := ⟨fun _ _ _ h => by cases h⟩
theorem bounded_upd {g : Spans} (h : Bounded g) (k : Nat) (x : Option (Nat × Nat)) (hx : ∀ a b, x = some (a, b) → a ≤ 1073741824 ∧ b ≤ 1073741824) : Bounded (upd g k x) :=
  ⟨fun j a b hj => by
    unfold upd at hj
    split at hj
    · exact hx a b hj
    · exact h.le j a b hj⟩
theorem bounded_with {g : Spans} (h : Bounded g) (n k s t : Int) : Bounded (withS n g k s t) := by
  unfold withS
  split
  · rename_i hc
    refine bounded_upd h _ _ fun a b hab => ?_
    simp only [Option.some.injEq, Prod.mk.injEq] at hab
    omega
  · exact h
theorem bounded_without {g : Spans} (h : Bounded g) (n k : Int) : Bounded (withoutS n g k) := by
  unfold withoutS
  split
  · exact bounded_upd h _ _ (fun a b hab => by cases hab)
  · exact h

section
variable {ops : Array Oper} {rest : List Oper} {a : Act} {w : World} {Q : Exit → Act → World → Prop} {dst : Option Tmp} {ty : TypeId} {pos : String} {after : Array Edge} {gd : Option (Nat × Bool)}
/-- A vector is loaded, whether the operation is guarded or not. -/
theorem op_loadg {p : Operand} {g : Nat} {cs : Array Value} {t : TypeId} (hg : w.heap[g]? = some (.cells cs t (0, 0))) (hs : cs.size = 62) (hp : a.eval p = .pointer (some ⟨g, 0, none⟩)) (hw : Region.wanted ⟨dst, .load 29 p, ty, pos, after, gd⟩ (yielded ops a.tmps) = true)
    (h : wpList Try.prog ops Q rest (a.put dst (.agg cs)) w) : wpList Try.prog ops Q (⟨dst, .load 29 p, ty, pos, after, gd⟩ :: rest) a w :=
  op_want hw (run_loadOp hp (run_loadVar_row w g t 29 cs (0, 0) _ hg Try.underlying29 rfl (by rw [size29, hs]))) h
end

theorem with_not {N k s t : Int} (h : ¬(1 ≤ k ∧ k ≤ N ∧ 0 ≤ s ∧ s ≤ t ∧ t ≤ 1073741824)) (g : Spans) : withS N g k s t = g := by unfold withS; rw [if_neg h]
theorem span_off (N k : Int) : spanAt N off k = none := by unfold spanAt off; split <;> rfl

set_option maxRecDepth 100000 in
set_option maxHeartbeats 800000 in
theorem awake_any (w : World) : Calls Try.prog 8 #[] w fun e w' => e = .returned (.bool true) ∧ Below w.heap.size w w' := by
  go_enter Try.func8, Try.ntmps8
  go_wp2_with fail
  refine (new_any 2 _).mono ?_
  rintro e w1 ⟨rfl, hb1⟩
  have e1 : vec (min (max (2 : Int) 0) 60) off = vec 2 off := rfl
  rw [e1]; clear e1
  have h1 : (w1.alloc (.cells (vec 2 off) 29)).heap[w1.heap.size]? = some (.cells (vec 2 off) 29 (0, 0)) := heap_at _ _ rfl
  have H1 := Aside0.mk h1
  have B1 := Aside0.mk (below_alloc hb1 (.cells (vec 2 off) 29))
  have Z1 : w.heap.size ≤ w1.heap.size := hb1.size
  clear h1 hb1
  go_wp2_with (first | refine op_alloc29 ?_ | ((with_reducible refine op_store29_new (W := w1) (cs := vec 2 off) ?_ ?_ (vec_size _ _) (vec_size _ _) (vec_one _ _) ?_); (next => rfl); (next => rfl)) | ((with_reducible refine op_load29 (g := w1.heap.size) (t := 29) ?_ H1.out (vec_size _ _) ?_); (next => rfl)))
  refine (with_any 2 off 2 3 5 _ (by omega)).mono ?_
  rintro e w2 ⟨rfl, hb2⟩
  have hg : withS 2 off 2 3 5 = upd off 2 (some (3, 5)) := rfl
  rw [hg]; clear hg
  have H2 := Aside0.mk (hbel hb2 H1.out)
  have B2 := Aside0.mk (chain B1.out hb2)
  have H3 := Aside0.mk (setRow_heap w2 w1.heap.size _ (vec 2 (upd off 2 (some (3, 5)))) _ _ H2.out)
  have B3 := Aside0.mk (below_setRow B2.out (g := w1.heap.size) Z1 (vec 2 (upd off 2 (some (3, 5)))))
  clear hb2
  go_wp2_with (first | ((with_reducible refine op_store29 (g := w1.heap.size) (cs := vec 2 (upd off 2 (some (3, 5)))) ?_ ?_ H2.out (vec_size _ _) (vec_size _ _) (vec_one _ _) ?_); (next => rfl); (next => rfl)) | ((with_reducible refine op_load29 (g := w1.heap.size) (t := 29) ?_ H3.out (vec_size _ _) ?_); (next => rfl)))
  refine (span_any 2 _ 2 _ (by omega) (bounded_upd bounded_off 2 (some (3, 5)) (by intro a b h; simp only [Option.some.injEq, Prod.mk.injEq] at h; omega))).mono ?_
  rintro e w3 ⟨rfl, hb3⟩
  have hs : spanAt 2 (upd off 2 (some (3, 5))) 2 = some (3, 5) := rfl
  rw [hs]; clear hs
  have B4 := Aside0.mk (chain B3.out hb3)
  have H4 := Aside0.mk (hup (.cells #[.int .i64 3, .int .i64 5] 23) (hbel hb3 H3.out))
  have B5 := Aside0.mk (below_alloc B4.out (.cells #[.int .i64 3, .int .i64 5] 23))
  clear hb3
  simp only [toS, Option.isSome]
  go_wp2_with ((with_reducible refine op_load29 (g := w1.heap.size) (t := 29) ?_ H4.out (vec_size _ _) ?_); (next => rfl))
  refine (span_any 2 _ 1 _ (by omega) (bounded_upd bounded_off 2 (some (3, 5)) (by intro a b h; simp only [Option.some.injEq, Prod.mk.injEq] at h; omega))).mono ?_
  rintro e w4 ⟨rfl, hb4⟩
  have hs : spanAt 2 (upd off 2 (some (3, 5))) 1 = none := rfl
  rw [hs]; clear hs
  have B6 := Aside0.mk (chain B5.out hb4)
  have H6 := Aside0.mk (hup (.cells #[.int .i64 (-1), .int .i64 (-1)] 23) (hbel hb4 H4.out))
  have H7 := Aside0.mk (hup (.cells #[.int .i64 (-1), .int .i64 (-1)] 23) (hbel hb4 (heap_at w3 (.cells #[.int .i64 3, .int .i64 5] 23) rfl)))
  have B7 := Aside0.mk (below_alloc B6.out (.cells #[.int .i64 (-1), .int .i64 (-1)] 23))
  clear hb4
  have c0 := cell_of_row _ _ 0 _ _ _ H7.out
  have c1 := cell_of_row _ _ 1 _ _ _ H7.out
  simp at c0 c1
  simp only [toS, Option.isSome]
  go_wp2_with ((with_reducible refine op_loadg (g := w1.heap.size) (t := 29) H6.out (vec_size _ _) ?_ ?_ ?_); (next => rfl); (next => rfl))
  refine (groups_any _ _ _).mono ?_
  rintro e w5 ⟨rfl, hb5⟩
  have B8 := Aside0.mk (chain B7.out hb5)
  have H8 := Aside0.mk (hbel hb5 H6.out)
  clear hb5
  go_wp2_with ((with_reducible refine op_loadg (g := w1.heap.size) (t := 29) H8.out (vec_size _ _) ?_ ?_ ?_); (next => rfl); (next => rfl))
  refine (spans_any 2 _ (by omega) (by omega) (bounded_upd bounded_off 2 (some (3, 5)) (by intro a b h; simp only [Option.some.injEq, Prod.mk.injEq] at h; omega)) _).mono ?_
  rintro e w6 ⟨v, rfl, hR, hb6⟩
  have B9 := Aside0.mk (chain B8.out hb6)
  obtain ⟨A, c, rfl⟩ := Kd.R_slice hR
  have hl : (spanL (2 : Int).toNat (upd off 2 (some (3, 5)))).length = 2 := spanL_length 2 _
  rw [hl]
  clear hb6 hR hl
  go_wp2_with fail
  go_ret
  exact ⟨rfl, B9.out⟩
end Go.Proofs.Ythjakmdflpkjkaa
