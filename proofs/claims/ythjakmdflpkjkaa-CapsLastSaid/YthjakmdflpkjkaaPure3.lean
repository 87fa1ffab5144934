/- The plain law of CapsLast. -/
import Derived.Test.YthjakmdflpkjkaaPure2
namespace Go.Proofs.Ythjakmdflpkjkaa
open Go.RowKit Go.Proofs.YthjakmdflpkjkaaW.PrintWords PCapsSame

theorem spans_ext {N : Int} {g h : Spans} (og : Off N g) (oh : Off N h) (e : ∀ k : Int, 1 ≤ k → k ≤ N → spanAt N g k = spanAt N h k) : sameB g h = true := by
  rw [sameB_iff]
  intro i _
  by_cases hr : 1 ≤ (i : Int) ∧ (i : Int) ≤ N
  · have := e i hr.1 hr.2
    unfold spanAt at this
    rw [if_pos hr, if_pos hr] at this
    simpa using this
  · rw [og.eq i (by omega), oh.eq i (by omega)]
theorem off_with {N : Int} {g : Spans} (h : Off N g) (k s t : Int) : Off N (withS N g k s t) := by
  refine ⟨fun j hj => ?_⟩
  unfold withS
  split
  · rename_i hm
    unfold upd
    rw [if_neg (by omega)]
    exact h.eq j hj
  · exact h.eq j hj
theorem off_without {N : Int} {g : Spans} (h : Off N g) (k : Int) : Off N (withoutS N g k) := by
  refine ⟨fun j hj => ?_⟩
  unfold withoutS
  split
  · unfold upd
    split
    · rfl
    · exact h.eq j hj
  · exact h.eq j hj
theorem spanAt_with' (N : Int) (g : Spans) (j s t k : Int) : spanAt N (withS N g j s t) k = if j = k ∧ (1 ≤ j ∧ j ≤ N ∧ 0 ≤ s ∧ s ≤ t ∧ t ≤ 1073741824) then some (s.toNat, t.toNat) else spanAt N g k := by
  by_cases hm : 1 ≤ j ∧ j ≤ N ∧ 0 ≤ s ∧ s ≤ t ∧ t ≤ 1073741824
  · rw [spanAt_with N g j s t k hm]
    by_cases e : j = k
    · rw [if_pos e, if_pos ⟨e, hm⟩]
    · rw [if_neg e, if_neg (fun h => e h.1)]
  · rw [with_not hm, if_neg (fun h => hm h.2)]
/-- Of two groups the order doesn't count. -/
theorem last_swap {N : Int} {g : Spans} (og : Off N g) {j k s t p q : Int} (hne : j ≠ k) : sameB (withS N (withS N g j s t) k p q) (withS N (withS N g k p q) j s t) = true := by
  refine spans_ext (off_with (off_with og _ _ _) _ _ _) (off_with (off_with og _ _ _) _ _ _) fun i _ _ => ?_
  rw [spanAt_with', spanAt_with', spanAt_with', spanAt_with']
  by_cases h1 : k = i ∧ (1 ≤ k ∧ k ≤ N ∧ 0 ≤ p ∧ p ≤ q ∧ q ≤ 1073741824)
  · rw [if_pos h1, if_neg (by omega), if_pos h1]
  · rw [if_neg h1]
    by_cases h2 : j = i ∧ (1 ≤ j ∧ j ≤ N ∧ 0 ≤ s ∧ s ≤ t ∧ t ≤ 1073741824)
    · rw [if_pos h2, if_pos h2]
    · rw [if_neg h2, if_neg h2, if_neg h1]
theorem last_without {N : Int} {g : Spans} (og : Off N g) {j s t : Int} : sameB (withoutS N (withS N g j s t) j) (withoutS N g j) = true := by
  refine spans_ext (off_without (off_with og _ _ _) _) (off_without og _) fun i h1 h2 => ?_
  rw [spanAt_without, spanAt_without, spanAt_with']
  by_cases e : j = i
  · rw [if_pos e, if_pos e]
  · rw [if_neg e, if_neg e, if_neg (fun h => e h.1)]
theorem last_known {N : Int} {g : Spans} {k p q : Int} (h : 1 ≤ k ∧ k ≤ N ∧ 0 ≤ p ∧ p ≤ q ∧ q ≤ 1073741824) : spanAt N (withS N g k p q) k = some (p.toNat, q.toNat) := by
  rw [spanAt_with', if_pos ⟨rfl, h⟩]

/-- Blocks that are known. -/
structure Boxes (w : World) (L : List (Nat × Obj)) : Prop where mk :: (out : ∀ p ∈ L, w.heap[p.1]? = some p.2)
theorem Boxes.bel {w w1 : World} {L : List (Nat × Obj)} (hb : Below w.heap.size w w1) (h : Boxes w L) : Boxes w1 L := ⟨fun p hp => hbel hb (h.out p hp)⟩
theorem Boxes.up {w : World} {L : List (Nat × Obj)} (o : Obj) (h : Boxes w L) : Boxes (w.alloc o) L := ⟨fun p hp => hup o (h.out p hp)⟩
theorem Boxes.push {w : World} {L : List (Nat × Obj)} (o : Obj) (h : Boxes w L) : Boxes (w.alloc o) ((w.heap.size, o) :: L) := ⟨fun p hp => by
  rcases List.mem_cons.1 hp with rfl | hp
  · exact heap_at w o rfl
  · exact hup o (h.out p hp)⟩
theorem Boxes.lt {w : World} {L : List (Nat × Obj)} (h : Boxes w L) : ∀ p ∈ L, p.1 < w.heap.size := fun p hp => blt (h.out p hp)
/-- The box that was laid behind all others is written. -/
theorem Boxes.set {w : World} {L : List (Nat × Obj)} {b : Nat} {old : Array Value} {t : TypeId} {fr : Nat × Nat} (cs : Array Value) (h : Boxes w ((b, .cells old t fr) :: L)) (hlt : ∀ p ∈ L, p.1 < b) : Boxes (w.setRow b cs) ((b, .cells cs t fr) :: L) := ⟨fun p hp => by
  rcases List.mem_cons.1 hp with rfl | hp
  · exact setRow_heap w b _ cs t fr (h.out _ (List.mem_cons_self ..))
  · have := hlt p hp
    exact hset cs (by omega) (h.out p (List.mem_cons_of_mem _ hp))⟩
theorem Boxes.tail {w : World} {x : Nat × Obj} {L : List (Nat × Obj)} (h : Boxes w (x :: L)) : Boxes w L := ⟨fun p hp => h.out p (List.mem_cons_of_mem _ hp)⟩
end Go.Proofs.Ythjakmdflpkjkaa
