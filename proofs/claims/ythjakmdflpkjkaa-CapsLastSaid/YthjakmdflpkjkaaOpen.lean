/- How a row's slice of structs is opened. -/
import Derived.Test.YthjakmdflpkjkaaT9
import Derived.Deep.Slices
import Derived.ProofKit
import Derived.OpenShut
import Derived.Lib.SmallJoins
namespace Go.Proofs.Ythjakmdflpkjkaa
open Go.ChangeShapes Go.WideShapes Go.ChangeAt Go.RowKit Go.Deep Go.Joins Go.Proofs.YthjakmdflpkjkaaW.PrintWords PCapsSame
section
variable {H : Type} {enc : TypeId × Value → H} {P : Program} {w : World} {base : Nat} {spare : Nat → Bool} {held : Bool}
/-- A slice that is read, whatever its elements' kind. -/
theorem open_kd {α : Type} [Inhabited α] (d : Kd α) {t e : TypeId} {a0 : Option Addr} {len cap : Nat} {dat : DataW H} {ps : List MemPlace} (ht : P.underlying t = some (.slice e)) (hc : P.cellsOf e = d.sz)
    (hel : ∀ (n : Nat) (cs : List Value) (x : DataW H × List MemPlace), cs.length = d.sz → DataW.trod enc P w base spare held n e cs = some x → ∃ p, d.K w p cs)
    (h : DataW.Trod enc P w base spare held t (.slice a0 len cap) dat ps) : ∃ l : List α, len ≤ cap ∧ d.C w a0 len l := by
  obtain ⟨fuel, hf⟩ := h
  rcases open_slice ht hf with ⟨hcs, _⟩ | ⟨x, l, c, m, n, D, Pl, hcs, hb, hl, hm, hmm, hx, hi⟩
  · simp [Value.cells] at hcs
    obtain ⟨rfl, rfl, rfl⟩ := hcs
    exact ⟨[], Nat.le_refl _, rfl, by simp, fun h => absurd h (Nat.lt_irrefl 0)⟩
  · simp [Value.cells] at hcs
    obtain ⟨rfl, rfl, rfl⟩ := hcs
    have hlm : len ≤ m := by rw [hmm]; split <;> omega
    have key : ∀ i, ∃ p : α, i < len → ∃ cs, cs.length = d.sz ∧ d.K w p cs ∧ ∀ j u, cs[j]? = some u → w.cell? (x.add (i * d.sz + j)) = some u := by
      intro i
      by_cases h : i < len
      · obtain ⟨cs', h1, h2⟩ := hi i (by omega)
        rw [hc] at h1
        obtain ⟨_, hcl, hat⟩ := World.cells?_some h1
        obtain ⟨p, hp⟩ := hel n cs' _ hcl h2
        refine ⟨p, fun _ => ⟨cs', hcl, hp, fun j u hj => ?_⟩⟩
        have hjl : j < d.sz := by rw [← hcl]; exact (List.getElem?_eq_some_iff.1 hj).1
        rw [← Go.Deep.add_add, hat j hjl]
        exact hj
      · exact ⟨default, fun h' => absurd h' h⟩
    refine ⟨(List.range len).map fun i => Classical.choose (key i), hl, by simp, by unfold maxLen at hm; omega, fun _ => ⟨x, rfl, fun j p hj => ?_⟩⟩
    have hjl : j < len := by have := (List.getElem?_eq_some_iff.1 hj).1; simpa using this
    have hp : p = Classical.choose (key j) := by simpa [hjl] using hj.symm
    obtain ⟨cs, h1, h2, h3⟩ := Classical.choose_spec (key j) hjl
    exact ⟨cs, h1, by rw [hp]; exact h2, h3⟩
end
instance : Inhabited S44 := ⟨z44⟩
section
variable {H : Type} {enc : TypeId × Value → H} {w : World} {base : Nat} {spare : Nat → Bool} {held : Bool}
theorem el44 (n : Nat) (cs : List Value) (x : DataW H × List MemPlace) (hl : cs.length = k44.sz) (h : DataW.trod enc Try.prog w base spare held n 44 cs = some x) : ∃ p, k44.K w p cs := by
  obtain ⟨xs, n', _, _, _, hlen, hg⟩ := DataW.trod_struct Try.underlying44 h
  have hl4 : cs.length = 4 := hl
  obtain ⟨c0, c1, c2, c3, rfl⟩ : ∃ c0 c1 c2 c3, cs = [c0, c1, c2, c3] := by
    match cs, hl4 with
    | [c0, c1, c2, c3], _ => exact ⟨c0, c1, c2, c3, rfl⟩
  have c3k : Try.prog.cellsOf 3 = 1 := by kernel_rfl
  have c23k : Try.prog.cellsOf 23 = 2 := by kernel_rfl
  have g0 : DataW.trod enc Try.prog w base spare held n' 3 (([c0, c1, c2, c3].drop 0).take (Try.prog.cellsOf 3)) = xs[0]? := hg 0 _ rfl
  have g1 : DataW.trod enc Try.prog w base spare held n' 3 (([c0, c1, c2, c3].drop 1).take (Try.prog.cellsOf 3)) = xs[1]? := hg 1 _ rfl
  have g2 : DataW.trod enc Try.prog w base spare held n' 23 (([c0, c1, c2, c3].drop 2).take (Try.prog.cellsOf 23)) = xs[2]? := hg 2 _ rfl
  simp only [c3k, c23k, List.drop_zero, List.take_succ_cons, List.take_zero, List.drop_succ_cons] at g0 g1 g2
  rw [List.getElem?_eq_getElem (by rw [hlen]; decide)] at g0 g1 g2
  obtain ⟨a, e0, _, _⟩ := DataW.trod_int Try.underlying3 g0
  obtain ⟨b, e1, _, _⟩ := DataW.trod_int Try.underlying3 g1
  obtain ⟨ys, m', _, _, _, hlen2, hg2⟩ := DataW.trod_struct Try.underlying23 g2
  have h0 : DataW.trod enc Try.prog w base spare held m' 3 (([c2, c3].drop 0).take (Try.prog.cellsOf 3)) = ys[0]? := hg2 0 _ rfl
  have h1 : DataW.trod enc Try.prog w base spare held m' 3 (([c2, c3].drop 1).take (Try.prog.cellsOf 3)) = ys[1]? := hg2 1 _ rfl
  simp only [c3k, List.drop_zero, List.take_succ_cons, List.take_zero, List.drop_succ_cons] at h0 h1
  rw [List.getElem?_eq_getElem (by rw [hlen2]; decide)] at h0 h1
  obtain ⟨c, e2, _, _⟩ := DataW.trod_int Try.underlying3 h0
  obtain ⟨d, e3, _, _⟩ := DataW.trod_int Try.underlying3 h1
  simp only [List.cons.injEq, and_true] at e0 e1 e2 e3
  subst e0 e1 e2 e3
  exact ⟨⟨a, b, ⟨c, d⟩⟩, k44_mk w ⟨a, b, ⟨c, d⟩⟩⟩
theorem open_ops {r : Reach} {b0 : Nat} {v : Value} {dat : DataW H} {ps : List MemPlace} (hv : Value.okWide Try.prog w r b0 37 v) (h : DataW.Trod enc Try.prog w base spare held 37 v dat ps) : ∃ A len cap l, v = .slice A len cap ∧ k44.C w A len l := by
  obtain ⟨A, len, cap, rfl⟩ := okWide_slice Try.underlying37 hv
  obtain ⟨l, _, hC⟩ := open_kd k44 Try.underlying37 (by kernel_rfl) el44 h
  exact ⟨A, len, cap, l, rfl, hC⟩
end
end Go.Proofs.Ythjakmdflpkjkaa
