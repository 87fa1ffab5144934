/- The kind of a script's steps; what a script makes of a vector and of the reference's; laws on whole boxes. -/
import Derived.Test.YthjakmdflpkjkaaT7
import Derived.Test.YthjakmdflpkjkaaRef1
namespace Go.Proofs.Ythjakmdflpkjkaa
open Go.RowKit Go.Proofs.YthjakmdflpkjkaaW.PrintWords PCapsSame

structure S44 where
  f0 : Int
  f1 : Int
  f2 : S23
def z44 : S44 := ⟨0, 0, z23⟩
def k44 : Kd S44 := Kd.iso (Kd.pair (Kd.int .i64) (Kd.pair (Kd.int .i64) k23)) (fun x : S44 => (x.f0, x.f1, x.f2))
theorem k44_open {w : World} {x : S44} {cs : List Value} (h : k44.K w x cs) : cs = [.int .i64 x.f0, .int .i64 x.f1, .int .i64 x.f2.f0, .int .i64 x.f2.f1] := by
  obtain ⟨_, _, rfl, rfl, ⟨_, _, rfl, rfl, s1⟩⟩ := h
  obtain rfl := k23_open s1
  exact rfl
theorem k44_mk (w : World) (x : S44) : k44.K w x [.int .i64 x.f0, .int .i64 x.f1, .int .i64 x.f2.f0, .int .i64 x.f2.f1] :=
  ⟨[.int .i64 x.f0], [.int .i64 x.f1, .int .i64 x.f2.f0, .int .i64 x.f2.f1], rfl, rfl, ⟨[.int .i64 x.f1], [.int .i64 x.f2.f0, .int .i64 x.f2.f1], rfl, rfl, k23_mk w x.f2⟩⟩
def rd_T44 (xs : List S44) (i : Nat) : S44 := xs.getD i z44
theorem at_T44 {w : World} {A : Option Addr} {n : Nat} {xs : List S44} (h : Kd.C k44 w A n xs) (i : Nat) (h1 : i < n) : ∃ ad, A = some ad ∧ w.cell? (ad.add (i * 4)) = some (.int .i64 (rd_T44 xs i).f0) ∧ w.cell? ⟨(ad.add (i * 4)).block, (ad.add (i * 4)).off + 1, none⟩ = some (.int .i64 (rd_T44 xs i).f1) ∧ w.cell? ⟨(ad.add (i * 4)).block, (ad.add (i * 4)).off + 2, none⟩ = some (.int .i64 (rd_T44 xs i).f2.f0) ∧ w.cell? ⟨(ad.add (i * 4)).block, (ad.add (i * 4)).off + 3, none⟩ = some (.int .i64 (rd_T44 xs i).f2.f1) := by
  obtain ⟨ad, c, e, _, hK, hc0⟩ := Kd.C_get h z44 (i : Int) (by omega) (by omega)
  have hc : ∀ j u, c[j]? = some u → w.cell? (ad.add (i * 4 + j)) = some u := hc0
  obtain rfl := k44_open hK
  exact ⟨ad, e, hc 0 _ rfl, by rw [← add_field _ _ 1 (by omega)]; exact hc 1 _ rfl, by rw [← add_field _ _ 2 (by omega)]; exact hc 2 _ rfl, by rw [← add_field _ _ 3 (by omega)]; exact hc 3 _ rfl⟩

/-! What a script makes. -/
def stepG (N : Int) (g : Spans) (o : S44) : Spans := if o.f0.tmod 4 = 0 then withoutS N g o.f1 else withS N g o.f1 o.f2.f0 o.f2.f1
def stepL (N : Int) (l : List S58) (o : S44) : List S58 :=
  if o.f0.tmod 4 = 0 then l ++ [⟨o.f1, ⟨0, 0⟩, false⟩]
  else if o.f1 < 1 ∨ o.f1 > N ∨ o.f2.f0 < 0 ∨ o.f2.f1 < o.f2.f0 ∨ o.f2.f1 > 1073741824 then l else l ++ [⟨o.f1, o.f2, true⟩]
def runG (N : Int) (s : List S44) (i : Nat) : Spans := (s.take i).foldl (stepG N) off
def runL (N : Int) (s : List S44) (i : Nat) : List S58 := (s.take i).foldl (stepL N) []
theorem take_succ_rd (s : List S44) (i : Nat) (h : i < s.length) : s.take (i + 1) = s.take i ++ [rd_T44 s i] := by
  rw [List.take_succ_eq_append_getElem h]
  simp [rd_T44, List.getD_eq_getElem?_getD, List.getElem?_eq_getElem h]
theorem runG_succ (N : Int) (s : List S44) (i : Nat) (h : i < s.length) : runG N s (i + 1) = stepG N (runG N s i) (rd_T44 s i) := by
  unfold runG; rw [take_succ_rd s i h, List.foldl_append]; rfl
theorem runL_succ (N : Int) (s : List S44) (i : Nat) (h : i < s.length) : runL N s (i + 1) = stepL N (runL N s i) (rd_T44 s i) := by
  unfold runL; rw [take_succ_rd s i h, List.foldl_append]; rfl
theorem runL_length (N : Int) (s : List S44) : ∀ i : Nat, (runL N s i).length ≤ i
  | 0 => by simp [runL]
  | i + 1 => by
    have ih := runL_length N s i
    by_cases h : i < s.length
    · rw [runL_succ N s i h]
      unfold stepL
      split
      · simp; omega
      · split
        · omega
        · simp; omega
    · have e : runL N s (i + 1) = runL N s i := by unfold runL; rw [List.take_of_length_le (by omega), List.take_of_length_le (by omega)]
      rw [e]; omega
theorem bounded_step {N : Int} {g : Spans} (h : Bounded g) (o : S44) : Bounded (stepG N g o) := by
  unfold stepG
  split
  · exact bounded_without h _ _
  · exact bounded_with h _ _ _ _
theorem bounded_run (N : Int) (s : List S44) : ∀ i : Nat, Bounded (runG N s i)
  | 0 => by simp [runG]; exact bounded_off
  | i + 1 => by
    by_cases h : i < s.length
    · rw [runG_succ N s i h]; exact bounded_step (bounded_run N s i) _
    · have e : runG N s (i + 1) = runG N s i := by unfold runG; rw [List.take_of_length_le (by omega), List.take_of_length_le (by omega)]
      rw [e]; exact bounded_run N s i

/-! Whole boxes of any struct type. -/
section
variable {ops : Array Oper} {rest : List Oper} {a : Act} {w : World} {Q : Exit → Act → World → Prop} {dst : Option Tmp} {ty : TypeId} {pos : String} {after : Array Edge} {gd : Option (Nat × Bool)}
theorem op_ld {T : TypeId} {fs : Array Field} {n : Nat} {p : Operand} {g : Nat} {cs : Array Value} {t : TypeId} (hu : Try.prog.underlying T = some (.struct fs)) (hi : (Try.prog.info? T).map (·.size) = some n)
    (hg : w.heap[g]? = some (.cells cs t (0, 0))) (hs : cs.size = n) (hp : a.eval p = .pointer (some ⟨g, 0, none⟩)) (hw : Region.wanted ⟨dst, .load T p, ty, pos, after, gd⟩ (yielded ops a.tmps) = true)
    (h : wpList Try.prog ops Q rest (a.put dst (.agg cs)) w) : wpList Try.prog ops Q (⟨dst, .load T p, ty, pos, after, gd⟩ :: rest) a w :=
  op_want hw (run_loadOp hp (run_loadVar_row w g t T cs (0, 0) _ hg hu rfl (by rw [hi, hs]))) h
theorem op_st {T : TypeId} {n : Nat} {p x : Operand} {g : Nat} {cs old : Array Value} {t : TypeId} (hi : (Try.prog.info? T).map (·.size) = some n) (hg : w.heap[g]? = some (.cells old t (0, 0))) (ho : old.size = n) (hs : cs.size = n) (h1 : cs.all (·.oneCell') = true)
    (hp : a.eval p = .pointer (some ⟨g, 0, none⟩)) (hx : a.eval x = .agg cs) (hw : Region.wanted ⟨dst, .store T p x, ty, pos, after, gd⟩ (yielded ops a.tmps) = true)
    (h : wpList Try.prog ops Q rest (a.put dst undef) (w.setRow g cs)) : wpList Try.prog ops Q (⟨dst, .store T p x, ty, pos, after, gd⟩ :: rest) a w := by
  refine BigFrame.wpList_want hw fun K hK => ?_
  unfold Oper.wp
  have hr : (execOp a.eval ⟨dst, .store T p x, ty, pos, after, gd⟩).run Try.prog w = .ok .skip (w.setRow g cs) := by
    simp only [execOp, hp, hx, Instr.storeAt, Instr.sureAddr, Sem.run_bind, Sem.run_pure, Result.andThen_ok, run_storeVar_row w g t T old cs hg (by rw [hi, hs]) (by omega) h1]
  rw [hr]
  exact hK _ _ h
end
theorem size23 : (Try.prog.info? 23).map (·.size) = some 2 := by kernel_rfl
theorem size40 : (Try.prog.info? 40).map (·.size) = some 2 := by kernel_rfl
theorem size44 : (Try.prog.info? 44).map (·.size) = some 4 := by kernel_rfl
end Go.Proofs.Ythjakmdflpkjkaa
