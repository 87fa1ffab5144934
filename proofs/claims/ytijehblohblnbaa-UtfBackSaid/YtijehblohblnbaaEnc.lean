/- The walk of utf.Encode, printed by wip/utf/mkenc.py. -/
import Derived.Test.YtijehblohblnbaaOf
namespace Go.Proofs.Ytijehblohblnbaa.UA
open Go.RowKit Go.Proofs.YtijehblohblnbaaW.PrintWords Go.Proofs.YtijehblohblnbaaW.PrintLast Go.Proofs.YtijehblohblnbaaW.PrintMore
set_option linter.unusedVariables false
set_option linter.unusedSimpArgs false

def encBad (c : Int) (m : Bool) : Prop := c < 0 ∨ (m = false ∧ c > 255) ∨ c > 1114111 ∨ (m = true ∧ 55296 ≤ c ∧ c ≤ 57343)
instance (c : Int) (m : Bool) : Decidable (encBad c m) := by unfold encBad; exact inferInstance
def encP (c : Int) (m : Bool) : List Int × Int := if encBad c m then ([], 1) else if m = false then ([c], 0) else (seqP c, 0)
theorem row_of {w : World} {b base : Nat} {xs : List Int} (hb : base ≤ b) (h : w.heap[b]? = some (.cells (xs.map (Value.int .u8)).toArray 5 (0, 0))) (hl : xs.length ≤ maxLen) : Kd.R (Kd.int .u8) 5 w base (fun _ => True) (.slice (some ⟨b, 0, none⟩) xs.length xs.length) xs := by
  refine Kd.R_of_own (enc := Value.int .u8) (h1 := fun _ => rfl) ⟨?_, Or.inr ⟨b, xs.length, _, rfl, hb, h, Nat.le_refl _, hl, ?_, ?_⟩⟩ (fun _ _ => trivial)
  · simp [encs]
  · simp
  · simp [encs, List.take_of_length_le]
theorem info5' : (Try.prog.info? 5).map (fun i => (i.zero, i.size, i.bytes)) = some (some (.int .u8 0), 1, 1) := by kernel_rfl
theorem mk2 : madeCells #[.int .u8 0] 2 = #[.int .u8 0, .int .u8 0] := by kernel_rfl
theorem mk3 : madeCells #[.int .u8 0] 3 = #[.int .u8 0, .int .u8 0, .int .u8 0] := by kernel_rfl
theorem mk4 : madeCells #[.int .u8 0] 4 = #[.int .u8 0, .int .u8 0, .int .u8 0, .int .u8 0] := by kernel_rfl
theorem and63 {x : Int} (h0 : 0 ≤ x) (h1 : x < 4611686018427387904) : bits .and .i64 x 63 = x % 64 := bits_mask .i64 63 (by decide) wraps_i64 6 (by decide) x h0 (by omega)
theorem heap_at' (w : World) (o : Obj) : (w.alloc o).heap[w.heap.size]? = some o := by
  show (w.heap.push o)[w.heap.size]? = some o
  simp
section
variable {ops : Array Oper} {rest : List Oper} {a : Act} {w : World} {Q : Exit → Act → World → Prop} {dst : Option Tmp} {ty : TypeId} {pos : String} {after : Array Edge} {gd : Option (Nat × Bool)}
/-- A field of a row of 'kinds'. -/
theorem op_least {x : Operand} {p q v : Value} (hx : a.eval x = .agg #[p, q, v]) (hw : Region.wanted ⟨dst, .field 44 x 2, ty, pos, after, gd⟩ (yielded ops a.tmps) = true)
    (h : wpList Try.prog ops Q rest (a.put dst v) w) : wpList Try.prog ops Q (⟨dst, .field 44 x 2, ty, pos, after, gd⟩ :: rest) a w := by
  refine BigFrame.wpList_want hw fun K hK => ?_
  unfold Oper.wp
  have hr : (execOp a.eval ⟨dst, .field 44 x 2, ty, pos, after, gd⟩).run Try.prog w = .ok (.value v) w := by
    simp only [execOp, hx]; rfl
  rw [hr]
  exact hK _ _ h
theorem op_index {x i : Operand} {v : Value} (hr : (Instr.index 45 (a.eval x) (a.eval i)).run Try.prog w = .ok v w) (hw : Region.wanted ⟨dst, .index 45 x i, ty, pos, after, gd⟩ (yielded ops a.tmps) = true)
    (h : wpList Try.prog ops Q rest (a.put dst v) w) : wpList Try.prog ops Q (⟨dst, .index 45 x i, ty, pos, after, gd⟩ :: rest) a w := by
  refine BigFrame.wpList_want hw fun K hK => ?_
  unfold Oper.wp
  have hr' : (execOp a.eval ⟨dst, .index 45 x i, ty, pos, after, gd⟩).run Try.prog w = .ok (.value v) w := by
    simp only [execOp, Sem.run_bind, hr, Result.andThen_ok]; rfl
  rw [hr']
  exact hK _ _ h
theorem op_make (n : Nat) {x : Operand} (cs : Array Value) (hn : n ≤ 4) (hc : madeCells #[.int .u8 0] n = cs) (hx : a.eval x = .int .i64 n)
    (h : wpList Try.prog ops Q rest (a.put dst (.slice (some ⟨w.heap.size, 0, none⟩) n n)) (w.alloc (.cells cs 5))) : wpList Try.prog ops Q (⟨dst, .makeSlice 22 x x, ty, pos, after, none⟩ :: rest) a w := by
  refine BigFrame.wpList_want rfl fun K hK => ?_
  unfold Oper.wp
  obtain ⟨i0, hi, hz⟩ := Option.map_eq_some_iff.1 info5'
  simp only [Prod.mk.injEq] at hz
  have hr := run_makeSlice (P := Try.prog) (w := w) 22 5 i0 (.int .u8 0) Try.underlying22 hi hz.1 .i64 .i64 n n (by omega) (by omega) (by rw [hz.2.1]; omega) (by rw [hz.2.2]; omega) (by omega)
  rw [hz.2.1, Nat.mul_one, Int.toNat_natCast] at hr
  have hr' : (execOp a.eval ⟨dst, .makeSlice 22 x x, ty, pos, after, none⟩).run Try.prog w = .ok (.value (.slice (some ⟨w.heap.size, 0, none⟩) n n)) (w.alloc (.cells cs 5)) := by
    rw [← hc]
    simp only [execOp, hx, Sem.run_bind, hr, Result.andThen_ok]
    rfl
  rw [hr']
  exact hK _ _ h
theorem op_first {x : Operand} {p q v : Value} (hx : a.eval x = .agg #[p, q, v]) (hw : Region.wanted ⟨dst, .field 44 x 1, ty, pos, after, gd⟩ (yielded ops a.tmps) = true)
    (h : wpList Try.prog ops Q rest (a.put dst q) w) : wpList Try.prog ops Q (⟨dst, .field 44 x 1, ty, pos, after, gd⟩ :: rest) a w := by
  refine BigFrame.wpList_want hw fun K hK => ?_
  unfold Oper.wp
  have hr : (execOp a.eval ⟨dst, .field 44 x 1, ty, pos, after, gd⟩).run Try.prog w = .ok (.value q) w := by
    simp only [execOp, hx]; rfl
  rw [hr]
  exact hK _ _ h
end

set_option maxRecDepth 100000 in
set_option maxHeartbeats 3200000 in
theorem enc_any (c : Int) (m : Bool) (w : World) :
    Calls Try.prog 20 #[.int .i64 c, .bool m] w fun e w' => ∃ v, e = .returned (.tuple #[v, .int .i64 (encP c m).2]) ∧ Kd.R (Kd.int .u8) 5 w' w.heap.size (fun _ => True) v (encP c m).1 ∧ Below w.heap.size w w' := by
  by_cases hbad : encBad c m
  · have he : encP c m = ([], 1) := if_pos hbad
    rw [he]
    unfold encBad at hbad
    cases m
    · go_enter Try.func20, Try.ntmps20
      go_wp2
      all_goals first | (refine bodyPost_ret (v := .tuple #[.slice none 0 0, .int .i64 1]) (ret2 rfl rfl rfl) rfl ⟨_, rfl, Kd.R_nil _ _ _ _ _, Below.refl _ _⟩; done) | (exfalso; simp at hbad; omega) | (exfalso; rename_i k _; have k2 := k.2; simp at k2; omega)
    · by_cases hsu : 55296 ≤ c ∧ c ≤ 57343
      · have hsh : (c / 2048 == 27) = true := by simp; omega
        go_enter Try.func20, Try.ntmps20
        go_wp2
        all_goals first | (refine bodyPost_ret (v := .tuple #[.slice none 0 0, .int .i64 1]) (ret2 rfl rfl rfl) rfl ⟨_, rfl, Kd.R_nil _ _ _ _ _, Below.refl _ _⟩; done) | (exfalso; omega)
      have hlh : c < 0 ∨ c > 1114111 := by simp at hbad; omega
      go_enter Try.func20, Try.ntmps20
      go_wp2
      all_goals first | (refine bodyPost_ret (v := .tuple #[.slice none 0 0, .int .i64 1]) (ret2 rfl rfl rfl) rfl ⟨_, rfl, Kd.R_nil _ _ _ _ _, Below.refl _ _⟩; done) | (exfalso; omega)
  have hg := hbad
  unfold encBad at hg
  cases m
  · have he : encP c false = ([c], 0) := by unfold encP; rw [if_neg hbad, if_pos rfl]
    rw [he]
    have hc : 0 ≤ c ∧ c ≤ 255 := by simp at hg; omega
    have hm : c % 256 = c := by omega
    go_enter Try.func20, Try.ntmps20
    go_wp2
    all_goals (refine bodyPost_ret (v := .tuple #[.slice (some ⟨w.heap.size, 0, none⟩) 1 1, .int .i64 0]) (ret2 rfl rfl rfl) rfl ⟨_, rfl, row_of (xs := [c]) (Nat.le_refl _) (heap_at' w _) (show 1 ≤ maxLen by decide), below_alloc (Below.refl _ _) _⟩)
  · have he : encP c true = (seqP c, 0) := by unfold encP; rw [if_neg hbad, if_neg (by simp)]
    rw [he]
    have hc : 0 ≤ c ∧ c ≤ 1114111 ∧ ¬ (55296 ≤ c ∧ c ≤ 57343) := by simp at hg; omega
    have hsh : (c / 2048 == 27) = false := by simp; omega
    by_cases h1 : c < 128
    · have hs : seqP c = [c] := by unfold seqP; rw [if_neg (by omega), if_pos h1]
      rw [hs]
      have hm : c % 256 = c := by omega
      go_enter Try.func20, Try.ntmps20
      go_wp2
      all_goals (refine bodyPost_ret (v := .tuple #[.slice (some ⟨w.heap.size, 0, none⟩) 1 1, .int .i64 0]) (ret2 rfl rfl rfl) rfl ⟨_, rfl, row_of (xs := [c]) (Nat.le_refl _) (heap_at' w _) (show 1 ≤ maxLen by decide), below_alloc (Below.refl _ _) _⟩)
    by_cases h2 : c < 2048
    · skip
      have hs : seqP c = [192 + c / 64, 128 + c % 64] := by unfold seqP; rw [if_neg (by omega), if_neg h1, if_pos h2]
      rw [hs]
      go_enter Try.func20, Try.ntmps20
      go_wp2_with fail
      go_loopw [6] (fun x6 wr => ∃ q : Nat, 2 ≤ q ∧ q ≤ 2 ∧ x6 = .int .i64 q ∧ Aside0 (Below w.heap.size w wr)) (fun x _ => 2 - (intOf x).toNat)
      case atStart => exact ⟨2, by omega, by omega, rfl, ⟨Below.refl _ _⟩⟩
      case round =>
        obtain ⟨q, hq2, hqn, rfl, HB⟩ := hrel
        obtain rfl : q = 2 := by omega
        · skip
          go_wp2_with fail
          refine (kinds_any _).mono ?_
          rintro e w1 ⟨rfl, hb1⟩
          have B1 := Aside0.mk (below_step HB.out hb1)
          clear hb1
          go_wp2_with (first | ((with_reducible refine op_index (v := .agg #[.int .u8 240, .int .u8 224, .int .i64 2048]) ?_ ?_ ?_); (next => exact idx3 _); (next => rfl)) | ((with_reducible refine op_least (p := .int .u8 240) (q := .int .u8 224) (v := .int .i64 2048) ?_ ?_ ?_); (next => rfl); (next => rfl)) | ((with_reducible refine op_make 2 _ (by omega) mk2 ?_ ?_); (next => rfl)))
          have hz : w.heap.size ≤ w1.heap.size := B1.out.size
          go_loopw [0, 8] (fun x0 x8 wx => Aside0 (Below w.heap.size w wx) ∧ ((x8 = .int .i64 1 ∧ x0 = .int .i64 (c) ∧ wx.heap[w1.heap.size]? = some (.cells #[.int .u8 0, .int .u8 0] 5 (0, 0))) ∨ (x8 = .int .i64 0 ∧ x0 = .int .i64 (c / 64) ∧ wx.heap[w1.heap.size]? = some (.cells #[.int .u8 0, .int .u8 (128 + c % 64)] 5 (0, 0))))) (fun _ x _ => (intOf x).toNat)
          case atStart => exact ⟨⟨below_alloc B1.out _⟩, Or.inl ⟨rfl, rfl, heap_at' _ _⟩⟩
          case round =>
            obtain ⟨HX, hst⟩ := hrel
            rcases hst with ⟨rfl, rfl, H⟩ | ⟨rfl, rfl, H⟩
            · skip
              have ci := cell_of_row _ _ 1 _ _ _ H
              simp at ci
              have fi := frozen_of_row _ _ 1 _ _ H
              have HH := Aside0.mk H
              clear H
              have e0 := and63 (x := c) (by omega) (by omega)
              have e1 := u8_or128 (c % 64) (by omega) (by omega)
              go_wp2_with fail
              go_roundw
              case rel => exact ⟨⟨HX.out.setCell (p := ⟨_, 1, none⟩) hz _⟩, Or.inr (⟨by go_num, by first | rfl | (congr 1; omega), heap_setCell_same _ _ _ _ _ _ HH.out⟩)⟩
              case measure => simp [intOf]
            · skip
              have ci := cell_of_row _ _ 0 _ _ _ H
              simp at ci
              have fi := frozen_of_row _ _ 0 _ _ H
              have HH := Aside0.mk H
              clear H
              have hlt := (Array.getElem?_eq_some_iff.1 HH.out).1
              go_wp2_with fail
              refine (kinds_any _).mono ?_
              rintro e w9 ⟨rfl, hb9⟩
              have B9 := Aside0.mk (below_step HX.out hb9)
              have H9 := (hb9.block _ hlt).trans HH.out
              have c9 := cell_of_row _ _ 0 _ _ _ H9
              simp at c9
              have f9 := frozen_of_row _ _ 0 _ _ H9
              have G9 := Aside0.mk H9
              clear H9 ci fi hb9
              have e1 := u8_or192 (c / 64) (by omega) (by omega)
              have e2 : (c / 64) % 256 = c / 64 := by omega
              go_wp2_with (first | ((with_reducible refine op_index (v := .agg #[.int .u8 224, .int .u8 192, .int .i64 128]) ?_ ?_ ?_); (next => exact idx2 _); (next => rfl)) | ((with_reducible refine op_first (p := .int .u8 224) (q := .int .u8 192) (v := .int .i64 128) ?_ ?_ ?_); (next => rfl); (next => rfl)))
              refine bodyPost_ret (v := .tuple #[.slice (some ⟨w1.heap.size, 0, none⟩) 2 2, .int .i64 0]) (ret2 rfl rfl rfl) rfl ⟨_, rfl, row_of (xs := [192 + c / 64, 128 + c % 64]) hz (heap_setCell_same _ _ 0 _ _ _ G9.out) (show 2 ≤ maxLen by decide), B9.out.setCell (p := ⟨_, 0, none⟩) hz _⟩
    by_cases h3 : c < 65536
    · skip
      have hs : seqP c = [224 + c / 4096, 128 + c / 64 % 64, 128 + c % 64] := by unfold seqP; rw [if_neg (by omega), if_neg h1, if_neg h2, if_pos h3]
      rw [hs]
      go_enter Try.func20, Try.ntmps20
      go_wp2_with fail
      go_loopw [6] (fun x6 wr => ∃ q : Nat, 2 ≤ q ∧ q ≤ 3 ∧ x6 = .int .i64 q ∧ Aside0 (Below w.heap.size w wr)) (fun x _ => 3 - (intOf x).toNat)
      case atStart => exact ⟨2, by omega, by omega, rfl, ⟨Below.refl _ _⟩⟩
      case round =>
        obtain ⟨q, hq2, hqn, rfl, HB⟩ := hrel
        obtain rfl | rfl : q = 2 ∨ q = 3 := by omega
        · skip
          go_wp2_with fail
          refine (kinds_any _).mono ?_
          rintro e w1 ⟨rfl, hb1⟩
          have B1 := Aside0.mk (below_step HB.out hb1)
          clear hb1
          go_wp2_with (first | ((with_reducible refine op_index (v := .agg #[.int .u8 240, .int .u8 224, .int .i64 2048]) ?_ ?_ ?_); (next => exact idx3 _); (next => rfl)) | ((with_reducible refine op_least (p := .int .u8 240) (q := .int .u8 224) (v := .int .i64 2048) ?_ ?_ ?_); (next => rfl); (next => rfl)))
          go_roundw
          case rel => exact ⟨3, by omega, by omega, by go_num, B1⟩
          case measure => simp [intOf]
        · skip
          go_wp2_with fail
          refine (kinds_any _).mono ?_
          rintro e w1 ⟨rfl, hb1⟩
          have B1 := Aside0.mk (below_step HB.out hb1)
          clear hb1
          go_wp2_with (first | ((with_reducible refine op_index (v := .agg #[.int .u8 248, .int .u8 240, .int .i64 65536]) ?_ ?_ ?_); (next => exact idx4 _); (next => rfl)) | ((with_reducible refine op_least (p := .int .u8 248) (q := .int .u8 240) (v := .int .i64 65536) ?_ ?_ ?_); (next => rfl); (next => rfl)) | ((with_reducible refine op_make 3 _ (by omega) mk3 ?_ ?_); (next => rfl)))
          have hz : w.heap.size ≤ w1.heap.size := B1.out.size
          go_loopw [0, 8] (fun x0 x8 wx => Aside0 (Below w.heap.size w wx) ∧ ((x8 = .int .i64 2 ∧ x0 = .int .i64 (c) ∧ wx.heap[w1.heap.size]? = some (.cells #[.int .u8 0, .int .u8 0, .int .u8 0] 5 (0, 0))) ∨ (x8 = .int .i64 1 ∧ x0 = .int .i64 (c / 64) ∧ wx.heap[w1.heap.size]? = some (.cells #[.int .u8 0, .int .u8 0, .int .u8 (128 + c % 64)] 5 (0, 0))) ∨ (x8 = .int .i64 0 ∧ x0 = .int .i64 (c / 4096) ∧ wx.heap[w1.heap.size]? = some (.cells #[.int .u8 0, .int .u8 (128 + c / 64 % 64), .int .u8 (128 + c % 64)] 5 (0, 0))))) (fun _ x _ => (intOf x).toNat)
          case atStart => exact ⟨⟨below_alloc B1.out _⟩, Or.inl ⟨rfl, rfl, heap_at' _ _⟩⟩
          case round =>
            obtain ⟨HX, hst⟩ := hrel
            rcases hst with ⟨rfl, rfl, H⟩ | ⟨rfl, rfl, H⟩ | ⟨rfl, rfl, H⟩
            · skip
              have ci := cell_of_row _ _ 2 _ _ _ H
              simp at ci
              have fi := frozen_of_row _ _ 2 _ _ H
              have HH := Aside0.mk H
              clear H
              have e0 := and63 (x := c) (by omega) (by omega)
              have e1 := u8_or128 (c % 64) (by omega) (by omega)
              go_wp2_with fail
              go_roundw
              case rel => exact ⟨⟨HX.out.setCell (p := ⟨_, 2, none⟩) hz _⟩, Or.inr (Or.inl ⟨by go_num, by first | rfl | (congr 1; omega), heap_setCell_same _ _ _ _ _ _ HH.out⟩)⟩
              case measure => simp [intOf]
            · skip
              have ci := cell_of_row _ _ 1 _ _ _ H
              simp at ci
              have fi := frozen_of_row _ _ 1 _ _ H
              have HH := Aside0.mk H
              clear H
              have e0 := and63 (x := c / 64) (by omega) (by omega)
              have e1 := u8_or128 (c / 64 % 64) (by omega) (by omega)
              go_wp2_with fail
              go_roundw
              case rel => exact ⟨⟨HX.out.setCell (p := ⟨_, 1, none⟩) hz _⟩, Or.inr (Or.inr (⟨by go_num, by first | rfl | (congr 1; omega), heap_setCell_same _ _ _ _ _ _ HH.out⟩))⟩
              case measure => simp [intOf]
            · skip
              have ci := cell_of_row _ _ 0 _ _ _ H
              simp at ci
              have fi := frozen_of_row _ _ 0 _ _ H
              have HH := Aside0.mk H
              clear H
              have hlt := (Array.getElem?_eq_some_iff.1 HH.out).1
              go_wp2_with fail
              refine (kinds_any _).mono ?_
              rintro e w9 ⟨rfl, hb9⟩
              have B9 := Aside0.mk (below_step HX.out hb9)
              have H9 := (hb9.block _ hlt).trans HH.out
              have c9 := cell_of_row _ _ 0 _ _ _ H9
              simp at c9
              have f9 := frozen_of_row _ _ 0 _ _ H9
              have G9 := Aside0.mk H9
              clear H9 ci fi hb9
              have e1 := u8_or224 (c / 4096) (by omega) (by omega)
              have e2 : (c / 4096) % 256 = c / 4096 := by omega
              go_wp2_with (first | ((with_reducible refine op_index (v := .agg #[.int .u8 240, .int .u8 224, .int .i64 2048]) ?_ ?_ ?_); (next => exact idx3 _); (next => rfl)) | ((with_reducible refine op_first (p := .int .u8 240) (q := .int .u8 224) (v := .int .i64 2048) ?_ ?_ ?_); (next => rfl); (next => rfl)))
              refine bodyPost_ret (v := .tuple #[.slice (some ⟨w1.heap.size, 0, none⟩) 3 3, .int .i64 0]) (ret2 rfl rfl rfl) rfl ⟨_, rfl, row_of (xs := [224 + c / 4096, 128 + c / 64 % 64, 128 + c % 64]) hz (heap_setCell_same _ _ 0 _ _ _ G9.out) (show 3 ≤ maxLen by decide), B9.out.setCell (p := ⟨_, 0, none⟩) hz _⟩
    · skip
      have hs : seqP c = [240 + c / 262144, 128 + c / 4096 % 64, 128 + c / 64 % 64, 128 + c % 64] := by unfold seqP; rw [if_neg (by omega), if_neg h1, if_neg h2, if_neg h3]
      rw [hs]
      go_enter Try.func20, Try.ntmps20
      go_wp2_with fail
      go_loopw [6] (fun x6 wr => ∃ q : Nat, 2 ≤ q ∧ q ≤ 4 ∧ x6 = .int .i64 q ∧ Aside0 (Below w.heap.size w wr)) (fun x _ => 4 - (intOf x).toNat)
      case atStart => exact ⟨2, by omega, by omega, rfl, ⟨Below.refl _ _⟩⟩
      case round =>
        obtain ⟨q, hq2, hqn, rfl, HB⟩ := hrel
        obtain rfl | rfl | rfl : q = 2 ∨ q = 3 ∨ q = 4 := by omega
        · skip
          go_wp2_with fail
          refine (kinds_any _).mono ?_
          rintro e w1 ⟨rfl, hb1⟩
          have B1 := Aside0.mk (below_step HB.out hb1)
          clear hb1
          go_wp2_with (first | ((with_reducible refine op_index (v := .agg #[.int .u8 240, .int .u8 224, .int .i64 2048]) ?_ ?_ ?_); (next => exact idx3 _); (next => rfl)) | ((with_reducible refine op_least (p := .int .u8 240) (q := .int .u8 224) (v := .int .i64 2048) ?_ ?_ ?_); (next => rfl); (next => rfl)))
          go_roundw
          case rel => exact ⟨3, by omega, by omega, by go_num, B1⟩
          case measure => simp [intOf]
        · skip
          go_wp2_with fail
          refine (kinds_any _).mono ?_
          rintro e w1 ⟨rfl, hb1⟩
          have B1 := Aside0.mk (below_step HB.out hb1)
          clear hb1
          go_wp2_with (first | ((with_reducible refine op_index (v := .agg #[.int .u8 248, .int .u8 240, .int .i64 65536]) ?_ ?_ ?_); (next => exact idx4 _); (next => rfl)) | ((with_reducible refine op_least (p := .int .u8 248) (q := .int .u8 240) (v := .int .i64 65536) ?_ ?_ ?_); (next => rfl); (next => rfl)))
          go_roundw
          case rel => exact ⟨4, by omega, by omega, by go_num, B1⟩
          case measure => simp [intOf]
        · skip
          obtain ⟨wo, rfl⟩ : ∃ wo : World, wo = wr := ⟨_, rfl⟩
          go_wp2_with (first | ((with_reducible refine op_make 4 _ (by omega) mk4 ?_ ?_); (next => rfl)))
          have hz : w.heap.size ≤ wo.heap.size := HB.out.size
          go_loopw [0, 8] (fun x0 x8 wx => Aside0 (Below w.heap.size w wx) ∧ ((x8 = .int .i64 3 ∧ x0 = .int .i64 (c) ∧ wx.heap[wo.heap.size]? = some (.cells #[.int .u8 0, .int .u8 0, .int .u8 0, .int .u8 0] 5 (0, 0))) ∨ (x8 = .int .i64 2 ∧ x0 = .int .i64 (c / 64) ∧ wx.heap[wo.heap.size]? = some (.cells #[.int .u8 0, .int .u8 0, .int .u8 0, .int .u8 (128 + c % 64)] 5 (0, 0))) ∨ (x8 = .int .i64 1 ∧ x0 = .int .i64 (c / 4096) ∧ wx.heap[wo.heap.size]? = some (.cells #[.int .u8 0, .int .u8 0, .int .u8 (128 + c / 64 % 64), .int .u8 (128 + c % 64)] 5 (0, 0))) ∨ (x8 = .int .i64 0 ∧ x0 = .int .i64 (c / 262144) ∧ wx.heap[wo.heap.size]? = some (.cells #[.int .u8 0, .int .u8 (128 + c / 4096 % 64), .int .u8 (128 + c / 64 % 64), .int .u8 (128 + c % 64)] 5 (0, 0))))) (fun _ x _ => (intOf x).toNat)
          case atStart => exact ⟨⟨below_alloc HB.out _⟩, Or.inl ⟨rfl, rfl, heap_at' _ _⟩⟩
          case round =>
            obtain ⟨HX, hst⟩ := hrel
            rcases hst with ⟨rfl, rfl, H⟩ | ⟨rfl, rfl, H⟩ | ⟨rfl, rfl, H⟩ | ⟨rfl, rfl, H⟩
            · skip
              have ci := cell_of_row _ _ 3 _ _ _ H
              simp at ci
              have fi := frozen_of_row _ _ 3 _ _ H
              have HH := Aside0.mk H
              clear H
              have e0 := and63 (x := c) (by omega) (by omega)
              have e1 := u8_or128 (c % 64) (by omega) (by omega)
              go_wp2_with fail
              go_roundw
              case rel => exact ⟨⟨HX.out.setCell (p := ⟨_, 3, none⟩) hz _⟩, Or.inr (Or.inl ⟨by go_num, by first | rfl | (congr 1; omega), heap_setCell_same _ _ _ _ _ _ HH.out⟩)⟩
              case measure => simp [intOf]
            · skip
              have ci := cell_of_row _ _ 2 _ _ _ H
              simp at ci
              have fi := frozen_of_row _ _ 2 _ _ H
              have HH := Aside0.mk H
              clear H
              have e0 := and63 (x := c / 64) (by omega) (by omega)
              have e1 := u8_or128 (c / 64 % 64) (by omega) (by omega)
              go_wp2_with fail
              go_roundw
              case rel => exact ⟨⟨HX.out.setCell (p := ⟨_, 2, none⟩) hz _⟩, Or.inr (Or.inr (Or.inl ⟨by go_num, by first | rfl | (congr 1; omega), heap_setCell_same _ _ _ _ _ _ HH.out⟩))⟩
              case measure => simp [intOf]
            · skip
              have ci := cell_of_row _ _ 1 _ _ _ H
              simp at ci
              have fi := frozen_of_row _ _ 1 _ _ H
              have HH := Aside0.mk H
              clear H
              have e0 := and63 (x := c / 4096) (by omega) (by omega)
              have e1 := u8_or128 (c / 4096 % 64) (by omega) (by omega)
              go_wp2_with fail
              go_roundw
              case rel => exact ⟨⟨HX.out.setCell (p := ⟨_, 1, none⟩) hz _⟩, Or.inr (Or.inr (Or.inr (⟨by go_num, by first | rfl | (congr 1; omega), heap_setCell_same _ _ _ _ _ _ HH.out⟩)))⟩
              case measure => simp [intOf]
            · skip
              have ci := cell_of_row _ _ 0 _ _ _ H
              simp at ci
              have fi := frozen_of_row _ _ 0 _ _ H
              have HH := Aside0.mk H
              clear H
              have hlt := (Array.getElem?_eq_some_iff.1 HH.out).1
              go_wp2_with fail
              refine (kinds_any _).mono ?_
              rintro e w9 ⟨rfl, hb9⟩
              have B9 := Aside0.mk (below_step HX.out hb9)
              have H9 := (hb9.block _ hlt).trans HH.out
              have c9 := cell_of_row _ _ 0 _ _ _ H9
              simp at c9
              have f9 := frozen_of_row _ _ 0 _ _ H9
              have G9 := Aside0.mk H9
              clear H9 ci fi hb9
              have e1 := u8_or240 (c / 262144) (by omega) (by omega)
              have e2 : (c / 262144) % 256 = c / 262144 := by omega
              go_wp2_with (first | ((with_reducible refine op_index (v := .agg #[.int .u8 248, .int .u8 240, .int .i64 65536]) ?_ ?_ ?_); (next => exact idx4 _); (next => rfl)) | ((with_reducible refine op_first (p := .int .u8 248) (q := .int .u8 240) (v := .int .i64 65536) ?_ ?_ ?_); (next => rfl); (next => rfl)))
              refine bodyPost_ret (v := .tuple #[.slice (some ⟨wo.heap.size, 0, none⟩) 4 4, .int .i64 0]) (ret2 rfl rfl rfl) rfl ⟨_, rfl, row_of (xs := [240 + c / 262144, 128 + c / 4096 % 64, 128 + c / 64 % 64, 128 + c % 64]) hz (heap_setCell_same _ _ 0 _ _ _ G9.out) (show 4 ≤ maxLen by decide), B9.out.setCell (p := ⟨_, 0, none⟩) hz _⟩
def utf_Encode.f (c : Int) (m : Bool) : Option (List Int × Int) := some (encP c m)
theorem utf_Encode.calls (a0 : Int) (a1 : Bool) (r1 : List Int) (r2 : Int) (w : World) (h : utf_Encode.f a0 a1 = some (r1, r2)) :
    Calls Try.prog 20 #[.int .i64 a0, .bool a1] w fun e w' => ∃ v0_ : Value, e = .returned (.tuple #[v0_, .int .i64 r2]) ∧ Kd.R (Kd.int .u8) 5 w' w.heap.size (fun _ => True) v0_ r1 ∧ Below w.heap.size w w' := by
  have e := Option.some.inj h
  have := enc_any a0 a1 w
  rwa [e] at this
end Go.Proofs.Ytijehblohblnbaa.UA
