/- What the print does not cover: utf.kinds, utf.point. -/
import Derived.Test.YtijehblohblnbaaProg
import Derived.Below
import Derived.Deep.Draws
import Derived.Deep.AppendLies
import Derived.Maps.AppendAt
import Derived.OwnWalk
import Derived.Laws.BytesArg
import Derived.Laws.MakeOwn
import Derived.Laws.OwnMore
import Derived.Deep.OwnRows
import Derived.Tactics
import Derived.Lib.ConvBytes
import Derived.Laws.Slices
import Derived.WalkKit
import Derived.KernelRfl
import Derived.RowKit3
import Derived.Deep.LoopGhost
import Derived.Deep.QuietTactic
import Derived.BigQuiet
import Derived.WideLaws
import Derived.Deep.DeepCutAuto
import Derived.Deep.CutBlock
import Derived.Deep.RegionHeld3
import Derived.Laws.Rows
import Derived.Lib.AppendStr
import Derived.ArgAppend
import Derived.Laws.IdiomCopy
import Derived.OrdersHeld
import Derived.Laws.BitsLemmas
import Derived.RowKit
import Derived.Test.YtijehblohblnbaaWWords
import Derived.Test.YtijehblohblnbaaWLast
import Derived.Test.YtijehblohblnbaaWTab
import Derived.Test.YtijehblohblnbaaWFour
import Derived.Test.YtijehblohblnbaaWQPut
import Derived.Test.YtijehblohblnbaaWApart
import Derived.Test.YtijehblohblnbaaWArr
import Derived.Test.YtijehblohblnbaaWZeros
import Derived.Test.YtijehblohblnbaaWFoot
import Derived.Test.YtijehblohblnbaaWKept
import Derived.Test.YtijehblohblnbaaWShare
import Derived.Test.YtijehblohblnbaaWN
import Derived.Test.YtijehblohblnbaaWFootNe
import Derived.Test.YtijehblohblnbaaWAt
import Derived.Test.YtijehblohblnbaaWEqStruct
import Derived.Test.YtijehblohblnbaaWRepsOne
import Derived.Test.YtijehblohblnbaaWInv
import Derived.Test.YtijehblohblnbaaWInvWords
import Derived.Test.YtijehblohblnbaaWGuard
import Derived.Test.YtijehblohblnbaaWNEv
import Derived.Test.YtijehblohblnbaaWMore
namespace Go.Proofs.Ytijehblohblnbaa.UA
open Go.RowKit Go.Proofs.YtijehblohblnbaaW.PrintWords Go.Proofs.YtijehblohblnbaaW.PrintLast Go.Proofs.YtijehblohblnbaaW.PrintMore
set_option linter.unusedVariables false
set_option linter.unusedSimpArgs false

def kindsV : Array Value := #[.int .u8 0, .int .u8 0, .int .i64 0, .int .u8 128, .int .u8 0, .int .i64 0, .int .u8 224, .int .u8 192, .int .i64 128, .int .u8 240, .int .u8 224, .int .i64 2048, .int .u8 248, .int .u8 240, .int .i64 65536]
theorem kinds_any (w : World) : Calls Try.prog 25 #[] w fun e w' => e = .returned (.agg kindsV) ∧ Below w.heap.size w w' := by
  go_enter Try.func25, Try.ntmps25
  go_wp2
  refine bodyPost_ret (v := .agg kindsV) (by simp [results, Try.results25, go_sem, kindsV]) rfl ⟨rfl, below_alloc (Below.refl _ w) _⟩

/-! What a sequence of n bytes tells. -/
def lo : Nat → Int | 1 => 0 | 2 => 192 | 3 => 224 | 4 => 240 | _ => 0
def hi : Nat → Int | 1 => 128 | 2 => 224 | 3 => 240 | 4 => 248 | _ => 0
def least : Nat → Int | 1 => 0 | 2 => 128 | 3 => 2048 | 4 => 65536 | _ => 0
/-- The bytes behind the first one, taken in. -/
def acc (l : List Int) (a : Int) (c : Int) : Nat → Option Int
  | 0 => some c
  | j + 1 => (acc l a c j).bind fun d => if 128 ≤ rd l (a + 1 + j) ∧ rd l (a + 1 + j) < 192 then some (d * 64 + (rd l (a + 1 + j) - 128)) else none
def ptN (l : List Int) (a : Int) (n : Nat) : Int × Int :=
  match acc l a (rd l a - lo n) (n - 1) with
  | none => (0, 0)
  | some c => if c < least n ∨ c > 1114111 ∨ (55296 ≤ c ∧ c ≤ 57343) then (0, 0) else (c, n)
def fits (l : List Int) (a : Int) (n : Nat) : Prop := lo n ≤ rd l a ∧ rd l a < hi n ∧ a + n ≤ l.length
instance (l : List Int) (a : Int) (n : Nat) : Decidable (fits l a n) := by unfold fits; exact inferInstance
def pt (l : List Int) (a : Int) : Int × Int :=
  if fits l a 1 then ptN l a 1 else if fits l a 2 then ptN l a 2 else if fits l a 3 then ptN l a 3 else if fits l a 4 then ptN l a 4 else (0, 0)
theorem rd_byte {l : List Int} (h : ∀ x ∈ l, 0 ≤ x ∧ x < 256) {a : Int} (h0 : 0 ≤ a) (h1 : a < l.length) : 0 ≤ rd l a ∧ rd l a < 256 := by
  unfold rd
  have h2 : a.toNat < l.length := by omega
  rw [List.getD_eq_getElem?_getD, List.getElem?_eq_getElem h2]
  exact h _ (List.getElem_mem h2)
def utf_point.f (l0 : List Int) (a1 : Int) : Option (Int × Int) := if 0 ≤ a1 ∧ a1 < l0.length ∧ l0.length < 4611686018427387904 ∧ l0.all (fun x => decide (0 ≤ x ∧ x < 256)) = true then some (pt l0 a1) else none
theorem below_dn {B : Nat} {w W : World} (h : Below B w W) (n : Nat) : Below B w (W.drewN n) := ⟨h.os, h.tape, h.output, h.size, h.block⟩
theorem und45 : Try.prog.underlying 45 = some (.array 5 44) := by kernel_rfl
theorem idx0 (w : World) : (Instr.index 45 (.agg kindsV) (.int .i64 0)).run Try.prog w = .ok (.agg #[.int .u8 0, .int .u8 0, .int .i64 0]) w := rfl
theorem idx1 (w : World) : (Instr.index 45 (.agg kindsV) (.int .i64 1)).run Try.prog w = .ok (.agg #[.int .u8 128, .int .u8 0, .int .i64 0]) w := rfl
theorem idx2 (w : World) : (Instr.index 45 (.agg kindsV) (.int .i64 2)).run Try.prog w = .ok (.agg #[.int .u8 224, .int .u8 192, .int .i64 128]) w := rfl
theorem idx3 (w : World) : (Instr.index 45 (.agg kindsV) (.int .i64 3)).run Try.prog w = .ok (.agg #[.int .u8 240, .int .u8 224, .int .i64 2048]) w := rfl
theorem idx4 (w : World) : (Instr.index 45 (.agg kindsV) (.int .i64 4)).run Try.prog w = .ok (.agg #[.int .u8 248, .int .u8 240, .int .i64 65536]) w := rfl
theorem byte_all (p : Int → Bool) (h : (List.range 256).all (fun n => p (n : Int)) = true) {x : Int} (hx : 0 ≤ x ∧ x < 256) : p x = true := by
  have := List.all_eq_true.1 h x.toNat (List.mem_range.2 (by omega))
  rwa [Int.toNat_of_nonneg hx.1] at this
theorem head1 {x : Int} (hx : 0 ≤ x ∧ x < 256) : (bits BinOp.and IntKind.u8 x 128 != 0) = !(decide (0 ≤ x) && decide (x < 128)) := by
  have := byte_all (fun x => (bits BinOp.and IntKind.u8 x 128 != 0) == !(decide (0 ≤ x) && decide (x < 128))) (by decide +kernel) hx
  simpa using this
theorem rest1 {x : Int} (hx : 0 ≤ x ∧ x < 256) (h : 0 ≤ x ∧ x < 128) : bits BinOp.andNot IntKind.u8 x 128 = x - 0 := by
  have := byte_all (fun x => !(decide (0 ≤ x) && decide (x < 128)) || (bits BinOp.andNot IntKind.u8 x 128 == x - 0)) (by decide +kernel) hx
  simp at this
  omega
theorem head2 {x : Int} (hx : 0 ≤ x ∧ x < 256) : (bits BinOp.and IntKind.u8 x 224 != 192) = !(decide (192 ≤ x) && decide (x < 224)) := by
  have := byte_all (fun x => (bits BinOp.and IntKind.u8 x 224 != 192) == !(decide (192 ≤ x) && decide (x < 224))) (by decide +kernel) hx
  simpa using this
theorem rest2 {x : Int} (hx : 0 ≤ x ∧ x < 256) (h : 192 ≤ x ∧ x < 224) : bits BinOp.andNot IntKind.u8 x 224 = x - 192 := by
  have := byte_all (fun x => !(decide (192 ≤ x) && decide (x < 224)) || (bits BinOp.andNot IntKind.u8 x 224 == x - 192)) (by decide +kernel) hx
  simp at this
  omega
theorem head3 {x : Int} (hx : 0 ≤ x ∧ x < 256) : (bits BinOp.and IntKind.u8 x 240 != 224) = !(decide (224 ≤ x) && decide (x < 240)) := by
  have := byte_all (fun x => (bits BinOp.and IntKind.u8 x 240 != 224) == !(decide (224 ≤ x) && decide (x < 240))) (by decide +kernel) hx
  simpa using this
theorem rest3 {x : Int} (hx : 0 ≤ x ∧ x < 256) (h : 224 ≤ x ∧ x < 240) : bits BinOp.andNot IntKind.u8 x 240 = x - 224 := by
  have := byte_all (fun x => !(decide (224 ≤ x) && decide (x < 240)) || (bits BinOp.andNot IntKind.u8 x 240 == x - 224)) (by decide +kernel) hx
  simp at this
  omega
theorem head4 {x : Int} (hx : 0 ≤ x ∧ x < 256) : (bits BinOp.and IntKind.u8 x 248 != 240) = !(decide (240 ≤ x) && decide (x < 248)) := by
  have := byte_all (fun x => (bits BinOp.and IntKind.u8 x 248 != 240) == !(decide (240 ≤ x) && decide (x < 248))) (by decide +kernel) hx
  simpa using this
theorem rest4 {x : Int} (hx : 0 ≤ x ∧ x < 256) (h : 240 ≤ x ∧ x < 248) : bits BinOp.andNot IntKind.u8 x 248 = x - 240 := by
  have := byte_all (fun x => !(decide (240 ≤ x) && decide (x < 248)) || (bits BinOp.andNot IntKind.u8 x 248 == x - 240)) (by decide +kernel) hx
  simp at this
  omega
theorem wraps_i64 (n : Int) (h₀ : 0 ≤ n) (h₁ : n < 2 ^ 63) : IntKind.i64.wrap n = n := by rw [IntKind.wrap_i64]; omega
/-- A byte taken in. -/
theorem take_in {cc x : Int} (h0 : 0 ≤ cc) (h1 : cc < 33554432) (hx : 128 ≤ x ∧ x < 192) : bits BinOp.or IntKind.i64 (cc * 64) (x % 64) = cc * 64 + (x - 128) := by
  rw [show x % 64 = x - 128 by omega]
  exact bits_join .i64 63 (by decide) wraps_i64 6 (cc * 64) (x - 128) (by omega) (by omega) (by omega) (by omega) (by omega) (by omega)
theorem acc_none {l : List Int} {a c : Int} {j : Nat} (h : acc l a c j = none) : ∀ k, acc l a c (j + k) = none
  | 0 => h
  | k + 1 => by
    show (acc l a c (j + k)).bind _ = none
    rw [acc_none h k]; rfl
theorem acc_stop {l : List Int} {a c cc : Int} {j n : Nat} (h : acc l a c j = some cc) (hj : j < n) (hx : ¬ (128 ≤ rd l (a + 1 + j) ∧ rd l (a + 1 + j) < 192)) : acc l a c n = none := by
  have h1 : acc l a c (j + 1) = none := by
    show (acc l a c j).bind _ = none
    rw [h, Option.bind_some, if_neg hx]
  have := acc_none h1 (n - (j + 1))
  rwa [show j + 1 + (n - (j + 1)) = n by omega] at this
theorem acc_go {l : List Int} {a c cc : Int} {j : Nat} (h : acc l a c j = some cc) (hx : 128 ≤ rd l (a + 1 + j) ∧ rd l (a + 1 + j) < 192) : acc l a c (j + 1) = some (cc * 64 + (rd l (a + 1 + j) - 128)) := by
  show (acc l a c j).bind _ = _
  rw [h, Option.bind_some, if_pos hx]
theorem pt_fits {l : List Int} {a : Int} {n : Nat} (hn : 1 ≤ n ∧ n ≤ 4) (h : fits l a n) : pt l a = ptN l a n := by
  have hh := h
  unfold fits at hh
  unfold pt
  obtain rfl | rfl | rfl | rfl : n = 1 ∨ n = 2 ∨ n = 3 ∨ n = 4 := by omega
  · rw [if_pos h]
  · rw [if_neg (by unfold fits; simp only [lo, hi] at *; omega), if_pos h]
  · rw [if_neg (by unfold fits; simp only [lo, hi] at *; omega), if_neg (by unfold fits; simp only [lo, hi] at *; omega), if_pos h]
  · rw [if_neg (by unfold fits; simp only [lo, hi] at *; omega), if_neg (by unfold fits; simp only [lo, hi] at *; omega), if_neg (by unfold fits; simp only [lo, hi] at *; omega), if_pos h]
theorem pt_stop {l : List Int} {a : Int} {n : Nat} (hn : 1 ≤ n ∧ n ≤ 4) (h : fits l a n) (hs : acc l a (rd l a - lo n) (n - 1) = none) : pt l a = (0, 0) := by
  rw [pt_fits hn h]; unfold ptN; rw [hs]
theorem pt_bad {l : List Int} {a c : Int} {n : Nat} (hn : 1 ≤ n ∧ n ≤ 4) (h : fits l a n) (hs : acc l a (rd l a - lo n) (n - 1) = some c) (hb : c < least n ∨ c > 1114111 ∨ (55296 ≤ c ∧ c ≤ 57343)) : pt l a = (0, 0) := by
  rw [pt_fits hn h]; unfold ptN; rw [hs]; simp only [if_pos hb]
theorem pt_good {l : List Int} {a c : Int} {n : Nat} (hn : 1 ≤ n ∧ n ≤ 4) (h : fits l a n) (hs : acc l a (rd l a - lo n) (n - 1) = some c) (hb : ¬ (c < least n ∨ c > 1114111 ∨ (55296 ≤ c ∧ c ≤ 57343))) : pt l a = (c, (n : Int)) := by
  rw [pt_fits hn h]; unfold ptN; rw [hs]; simp only [if_neg hb]
theorem pt_none {l : List Int} {a : Int} (h : ∀ m, 1 ≤ m → m < 5 → ¬ fits l a m) : pt l a = (0, 0) := by
  unfold pt
  rw [if_neg (h 1 (by omega) (by omega)), if_neg (h 2 (by omega) (by omega)), if_neg (h 3 (by omega) (by omega)), if_neg (h 4 (by omega) (by omega))]
theorem no_next {l : List Int} {a : Int} {n : Nat} (h : ∀ m, 1 ≤ m → m < n → ¬ fits l a m) (hn : ¬ fits l a n) : ∀ m, 1 ≤ m → m < n + 1 → ¬ fits l a m := fun m h1 h2 => by
  by_cases e : m = n
  · rw [e]; exact hn
  · exact h m h1 (by omega)
theorem ret2 {fn : Func} {p q : Tmp} {tmps : Array Value} {w : World} {v u : Value} (hr : fn.results = #[.tmp p, .tmp q]) (hp : tmps.getD p undef = v) (hq : tmps.getD q undef = u) : (results fn tmps).run Try.prog w = .ok (.tuple #[v, u]) w := by
  have hp' : tmps[p]?.getD undef = v := by simpa using hp
  have hq' : tmps[q]?.getD undef = u := by simpa using hq
  simp [results, hr, hp', hq']

set_option maxRecDepth 100000 in
set_option maxHeartbeats 3200000 in
theorem point_any (A : Option Addr) (c : Nat) (l : List Int) (a : Int) (w : World) (h0 : 0 ≤ a) (h1 : a < l.length) (hmx : l.length < 4611686018427387904) (hby : ∀ x ∈ l, 0 ≤ x ∧ x < 256) (hr : Kd.C (Kd.int .u8) w A l.length l) (hc : l.length ≤ c) :
    Calls Try.prog 22 #[.slice A l.length c, .int .i64 a] w fun e w' => e = .returned (.tuple #[.int .i64 (pt l a).1, .int .i64 (pt l a).2]) ∧ Below w.heap.size w w' := by
  have HR := Aside0.mk hr
  have HB0 := Aside0.mk hby
  clear hr hby
  go_enter Try.func22, Try.ntmps22
  go_wp2_with fail
  refine (kinds_any _).mono ?_
  rintro e w1 ⟨rfl, hb1⟩
  have B1 := Aside0.mk hb1
  clear hb1
  go_wp2_with fail
  go_loopw [12] (fun i wr => ∃ n : Nat, n ≤ 5 ∧ i = .int .i64 n ∧ Aside0 (∀ m, 1 ≤ m → m < n → ¬ fits l a m) ∧ Aside0 (Below w.heap.size w wr)) (fun i _ => 5 - (intOf i).toNat)
  case atStart => exact ⟨0, by omega, rfl, ⟨by intro m h1 h2; omega⟩, B1⟩
  case round =>
    obtain ⟨n, hn, rfl, hno, HB⟩ := hrel
    have hb := rd_byte HB0.out h0 h1
    obtain rfl | rfl | rfl | rfl | rfl | rfl : n = 0 ∨ n = 1 ∨ n = 2 ∨ n = 3 ∨ n = 4 ∨ n = 5 := by omega
    · go_wp2_with fail
      rw [idx0]
      go_wp2_with fail
      go_quiet (fail)
      go_wp2_with fail
      go_roundw
      case rel => exact ⟨1, by omega, by go_num, ⟨by intro m h1 h2; omega⟩, ⟨below_dn (below_alloc HB.out _) _⟩⟩
      case measure => simp [intOf]
    · obtain ⟨ad, rfl, q0⟩ := Kd.at_int (Kd.C_alloc (Kd.C_below HR.out HB.out) (.cells #[.int .u8 128, .int .u8 0, .int .i64 0] 44)) a h0 h1
      have hbd := head1 hb
      have hW : IntKind.i64.wrap (a + 1) = a + 1 := by rw [IntKind.wrap_i64]; omega
      by_cases hM : 0 ≤ rd l a ∧ rd l a < 128
      · have hre := rest1 hb hM
        rw [decide_eq_true hM.1, decide_eq_true hM.2] at hbd
        by_cases hL : a + 1 ≤ l.length
        · have HM := Aside0.mk (show fits l a 1 from ⟨hM.1, hM.2, hL⟩)
          have HX := Aside0.mk hb
          clear hb
          have hL2 : ¬ ((l.length : Int) < a + 1) := by omega
          go_wp2_with fail
          rw [idx1]
          go_wp2_with fail
          go_quiet (fail)
          go_wp2_with fail
          go_quiet (fail)
          go_wp2_with fail
          go_loopw [8, 48] (fun c8 x48 wx => ∃ (j : Nat) (cc : Int), j ≤ 0 ∧ x48 = .int .i64 j ∧ c8 = .int .i64 cc ∧ acc l a (rd l a - 0) j = some cc ∧ 0 ≤ cc ∧ cc < 128 * 64 ^ j ∧ Aside0 ((Kd.int .u8).C wx (some ad) l.length l) ∧ Aside0 (wx.cell? ⟨wr.heap.size, 2, none⟩ = some (.int .i64 0)) ∧ Aside0 (Below w.heap.size w wx)) (fun _ x _ => 0 - (intOf x).toNat)
          case atStart => exact ⟨0, _, by omega, rfl, rfl, by simp [acc], by omega, by omega, ⟨Kd.C_drewN (Kd.C_alloc (Kd.C_below HR.out HB.out) _) _⟩, ⟨by go_simp⟩, ⟨below_dn (below_alloc HB.out _) _⟩⟩
          case round =>
            obtain ⟨j, cc, hj, rfl, rfl, hacc, hc0, hc1, HC2, HK2, HB2⟩ := hrel
            by_cases hlt : j < 0
            · omega
            · obtain rfl : j = 0 := by omega
              have hk2 := HK2.out
              by_cases hbad : cc < 0 ∨ cc > 1114111 ∨ (55296 ≤ cc ∧ cc ≤ 57343)
              · have hpt := pt_bad (by omega) HM.out hacc hbad
                go_wp2_with fail
                all_goals first | (refine bodyPost_ret (v := .tuple #[.int .i64 0, .int .i64 0]) (ret2 rfl rfl rfl) rfl ⟨by first | rfl | rw [hpt], HB2.out⟩; done) | (exfalso; rename_i hh; simp at hh; omega) | (exfalso; rename_i hh; omega) | (exfalso; omega)
              · have hpt := pt_good (by omega) HM.out hacc hbad
                go_wp2_with fail
                all_goals first | (refine bodyPost_ret (v := .tuple #[.int .i64 cc, .int .i64 1]) (ret2 rfl rfl rfl) rfl ⟨by first | rfl | rw [hpt]; rfl, HB2.out⟩; done) | (exfalso; rename_i hh; simp at hh; omega) | (exfalso; rename_i hh; omega) | (exfalso; omega)
        · exfalso; omega
      · have hnf : ¬ fits l a 1 := fun h => hM ⟨h.1, h.2.1⟩
        have hbt : (bits BinOp.and IntKind.u8 (rd l a) 128 != 0) = true := by rw [hbd]; simp; omega
        clear hbd
        go_wp2_with fail
        rw [idx1]
        go_wp2_with fail
        go_quiet (fail)
        go_wp2_with fail
        go_roundw
        case rel => exact ⟨1 + 1, by omega, by go_num, ⟨no_next hno.out (n := 1) hnf⟩, ⟨below_dn (below_alloc HB.out _) _⟩⟩
        case measure => simp [intOf]
    · obtain ⟨ad, rfl, q0⟩ := Kd.at_int (Kd.C_alloc (Kd.C_below HR.out HB.out) (.cells #[.int .u8 224, .int .u8 192, .int .i64 128] 44)) a h0 h1
      have hbd := head2 hb
      have hW : IntKind.i64.wrap (a + 2) = a + 2 := by rw [IntKind.wrap_i64]; omega
      by_cases hM : 192 ≤ rd l a ∧ rd l a < 224
      · have hre := rest2 hb hM
        rw [decide_eq_true hM.1, decide_eq_true hM.2] at hbd
        by_cases hL : a + 2 ≤ l.length
        · have HM := Aside0.mk (show fits l a 2 from ⟨hM.1, hM.2, hL⟩)
          have HX := Aside0.mk hb
          clear hb
          have hL2 : ¬ ((l.length : Int) < a + 2) := by omega
          go_wp2_with fail
          rw [idx2]
          go_wp2_with fail
          go_quiet (fail)
          go_wp2_with fail
          go_quiet (fail)
          go_wp2_with fail
          go_loopw [8, 48] (fun c8 x48 wx => ∃ (j : Nat) (cc : Int), j ≤ 1 ∧ x48 = .int .i64 j ∧ c8 = .int .i64 cc ∧ acc l a (rd l a - 192) j = some cc ∧ 0 ≤ cc ∧ cc < 128 * 64 ^ j ∧ Aside0 ((Kd.int .u8).C wx (some ad) l.length l) ∧ Aside0 (wx.cell? ⟨wr.heap.size, 2, none⟩ = some (.int .i64 128)) ∧ Aside0 (Below w.heap.size w wx)) (fun _ x _ => 1 - (intOf x).toNat)
          case atStart => exact ⟨0, _, by omega, rfl, rfl, rfl, by omega, by omega, ⟨Kd.C_drewN (Kd.C_alloc (Kd.C_below HR.out HB.out) _) _⟩, ⟨by go_simp⟩, ⟨below_dn (below_alloc HB.out _) _⟩⟩
          case round =>
            obtain ⟨j, cc, hj, rfl, rfl, hacc, hc0, hc1, HC2, HK2, HB2⟩ := hrel
            by_cases hlt : j < 1
            · obtain ⟨ad', e', q1⟩ := Kd.at_int HC2.out (a + 1 + j) (by omega) (by omega)
              cases e'
              have hW1 : IntKind.i64.wrap (a + 1) = a + 1 := by rw [IntKind.wrap_i64]; omega
              have hW2 : IntKind.i64.wrap (a + 1 + j) = a + 1 + j := by rw [IntKind.wrap_i64]; omega
              have hxb := rd_byte HB0.out (show 0 ≤ a + 1 + (j : Int) by omega) (show a + 1 + (j : Int) < l.length by omega)
              by_cases hcx : 128 ≤ rd l (a + 1 + j) ∧ rd l (a + 1 + j) < 192
              · have hsh : (rd l (a + 1 + j) / 64 != 2) = false := by simp; omega
                have hcb : cc < 33554432 := by have : (64 : Int) ^ j ≤ 64 ^ 3 := by exact_mod_cast Nat.pow_le_pow_right (by decide) (by omega : j ≤ 3)
                                               omega
                have hti := take_in hc0 hcb hcx
                have hnx := acc_go hacc hcx
                go_wp2_with fail
                refine ⟨⟨j + 1, cc * 64 + (rd l (a + 1 + j) - 128), by omega, by go_num, rfl, hnx, by omega, ?_, HC2, HK2, HB2⟩, by simp [intOf]; omega⟩
                rw [Int.pow_succ]; omega
              · have hsh : (rd l (a + 1 + j) / 64 != 2) = true := by simp; omega
                have hpt := pt_stop (by omega) HM.out (acc_stop hacc (show j < 1 from hlt) hcx)
                go_wp2_with fail
                refine bodyPost_ret (v := .tuple #[.int .i64 0, .int .i64 0]) (ret2 rfl rfl rfl) rfl ⟨by rw [hpt], HB2.out⟩
            · obtain rfl : j = 1 := by omega
              have hk2 := HK2.out
              by_cases hbad : cc < 128 ∨ cc > 1114111 ∨ (55296 ≤ cc ∧ cc ≤ 57343)
              · have hpt := pt_bad (by omega) HM.out hacc hbad
                go_wp2_with fail
                all_goals first | (refine bodyPost_ret (v := .tuple #[.int .i64 0, .int .i64 0]) (ret2 rfl rfl rfl) rfl ⟨by first | rfl | rw [hpt], HB2.out⟩; done) | (exfalso; rename_i hh; simp at hh; omega) | (exfalso; rename_i hh; omega) | (exfalso; omega)
              · have hpt := pt_good (by omega) HM.out hacc hbad
                go_wp2_with fail
                all_goals first | (refine bodyPost_ret (v := .tuple #[.int .i64 cc, .int .i64 2]) (ret2 rfl rfl rfl) rfl ⟨by first | rfl | rw [hpt]; rfl, HB2.out⟩; done) | (exfalso; rename_i hh; simp at hh; omega) | (exfalso; rename_i hh; omega) | (exfalso; omega)
        · have hnf : ¬ fits l a 2 := fun h => hL h.2.2
          have hL2 : (l.length : Int) < a + 2 := by omega
          go_wp2_with fail
          rw [idx2]
          go_wp2_with fail
          go_quiet (fail)
          go_wp2_with fail
          go_roundw
          case rel => exact ⟨2 + 1, by omega, by go_num, ⟨no_next hno.out (n := 2) hnf⟩, ⟨below_dn (below_alloc HB.out _) _⟩⟩
          case measure => simp [intOf]
      · have hnf : ¬ fits l a 2 := fun h => hM ⟨h.1, h.2.1⟩
        have hbt : (bits BinOp.and IntKind.u8 (rd l a) 224 != 192) = true := by rw [hbd]; simp; omega
        clear hbd
        go_wp2_with fail
        rw [idx2]
        go_wp2_with fail
        go_quiet (fail)
        go_wp2_with fail
        go_roundw
        case rel => exact ⟨2 + 1, by omega, by go_num, ⟨no_next hno.out (n := 2) hnf⟩, ⟨below_dn (below_alloc HB.out _) _⟩⟩
        case measure => simp [intOf]
    · obtain ⟨ad, rfl, q0⟩ := Kd.at_int (Kd.C_alloc (Kd.C_below HR.out HB.out) (.cells #[.int .u8 240, .int .u8 224, .int .i64 2048] 44)) a h0 h1
      have hbd := head3 hb
      have hW : IntKind.i64.wrap (a + 3) = a + 3 := by rw [IntKind.wrap_i64]; omega
      by_cases hM : 224 ≤ rd l a ∧ rd l a < 240
      · have hre := rest3 hb hM
        rw [decide_eq_true hM.1, decide_eq_true hM.2] at hbd
        by_cases hL : a + 3 ≤ l.length
        · have HM := Aside0.mk (show fits l a 3 from ⟨hM.1, hM.2, hL⟩)
          have HX := Aside0.mk hb
          clear hb
          have hL2 : ¬ ((l.length : Int) < a + 3) := by omega
          go_wp2_with fail
          rw [idx3]
          go_wp2_with fail
          go_quiet (fail)
          go_wp2_with fail
          go_quiet (fail)
          go_wp2_with fail
          go_loopw [8, 48] (fun c8 x48 wx => ∃ (j : Nat) (cc : Int), j ≤ 2 ∧ x48 = .int .i64 j ∧ c8 = .int .i64 cc ∧ acc l a (rd l a - 224) j = some cc ∧ 0 ≤ cc ∧ cc < 128 * 64 ^ j ∧ Aside0 ((Kd.int .u8).C wx (some ad) l.length l) ∧ Aside0 (wx.cell? ⟨wr.heap.size, 2, none⟩ = some (.int .i64 2048)) ∧ Aside0 (Below w.heap.size w wx)) (fun _ x _ => 2 - (intOf x).toNat)
          case atStart => exact ⟨0, _, by omega, rfl, rfl, rfl, by omega, by omega, ⟨Kd.C_drewN (Kd.C_alloc (Kd.C_below HR.out HB.out) _) _⟩, ⟨by go_simp⟩, ⟨below_dn (below_alloc HB.out _) _⟩⟩
          case round =>
            obtain ⟨j, cc, hj, rfl, rfl, hacc, hc0, hc1, HC2, HK2, HB2⟩ := hrel
            by_cases hlt : j < 2
            · obtain ⟨ad', e', q1⟩ := Kd.at_int HC2.out (a + 1 + j) (by omega) (by omega)
              cases e'
              have hW1 : IntKind.i64.wrap (a + 1) = a + 1 := by rw [IntKind.wrap_i64]; omega
              have hW2 : IntKind.i64.wrap (a + 1 + j) = a + 1 + j := by rw [IntKind.wrap_i64]; omega
              have hxb := rd_byte HB0.out (show 0 ≤ a + 1 + (j : Int) by omega) (show a + 1 + (j : Int) < l.length by omega)
              by_cases hcx : 128 ≤ rd l (a + 1 + j) ∧ rd l (a + 1 + j) < 192
              · have hsh : (rd l (a + 1 + j) / 64 != 2) = false := by simp; omega
                have hcb : cc < 33554432 := by have : (64 : Int) ^ j ≤ 64 ^ 3 := by exact_mod_cast Nat.pow_le_pow_right (by decide) (by omega : j ≤ 3)
                                               omega
                have hti := take_in hc0 hcb hcx
                have hnx := acc_go hacc hcx
                go_wp2_with fail
                refine ⟨⟨j + 1, cc * 64 + (rd l (a + 1 + j) - 128), by omega, by go_num, rfl, hnx, by omega, ?_, HC2, HK2, HB2⟩, by simp [intOf]; omega⟩
                rw [Int.pow_succ]; omega
              · have hsh : (rd l (a + 1 + j) / 64 != 2) = true := by simp; omega
                have hpt := pt_stop (by omega) HM.out (acc_stop hacc (show j < 2 from hlt) hcx)
                go_wp2_with fail
                refine bodyPost_ret (v := .tuple #[.int .i64 0, .int .i64 0]) (ret2 rfl rfl rfl) rfl ⟨by rw [hpt], HB2.out⟩
            · obtain rfl : j = 2 := by omega
              have hk2 := HK2.out
              by_cases hbad : cc < 2048 ∨ cc > 1114111 ∨ (55296 ≤ cc ∧ cc ≤ 57343)
              · have hpt := pt_bad (by omega) HM.out hacc hbad
                go_wp2_with fail
                all_goals first | (refine bodyPost_ret (v := .tuple #[.int .i64 0, .int .i64 0]) (ret2 rfl rfl rfl) rfl ⟨by first | rfl | rw [hpt], HB2.out⟩; done) | (exfalso; rename_i hh; simp at hh; omega) | (exfalso; rename_i hh; omega) | (exfalso; omega)
              · have hpt := pt_good (by omega) HM.out hacc hbad
                go_wp2_with fail
                all_goals first | (refine bodyPost_ret (v := .tuple #[.int .i64 cc, .int .i64 3]) (ret2 rfl rfl rfl) rfl ⟨by first | rfl | rw [hpt]; rfl, HB2.out⟩; done) | (exfalso; rename_i hh; simp at hh; omega) | (exfalso; rename_i hh; omega) | (exfalso; omega)
        · have hnf : ¬ fits l a 3 := fun h => hL h.2.2
          have hL2 : (l.length : Int) < a + 3 := by omega
          go_wp2_with fail
          rw [idx3]
          go_wp2_with fail
          go_quiet (fail)
          go_wp2_with fail
          go_roundw
          case rel => exact ⟨3 + 1, by omega, by go_num, ⟨no_next hno.out (n := 3) hnf⟩, ⟨below_dn (below_alloc HB.out _) _⟩⟩
          case measure => simp [intOf]
      · have hnf : ¬ fits l a 3 := fun h => hM ⟨h.1, h.2.1⟩
        have hbt : (bits BinOp.and IntKind.u8 (rd l a) 240 != 224) = true := by rw [hbd]; simp; omega
        clear hbd
        go_wp2_with fail
        rw [idx3]
        go_wp2_with fail
        go_quiet (fail)
        go_wp2_with fail
        go_roundw
        case rel => exact ⟨3 + 1, by omega, by go_num, ⟨no_next hno.out (n := 3) hnf⟩, ⟨below_dn (below_alloc HB.out _) _⟩⟩
        case measure => simp [intOf]
    · obtain ⟨ad, rfl, q0⟩ := Kd.at_int (Kd.C_alloc (Kd.C_below HR.out HB.out) (.cells #[.int .u8 248, .int .u8 240, .int .i64 65536] 44)) a h0 h1
      have hbd := head4 hb
      have hW : IntKind.i64.wrap (a + 4) = a + 4 := by rw [IntKind.wrap_i64]; omega
      by_cases hM : 240 ≤ rd l a ∧ rd l a < 248
      · have hre := rest4 hb hM
        rw [decide_eq_true hM.1, decide_eq_true hM.2] at hbd
        by_cases hL : a + 4 ≤ l.length
        · have HM := Aside0.mk (show fits l a 4 from ⟨hM.1, hM.2, hL⟩)
          have HX := Aside0.mk hb
          clear hb
          have hL2 : ¬ ((l.length : Int) < a + 4) := by omega
          go_wp2_with fail
          rw [idx4]
          go_wp2_with fail
          go_quiet (fail)
          go_wp2_with fail
          go_quiet (fail)
          go_wp2_with fail
          go_loopw [8, 48] (fun c8 x48 wx => ∃ (j : Nat) (cc : Int), j ≤ 3 ∧ x48 = .int .i64 j ∧ c8 = .int .i64 cc ∧ acc l a (rd l a - 240) j = some cc ∧ 0 ≤ cc ∧ cc < 128 * 64 ^ j ∧ Aside0 ((Kd.int .u8).C wx (some ad) l.length l) ∧ Aside0 (wx.cell? ⟨wr.heap.size, 2, none⟩ = some (.int .i64 65536)) ∧ Aside0 (Below w.heap.size w wx)) (fun _ x _ => 3 - (intOf x).toNat)
          case atStart => exact ⟨0, _, by omega, rfl, rfl, rfl, by omega, by omega, ⟨Kd.C_drewN (Kd.C_alloc (Kd.C_below HR.out HB.out) _) _⟩, ⟨by go_simp⟩, ⟨below_dn (below_alloc HB.out _) _⟩⟩
          case round =>
            obtain ⟨j, cc, hj, rfl, rfl, hacc, hc0, hc1, HC2, HK2, HB2⟩ := hrel
            by_cases hlt : j < 3
            · obtain ⟨ad', e', q1⟩ := Kd.at_int HC2.out (a + 1 + j) (by omega) (by omega)
              cases e'
              have hW1 : IntKind.i64.wrap (a + 1) = a + 1 := by rw [IntKind.wrap_i64]; omega
              have hW2 : IntKind.i64.wrap (a + 1 + j) = a + 1 + j := by rw [IntKind.wrap_i64]; omega
              have hxb := rd_byte HB0.out (show 0 ≤ a + 1 + (j : Int) by omega) (show a + 1 + (j : Int) < l.length by omega)
              by_cases hcx : 128 ≤ rd l (a + 1 + j) ∧ rd l (a + 1 + j) < 192
              · have hsh : (rd l (a + 1 + j) / 64 != 2) = false := by simp; omega
                have hcb : cc < 33554432 := by have : (64 : Int) ^ j ≤ 64 ^ 3 := by exact_mod_cast Nat.pow_le_pow_right (by decide) (by omega : j ≤ 3)
                                               omega
                have hti := take_in hc0 hcb hcx
                have hnx := acc_go hacc hcx
                go_wp2_with fail
                refine ⟨⟨j + 1, cc * 64 + (rd l (a + 1 + j) - 128), by omega, by go_num, rfl, hnx, by omega, ?_, HC2, HK2, HB2⟩, by simp [intOf]; omega⟩
                rw [Int.pow_succ]; omega
              · have hsh : (rd l (a + 1 + j) / 64 != 2) = true := by simp; omega
                have hpt := pt_stop (by omega) HM.out (acc_stop hacc (show j < 3 from hlt) hcx)
                go_wp2_with fail
                refine bodyPost_ret (v := .tuple #[.int .i64 0, .int .i64 0]) (ret2 rfl rfl rfl) rfl ⟨by rw [hpt], HB2.out⟩
            · obtain rfl : j = 3 := by omega
              have hk2 := HK2.out
              by_cases hbad : cc < 65536 ∨ cc > 1114111 ∨ (55296 ≤ cc ∧ cc ≤ 57343)
              · have hpt := pt_bad (by omega) HM.out hacc hbad
                go_wp2_with fail
                all_goals first | (refine bodyPost_ret (v := .tuple #[.int .i64 0, .int .i64 0]) (ret2 rfl rfl rfl) rfl ⟨by first | rfl | rw [hpt], HB2.out⟩; done) | (exfalso; rename_i hh; simp at hh; omega) | (exfalso; rename_i hh; omega) | (exfalso; omega)
              · have hpt := pt_good (by omega) HM.out hacc hbad
                go_wp2_with fail
                all_goals first | (refine bodyPost_ret (v := .tuple #[.int .i64 cc, .int .i64 4]) (ret2 rfl rfl rfl) rfl ⟨by first | rfl | rw [hpt]; rfl, HB2.out⟩; done) | (exfalso; rename_i hh; simp at hh; omega) | (exfalso; rename_i hh; omega) | (exfalso; omega)
        · have hnf : ¬ fits l a 4 := fun h => hL h.2.2
          have hL2 : (l.length : Int) < a + 4 := by omega
          go_wp2_with fail
          rw [idx4]
          go_wp2_with fail
          go_quiet (fail)
          go_wp2_with fail
          go_roundw
          case rel => exact ⟨4 + 1, by omega, by go_num, ⟨no_next hno.out (n := 4) hnf⟩, ⟨below_dn (below_alloc HB.out _) _⟩⟩
          case measure => simp [intOf]
      · have hnf : ¬ fits l a 4 := fun h => hM ⟨h.1, h.2.1⟩
        have hbt : (bits BinOp.and IntKind.u8 (rd l a) 248 != 240) = true := by rw [hbd]; simp; omega
        clear hbd
        go_wp2_with fail
        rw [idx4]
        go_wp2_with fail
        go_quiet (fail)
        go_wp2_with fail
        go_roundw
        case rel => exact ⟨4 + 1, by omega, by go_num, ⟨no_next hno.out (n := 4) hnf⟩, ⟨below_dn (below_alloc HB.out _) _⟩⟩
        case measure => simp [intOf]
    · have hpt := pt_none hno.out
      go_wp2_with fail
      refine bodyPost_ret (v := .tuple #[.int .i64 0, .int .i64 0]) (ret2 rfl rfl rfl) rfl ⟨by first | rfl | rw [hpt], HB.out⟩
theorem utf_point.calls (A0 : Option Addr) (c0 : Nat) (l0 : List Int) (a1 r1 r2 : Int) (w : World) (hr0 : Kd.C (Kd.int .u8) w A0 l0.length l0) (hc0 : l0.length ≤ c0) (h : utf_point.f l0 a1 = some (r1, r2)) :
    Calls Try.prog 22 #[.slice A0 l0.length c0, .int .i64 a1] w fun e w' => e = .returned (.tuple #[.int .i64 r1, .int .i64 r2]) ∧ Below w.heap.size w w' := by
  unfold utf_point.f at h
  by_cases hc : 0 ≤ a1 ∧ a1 < l0.length ∧ l0.length < 4611686018427387904 ∧ l0.all (fun x => decide (0 ≤ x ∧ x < 256)) = true
  · rw [if_pos hc] at h
    have h1 : (pt l0 a1).1 = r1 ∧ (pt l0 a1).2 = r2 := by
      have := Option.some.inj h
      rw [this]; exact ⟨rfl, rfl⟩
    have := point_any A0 c0 l0 a1 w hc.1 hc.2.1 hc.2.2.1 (fun x hx => by simpa using List.all_eq_true.1 hc.2.2.2 x hx) hr0 hc0
    rwa [h1.1, h1.2] at this
  · rw [if_neg hc] at h
    cases h
end Go.Proofs.Ytijehblohblnbaa.UA
