/- The walk of lurcherref01.Of, printed by wip/utf/mkof.py. -/
import Derived.Test.YtijehblohblnbaaPu1
namespace Go.Proofs.Ytijehblohblnbaa.UA
open Go.RowKit Go.Proofs.YtijehblohblnbaaW.PrintWords Go.Proofs.YtijehblohblnbaaW.PrintLast Go.Proofs.YtijehblohblnbaaW.PrintMore
set_option linter.unusedVariables false
set_option linter.unusedSimpArgs false

theorem wrap_ok {x : Int} (h0 : -9223372036854775808 ≤ x) (h1 : x < 9223372036854775808) : IntKind.i64.wrap x = x := by rw [IntKind.wrap_i64]; omega
theorem run_conv {ρ : Operand → Value} {dst : Option Tmp} {ty : TypeId} {pos : String} {after : Array Edge} {gd : Option (Nat × Bool)} {p : Operand} {w : World} {A : Option Addr} {n c : Nat} {xs : List Int} (hp : ρ p = .slice A n c) (h : (Kd.int .u8).C w A n xs) :
    (execOp ρ ⟨dst, .convert 22 9 p, ty, pos, after, gd⟩).run Try.prog w = .ok (.value (.string (strOfNums xs))) w := by
  have := Kd.C_string (P := Try.prog) (src := 22) (dst := 9) (c := c) Try.underlying22 Try.underlying5 Try.underlying9 h
  simp only [execOp, hp, Sem.run_bind, this, Result.andThen_ok]
  rfl

set_option maxRecDepth 100000 in
set_option maxHeartbeats 3200000 in
theorem of_any (A : Option Addr) (c : Nat) (l : List Int) (w : World) (hmx : l.length < 4611686018427387904) (hby : ∀ x ∈ l, Byte x) (hr : Kd.C (Kd.int .u8) w A l.length l) :
    Calls Try.prog 24 #[.slice A l.length c] w fun e w' => e = .returned (.int .i64 (ofP l)) ∧ Below w.heap.size w w' := by
  have HR := Aside0.mk hr
  have HBX := Aside0.mk (Below.refl w.heap.size w)
  have hlen : (l.length = 0 ∨ l.length = 1 ∨ l.length = 2) ∨ (l.length = 3 ∨ l.length = 4 ∨ 5 ≤ l.length) := by omega
  clear hr
  rcases hlen with (h | h | h) | (h | h | h)
  · skip
    obtain rfl : l = [] := List.eq_nil_of_length_eq_zero h
    have hcode : codeOf ([] : List Int) = -1 := rfl
    have HCX := HR
    go_enter Try.func24, Try.ntmps24
    go_wp2_with fail
    have hne : ((strOfNums (seqP (-1))).toList != (strOfNums []).toList) = false := by rw [show seqP (-1) = [] from rfl]; simp
    have heq : ((strOfNums (seqP (-1))).toList == (strOfNums []).toList) = true := by rw [show seqP (-1) = [] from rfl]; simp
    have hres : ofP [] = -1 := rfl
    refine start_ (n := 11) (S := fun w' => (Kd.int .u8).C w' A 0 []) (ds := []) #[false, false, false, false, false, false, false, false, false, false, false] (by kernel_rfl) rfl rfl (Kd.C_drew HCX.out) (fun hS => ?_)
    have BD := below_drew1 HBX.out
    generalize w.drew = wd at *
    refine pure_ (i := 0) (N := some 75) (v := .int .i64 (-1)) (a' := ?_) #[true, false, false, false, false, false, false, false, false, false, false] rfl rfl (by kernel_rfl) (fun _ _ _ h => h) (Or.inl ⟨by rfl, fun w' => by go_simp⟩) ?_ ?_
    rotate_left
    · simp only [Act.put, List.setIfInBounds_toArray, List.set_cons_zero, List.set_cons_succ]; rfl
    refine pure_ (i := 3) (N := some 78) (v := .slice A 0 c) (a' := ?_) #[true, false, false, true, false, false, false, false, false, false, false] rfl rfl (by kernel_rfl) (fun _ _ _ h => h) (Or.inl ⟨by rfl, fun w' => by go_simp⟩) ?_ ?_
    rotate_left
    · simp only [Act.put, List.setIfInBounds_toArray, List.set_cons_zero, List.set_cons_succ]; rfl
    refine take_ (i := 4) (N := some 79) (v := .string (strOfNums [])) (a' := ?_) #[true, false, false, true, true, false, false, false, false, false, false] rfl rfl (by kernel_rfl) (fun _ _ _ h => h) (Or.inl ⟨by rfl, fun w' hw => run_conv rfl hw⟩) hS ?_ ?_
    rotate_left
    · simp only [Act.put, List.setIfInBounds_toArray, List.set_cons_zero, List.set_cons_succ]; rfl
    refine one_ (i := 1) (N := some 76) #[true, true, false, true, true, false, false, false, false, false, false] rfl rfl (by kernel_rfl) (by decide) (fun K hK => ?_)
    refine goes_ Try.func26 (by kernel_rfl) rfl #[.int .i64 (-1)] (by rfl) rfl rfl (by go_simp) ?_
    refine (lurcherref01_Sequence.calls (-1) (seqP (-1)) _ rfl).mono ?_
    rintro e w8 ⟨v, rfl, hR, hb⟩
    obtain ⟨A8, c8, rfl⟩ := Kd.R_slice hR
    have C8 := Aside0.mk (Kd.R_reads' hR).2.2
    have B8 := Aside0.mk (below_step BD hb)
    refine ⟨_, rfl, hK.out _ _ (Kd.C_below hS hb) (fun hS => ?_)⟩
    clear hK K hR hb
    refine norm_ (by simp only [Act.put, List.setIfInBounds_toArray, List.set_cons_zero, List.set_cons_succ]; rfl) ?_
    refine one_ (i := 2) (N := some 77) #[true, true, true, true, true, false, false, false, false, false, false] rfl rfl (by kernel_rfl) (by decide) (fun K hK => ?_)
    refine value_ (by rfl) rfl (run_conv rfl C8.out) ?_
    refine hK.out _ _ hS (fun hS => ?_)
    clear hK K
    refine norm_ (by simp only [Act.put, List.setIfInBounds_toArray, List.set_cons_zero, List.set_cons_succ]; rfl) ?_
    refine pure_ (i := 5) (N := some 80) (v := .bool false) (a' := ?_) #[true, true, true, true, true, true, false, false, false, false, false] rfl rfl (by kernel_rfl) (fun _ _ _ h => h) (Or.inl ⟨by rfl, fun w' => by go_simp⟩) ?_ ?_
    rotate_left
    · simp only [Act.put, List.setIfInBounds_toArray, List.set_cons_zero, List.set_cons_succ]; rfl
    refine pure_ (i := 6) (N := some 81) (v := .bool false) (a' := ?_) #[true, true, true, true, true, true, true, false, false, false, false] rfl rfl (by kernel_rfl) (fun _ _ _ h => h) (Or.inl ⟨by rfl, fun w' => by go_simp⟩) ?_ ?_
    rotate_left
    · simp only [Act.put, List.setIfInBounds_toArray, List.set_cons_zero, List.set_cons_succ]; rfl
    refine pure_ (i := 7) (N := some 82) (v := .slice A 0 c) (a' := ?_) #[true, true, true, true, true, true, true, true, false, false, false] rfl rfl (by kernel_rfl) (fun _ _ _ h => h) (Or.inl ⟨by rfl, fun w' => by go_simp⟩) ?_ ?_
    rotate_left
    · simp only [Act.put, List.setIfInBounds_toArray, List.set_cons_zero, List.set_cons_succ]; rfl
    refine pure_ (i := 8) (N := some 83) (v := .int .i64 0) (a' := ?_) #[true, true, true, true, true, true, true, true, true, false, false] rfl rfl (by kernel_rfl) (fun _ _ _ h => h) (Or.inl ⟨by rfl, fun w' => by go_simp⟩) ?_ ?_
    rotate_left
    · simp only [Act.put, List.setIfInBounds_toArray, List.set_cons_zero, List.set_cons_succ]; rfl
    refine pure_ (i := 9) (N := some 84) (v := .bool true) (a' := ?_) #[true, true, true, true, true, true, true, true, true, true, false] rfl rfl (by kernel_rfl) (fun _ _ _ h => h) (Or.inl ⟨by rfl, fun w' => by go_simp⟩) ?_ ?_
    rotate_left
    · simp only [Act.put, List.setIfInBounds_toArray, List.set_cons_zero, List.set_cons_succ]; rfl
    refine pure_ (i := 10) (N := some 85) (v := .bool true) (a' := ?_) #[true, true, true, true, true, true, true, true, true, true, true] rfl rfl (by kernel_rfl) (fun _ _ _ h => h) (Or.inl ⟨by rfl, fun w' => by go_simp⟩) ?_ ?_
    rotate_left
    · simp only [Act.put, List.setIfInBounds_toArray, List.set_cons_zero, List.set_cons_succ]; rfl
    refine done_ (by kernel_rfl) ?_
    go_wp2_with fail
    go_ret
    exact ⟨by rw [hres]; rfl, B8.out⟩
  · skip
    obtain ⟨x0, rfl⟩ : ∃ x0, l = [x0] := by
      match l, h with
      | [x0], _ => exact ⟨x0, rfl⟩
    have bx0 : Byte x0 := hby x0 (by simp)
    unfold Byte at bx0
    have hcode : codeOf [x0] = x0 := rfl
    obtain ⟨ad0, e0, q0⟩ := Kd.at_int HR.out 0 (by omega) (by simp)
    subst e0
    rw [show rd [x0] 0 = x0 from rfl] at q0
    rw [show ((0 : Int)).toNat = 0 from rfl, Addr.add_zero'] at q0
    have HCX := HR
    go_enter Try.func24, Try.ntmps24
    go_wp2_with fail
    by_cases hs : seqP x0 = [x0]
    · have hres : ofP [x0] = x0 := by unfold ofP; rw [hcode, if_pos ⟨hs, by simp⟩]
      have hne : ((strOfNums (seqP x0)).toList != (strOfNums [x0]).toList) = false := by rw [hs]; simp
      have heq : ((strOfNums (seqP x0)).toList == (strOfNums [x0]).toList) = true := by rw [hs]; simp
      refine start_ (n := 11) (S := fun w' => (Kd.int .u8).C w' (some ad0) 1 [x0]) (ds := []) #[false, false, false, false, false, false, false, false, false, false, false] (by kernel_rfl) rfl rfl (Kd.C_drew HCX.out) (fun hS => ?_)
      have BD := below_drew1 HBX.out
      generalize w.drew = wd at *
      refine pure_ (i := 0) (N := some 75) (v := .int .i64 x0) (a' := ?_) #[true, false, false, false, false, false, false, false, false, false, false] rfl rfl (by kernel_rfl) (fun _ _ _ h => h) (Or.inl ⟨by rfl, fun w' => by go_simp⟩) ?_ ?_
      rotate_left
      · simp only [Act.put, List.setIfInBounds_toArray, List.set_cons_zero, List.set_cons_succ]; rfl
      refine pure_ (i := 3) (N := some 78) (v := .slice (some ad0) 1 c) (a' := ?_) #[true, false, false, true, false, false, false, false, false, false, false] rfl rfl (by kernel_rfl) (fun _ _ _ h => h) (Or.inl ⟨by rfl, fun w' => by go_simp⟩) ?_ ?_
      rotate_left
      · simp only [Act.put, List.setIfInBounds_toArray, List.set_cons_zero, List.set_cons_succ]; rfl
      refine take_ (i := 4) (N := some 79) (v := .string (strOfNums [x0])) (a' := ?_) #[true, false, false, true, true, false, false, false, false, false, false] rfl rfl (by kernel_rfl) (fun _ _ _ h => h) (Or.inl ⟨by rfl, fun w' hw => run_conv rfl hw⟩) hS ?_ ?_
      rotate_left
      · simp only [Act.put, List.setIfInBounds_toArray, List.set_cons_zero, List.set_cons_succ]; rfl
      refine one_ (i := 1) (N := some 76) #[true, true, false, true, true, false, false, false, false, false, false] rfl rfl (by kernel_rfl) (by decide) (fun K hK => ?_)
      refine goes_ Try.func26 (by kernel_rfl) rfl #[.int .i64 x0] (by rfl) rfl rfl (by go_simp) ?_
      refine (lurcherref01_Sequence.calls x0 (seqP x0) _ rfl).mono ?_
      rintro e w8 ⟨v, rfl, hR, hb⟩
      obtain ⟨A8, c8, rfl⟩ := Kd.R_slice hR
      have C8 := Aside0.mk (Kd.R_reads' hR).2.2
      have B8 := Aside0.mk (below_step BD hb)
      refine ⟨_, rfl, hK.out _ _ (Kd.C_below hS hb) (fun hS => ?_)⟩
      clear hK K hR hb
      refine norm_ (by simp only [Act.put, List.setIfInBounds_toArray, List.set_cons_zero, List.set_cons_succ]; rfl) ?_
      refine one_ (i := 2) (N := some 77) #[true, true, true, true, true, false, false, false, false, false, false] rfl rfl (by kernel_rfl) (by decide) (fun K hK => ?_)
      refine value_ (by rfl) rfl (run_conv rfl C8.out) ?_
      refine hK.out _ _ hS (fun hS => ?_)
      clear hK K
      refine norm_ (by simp only [Act.put, List.setIfInBounds_toArray, List.set_cons_zero, List.set_cons_succ]; rfl) ?_
      refine pure_ (i := 5) (N := some 80) (v := .bool false) (a' := ?_) #[true, true, true, true, true, true, false, false, false, false, false] rfl rfl (by kernel_rfl) (fun _ _ _ h => h) (Or.inl ⟨by rfl, fun w' => by go_simp⟩) ?_ ?_
      rotate_left
      · simp only [Act.put, List.setIfInBounds_toArray, List.set_cons_zero, List.set_cons_succ]; rfl
      refine pure_ (i := 6) (N := some 81) (v := .bool false) (a' := ?_) #[true, true, true, true, true, true, true, false, false, false, false] rfl rfl (by kernel_rfl) (fun _ _ _ h => h) (Or.inl ⟨by rfl, fun w' => by go_simp⟩) ?_ ?_
      rotate_left
      · simp only [Act.put, List.setIfInBounds_toArray, List.set_cons_zero, List.set_cons_succ]; rfl
      refine pure_ (i := 7) (N := some 82) (v := .slice (some ad0) 1 c) (a' := ?_) #[true, true, true, true, true, true, true, true, false, false, false] rfl rfl (by kernel_rfl) (fun _ _ _ h => h) (Or.inl ⟨by rfl, fun w' => by go_simp⟩) ?_ ?_
      rotate_left
      · simp only [Act.put, List.setIfInBounds_toArray, List.set_cons_zero, List.set_cons_succ]; rfl
      refine pure_ (i := 8) (N := some 83) (v := .int .i64 1) (a' := ?_) #[true, true, true, true, true, true, true, true, true, false, false] rfl rfl (by kernel_rfl) (fun _ _ _ h => h) (Or.inl ⟨by rfl, fun w' => by go_simp⟩) ?_ ?_
      rotate_left
      · simp only [Act.put, List.setIfInBounds_toArray, List.set_cons_zero, List.set_cons_succ]; rfl
      refine pure_ (i := 9) (N := some 84) (v := .bool false) (a' := ?_) #[true, true, true, true, true, true, true, true, true, true, false] rfl rfl (by kernel_rfl) (fun _ _ _ h => h) (Or.inl ⟨by rfl, fun w' => by go_simp⟩) ?_ ?_
      rotate_left
      · simp only [Act.put, List.setIfInBounds_toArray, List.set_cons_zero, List.set_cons_succ]; rfl
      refine pure_ (i := 10) (N := some 85) (v := .bool false) (a' := ?_) #[true, true, true, true, true, true, true, true, true, true, true] rfl rfl (by kernel_rfl) (fun _ _ _ h => h) (Or.inl ⟨by rfl, fun w' => by go_simp⟩) ?_ ?_
      rotate_left
      · simp only [Act.put, List.setIfInBounds_toArray, List.set_cons_zero, List.set_cons_succ]; rfl
      refine done_ (by kernel_rfl) ?_
      go_wp2_with fail
      go_ret
      exact ⟨by rw [hres]; rfl, B8.out⟩
    · have hres : ofP [x0] = -1 := by unfold ofP; rw [hcode, if_neg (fun h => hs h.1)]
      have hnl : (strOfNums (seqP x0)).toList ≠ (strOfNums [x0]).toList := fun h => hs (bytes_inj (seqP_byte _) hby h)
      have hne : ((strOfNums (seqP x0)).toList != (strOfNums [x0]).toList) = true := by simpa using hnl
      have heq : ((strOfNums (seqP x0)).toList == (strOfNums [x0]).toList) = false := by simpa using hnl
      refine start_ (n := 11) (S := fun w' => (Kd.int .u8).C w' (some ad0) 1 [x0]) (ds := []) #[false, false, false, false, false, false, false, false, false, false, false] (by kernel_rfl) rfl rfl (Kd.C_drew HCX.out) (fun hS => ?_)
      have BD := below_drew1 HBX.out
      generalize w.drew = wd at *
      refine pure_ (i := 0) (N := some 75) (v := .int .i64 x0) (a' := ?_) #[true, false, false, false, false, false, false, false, false, false, false] rfl rfl (by kernel_rfl) (fun _ _ _ h => h) (Or.inl ⟨by rfl, fun w' => by go_simp⟩) ?_ ?_
      rotate_left
      · simp only [Act.put, List.setIfInBounds_toArray, List.set_cons_zero, List.set_cons_succ]; rfl
      refine pure_ (i := 3) (N := some 78) (v := .slice (some ad0) 1 c) (a' := ?_) #[true, false, false, true, false, false, false, false, false, false, false] rfl rfl (by kernel_rfl) (fun _ _ _ h => h) (Or.inl ⟨by rfl, fun w' => by go_simp⟩) ?_ ?_
      rotate_left
      · simp only [Act.put, List.setIfInBounds_toArray, List.set_cons_zero, List.set_cons_succ]; rfl
      refine take_ (i := 4) (N := some 79) (v := .string (strOfNums [x0])) (a' := ?_) #[true, false, false, true, true, false, false, false, false, false, false] rfl rfl (by kernel_rfl) (fun _ _ _ h => h) (Or.inl ⟨by rfl, fun w' hw => run_conv rfl hw⟩) hS ?_ ?_
      rotate_left
      · simp only [Act.put, List.setIfInBounds_toArray, List.set_cons_zero, List.set_cons_succ]; rfl
      refine one_ (i := 1) (N := some 76) #[true, true, false, true, true, false, false, false, false, false, false] rfl rfl (by kernel_rfl) (by decide) (fun K hK => ?_)
      refine goes_ Try.func26 (by kernel_rfl) rfl #[.int .i64 x0] (by rfl) rfl rfl (by go_simp) ?_
      refine (lurcherref01_Sequence.calls x0 (seqP x0) _ rfl).mono ?_
      rintro e w8 ⟨v, rfl, hR, hb⟩
      obtain ⟨A8, c8, rfl⟩ := Kd.R_slice hR
      have C8 := Aside0.mk (Kd.R_reads' hR).2.2
      have B8 := Aside0.mk (below_step BD hb)
      refine ⟨_, rfl, hK.out _ _ (Kd.C_below hS hb) (fun hS => ?_)⟩
      clear hK K hR hb
      refine norm_ (by simp only [Act.put, List.setIfInBounds_toArray, List.set_cons_zero, List.set_cons_succ]; rfl) ?_
      refine one_ (i := 2) (N := some 77) #[true, true, true, true, true, false, false, false, false, false, false] rfl rfl (by kernel_rfl) (by decide) (fun K hK => ?_)
      refine value_ (by rfl) rfl (run_conv rfl C8.out) ?_
      refine hK.out _ _ hS (fun hS => ?_)
      clear hK K
      refine norm_ (by simp only [Act.put, List.setIfInBounds_toArray, List.set_cons_zero, List.set_cons_succ]; rfl) ?_
      refine pure_ (i := 5) (N := some 80) (v := .bool true) (a' := ?_) #[true, true, true, true, true, true, false, false, false, false, false] rfl rfl (by kernel_rfl) (fun _ _ _ h => h) (Or.inl ⟨by rfl, fun w' => by go_simp⟩) ?_ ?_
      rotate_left
      · simp only [Act.put, List.setIfInBounds_toArray, List.set_cons_zero, List.set_cons_succ]; rfl
      refine pure_ (i := 6) (N := some 81) (v := .bool true) (a' := ?_) #[true, true, true, true, true, true, true, false, false, false, false] rfl rfl (by kernel_rfl) (fun _ _ _ h => h) (Or.inl ⟨by rfl, fun w' => by go_simp⟩) ?_ ?_
      rotate_left
      · simp only [Act.put, List.setIfInBounds_toArray, List.set_cons_zero, List.set_cons_succ]; rfl
      refine pure_ (i := 7) (N := some 82) (v := undef) (a' := ?_) #[true, true, true, true, true, true, true, true, false, false, false] rfl rfl (by kernel_rfl) (fun _ _ _ h => h) (Or.inr ⟨by rfl, rfl⟩) ?_ ?_
      rotate_left
      · simp only [Act.put, List.setIfInBounds_toArray, List.set_cons_zero, List.set_cons_succ]; rfl
      refine pure_ (i := 8) (N := some 83) (v := undef) (a' := ?_) #[true, true, true, true, true, true, true, true, true, false, false] rfl rfl (by kernel_rfl) (fun _ _ _ h => h) (Or.inr ⟨by rfl, rfl⟩) ?_ ?_
      rotate_left
      · simp only [Act.put, List.setIfInBounds_toArray, List.set_cons_zero, List.set_cons_succ]; rfl
      refine pure_ (i := 9) (N := some 84) (v := undef) (a' := ?_) #[true, true, true, true, true, true, true, true, true, true, false] rfl rfl (by kernel_rfl) (fun _ _ _ h => h) (Or.inr ⟨by rfl, rfl⟩) ?_ ?_
      rotate_left
      · simp only [Act.put, List.setIfInBounds_toArray, List.set_cons_zero, List.set_cons_succ]; rfl
      refine pure_ (i := 10) (N := some 85) (v := .bool true) (a' := ?_) #[true, true, true, true, true, true, true, true, true, true, true] rfl rfl (by kernel_rfl) (fun _ _ _ h => h) (Or.inl ⟨by rfl, fun w' => by go_simp⟩) ?_ ?_
      rotate_left
      · simp only [Act.put, List.setIfInBounds_toArray, List.set_cons_zero, List.set_cons_succ]; rfl
      refine done_ (by kernel_rfl) ?_
      go_wp2_with fail
      go_ret
      exact ⟨by rw [hres]; rfl, B8.out⟩
  · skip
    obtain ⟨x0, x1, rfl⟩ : ∃ x0 x1, l = [x0, x1] := by
      match l, h with
      | [x0, x1], _ => exact ⟨x0, x1, rfl⟩
    have bx0 : Byte x0 := hby x0 (by simp)
    have bx1 : Byte x1 := hby x1 (by simp)
    unfold Byte at bx0 bx1
    have hcode : codeOf [x0, x1] = ((x0 - 192) * 64 + x1 - 128) := rfl
    obtain ⟨ad0, e0, q0⟩ := Kd.at_int HR.out 0 (by omega) (by simp)
    subst e0
    rw [show rd [x0, x1] 0 = x0 from rfl] at q0
    rw [show ((0 : Int)).toNat = 0 from rfl, Addr.add_zero'] at q0
    obtain ⟨ad1, e1, q1⟩ := Kd.at_int HR.out 1 (by omega) (by simp)
    cases e1
    rw [show rd [x0, x1] 1 = x1 from rfl] at q1
    have q1 : w.cell? ⟨ad0.block, ad0.off + 1, none⟩ = some (.int .u8 x1) := q1
    have HCX := HR
    go_enter Try.func24, Try.ntmps24
    go_wp2_with fail
    go_quiet (fail)
    have HCX := Aside0.mk (Kd.C_drewN HR.out nq)
    have HBX := Aside0.mk (below_dn HBX.out nq)
    go_wp2_with fail
    try simp (disch := omega) only [wrap_ok]
    by_cases hs : seqP ((x0 - 192) * 64 + x1 - 128) = [x0, x1]
    · have hres : ofP [x0, x1] = ((x0 - 192) * 64 + x1 - 128) := by unfold ofP; rw [hcode, if_pos ⟨hs, by simp⟩]
      have hne : ((strOfNums (seqP ((x0 - 192) * 64 + x1 - 128))).toList != (strOfNums [x0, x1]).toList) = false := by rw [hs]; simp
      have heq : ((strOfNums (seqP ((x0 - 192) * 64 + x1 - 128))).toList == (strOfNums [x0, x1]).toList) = true := by rw [hs]; simp
      refine start_ (n := 11) (S := fun w' => (Kd.int .u8).C w' (some ad0) 2 [x0, x1]) (ds := []) #[false, false, false, false, false, false, false, false, false, false, false] (by kernel_rfl) rfl rfl (Kd.C_drew HCX.out) (fun hS => ?_)
      have BD := below_drew1 HBX.out
      generalize (w.drewN nq).drew = wd at *
      refine pure_ (i := 0) (N := some 75) (v := .int .i64 ((x0 - 192) * 64 + x1 - 128)) (a' := ?_) #[true, false, false, false, false, false, false, false, false, false, false] rfl rfl (by kernel_rfl) (fun _ _ _ h => h) (Or.inl ⟨by rfl, fun w' => by go_simp⟩) ?_ ?_
      rotate_left
      · simp only [Act.put, List.setIfInBounds_toArray, List.set_cons_zero, List.set_cons_succ]; rfl
      refine pure_ (i := 3) (N := some 78) (v := .slice (some ad0) 2 c) (a' := ?_) #[true, false, false, true, false, false, false, false, false, false, false] rfl rfl (by kernel_rfl) (fun _ _ _ h => h) (Or.inl ⟨by rfl, fun w' => by go_simp⟩) ?_ ?_
      rotate_left
      · simp only [Act.put, List.setIfInBounds_toArray, List.set_cons_zero, List.set_cons_succ]; rfl
      refine take_ (i := 4) (N := some 79) (v := .string (strOfNums [x0, x1])) (a' := ?_) #[true, false, false, true, true, false, false, false, false, false, false] rfl rfl (by kernel_rfl) (fun _ _ _ h => h) (Or.inl ⟨by rfl, fun w' hw => run_conv rfl hw⟩) hS ?_ ?_
      rotate_left
      · simp only [Act.put, List.setIfInBounds_toArray, List.set_cons_zero, List.set_cons_succ]; rfl
      refine one_ (i := 1) (N := some 76) #[true, true, false, true, true, false, false, false, false, false, false] rfl rfl (by kernel_rfl) (by decide) (fun K hK => ?_)
      refine goes_ Try.func26 (by kernel_rfl) rfl #[.int .i64 ((x0 - 192) * 64 + x1 - 128)] (by rfl) rfl rfl (by go_simp) ?_
      refine (lurcherref01_Sequence.calls ((x0 - 192) * 64 + x1 - 128) (seqP ((x0 - 192) * 64 + x1 - 128)) _ rfl).mono ?_
      rintro e w8 ⟨v, rfl, hR, hb⟩
      obtain ⟨A8, c8, rfl⟩ := Kd.R_slice hR
      have C8 := Aside0.mk (Kd.R_reads' hR).2.2
      have B8 := Aside0.mk (below_step BD hb)
      refine ⟨_, rfl, hK.out _ _ (Kd.C_below hS hb) (fun hS => ?_)⟩
      clear hK K hR hb
      refine norm_ (by simp only [Act.put, List.setIfInBounds_toArray, List.set_cons_zero, List.set_cons_succ]; rfl) ?_
      refine one_ (i := 2) (N := some 77) #[true, true, true, true, true, false, false, false, false, false, false] rfl rfl (by kernel_rfl) (by decide) (fun K hK => ?_)
      refine value_ (by rfl) rfl (run_conv rfl C8.out) ?_
      refine hK.out _ _ hS (fun hS => ?_)
      clear hK K
      refine norm_ (by simp only [Act.put, List.setIfInBounds_toArray, List.set_cons_zero, List.set_cons_succ]; rfl) ?_
      refine pure_ (i := 5) (N := some 80) (v := .bool false) (a' := ?_) #[true, true, true, true, true, true, false, false, false, false, false] rfl rfl (by kernel_rfl) (fun _ _ _ h => h) (Or.inl ⟨by rfl, fun w' => by go_simp⟩) ?_ ?_
      rotate_left
      · simp only [Act.put, List.setIfInBounds_toArray, List.set_cons_zero, List.set_cons_succ]; rfl
      refine pure_ (i := 6) (N := some 81) (v := .bool false) (a' := ?_) #[true, true, true, true, true, true, true, false, false, false, false] rfl rfl (by kernel_rfl) (fun _ _ _ h => h) (Or.inl ⟨by rfl, fun w' => by go_simp⟩) ?_ ?_
      rotate_left
      · simp only [Act.put, List.setIfInBounds_toArray, List.set_cons_zero, List.set_cons_succ]; rfl
      refine pure_ (i := 7) (N := some 82) (v := .slice (some ad0) 2 c) (a' := ?_) #[true, true, true, true, true, true, true, true, false, false, false] rfl rfl (by kernel_rfl) (fun _ _ _ h => h) (Or.inl ⟨by rfl, fun w' => by go_simp⟩) ?_ ?_
      rotate_left
      · simp only [Act.put, List.setIfInBounds_toArray, List.set_cons_zero, List.set_cons_succ]; rfl
      refine pure_ (i := 8) (N := some 83) (v := .int .i64 2) (a' := ?_) #[true, true, true, true, true, true, true, true, true, false, false] rfl rfl (by kernel_rfl) (fun _ _ _ h => h) (Or.inl ⟨by rfl, fun w' => by go_simp⟩) ?_ ?_
      rotate_left
      · simp only [Act.put, List.setIfInBounds_toArray, List.set_cons_zero, List.set_cons_succ]; rfl
      refine pure_ (i := 9) (N := some 84) (v := .bool false) (a' := ?_) #[true, true, true, true, true, true, true, true, true, true, false] rfl rfl (by kernel_rfl) (fun _ _ _ h => h) (Or.inl ⟨by rfl, fun w' => by go_simp⟩) ?_ ?_
      rotate_left
      · simp only [Act.put, List.setIfInBounds_toArray, List.set_cons_zero, List.set_cons_succ]; rfl
      refine pure_ (i := 10) (N := some 85) (v := .bool false) (a' := ?_) #[true, true, true, true, true, true, true, true, true, true, true] rfl rfl (by kernel_rfl) (fun _ _ _ h => h) (Or.inl ⟨by rfl, fun w' => by go_simp⟩) ?_ ?_
      rotate_left
      · simp only [Act.put, List.setIfInBounds_toArray, List.set_cons_zero, List.set_cons_succ]; rfl
      refine done_ (by kernel_rfl) ?_
      go_wp2_with fail
      go_ret
      exact ⟨by rw [hres]; rfl, B8.out⟩
    · have hres : ofP [x0, x1] = -1 := by unfold ofP; rw [hcode, if_neg (fun h => hs h.1)]
      have hnl : (strOfNums (seqP ((x0 - 192) * 64 + x1 - 128))).toList ≠ (strOfNums [x0, x1]).toList := fun h => hs (bytes_inj (seqP_byte _) hby h)
      have hne : ((strOfNums (seqP ((x0 - 192) * 64 + x1 - 128))).toList != (strOfNums [x0, x1]).toList) = true := by simpa using hnl
      have heq : ((strOfNums (seqP ((x0 - 192) * 64 + x1 - 128))).toList == (strOfNums [x0, x1]).toList) = false := by simpa using hnl
      refine start_ (n := 11) (S := fun w' => (Kd.int .u8).C w' (some ad0) 2 [x0, x1]) (ds := []) #[false, false, false, false, false, false, false, false, false, false, false] (by kernel_rfl) rfl rfl (Kd.C_drew HCX.out) (fun hS => ?_)
      have BD := below_drew1 HBX.out
      generalize (w.drewN nq).drew = wd at *
      refine pure_ (i := 0) (N := some 75) (v := .int .i64 ((x0 - 192) * 64 + x1 - 128)) (a' := ?_) #[true, false, false, false, false, false, false, false, false, false, false] rfl rfl (by kernel_rfl) (fun _ _ _ h => h) (Or.inl ⟨by rfl, fun w' => by go_simp⟩) ?_ ?_
      rotate_left
      · simp only [Act.put, List.setIfInBounds_toArray, List.set_cons_zero, List.set_cons_succ]; rfl
      refine pure_ (i := 3) (N := some 78) (v := .slice (some ad0) 2 c) (a' := ?_) #[true, false, false, true, false, false, false, false, false, false, false] rfl rfl (by kernel_rfl) (fun _ _ _ h => h) (Or.inl ⟨by rfl, fun w' => by go_simp⟩) ?_ ?_
      rotate_left
      · simp only [Act.put, List.setIfInBounds_toArray, List.set_cons_zero, List.set_cons_succ]; rfl
      refine take_ (i := 4) (N := some 79) (v := .string (strOfNums [x0, x1])) (a' := ?_) #[true, false, false, true, true, false, false, false, false, false, false] rfl rfl (by kernel_rfl) (fun _ _ _ h => h) (Or.inl ⟨by rfl, fun w' hw => run_conv rfl hw⟩) hS ?_ ?_
      rotate_left
      · simp only [Act.put, List.setIfInBounds_toArray, List.set_cons_zero, List.set_cons_succ]; rfl
      refine one_ (i := 1) (N := some 76) #[true, true, false, true, true, false, false, false, false, false, false] rfl rfl (by kernel_rfl) (by decide) (fun K hK => ?_)
      refine goes_ Try.func26 (by kernel_rfl) rfl #[.int .i64 ((x0 - 192) * 64 + x1 - 128)] (by rfl) rfl rfl (by go_simp) ?_
      refine (lurcherref01_Sequence.calls ((x0 - 192) * 64 + x1 - 128) (seqP ((x0 - 192) * 64 + x1 - 128)) _ rfl).mono ?_
      rintro e w8 ⟨v, rfl, hR, hb⟩
      obtain ⟨A8, c8, rfl⟩ := Kd.R_slice hR
      have C8 := Aside0.mk (Kd.R_reads' hR).2.2
      have B8 := Aside0.mk (below_step BD hb)
      refine ⟨_, rfl, hK.out _ _ (Kd.C_below hS hb) (fun hS => ?_)⟩
      clear hK K hR hb
      refine norm_ (by simp only [Act.put, List.setIfInBounds_toArray, List.set_cons_zero, List.set_cons_succ]; rfl) ?_
      refine one_ (i := 2) (N := some 77) #[true, true, true, true, true, false, false, false, false, false, false] rfl rfl (by kernel_rfl) (by decide) (fun K hK => ?_)
      refine value_ (by rfl) rfl (run_conv rfl C8.out) ?_
      refine hK.out _ _ hS (fun hS => ?_)
      clear hK K
      refine norm_ (by simp only [Act.put, List.setIfInBounds_toArray, List.set_cons_zero, List.set_cons_succ]; rfl) ?_
      refine pure_ (i := 5) (N := some 80) (v := .bool true) (a' := ?_) #[true, true, true, true, true, true, false, false, false, false, false] rfl rfl (by kernel_rfl) (fun _ _ _ h => h) (Or.inl ⟨by rfl, fun w' => by go_simp⟩) ?_ ?_
      rotate_left
      · simp only [Act.put, List.setIfInBounds_toArray, List.set_cons_zero, List.set_cons_succ]; rfl
      refine pure_ (i := 6) (N := some 81) (v := .bool true) (a' := ?_) #[true, true, true, true, true, true, true, false, false, false, false] rfl rfl (by kernel_rfl) (fun _ _ _ h => h) (Or.inl ⟨by rfl, fun w' => by go_simp⟩) ?_ ?_
      rotate_left
      · simp only [Act.put, List.setIfInBounds_toArray, List.set_cons_zero, List.set_cons_succ]; rfl
      refine pure_ (i := 7) (N := some 82) (v := undef) (a' := ?_) #[true, true, true, true, true, true, true, true, false, false, false] rfl rfl (by kernel_rfl) (fun _ _ _ h => h) (Or.inr ⟨by rfl, rfl⟩) ?_ ?_
      rotate_left
      · simp only [Act.put, List.setIfInBounds_toArray, List.set_cons_zero, List.set_cons_succ]; rfl
      refine pure_ (i := 8) (N := some 83) (v := undef) (a' := ?_) #[true, true, true, true, true, true, true, true, true, false, false] rfl rfl (by kernel_rfl) (fun _ _ _ h => h) (Or.inr ⟨by rfl, rfl⟩) ?_ ?_
      rotate_left
      · simp only [Act.put, List.setIfInBounds_toArray, List.set_cons_zero, List.set_cons_succ]; rfl
      refine pure_ (i := 9) (N := some 84) (v := undef) (a' := ?_) #[true, true, true, true, true, true, true, true, true, true, false] rfl rfl (by kernel_rfl) (fun _ _ _ h => h) (Or.inr ⟨by rfl, rfl⟩) ?_ ?_
      rotate_left
      · simp only [Act.put, List.setIfInBounds_toArray, List.set_cons_zero, List.set_cons_succ]; rfl
      refine pure_ (i := 10) (N := some 85) (v := .bool true) (a' := ?_) #[true, true, true, true, true, true, true, true, true, true, true] rfl rfl (by kernel_rfl) (fun _ _ _ h => h) (Or.inl ⟨by rfl, fun w' => by go_simp⟩) ?_ ?_
      rotate_left
      · simp only [Act.put, List.setIfInBounds_toArray, List.set_cons_zero, List.set_cons_succ]; rfl
      refine done_ (by kernel_rfl) ?_
      go_wp2_with fail
      go_ret
      exact ⟨by rw [hres]; rfl, B8.out⟩
  · skip
    obtain ⟨x0, x1, x2, rfl⟩ : ∃ x0 x1 x2, l = [x0, x1, x2] := by
      match l, h with
      | [x0, x1, x2], _ => exact ⟨x0, x1, x2, rfl⟩
    have bx0 : Byte x0 := hby x0 (by simp)
    have bx1 : Byte x1 := hby x1 (by simp)
    have bx2 : Byte x2 := hby x2 (by simp)
    unfold Byte at bx0 bx1 bx2
    have hcode : codeOf [x0, x1, x2] = ((x0 - 224) * 4096 + (x1 - 128) * 64 + x2 - 128) := rfl
    obtain ⟨ad0, e0, q0⟩ := Kd.at_int HR.out 0 (by omega) (by simp)
    subst e0
    rw [show rd [x0, x1, x2] 0 = x0 from rfl] at q0
    rw [show ((0 : Int)).toNat = 0 from rfl, Addr.add_zero'] at q0
    obtain ⟨ad1, e1, q1⟩ := Kd.at_int HR.out 1 (by omega) (by simp)
    cases e1
    rw [show rd [x0, x1, x2] 1 = x1 from rfl] at q1
    have q1 : w.cell? ⟨ad0.block, ad0.off + 1, none⟩ = some (.int .u8 x1) := q1
    obtain ⟨ad2, e2, q2⟩ := Kd.at_int HR.out 2 (by omega) (by simp)
    cases e2
    rw [show rd [x0, x1, x2] 2 = x2 from rfl] at q2
    have q2 : w.cell? ⟨ad0.block, ad0.off + 2, none⟩ = some (.int .u8 x2) := q2
    have HCX := HR
    go_enter Try.func24, Try.ntmps24
    go_wp2_with fail
    go_quiet (fail)
    have HCX := Aside0.mk (Kd.C_drewN HR.out nq)
    have HBX := Aside0.mk (below_dn HBX.out nq)
    go_wp2_with fail
    try simp (disch := omega) only [wrap_ok]
    by_cases hs : seqP ((x0 - 224) * 4096 + (x1 - 128) * 64 + x2 - 128) = [x0, x1, x2]
    · have hres : ofP [x0, x1, x2] = ((x0 - 224) * 4096 + (x1 - 128) * 64 + x2 - 128) := by unfold ofP; rw [hcode, if_pos ⟨hs, by simp⟩]
      have hne : ((strOfNums (seqP ((x0 - 224) * 4096 + (x1 - 128) * 64 + x2 - 128))).toList != (strOfNums [x0, x1, x2]).toList) = false := by rw [hs]; simp
      have heq : ((strOfNums (seqP ((x0 - 224) * 4096 + (x1 - 128) * 64 + x2 - 128))).toList == (strOfNums [x0, x1, x2]).toList) = true := by rw [hs]; simp
      refine start_ (n := 11) (S := fun w' => (Kd.int .u8).C w' (some ad0) 3 [x0, x1, x2]) (ds := []) #[false, false, false, false, false, false, false, false, false, false, false] (by kernel_rfl) rfl rfl (Kd.C_drew HCX.out) (fun hS => ?_)
      have BD := below_drew1 HBX.out
      generalize (w.drewN nq).drew = wd at *
      refine pure_ (i := 0) (N := some 75) (v := .int .i64 ((x0 - 224) * 4096 + (x1 - 128) * 64 + x2 - 128)) (a' := ?_) #[true, false, false, false, false, false, false, false, false, false, false] rfl rfl (by kernel_rfl) (fun _ _ _ h => h) (Or.inl ⟨by rfl, fun w' => by go_simp⟩) ?_ ?_
      rotate_left
      · simp only [Act.put, List.setIfInBounds_toArray, List.set_cons_zero, List.set_cons_succ]; rfl
      refine pure_ (i := 3) (N := some 78) (v := .slice (some ad0) 3 c) (a' := ?_) #[true, false, false, true, false, false, false, false, false, false, false] rfl rfl (by kernel_rfl) (fun _ _ _ h => h) (Or.inl ⟨by rfl, fun w' => by go_simp⟩) ?_ ?_
      rotate_left
      · simp only [Act.put, List.setIfInBounds_toArray, List.set_cons_zero, List.set_cons_succ]; rfl
      refine take_ (i := 4) (N := some 79) (v := .string (strOfNums [x0, x1, x2])) (a' := ?_) #[true, false, false, true, true, false, false, false, false, false, false] rfl rfl (by kernel_rfl) (fun _ _ _ h => h) (Or.inl ⟨by rfl, fun w' hw => run_conv rfl hw⟩) hS ?_ ?_
      rotate_left
      · simp only [Act.put, List.setIfInBounds_toArray, List.set_cons_zero, List.set_cons_succ]; rfl
      refine one_ (i := 1) (N := some 76) #[true, true, false, true, true, false, false, false, false, false, false] rfl rfl (by kernel_rfl) (by decide) (fun K hK => ?_)
      refine goes_ Try.func26 (by kernel_rfl) rfl #[.int .i64 ((x0 - 224) * 4096 + (x1 - 128) * 64 + x2 - 128)] (by rfl) rfl rfl (by go_simp) ?_
      refine (lurcherref01_Sequence.calls ((x0 - 224) * 4096 + (x1 - 128) * 64 + x2 - 128) (seqP ((x0 - 224) * 4096 + (x1 - 128) * 64 + x2 - 128)) _ rfl).mono ?_
      rintro e w8 ⟨v, rfl, hR, hb⟩
      obtain ⟨A8, c8, rfl⟩ := Kd.R_slice hR
      have C8 := Aside0.mk (Kd.R_reads' hR).2.2
      have B8 := Aside0.mk (below_step BD hb)
      refine ⟨_, rfl, hK.out _ _ (Kd.C_below hS hb) (fun hS => ?_)⟩
      clear hK K hR hb
      refine norm_ (by simp only [Act.put, List.setIfInBounds_toArray, List.set_cons_zero, List.set_cons_succ]; rfl) ?_
      refine one_ (i := 2) (N := some 77) #[true, true, true, true, true, false, false, false, false, false, false] rfl rfl (by kernel_rfl) (by decide) (fun K hK => ?_)
      refine value_ (by rfl) rfl (run_conv rfl C8.out) ?_
      refine hK.out _ _ hS (fun hS => ?_)
      clear hK K
      refine norm_ (by simp only [Act.put, List.setIfInBounds_toArray, List.set_cons_zero, List.set_cons_succ]; rfl) ?_
      refine pure_ (i := 5) (N := some 80) (v := .bool false) (a' := ?_) #[true, true, true, true, true, true, false, false, false, false, false] rfl rfl (by kernel_rfl) (fun _ _ _ h => h) (Or.inl ⟨by rfl, fun w' => by go_simp⟩) ?_ ?_
      rotate_left
      · simp only [Act.put, List.setIfInBounds_toArray, List.set_cons_zero, List.set_cons_succ]; rfl
      refine pure_ (i := 6) (N := some 81) (v := .bool false) (a' := ?_) #[true, true, true, true, true, true, true, false, false, false, false] rfl rfl (by kernel_rfl) (fun _ _ _ h => h) (Or.inl ⟨by rfl, fun w' => by go_simp⟩) ?_ ?_
      rotate_left
      · simp only [Act.put, List.setIfInBounds_toArray, List.set_cons_zero, List.set_cons_succ]; rfl
      refine pure_ (i := 7) (N := some 82) (v := .slice (some ad0) 3 c) (a' := ?_) #[true, true, true, true, true, true, true, true, false, false, false] rfl rfl (by kernel_rfl) (fun _ _ _ h => h) (Or.inl ⟨by rfl, fun w' => by go_simp⟩) ?_ ?_
      rotate_left
      · simp only [Act.put, List.setIfInBounds_toArray, List.set_cons_zero, List.set_cons_succ]; rfl
      refine pure_ (i := 8) (N := some 83) (v := .int .i64 3) (a' := ?_) #[true, true, true, true, true, true, true, true, true, false, false] rfl rfl (by kernel_rfl) (fun _ _ _ h => h) (Or.inl ⟨by rfl, fun w' => by go_simp⟩) ?_ ?_
      rotate_left
      · simp only [Act.put, List.setIfInBounds_toArray, List.set_cons_zero, List.set_cons_succ]; rfl
      refine pure_ (i := 9) (N := some 84) (v := .bool false) (a' := ?_) #[true, true, true, true, true, true, true, true, true, true, false] rfl rfl (by kernel_rfl) (fun _ _ _ h => h) (Or.inl ⟨by rfl, fun w' => by go_simp⟩) ?_ ?_
      rotate_left
      · simp only [Act.put, List.setIfInBounds_toArray, List.set_cons_zero, List.set_cons_succ]; rfl
      refine pure_ (i := 10) (N := some 85) (v := .bool false) (a' := ?_) #[true, true, true, true, true, true, true, true, true, true, true] rfl rfl (by kernel_rfl) (fun _ _ _ h => h) (Or.inl ⟨by rfl, fun w' => by go_simp⟩) ?_ ?_
      rotate_left
      · simp only [Act.put, List.setIfInBounds_toArray, List.set_cons_zero, List.set_cons_succ]; rfl
      refine done_ (by kernel_rfl) ?_
      go_wp2_with fail
      go_ret
      exact ⟨by rw [hres]; rfl, B8.out⟩
    · have hres : ofP [x0, x1, x2] = -1 := by unfold ofP; rw [hcode, if_neg (fun h => hs h.1)]
      have hnl : (strOfNums (seqP ((x0 - 224) * 4096 + (x1 - 128) * 64 + x2 - 128))).toList ≠ (strOfNums [x0, x1, x2]).toList := fun h => hs (bytes_inj (seqP_byte _) hby h)
      have hne : ((strOfNums (seqP ((x0 - 224) * 4096 + (x1 - 128) * 64 + x2 - 128))).toList != (strOfNums [x0, x1, x2]).toList) = true := by simpa using hnl
      have heq : ((strOfNums (seqP ((x0 - 224) * 4096 + (x1 - 128) * 64 + x2 - 128))).toList == (strOfNums [x0, x1, x2]).toList) = false := by simpa using hnl
      refine start_ (n := 11) (S := fun w' => (Kd.int .u8).C w' (some ad0) 3 [x0, x1, x2]) (ds := []) #[false, false, false, false, false, false, false, false, false, false, false] (by kernel_rfl) rfl rfl (Kd.C_drew HCX.out) (fun hS => ?_)
      have BD := below_drew1 HBX.out
      generalize (w.drewN nq).drew = wd at *
      refine pure_ (i := 0) (N := some 75) (v := .int .i64 ((x0 - 224) * 4096 + (x1 - 128) * 64 + x2 - 128)) (a' := ?_) #[true, false, false, false, false, false, false, false, false, false, false] rfl rfl (by kernel_rfl) (fun _ _ _ h => h) (Or.inl ⟨by rfl, fun w' => by go_simp⟩) ?_ ?_
      rotate_left
      · simp only [Act.put, List.setIfInBounds_toArray, List.set_cons_zero, List.set_cons_succ]; rfl
      refine pure_ (i := 3) (N := some 78) (v := .slice (some ad0) 3 c) (a' := ?_) #[true, false, false, true, false, false, false, false, false, false, false] rfl rfl (by kernel_rfl) (fun _ _ _ h => h) (Or.inl ⟨by rfl, fun w' => by go_simp⟩) ?_ ?_
      rotate_left
      · simp only [Act.put, List.setIfInBounds_toArray, List.set_cons_zero, List.set_cons_succ]; rfl
      refine take_ (i := 4) (N := some 79) (v := .string (strOfNums [x0, x1, x2])) (a' := ?_) #[true, false, false, true, true, false, false, false, false, false, false] rfl rfl (by kernel_rfl) (fun _ _ _ h => h) (Or.inl ⟨by rfl, fun w' hw => run_conv rfl hw⟩) hS ?_ ?_
      rotate_left
      · simp only [Act.put, List.setIfInBounds_toArray, List.set_cons_zero, List.set_cons_succ]; rfl
      refine one_ (i := 1) (N := some 76) #[true, true, false, true, true, false, false, false, false, false, false] rfl rfl (by kernel_rfl) (by decide) (fun K hK => ?_)
      refine goes_ Try.func26 (by kernel_rfl) rfl #[.int .i64 ((x0 - 224) * 4096 + (x1 - 128) * 64 + x2 - 128)] (by rfl) rfl rfl (by go_simp) ?_
      refine (lurcherref01_Sequence.calls ((x0 - 224) * 4096 + (x1 - 128) * 64 + x2 - 128) (seqP ((x0 - 224) * 4096 + (x1 - 128) * 64 + x2 - 128)) _ rfl).mono ?_
      rintro e w8 ⟨v, rfl, hR, hb⟩
      obtain ⟨A8, c8, rfl⟩ := Kd.R_slice hR
      have C8 := Aside0.mk (Kd.R_reads' hR).2.2
      have B8 := Aside0.mk (below_step BD hb)
      refine ⟨_, rfl, hK.out _ _ (Kd.C_below hS hb) (fun hS => ?_)⟩
      clear hK K hR hb
      refine norm_ (by simp only [Act.put, List.setIfInBounds_toArray, List.set_cons_zero, List.set_cons_succ]; rfl) ?_
      refine one_ (i := 2) (N := some 77) #[true, true, true, true, true, false, false, false, false, false, false] rfl rfl (by kernel_rfl) (by decide) (fun K hK => ?_)
      refine value_ (by rfl) rfl (run_conv rfl C8.out) ?_
      refine hK.out _ _ hS (fun hS => ?_)
      clear hK K
      refine norm_ (by simp only [Act.put, List.setIfInBounds_toArray, List.set_cons_zero, List.set_cons_succ]; rfl) ?_
      refine pure_ (i := 5) (N := some 80) (v := .bool true) (a' := ?_) #[true, true, true, true, true, true, false, false, false, false, false] rfl rfl (by kernel_rfl) (fun _ _ _ h => h) (Or.inl ⟨by rfl, fun w' => by go_simp⟩) ?_ ?_
      rotate_left
      · simp only [Act.put, List.setIfInBounds_toArray, List.set_cons_zero, List.set_cons_succ]; rfl
      refine pure_ (i := 6) (N := some 81) (v := .bool true) (a' := ?_) #[true, true, true, true, true, true, true, false, false, false, false] rfl rfl (by kernel_rfl) (fun _ _ _ h => h) (Or.inl ⟨by rfl, fun w' => by go_simp⟩) ?_ ?_
      rotate_left
      · simp only [Act.put, List.setIfInBounds_toArray, List.set_cons_zero, List.set_cons_succ]; rfl
      refine pure_ (i := 7) (N := some 82) (v := undef) (a' := ?_) #[true, true, true, true, true, true, true, true, false, false, false] rfl rfl (by kernel_rfl) (fun _ _ _ h => h) (Or.inr ⟨by rfl, rfl⟩) ?_ ?_
      rotate_left
      · simp only [Act.put, List.setIfInBounds_toArray, List.set_cons_zero, List.set_cons_succ]; rfl
      refine pure_ (i := 8) (N := some 83) (v := undef) (a' := ?_) #[true, true, true, true, true, true, true, true, true, false, false] rfl rfl (by kernel_rfl) (fun _ _ _ h => h) (Or.inr ⟨by rfl, rfl⟩) ?_ ?_
      rotate_left
      · simp only [Act.put, List.setIfInBounds_toArray, List.set_cons_zero, List.set_cons_succ]; rfl
      refine pure_ (i := 9) (N := some 84) (v := undef) (a' := ?_) #[true, true, true, true, true, true, true, true, true, true, false] rfl rfl (by kernel_rfl) (fun _ _ _ h => h) (Or.inr ⟨by rfl, rfl⟩) ?_ ?_
      rotate_left
      · simp only [Act.put, List.setIfInBounds_toArray, List.set_cons_zero, List.set_cons_succ]; rfl
      refine pure_ (i := 10) (N := some 85) (v := .bool true) (a' := ?_) #[true, true, true, true, true, true, true, true, true, true, true] rfl rfl (by kernel_rfl) (fun _ _ _ h => h) (Or.inl ⟨by rfl, fun w' => by go_simp⟩) ?_ ?_
      rotate_left
      · simp only [Act.put, List.setIfInBounds_toArray, List.set_cons_zero, List.set_cons_succ]; rfl
      refine done_ (by kernel_rfl) ?_
      go_wp2_with fail
      go_ret
      exact ⟨by rw [hres]; rfl, B8.out⟩
  · skip
    obtain ⟨x0, x1, x2, x3, rfl⟩ : ∃ x0 x1 x2 x3, l = [x0, x1, x2, x3] := by
      match l, h with
      | [x0, x1, x2, x3], _ => exact ⟨x0, x1, x2, x3, rfl⟩
    have bx0 : Byte x0 := hby x0 (by simp)
    have bx1 : Byte x1 := hby x1 (by simp)
    have bx2 : Byte x2 := hby x2 (by simp)
    have bx3 : Byte x3 := hby x3 (by simp)
    unfold Byte at bx0 bx1 bx2 bx3
    have hcode : codeOf [x0, x1, x2, x3] = ((x0 - 240) * 262144 + (x1 - 128) * 4096 + (x2 - 128) * 64 + x3 - 128) := rfl
    obtain ⟨ad0, e0, q0⟩ := Kd.at_int HR.out 0 (by omega) (by simp)
    subst e0
    rw [show rd [x0, x1, x2, x3] 0 = x0 from rfl] at q0
    rw [show ((0 : Int)).toNat = 0 from rfl, Addr.add_zero'] at q0
    obtain ⟨ad1, e1, q1⟩ := Kd.at_int HR.out 1 (by omega) (by simp)
    cases e1
    rw [show rd [x0, x1, x2, x3] 1 = x1 from rfl] at q1
    have q1 : w.cell? ⟨ad0.block, ad0.off + 1, none⟩ = some (.int .u8 x1) := q1
    obtain ⟨ad2, e2, q2⟩ := Kd.at_int HR.out 2 (by omega) (by simp)
    cases e2
    rw [show rd [x0, x1, x2, x3] 2 = x2 from rfl] at q2
    have q2 : w.cell? ⟨ad0.block, ad0.off + 2, none⟩ = some (.int .u8 x2) := q2
    obtain ⟨ad3, e3, q3⟩ := Kd.at_int HR.out 3 (by omega) (by simp)
    cases e3
    rw [show rd [x0, x1, x2, x3] 3 = x3 from rfl] at q3
    have q3 : w.cell? ⟨ad0.block, ad0.off + 3, none⟩ = some (.int .u8 x3) := q3
    have HCX := HR
    go_enter Try.func24, Try.ntmps24
    go_wp2_with fail
    go_quiet (fail)
    have HCX := Aside0.mk (Kd.C_drewN HR.out nq)
    have HBX := Aside0.mk (below_dn HBX.out nq)
    go_wp2_with fail
    try simp (disch := omega) only [wrap_ok]
    by_cases hs : seqP ((x0 - 240) * 262144 + (x1 - 128) * 4096 + (x2 - 128) * 64 + x3 - 128) = [x0, x1, x2, x3]
    · have hres : ofP [x0, x1, x2, x3] = ((x0 - 240) * 262144 + (x1 - 128) * 4096 + (x2 - 128) * 64 + x3 - 128) := by unfold ofP; rw [hcode, if_pos ⟨hs, by simp⟩]
      have hne : ((strOfNums (seqP ((x0 - 240) * 262144 + (x1 - 128) * 4096 + (x2 - 128) * 64 + x3 - 128))).toList != (strOfNums [x0, x1, x2, x3]).toList) = false := by rw [hs]; simp
      have heq : ((strOfNums (seqP ((x0 - 240) * 262144 + (x1 - 128) * 4096 + (x2 - 128) * 64 + x3 - 128))).toList == (strOfNums [x0, x1, x2, x3]).toList) = true := by rw [hs]; simp
      refine start_ (n := 11) (S := fun w' => (Kd.int .u8).C w' (some ad0) 4 [x0, x1, x2, x3]) (ds := []) #[false, false, false, false, false, false, false, false, false, false, false] (by kernel_rfl) rfl rfl (Kd.C_drew HCX.out) (fun hS => ?_)
      have BD := below_drew1 HBX.out
      generalize (w.drewN nq).drew = wd at *
      refine pure_ (i := 0) (N := some 75) (v := .int .i64 ((x0 - 240) * 262144 + (x1 - 128) * 4096 + (x2 - 128) * 64 + x3 - 128)) (a' := ?_) #[true, false, false, false, false, false, false, false, false, false, false] rfl rfl (by kernel_rfl) (fun _ _ _ h => h) (Or.inl ⟨by rfl, fun w' => by go_simp⟩) ?_ ?_
      rotate_left
      · simp only [Act.put, List.setIfInBounds_toArray, List.set_cons_zero, List.set_cons_succ]; rfl
      refine pure_ (i := 3) (N := some 78) (v := .slice (some ad0) 4 c) (a' := ?_) #[true, false, false, true, false, false, false, false, false, false, false] rfl rfl (by kernel_rfl) (fun _ _ _ h => h) (Or.inl ⟨by rfl, fun w' => by go_simp⟩) ?_ ?_
      rotate_left
      · simp only [Act.put, List.setIfInBounds_toArray, List.set_cons_zero, List.set_cons_succ]; rfl
      refine take_ (i := 4) (N := some 79) (v := .string (strOfNums [x0, x1, x2, x3])) (a' := ?_) #[true, false, false, true, true, false, false, false, false, false, false] rfl rfl (by kernel_rfl) (fun _ _ _ h => h) (Or.inl ⟨by rfl, fun w' hw => run_conv rfl hw⟩) hS ?_ ?_
      rotate_left
      · simp only [Act.put, List.setIfInBounds_toArray, List.set_cons_zero, List.set_cons_succ]; rfl
      refine one_ (i := 1) (N := some 76) #[true, true, false, true, true, false, false, false, false, false, false] rfl rfl (by kernel_rfl) (by decide) (fun K hK => ?_)
      refine goes_ Try.func26 (by kernel_rfl) rfl #[.int .i64 ((x0 - 240) * 262144 + (x1 - 128) * 4096 + (x2 - 128) * 64 + x3 - 128)] (by rfl) rfl rfl (by go_simp) ?_
      refine (lurcherref01_Sequence.calls ((x0 - 240) * 262144 + (x1 - 128) * 4096 + (x2 - 128) * 64 + x3 - 128) (seqP ((x0 - 240) * 262144 + (x1 - 128) * 4096 + (x2 - 128) * 64 + x3 - 128)) _ rfl).mono ?_
      rintro e w8 ⟨v, rfl, hR, hb⟩
      obtain ⟨A8, c8, rfl⟩ := Kd.R_slice hR
      have C8 := Aside0.mk (Kd.R_reads' hR).2.2
      have B8 := Aside0.mk (below_step BD hb)
      refine ⟨_, rfl, hK.out _ _ (Kd.C_below hS hb) (fun hS => ?_)⟩
      clear hK K hR hb
      refine norm_ (by simp only [Act.put, List.setIfInBounds_toArray, List.set_cons_zero, List.set_cons_succ]; rfl) ?_
      refine one_ (i := 2) (N := some 77) #[true, true, true, true, true, false, false, false, false, false, false] rfl rfl (by kernel_rfl) (by decide) (fun K hK => ?_)
      refine value_ (by rfl) rfl (run_conv rfl C8.out) ?_
      refine hK.out _ _ hS (fun hS => ?_)
      clear hK K
      refine norm_ (by simp only [Act.put, List.setIfInBounds_toArray, List.set_cons_zero, List.set_cons_succ]; rfl) ?_
      refine pure_ (i := 5) (N := some 80) (v := .bool false) (a' := ?_) #[true, true, true, true, true, true, false, false, false, false, false] rfl rfl (by kernel_rfl) (fun _ _ _ h => h) (Or.inl ⟨by rfl, fun w' => by go_simp⟩) ?_ ?_
      rotate_left
      · simp only [Act.put, List.setIfInBounds_toArray, List.set_cons_zero, List.set_cons_succ]; rfl
      refine pure_ (i := 6) (N := some 81) (v := .bool false) (a' := ?_) #[true, true, true, true, true, true, true, false, false, false, false] rfl rfl (by kernel_rfl) (fun _ _ _ h => h) (Or.inl ⟨by rfl, fun w' => by go_simp⟩) ?_ ?_
      rotate_left
      · simp only [Act.put, List.setIfInBounds_toArray, List.set_cons_zero, List.set_cons_succ]; rfl
      refine pure_ (i := 7) (N := some 82) (v := .slice (some ad0) 4 c) (a' := ?_) #[true, true, true, true, true, true, true, true, false, false, false] rfl rfl (by kernel_rfl) (fun _ _ _ h => h) (Or.inl ⟨by rfl, fun w' => by go_simp⟩) ?_ ?_
      rotate_left
      · simp only [Act.put, List.setIfInBounds_toArray, List.set_cons_zero, List.set_cons_succ]; rfl
      refine pure_ (i := 8) (N := some 83) (v := .int .i64 4) (a' := ?_) #[true, true, true, true, true, true, true, true, true, false, false] rfl rfl (by kernel_rfl) (fun _ _ _ h => h) (Or.inl ⟨by rfl, fun w' => by go_simp⟩) ?_ ?_
      rotate_left
      · simp only [Act.put, List.setIfInBounds_toArray, List.set_cons_zero, List.set_cons_succ]; rfl
      refine pure_ (i := 9) (N := some 84) (v := .bool false) (a' := ?_) #[true, true, true, true, true, true, true, true, true, true, false] rfl rfl (by kernel_rfl) (fun _ _ _ h => h) (Or.inl ⟨by rfl, fun w' => by go_simp⟩) ?_ ?_
      rotate_left
      · simp only [Act.put, List.setIfInBounds_toArray, List.set_cons_zero, List.set_cons_succ]; rfl
      refine pure_ (i := 10) (N := some 85) (v := .bool false) (a' := ?_) #[true, true, true, true, true, true, true, true, true, true, true] rfl rfl (by kernel_rfl) (fun _ _ _ h => h) (Or.inl ⟨by rfl, fun w' => by go_simp⟩) ?_ ?_
      rotate_left
      · simp only [Act.put, List.setIfInBounds_toArray, List.set_cons_zero, List.set_cons_succ]; rfl
      refine done_ (by kernel_rfl) ?_
      go_wp2_with fail
      go_ret
      exact ⟨by rw [hres]; rfl, B8.out⟩
    · have hres : ofP [x0, x1, x2, x3] = -1 := by unfold ofP; rw [hcode, if_neg (fun h => hs h.1)]
      have hnl : (strOfNums (seqP ((x0 - 240) * 262144 + (x1 - 128) * 4096 + (x2 - 128) * 64 + x3 - 128))).toList ≠ (strOfNums [x0, x1, x2, x3]).toList := fun h => hs (bytes_inj (seqP_byte _) hby h)
      have hne : ((strOfNums (seqP ((x0 - 240) * 262144 + (x1 - 128) * 4096 + (x2 - 128) * 64 + x3 - 128))).toList != (strOfNums [x0, x1, x2, x3]).toList) = true := by simpa using hnl
      have heq : ((strOfNums (seqP ((x0 - 240) * 262144 + (x1 - 128) * 4096 + (x2 - 128) * 64 + x3 - 128))).toList == (strOfNums [x0, x1, x2, x3]).toList) = false := by simpa using hnl
      refine start_ (n := 11) (S := fun w' => (Kd.int .u8).C w' (some ad0) 4 [x0, x1, x2, x3]) (ds := []) #[false, false, false, false, false, false, false, false, false, false, false] (by kernel_rfl) rfl rfl (Kd.C_drew HCX.out) (fun hS => ?_)
      have BD := below_drew1 HBX.out
      generalize (w.drewN nq).drew = wd at *
      refine pure_ (i := 0) (N := some 75) (v := .int .i64 ((x0 - 240) * 262144 + (x1 - 128) * 4096 + (x2 - 128) * 64 + x3 - 128)) (a' := ?_) #[true, false, false, false, false, false, false, false, false, false, false] rfl rfl (by kernel_rfl) (fun _ _ _ h => h) (Or.inl ⟨by rfl, fun w' => by go_simp⟩) ?_ ?_
      rotate_left
      · simp only [Act.put, List.setIfInBounds_toArray, List.set_cons_zero, List.set_cons_succ]; rfl
      refine pure_ (i := 3) (N := some 78) (v := .slice (some ad0) 4 c) (a' := ?_) #[true, false, false, true, false, false, false, false, false, false, false] rfl rfl (by kernel_rfl) (fun _ _ _ h => h) (Or.inl ⟨by rfl, fun w' => by go_simp⟩) ?_ ?_
      rotate_left
      · simp only [Act.put, List.setIfInBounds_toArray, List.set_cons_zero, List.set_cons_succ]; rfl
      refine take_ (i := 4) (N := some 79) (v := .string (strOfNums [x0, x1, x2, x3])) (a' := ?_) #[true, false, false, true, true, false, false, false, false, false, false] rfl rfl (by kernel_rfl) (fun _ _ _ h => h) (Or.inl ⟨by rfl, fun w' hw => run_conv rfl hw⟩) hS ?_ ?_
      rotate_left
      · simp only [Act.put, List.setIfInBounds_toArray, List.set_cons_zero, List.set_cons_succ]; rfl
      refine one_ (i := 1) (N := some 76) #[true, true, false, true, true, false, false, false, false, false, false] rfl rfl (by kernel_rfl) (by decide) (fun K hK => ?_)
      refine goes_ Try.func26 (by kernel_rfl) rfl #[.int .i64 ((x0 - 240) * 262144 + (x1 - 128) * 4096 + (x2 - 128) * 64 + x3 - 128)] (by rfl) rfl rfl (by go_simp) ?_
      refine (lurcherref01_Sequence.calls ((x0 - 240) * 262144 + (x1 - 128) * 4096 + (x2 - 128) * 64 + x3 - 128) (seqP ((x0 - 240) * 262144 + (x1 - 128) * 4096 + (x2 - 128) * 64 + x3 - 128)) _ rfl).mono ?_
      rintro e w8 ⟨v, rfl, hR, hb⟩
      obtain ⟨A8, c8, rfl⟩ := Kd.R_slice hR
      have C8 := Aside0.mk (Kd.R_reads' hR).2.2
      have B8 := Aside0.mk (below_step BD hb)
      refine ⟨_, rfl, hK.out _ _ (Kd.C_below hS hb) (fun hS => ?_)⟩
      clear hK K hR hb
      refine norm_ (by simp only [Act.put, List.setIfInBounds_toArray, List.set_cons_zero, List.set_cons_succ]; rfl) ?_
      refine one_ (i := 2) (N := some 77) #[true, true, true, true, true, false, false, false, false, false, false] rfl rfl (by kernel_rfl) (by decide) (fun K hK => ?_)
      refine value_ (by rfl) rfl (run_conv rfl C8.out) ?_
      refine hK.out _ _ hS (fun hS => ?_)
      clear hK K
      refine norm_ (by simp only [Act.put, List.setIfInBounds_toArray, List.set_cons_zero, List.set_cons_succ]; rfl) ?_
      refine pure_ (i := 5) (N := some 80) (v := .bool true) (a' := ?_) #[true, true, true, true, true, true, false, false, false, false, false] rfl rfl (by kernel_rfl) (fun _ _ _ h => h) (Or.inl ⟨by rfl, fun w' => by go_simp⟩) ?_ ?_
      rotate_left
      · simp only [Act.put, List.setIfInBounds_toArray, List.set_cons_zero, List.set_cons_succ]; rfl
      refine pure_ (i := 6) (N := some 81) (v := .bool true) (a' := ?_) #[true, true, true, true, true, true, true, false, false, false, false] rfl rfl (by kernel_rfl) (fun _ _ _ h => h) (Or.inl ⟨by rfl, fun w' => by go_simp⟩) ?_ ?_
      rotate_left
      · simp only [Act.put, List.setIfInBounds_toArray, List.set_cons_zero, List.set_cons_succ]; rfl
      refine pure_ (i := 7) (N := some 82) (v := undef) (a' := ?_) #[true, true, true, true, true, true, true, true, false, false, false] rfl rfl (by kernel_rfl) (fun _ _ _ h => h) (Or.inr ⟨by rfl, rfl⟩) ?_ ?_
      rotate_left
      · simp only [Act.put, List.setIfInBounds_toArray, List.set_cons_zero, List.set_cons_succ]; rfl
      refine pure_ (i := 8) (N := some 83) (v := undef) (a' := ?_) #[true, true, true, true, true, true, true, true, true, false, false] rfl rfl (by kernel_rfl) (fun _ _ _ h => h) (Or.inr ⟨by rfl, rfl⟩) ?_ ?_
      rotate_left
      · simp only [Act.put, List.setIfInBounds_toArray, List.set_cons_zero, List.set_cons_succ]; rfl
      refine pure_ (i := 9) (N := some 84) (v := undef) (a' := ?_) #[true, true, true, true, true, true, true, true, true, true, false] rfl rfl (by kernel_rfl) (fun _ _ _ h => h) (Or.inr ⟨by rfl, rfl⟩) ?_ ?_
      rotate_left
      · simp only [Act.put, List.setIfInBounds_toArray, List.set_cons_zero, List.set_cons_succ]; rfl
      refine pure_ (i := 10) (N := some 85) (v := .bool true) (a' := ?_) #[true, true, true, true, true, true, true, true, true, true, true] rfl rfl (by kernel_rfl) (fun _ _ _ h => h) (Or.inl ⟨by rfl, fun w' => by go_simp⟩) ?_ ?_
      rotate_left
      · simp only [Act.put, List.setIfInBounds_toArray, List.set_cons_zero, List.set_cons_succ]; rfl
      refine done_ (by kernel_rfl) ?_
      go_wp2_with fail
      go_ret
      exact ⟨by rw [hres]; rfl, B8.out⟩
  · skip
    obtain ⟨hcode, hne0⟩ : codeOf l = -1 ∧ l ≠ [] := by
      match l, h with
      | _ :: _ :: _ :: _ :: _ :: _, _ => exact ⟨rfl, by simp⟩
    have HCX := HR
    go_enter Try.func24, Try.ntmps24
    go_wp2_with fail
    by_cases hs : seqP (-1) = l
    · have hres : ofP l = -1 := by unfold ofP; rw [hcode, if_pos ⟨hs, by exact hne0⟩]
      have hne : ((strOfNums (seqP (-1))).toList != (strOfNums l).toList) = false := by rw [hs]; simp
      have heq : ((strOfNums (seqP (-1))).toList == (strOfNums l).toList) = true := by rw [hs]; simp
      exact absurd hs.symm hne0
    · have hres : ofP l = -1 := by unfold ofP; rw [hcode, if_neg (fun h => hs h.1)]
      have hnl : (strOfNums (seqP (-1))).toList ≠ (strOfNums l).toList := fun h => hs (bytes_inj (seqP_byte _) hby h)
      have hne : ((strOfNums (seqP (-1))).toList != (strOfNums l).toList) = true := by simpa using hnl
      have heq : ((strOfNums (seqP (-1))).toList == (strOfNums l).toList) = false := by simpa using hnl
      refine start_ (n := 11) (S := fun w' => (Kd.int .u8).C w' A l.length l) (ds := []) #[false, false, false, false, false, false, false, false, false, false, false] (by kernel_rfl) rfl rfl (Kd.C_drew HCX.out) (fun hS => ?_)
      have BD := below_drew1 HBX.out
      generalize w.drew = wd at *
      refine pure_ (i := 0) (N := some 75) (v := .int .i64 (-1)) (a' := ?_) #[true, false, false, false, false, false, false, false, false, false, false] rfl rfl (by kernel_rfl) (fun _ _ _ h => h) (Or.inl ⟨by rfl, fun w' => by go_simp⟩) ?_ ?_
      rotate_left
      · simp only [Act.put, List.setIfInBounds_toArray, List.set_cons_zero, List.set_cons_succ]; rfl
      refine pure_ (i := 3) (N := some 78) (v := .slice A l.length c) (a' := ?_) #[true, false, false, true, false, false, false, false, false, false, false] rfl rfl (by kernel_rfl) (fun _ _ _ h => h) (Or.inl ⟨by rfl, fun w' => by go_simp⟩) ?_ ?_
      rotate_left
      · simp only [Act.put, List.setIfInBounds_toArray, List.set_cons_zero, List.set_cons_succ]; rfl
      refine take_ (i := 4) (N := some 79) (v := .string (strOfNums l)) (a' := ?_) #[true, false, false, true, true, false, false, false, false, false, false] rfl rfl (by kernel_rfl) (fun _ _ _ h => h) (Or.inl ⟨by rfl, fun w' hw => run_conv rfl hw⟩) hS ?_ ?_
      rotate_left
      · simp only [Act.put, List.setIfInBounds_toArray, List.set_cons_zero, List.set_cons_succ]; rfl
      refine one_ (i := 1) (N := some 76) #[true, true, false, true, true, false, false, false, false, false, false] rfl rfl (by kernel_rfl) (by decide) (fun K hK => ?_)
      refine goes_ Try.func26 (by kernel_rfl) rfl #[.int .i64 (-1)] (by rfl) rfl rfl (by go_simp) ?_
      refine (lurcherref01_Sequence.calls (-1) (seqP (-1)) _ rfl).mono ?_
      rintro e w8 ⟨v, rfl, hR, hb⟩
      obtain ⟨A8, c8, rfl⟩ := Kd.R_slice hR
      have C8 := Aside0.mk (Kd.R_reads' hR).2.2
      have B8 := Aside0.mk (below_step BD hb)
      refine ⟨_, rfl, hK.out _ _ (Kd.C_below hS hb) (fun hS => ?_)⟩
      clear hK K hR hb
      refine norm_ (by simp only [Act.put, List.setIfInBounds_toArray, List.set_cons_zero, List.set_cons_succ]; rfl) ?_
      refine one_ (i := 2) (N := some 77) #[true, true, true, true, true, false, false, false, false, false, false] rfl rfl (by kernel_rfl) (by decide) (fun K hK => ?_)
      refine value_ (by rfl) rfl (run_conv rfl C8.out) ?_
      refine hK.out _ _ hS (fun hS => ?_)
      clear hK K
      refine norm_ (by simp only [Act.put, List.setIfInBounds_toArray, List.set_cons_zero, List.set_cons_succ]; rfl) ?_
      refine pure_ (i := 5) (N := some 80) (v := .bool true) (a' := ?_) #[true, true, true, true, true, true, false, false, false, false, false] rfl rfl (by kernel_rfl) (fun _ _ _ h => h) (Or.inl ⟨by rfl, fun w' => by go_simp⟩) ?_ ?_
      rotate_left
      · simp only [Act.put, List.setIfInBounds_toArray, List.set_cons_zero, List.set_cons_succ]; rfl
      refine pure_ (i := 6) (N := some 81) (v := .bool true) (a' := ?_) #[true, true, true, true, true, true, true, false, false, false, false] rfl rfl (by kernel_rfl) (fun _ _ _ h => h) (Or.inl ⟨by rfl, fun w' => by go_simp⟩) ?_ ?_
      rotate_left
      · simp only [Act.put, List.setIfInBounds_toArray, List.set_cons_zero, List.set_cons_succ]; rfl
      refine pure_ (i := 7) (N := some 82) (v := undef) (a' := ?_) #[true, true, true, true, true, true, true, true, false, false, false] rfl rfl (by kernel_rfl) (fun _ _ _ h => h) (Or.inr ⟨by rfl, rfl⟩) ?_ ?_
      rotate_left
      · simp only [Act.put, List.setIfInBounds_toArray, List.set_cons_zero, List.set_cons_succ]; rfl
      refine pure_ (i := 8) (N := some 83) (v := undef) (a' := ?_) #[true, true, true, true, true, true, true, true, true, false, false] rfl rfl (by kernel_rfl) (fun _ _ _ h => h) (Or.inr ⟨by rfl, rfl⟩) ?_ ?_
      rotate_left
      · simp only [Act.put, List.setIfInBounds_toArray, List.set_cons_zero, List.set_cons_succ]; rfl
      refine pure_ (i := 9) (N := some 84) (v := undef) (a' := ?_) #[true, true, true, true, true, true, true, true, true, true, false] rfl rfl (by kernel_rfl) (fun _ _ _ h => h) (Or.inr ⟨by rfl, rfl⟩) ?_ ?_
      rotate_left
      · simp only [Act.put, List.setIfInBounds_toArray, List.set_cons_zero, List.set_cons_succ]; rfl
      refine pure_ (i := 10) (N := some 85) (v := .bool true) (a' := ?_) #[true, true, true, true, true, true, true, true, true, true, true] rfl rfl (by kernel_rfl) (fun _ _ _ h => h) (Or.inl ⟨by rfl, fun w' => by go_simp⟩) ?_ ?_
      rotate_left
      · simp only [Act.put, List.setIfInBounds_toArray, List.set_cons_zero, List.set_cons_succ]; rfl
      refine done_ (by kernel_rfl) ?_
      go_wp2_with fail
      go_ret
      exact ⟨by rw [hres]; rfl, B8.out⟩

def lurcherref01_Of.f (l0 : List Int) : Option Int := if l0.length < 4611686018427387904 ∧ l0.all (fun x => decide (0 ≤ x ∧ x < 256)) = true then some (ofP l0) else none
theorem lurcherref01_Of.calls (A0 : Option Addr) (c0 : Nat) (l0 : List Int) (r : Int) (w : World) (hr0 : Kd.C (Kd.int .u8) w A0 l0.length l0) (hc0 : l0.length ≤ c0) (h : lurcherref01_Of.f l0 = some r) :
    Calls Try.prog 24 #[.slice A0 l0.length c0] w fun e w' => e = .returned (.int .i64 r) ∧ Below w.heap.size w w' := by
  unfold lurcherref01_Of.f at h
  by_cases hc : l0.length < 4611686018427387904 ∧ l0.all (fun x => decide (0 ≤ x ∧ x < 256)) = true
  · rw [if_pos hc] at h
    cases h
    exact of_any A0 c0 l0 w hc.1 (fun x hx => by have := List.all_eq_true.1 hc.2 x hx; unfold Byte; simpa using this) hr0
  · rw [if_neg hc] at h
    cases h
end Go.Proofs.Ytijehblohblnbaa.UA
