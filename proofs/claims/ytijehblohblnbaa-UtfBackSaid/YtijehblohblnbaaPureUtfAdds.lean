import Derived.Test.YtijehblohblnbaaPu5
import Derived.Test.YtijehblohblnbaaUA4
namespace Go.Proofs.Ytijehblohblnbaa.UA
open Go.RowKit Go.Proofs.YtijehblohblnbaaW.PrintWords
set_option linter.unusedVariables false
set_option linter.unusedSimpArgs false

/-- From an offset on all is sequences. -/
inductive V (l : List Int) : Int → Prop
  | done : V l l.length
  | step (a : Int) : 0 ≤ a → a < l.length → (pt l a).2 > 0 → V l (a + (pt l a).2) → V l a
theorem pt_of_seq {l : List Int} {a : Int} {p : Int × Int} (hb : Byte (rd l a)) (ha : a < l.length) (h : Seq l a p) : pt l a = p := by
  cases h with
  | one x _ => exact pt_one hb ha x
  | two x k => exact pt_two hb ha x k
  | three x k => exact pt_three hb ha x k
  | four x k => exact pt_four hb ha x k
theorem seq_move {s y : List Int} {a a' : Int} {p : Int × Int} (h : Seq s a p) (hh : ∀ i : Int, 0 ≤ i → i < p.2 → rd y (a' + i) = rd s (a + i)) (hl : a' + p.2 ≤ y.length) : Seq y a' p := by
  cases h with
  | one x _ =>
    have e0 : rd y a' = rd s a := by simpa using hh 0 (by decide) (by simp)
    rw [← e0]; exact .one (by rw [e0]; exact x) hl
  | two x _ =>
    have e0 : rd y a' = rd s a := by simpa using hh 0 (by decide) (by simp)
    have e1 := hh 1 (by decide) (by simp)
    have ec : c2 y a' = c2 s a := by unfold c2; rw [e0, e1]
    rw [← ec]; exact .two (by unfold g2; rw [ec, e0, e1]; exact x) hl
  | three x _ =>
    have e0 : rd y a' = rd s a := by simpa using hh 0 (by decide) (by simp)
    have e1 := hh 1 (by decide) (by simp)
    have e2 := hh 2 (by decide) (by simp)
    have ec : c3 y a' = c3 s a := by unfold c3; rw [e0, e1, e2]
    rw [← ec]; exact .three (by unfold g3; rw [ec, e0, e1, e2]; exact x) hl
  | four x _ =>
    have e0 : rd y a' = rd s a := by simpa using hh 0 (by decide) (by simp)
    have e1 := hh 1 (by decide) (by simp)
    have e2 := hh 2 (by decide) (by simp)
    have e3 := hh 3 (by decide) (by simp)
    have ec : c4 y a' = c4 s a := by unfold c4; rw [e0, e1, e2, e3]
    rw [← ec]; exact .four (by unfold g4; rw [ec, e0, e1, e2, e3]; exact x) hl
theorem seq_of_pos {l : List Int} {a : Int} (hby : ∀ x ∈ l, Byte x) (h0 : 0 ≤ a) (ha : a < l.length) (h : (pt l a).2 > 0) : Seq l a (pt l a) := by
  rcases pt_seq l a (byte_at hby h0 ha) ha with hs | ⟨_, he⟩
  · exact hs
  · rw [he] at h; exact absurd h (by decide)
theorem rd_left (s t : List Int) {i : Int} (h0 : 0 ≤ i) (h : i < s.length) : rd (s ++ t) i = rd s i := by
  unfold rd
  rw [List.getD_eq_getElem?_getD, List.getD_eq_getElem?_getD, List.getElem?_append_left (by omega)]
theorem rd_right (s t : List Int) {i : Int} (h0 : 0 ≤ i) : rd (s ++ t) (s.length + i) = rd t i := by
  unfold rd
  rw [List.getD_eq_getElem?_getD, List.getD_eq_getElem?_getD, List.getElem?_append_right (by omega), show ((s.length : Int) + i).toNat - s.length = i.toNat by omega]
section
variable {s t : List Int}
theorem pt_left (hy : ∀ x ∈ s ++ t, Byte x) {a : Int} (h0 : 0 ≤ a) (ha : a < s.length) (h : (pt s a).2 > 0) : pt (s ++ t) a = pt s a := by
  have hs : ∀ x ∈ s, Byte x := fun x hx => hy x (List.mem_append_left _ hx)
  have hq := seq_of_pos hs h0 ha h
  have hp := seq_pos (byte_at hs h0 ha) hq
  refine pt_of_seq (byte_at hy h0 (by rw [List.length_append]; omega)) (by rw [List.length_append]; omega) (seq_move hq (fun i h1 h2 => rd_left s t (by omega) (by omega)) (by rw [List.length_append]; omega))
theorem pt_right (hy : ∀ x ∈ s ++ t, Byte x) {i : Int} (h0 : 0 ≤ i) (hi : i < t.length) (h : (pt t i).2 > 0) : pt (s ++ t) (s.length + i) = pt t i := by
  have ht : ∀ x ∈ t, Byte x := fun x hx => hy x (List.mem_append_right _ hx)
  have hq := seq_of_pos ht h0 hi h
  have hp := seq_pos (byte_at ht h0 hi) hq
  refine pt_of_seq (byte_at hy (by omega) (by rw [List.length_append]; omega)) (by rw [List.length_append]; omega) (seq_move hq (fun j h1 h2 => by rw [show (s.length : Int) + i + j = s.length + (i + j) by omega]; exact rd_right s t (by omega)) (by rw [List.length_append]; omega))
theorem V_right (hy : ∀ x ∈ s ++ t, Byte x) {i : Int} (h : V t i) : V (s ++ t) (s.length + i) := by
  induction h with
  | done => rw [show (s.length : Int) + t.length = ((s ++ t).length : Int) by rw [List.length_append]; omega]; exact .done
  | step i h0 h1 h2 _ ih =>
    refine .step _ (by omega) (by rw [List.length_append]; omega) (by rw [pt_right hy h0 h1 h2]; exact h2) ?_
    rw [pt_right hy h0 h1 h2, Int.add_assoc]; exact ih
theorem V_left (hy : ∀ x ∈ s ++ t, Byte x) (ht : V t 0) {a : Int} (h : V s a) : V (s ++ t) a := by
  induction h with
  | done => have := V_right (s := s) hy ht; rwa [Int.add_zero] at this
  | step a h0 h1 h2 _ ih =>
    refine .step _ h0 (by rw [List.length_append]; omega) (by rw [pt_left hy h0 h1 h2]; exact h2) ?_
    rw [pt_left hy h0 h1 h2]; exact ih
end
theorem V_valid {l : List Int} (hN : l.length < 4611686018427387904) (hby : ∀ x ∈ l, Byte x) {a : Int} (h : V l a) : ∀ (r j : Nat), l.length - a ≤ r → utf_Valid.l0 (r + 1 + j) l a = some ((l.length : Int), true) := by
  induction h with
  | done => intro r j _; rw [show r + 1 + j = (r + j) + 1 by omega, utf_Valid.l0, if_neg (by omega)]
  | step a h0 h1 h2 _ ih =>
    intro r j hr
    have hp := seq_pos (byte_at hby h0 h1) (seq_of_pos hby h0 h1 h2)
    obtain ⟨r, rfl⟩ : ∃ q, r = q + 1 := ⟨r - 1, by omega⟩
    rw [show r + 1 + 1 + j = (r + 1 + j) + 1 by omega, utf_Valid.l0, if_pos h1, point_f h0 h1 hN hby, Option.bind_some, if_neg (by omega), w64 (by omega) (by omega)]
    exact ih r j (by omega)
theorem valid_V {l : List Int} (hN : l.length < 4611686018427387904) (hby : ∀ x ∈ l, Byte x) : ∀ (r : Nat) (a : Int), 0 ≤ a → a ≤ l.length → l.length - a ≤ r → (∃ x, ∀ j, utf_Valid.l0 (r + 1 + j) l a = some (x, false)) ∨ V l a := by
  intro r
  induction r with
  | zero => intro a h0 h1 h2; rw [show a = (l.length : Int) by omega]; exact Or.inr .done
  | succ r ih =>
    intro a h0 h1 h2
    by_cases ha : a < l.length
    · by_cases h : (pt l a).2 > 0
      · have hp := seq_pos (byte_at hby h0 ha) (seq_of_pos hby h0 ha h)
        rcases ih (a + (pt l a).2) (by omega) (by omega) (by omega) with ⟨x, hx⟩ | hv
        · refine Or.inl ⟨x, fun j => ?_⟩
          rw [show r + 1 + 1 + j = (r + 1 + j) + 1 by omega, utf_Valid.l0, if_pos ha, point_f h0 ha hN hby, Option.bind_some, if_neg (by omega), w64 (by omega) (by omega)]
          exact hx j
        · exact Or.inr (.step a h0 ha h hv)
      · refine Or.inl ⟨a, fun j => ?_⟩
        have h3 : (pt l a).2 = 0 := by
          rcases pt_range hby h0 ha with x | x
          · exact absurd x.2.1 (by omega)
          · rw [x]
        rw [show r + 1 + 1 + j = (r + 1 + j) + 1 by omega, utf_Valid.l0, if_pos ha, point_f h0 ha hN hby, Option.bind_some, if_pos h3]
    · rw [show a = (l.length : Int) by omega]; exact Or.inr .done
theorem nx_pos {l : List Int} {a : Int} (h0 : 0 ≤ a) (ha : a < l.length) (h : (pt l a).2 > 0) : nx l true a = a + (pt l a).2 := by
  unfold nx
  rw [next_in (by omega), if_pos ⟨rfl, h⟩]
section
variable {s t : List Int}
theorem count_right (hy : ∀ x ∈ s ++ t, Byte x) {i : Int} (h : V t i) : ∀ (r : Nat), (E (s ++ t) true r (s.length + i)).length = (E t true r i).length := by
  have hlen : ((s ++ t).length : Int) = s.length + t.length := by rw [List.length_append]; omega
  induction h with
  | done => intro r; rw [E_end _ (by omega), E_end _ (by omega)]
  | step i h0 h1 h2 _ ih =>
    intro r
    cases r with
    | zero => rfl
    | succ r =>
      rw [E_in _ (by omega), E_in _ h1, List.length_cons, List.length_cons, nx_pos (by omega) (by omega) (by rw [pt_right hy h0 h1 h2]; exact h2), nx_pos h0 h1 h2, pt_right hy h0 h1 h2, Int.add_assoc, ih r]
theorem count_left (hy : ∀ x ∈ s ++ t, Byte x) (ht : V t 0) {a : Int} (h : V s a) : ∀ (r : Nat), s.length - a ≤ r → (E (s ++ t) true (r + t.length) a).length = (E s true r a).length + (E t true t.length 0).length := by
  have hlen : ((s ++ t).length : Int) = s.length + t.length := by rw [List.length_append]; omega
  have hbt : ∀ x ∈ t, Byte x := fun x hx => hy x (List.mem_append_right _ hx)
  induction h with
  | done =>
    intro r _
    have := count_right hy ht (r + t.length)
    rw [Int.add_zero] at this
    rw [this, E_end r (by omega), show r + t.length = t.length + r by omega, E_more hbt t.length 0 (by omega) (by omega) r]
    simp
  | step a h0 h1 h2 _ ih =>
    intro r hr
    have hp := seq_pos (byte_at (fun x hx => hy x (List.mem_append_left _ hx)) h0 h1) (seq_of_pos (fun x hx => hy x (List.mem_append_left _ hx)) h0 h1 h2)
    obtain ⟨r, rfl⟩ : ∃ q, r = q + 1 := ⟨r - 1, by omega⟩
    rw [show r + 1 + t.length = (r + t.length) + 1 by omega, E_in _ (by omega), E_in _ h1, List.length_cons, List.length_cons, nx_pos h0 (by omega) (by rw [pt_left hy h0 h1 h2]; exact h2), nx_pos h0 h1 h2, pt_left hy h0 h1 h2, ih r (by omega)]
    omega
theorem edge_left (hy : ∀ x ∈ s ++ t, Byte x) {a : Int} (h : V s a) : ∀ (r : Nat), s.length - a ≤ r → (s.length : Int) ∈ a :: E (s ++ t) true r a := by
  have hlen : ((s ++ t).length : Int) = s.length + t.length := by rw [List.length_append]; omega
  induction h with
  | done => intro r _; simp
  | step a h0 h1 h2 _ ih =>
    intro r hr
    have hp := seq_pos (byte_at (fun x hx => hy x (List.mem_append_left _ hx)) h0 h1) (seq_of_pos (fun x hx => hy x (List.mem_append_left _ hx)) h0 h1 h2)
    obtain ⟨r, rfl⟩ : ∃ q, r = q + 1 := ⟨r - 1, by omega⟩
    rw [E_in _ (by omega), nx_pos h0 (by omega) (by rw [pt_left hy h0 h1 h2]; exact h2), pt_left hy h0 h1 h2]
    exact List.mem_cons_of_mem _ (ih r (by omega))
end
theorem count_bytes {l : List Int} : ∀ (r : Nat) (a : Int), 0 ≤ a → a ≤ l.length → l.length - a ≤ r → ((E l false r a).length : Int) = l.length - a := by
  intro r
  induction r with
  | zero => intro a h0 h1 h2; rw [E_end _ (by omega)]; simp; omega
  | succ r ih =>
    intro a h0 h1 h2
    by_cases h : a < l.length
    · have e : nx l false a = a + 1 := by unfold nx; rw [next_in (by omega), if_neg (by simp)]
      rw [E_in _ h, e, List.length_cons, Int.natCast_add, ih (a + 1) (by omega) (by omega) (by omega)]
      omega
    · rw [E_end _ h]; simp; omega
end Go.Proofs.Ytijehblohblnbaa.UA
namespace Go.Proofs.Ytijehblohblnbaa.Pure
open Go.RowKit Go.Proofs.Ytijehblohblnbaa.UA Go.Proofs.YtijehblohblnbaaW.PrintWords Go.Proofs.YtijehblohblnbaaW.PrintLast

theorem UtfAdds : lurcherlaw01_UtfAdds.Pure := by
  intro s t h1 h2 h3 k1 k2 k3
  have hs := byte_of_wf h3
  have ht := byte_of_wf k3
  have hNs : s.length < 4611686018427387904 := by omega
  have hNt : t.length < 4611686018427387904 := by omega
  have hy : ∀ x ∈ s ++ t, Byte x := fun x hx => (List.mem_append.1 hx).elim (hs x) (ht x)
  have hlen : (s ++ t).length = s.length + t.length := List.length_append
  have hNy : (s ++ t).length < 4611686018427387904 := by omega
  obtain ⟨K, hK⟩ : ∃ K, K = s.length + t.length + 200 := ⟨_, rfl⟩
  refine ⟨K + 2, ?_⟩
  unfold lurcherlaw01_UtfAdds.f
  rw [show K + 2 = 100 + (K - 98) by omega, awake_up, Option.bind_some, if_pos rfl, show 100 + (K - 98) = (K + 1) + 1 by omega]
  have j0t : lurcherlaw01_UtfAdds.j0 ((K + 1) + 1) s t true = some true := by rw [lurcherlaw01_UtfAdds.j0, if_pos rfl]
  have j1t : lurcherlaw01_UtfAdds.j1 (K + 1) s t true = some true := by rw [lurcherlaw01_UtfAdds.j1, if_pos rfl]
  by_cases c1 : (s.length : Int) > 1000
  · rw [if_pos c1, j0t]
  rw [if_neg c1]
  by_cases c2 : (t.length : Int) > 1000
  · rw [decide_eq_true c2, j0t]
  rw [decide_eq_false c2, lurcherlaw01_UtfAdds.j0, if_neg (by simp)]
  unfold utf_Valid.f
  rcases valid_V hNs hs s.length 0 (by omega) (by omega) (by omega) with ⟨x, hx⟩ | hv
  · have hx' := hx (K - s.length)
    rw [show s.length + 1 + (K - s.length) = K + 1 by omega] at hx'
    rcases valid_V hNt ht t.length 0 (by omega) (by omega) (by omega) with ⟨z, hz⟩ | hw
    · have hz' := hz (K - t.length)
      rw [show t.length + 1 + (K - t.length) = K + 1 by omega] at hz'
      rw [hx', Option.bind_some, hz', Option.bind_some, if_neg (by simp), j1t]
    · have hz' := V_valid hNt ht hw t.length (K - t.length) (by omega)
      rw [show t.length + 1 + (K - t.length) = K + 1 by omega] at hz'
      rw [hx', Option.bind_some, hz', Option.bind_some, if_neg (by simp), j1t]
  have hx' := V_valid hNs hs hv s.length (K - s.length) (by omega)
  rw [show s.length + 1 + (K - s.length) = K + 1 by omega] at hx'
  rcases valid_V hNt ht t.length 0 (by omega) (by omega) (by omega) with ⟨z, hz⟩ | hw
  · have hz' := hz (K - t.length)
    rw [show t.length + 1 + (K - t.length) = K + 1 by omega] at hz'
    rw [hx', Option.bind_some, hz', Option.bind_some, if_pos rfl]
    exact j1t
  have hz' := V_valid hNt ht hw t.length (K - t.length) (by omega)
  rw [show t.length + 1 + (K - t.length) = K + 1 by omega] at hz'
  have hyv := V_valid hNy hy (V_left hy hw hv) (s ++ t).length (K - (s ++ t).length - 1) (by omega)
  rw [show (s ++ t).length + 1 + (K - (s ++ t).length - 1) = K by omega] at hyv
  have n1 := count_l0 hNy hy true (s ++ t).length 0 0 (by omega) (by omega) (by omega) (K - (s ++ t).length - 2)
  have n2 := count_l0 hNs hs true s.length 0 0 (by omega) (by omega) (by omega) (K - s.length - 2)
  have n3 := count_l0 hNt ht true t.length 0 0 (by omega) (by omega) (by omega) (K - t.length - 2)
  have n4 := count_l0 hNy hy false (s ++ t).length 0 0 (by omega) (by omega) (by omega) (K - (s ++ t).length - 2)
  have n5 := edge_f hNy hy true (s.length : Int) (K - (s ++ t).length - 3)
  rw [show (s ++ t).length + 2 + (K - (s ++ t).length - 2) = K by omega, show ((0 : Nat) : Int) = 0 from rfl, Int.zero_add] at n1 n4
  rw [show s.length + 2 + (K - s.length - 2) = K by omega, show ((0 : Nat) : Int) = 0 from rfl, Int.zero_add] at n2
  rw [show t.length + 2 + (K - t.length - 2) = K by omega, show ((0 : Nat) : Int) = 0 from rfl, Int.zero_add] at n3
  rw [show (s ++ t).length + 3 + (K - (s ++ t).length - 3) = K by omega] at n5
  have e1 := count_left hy hw hv s.length (by omega)
  rw [← hlen] at e1
  have e2 := count_bytes (l := s ++ t) (s ++ t).length 0 (by omega) (by omega) (by omega)
  have e3 : (s.length : Int) ∈ edges (s ++ t) true := edge_left hy hv (s ++ t).length (by omega)
  have b1 := E_len hs (m := true) s.length 0 (by omega)
  have b2 := E_len ht (m := true) t.length 0 (by omega)
  rw [hx', Option.bind_some, hz', Option.bind_some, if_pos rfl]
  show lurcherlaw01_UtfAdds.j1 (K + 1) s t false = some true
  rw [lurcherlaw01_UtfAdds.j1, if_neg (by simp), if_pos (by simp; omega), List.nil_append, Option.bind_some, if_pos (by omega), Option.bind_some]
  unfold utf_Valid.f utf_Count.f
  rw [hyv, Option.bind_some, if_pos rfl, if_pos rfl, n1, Option.bind_some, n2, Option.bind_some, n3, Option.bind_some, w64 (by omega) (by omega), if_pos (by omega), n5, Option.bind_some, decide_eq_true e3, if_pos rfl, n4, Option.bind_some, e2]
  simp

end Go.Proofs.Ytijehblohblnbaa.Pure
