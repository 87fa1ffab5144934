/- A part of the ground of the proof. No condition. -/
import Derived.Below
import Derived.Laws.AppendOwn
import Derived.Orders
import Derived.OrdersHeld
import Derived.Tactics
import Derived.KernelRfl

/- The engine, part 0: values told by value, what they mean in a world, and how that stays. -/
namespace Go.Proofs.Ytnoohgiecnmajaa.VC
open Go
set_option linter.unusedVariables false
set_option linter.unusedSimpArgs false

/-- A value told by value: one without addresses; a slice by its elements' cells; a struct's cells; several results. -/
inductive SV where
  | val (v : Value)
  | sl (sz : Nat) (xs : List (List SV))
  | agg (cs : List SV)
  | tuple (vs : List SV)
  deriving Inhabited

abbrev Region := Nat → Nat → Prop

mutual
/-- Value v is what x tells, in world w; it reads no cell of M. -/
def VR (M : Region) (w : World) : SV → Value → Prop
  | .val u, v => v = u
  | .sl sz xs, v => ∃ A cap, v = .slice A xs.length cap ∧ xs.length ≤ cap ∧ (xs = [] ∨ ∃ b off, A = some ⟨b, off, none⟩ ∧ Rows M w b sz off xs)
  | .agg cs, v => ∃ vs : List Value, v = .agg vs.toArray ∧ VRc M w cs vs
  | .tuple cs, v => ∃ vs : List Value, v = .tuple vs.toArray ∧ VRs M w cs vs
/-- Cell by cell. -/
def VRc (M : Region) (w : World) : List SV → List Value → Prop
  | [], vs => vs = []
  | c :: cs, vs => ∃ v vs', vs = v :: vs' ∧ VR M w c v ∧ v.oneCell' = true ∧ VRc M w cs vs'
def VRs (M : Region) (w : World) : List SV → List Value → Prop
  | [], vs => vs = []
  | c :: cs, vs => ∃ v vs', vs = v :: vs' ∧ VR M w c v ∧ VRs M w cs vs'
/-- The cells from an offset on. -/
def Cells (M : Region) (w : World) (b : Nat) : Nat → List SV → Prop
  | _, [] => True
  | off, c :: cs => (∃ v, w.cell? ⟨b, off, none⟩ = some v ∧ ¬ M b off ∧ VR M w c v ∧ v.oneCell' = true) ∧ Cells M w b (off + 1) cs
def Rows (M : Region) (w : World) (b sz : Nat) : Nat → List (List SV) → Prop
  | _, [] => True
  | off, x :: xs => x.length = sz ∧ Cells M w b off x ∧ Rows M w b sz (off + sz) xs
end

/-- What was read stays. -/
structure Mv (M : Region) (w : World) (M' : Region) (w' : World) : Prop where
  cell : ∀ b off u, w.cell? ⟨b, off, none⟩ = some u → ¬ M b off → w'.cell? ⟨b, off, none⟩ = some u ∧ ¬ M' b off

theorem Mv.refl (M : Region) (w : World) : Mv M w M w := ⟨fun _ _ _ h h' => ⟨h, h'⟩⟩
theorem Mv.trans {M M' M'' : Region} {w w' w'' : World} (h : Mv M w M' w') (k : Mv M' w' M'' w'') : Mv M w M'' w'' :=
  ⟨fun b off u hu hn => let ⟨h1, h2⟩ := h.cell b off u hu hn; k.cell b off u h1 h2⟩

section
variable {M M' : Region} {w w' : World}
mutual
theorem VR.mv (hm : Mv M w M' w') : ∀ (x : SV) (v : Value), VR M w x v → VR M' w' x v
  | .val u, v, h => by simpa [VR] using h
  | .sl sz xs, v, h => by
    simp only [VR] at h ⊢
    obtain ⟨A, cap, h1, h1', h2⟩ := h
    refine ⟨A, cap, h1, h1', h2.imp id ?_⟩
    rintro ⟨b, off, h3, h4⟩
    exact ⟨b, off, h3, Rows.mv hm b sz off xs h4⟩
  | .agg cs, v, h => by
    simp only [VR] at h ⊢
    obtain ⟨vs, h1, h2⟩ := h
    exact ⟨vs, h1, VRc.mv hm cs vs h2⟩
  | .tuple cs, v, h => by
    simp only [VR] at h ⊢
    obtain ⟨vs, h1, h2⟩ := h
    exact ⟨vs, h1, VRs.mv hm cs vs h2⟩
theorem VRc.mv (hm : Mv M w M' w') : ∀ (cs : List SV) (vs : List Value), VRc M w cs vs → VRc M' w' cs vs
  | [], vs, h => by simpa [VRc] using h
  | c :: cs, vs, h => by
    simp only [VRc] at h ⊢
    obtain ⟨v, vs', h1, h2, h3, h4⟩ := h
    exact ⟨v, vs', h1, VR.mv hm c v h2, h3, VRc.mv hm cs vs' h4⟩
theorem VRs.mv (hm : Mv M w M' w') : ∀ (cs : List SV) (vs : List Value), VRs M w cs vs → VRs M' w' cs vs
  | [], vs, h => by simpa [VRs] using h
  | c :: cs, vs, h => by
    simp only [VRs] at h ⊢
    obtain ⟨v, vs', h1, h2, h4⟩ := h
    exact ⟨v, vs', h1, VR.mv hm c v h2, VRs.mv hm cs vs' h4⟩
theorem Cells.mv (hm : Mv M w M' w') : ∀ (b off : Nat) (cs : List SV), Cells M w b off cs → Cells M' w' b off cs
  | b, off, [], h => by simp [Cells]
  | b, off, c :: cs, h => by
    simp only [Cells] at h ⊢
    obtain ⟨⟨v, h1, h2, h3, h4⟩, h5⟩ := h
    obtain ⟨k1, k2⟩ := hm.cell b off v h1 h2
    exact ⟨⟨v, k1, k2, VR.mv hm c v h3, h4⟩, Cells.mv hm b (off + 1) cs h5⟩
theorem Rows.mv (hm : Mv M w M' w') : ∀ (b sz off : Nat) (xs : List (List SV)), Rows M w b sz off xs → Rows M' w' b sz off xs
  | b, sz, off, [], h => by simp [Rows]
  | b, sz, off, x :: xs, h => by
    simp only [Rows] at h ⊢
    exact ⟨h.1, Cells.mv hm b off x h.2.1, Rows.mv hm b sz (off + sz) xs h.2.2⟩
end

/-! ### Lists of cells -/
theorem VRc.length : ∀ {cs : List SV} {vs : List Value}, VRc M w cs vs → vs.length = cs.length
  | [], vs, h => by simp only [VRc] at h; simp [h]
  | c :: cs, vs, h => by
    simp only [VRc] at h
    obtain ⟨v, vs', rfl, _, _, h4⟩ := h
    simp [VRc.length h4]
theorem VRs.length : ∀ {cs : List SV} {vs : List Value}, VRs M w cs vs → vs.length = cs.length
  | [], vs, h => by simp only [VRs] at h; simp [h]
  | c :: cs, vs, h => by
    simp only [VRs] at h
    obtain ⟨v, vs', rfl, _, h4⟩ := h
    simp [VRs.length h4]
theorem VRc.one : ∀ {cs : List SV} {vs : List Value}, VRc M w cs vs → ∀ v ∈ vs, v.oneCell' = true
  | [], vs, h => by simp only [VRc] at h; simp [h]
  | c :: cs, vs, h => by
    simp only [VRc] at h
    obtain ⟨v, vs', rfl, _, h3, h4⟩ := h
    intro u hu
    rcases List.mem_cons.1 hu with rfl | hu
    · exact h3
    · exact VRc.one h4 u hu
theorem VRc.append : ∀ {cs ds : List SV} {vs us : List Value}, VRc M w cs vs → VRc M w ds us → VRc M w (cs ++ ds) (vs ++ us)
  | [], ds, vs, us, h, k => by simp only [VRc] at h; subst h; simpa using k
  | c :: cs, ds, vs, us, h, k => by
    simp only [VRc] at h
    obtain ⟨v, vs', rfl, h2, h3, h4⟩ := h
    simp only [List.cons_append, VRc]
    exact ⟨v, _, rfl, h2, h3, VRc.append h4 k⟩
theorem VRc.split : ∀ {cs ds : List SV} {us : List Value}, VRc M w (cs ++ ds) us → ∃ a b, us = a ++ b ∧ VRc M w cs a ∧ VRc M w ds b
  | [], ds, us, h => ⟨[], us, rfl, by simp [VRc], by simpa using h⟩
  | c :: cs, ds, us, h => by
    simp only [List.cons_append, VRc] at h
    obtain ⟨v, vs', rfl, h2, h3, h4⟩ := h
    obtain ⟨a, b, rfl, ha, hb⟩ := VRc.split h4
    exact ⟨v :: a, b, rfl, by simp only [VRc]; exact ⟨v, a, rfl, h2, h3, ha⟩, hb⟩
theorem VRc.take {cs : List SV} {vs : List Value} (h : VRc M w cs vs) (n : Nat) : VRc M w (cs.take n) (vs.take n) := by
  have h0 := h
  rw [← List.take_append_drop n cs] at h
  obtain ⟨a, b, rfl, ha, hb⟩ := VRc.split h
  have hl := VRc.length ha
  have hl2 := VRc.length h0
  rw [List.length_append] at hl2
  rw [List.length_take] at hl
  by_cases hn : n ≤ cs.length
  · rw [List.take_left' (by omega)]; exact ha
  · have hb' := VRc.length hb
    rw [List.drop_eq_nil_of_le (by omega)] at hb'
    have : b = [] := List.eq_nil_of_length_eq_zero (by simpa using hb')
    subst this
    rw [List.append_nil, List.take_of_length_le (l := a) (by omega)]; exact ha
theorem VRc.drop {cs : List SV} {vs : List Value} (h : VRc M w cs vs) (n : Nat) : VRc M w (cs.drop n) (vs.drop n) := by
  have h0 := h
  rw [← List.take_append_drop n cs] at h
  obtain ⟨a, b, rfl, ha, hb⟩ := VRc.split h
  have hl := VRc.length ha
  rw [List.length_take] at hl
  by_cases hn : n ≤ cs.length
  · rw [List.drop_left' (by omega)]; exact hb
  · have hb' := VRc.length hb
    rw [List.drop_eq_nil_of_le (by omega)] at hb'
    have : b = [] := List.eq_nil_of_length_eq_zero (by simpa using hb')
    subst this
    rw [List.append_nil, List.drop_eq_nil_of_le (by omega), List.drop_eq_nil_of_le (by omega)]; simp [VRc]
theorem VRc.get {cs : List SV} {vs : List Value} (h : VRc M w cs vs) : ∀ {i : Nat} {c : SV}, cs[i]? = some c → ∃ v, vs[i]? = some v ∧ VR M w c v ∧ v.oneCell' = true := by
  induction cs generalizing vs with
  | nil => intro i c hc; simp at hc
  | cons d cs ih =>
    simp only [VRc] at h
    obtain ⟨v, vs', rfl, h2, h3, h4⟩ := h
    intro i c hc
    cases i with
    | zero => simp at hc; subst hc; exact ⟨v, by simp, h2, h3⟩
    | succ i => simp at hc ⊢; exact ih h4 hc
theorem VRc.set {cs : List SV} {vs : List Value} (h : VRc M w cs vs) (i : Nat) (c : SV) (v : Value) (hc : VR M w c v) (hv : v.oneCell' = true) : VRc M w (cs.set i c) (vs.set i v) := by
  induction cs generalizing vs i with
  | nil => simp only [VRc] at h; subst h; simp [VRc]
  | cons d cs ih =>
    simp only [VRc] at h
    obtain ⟨u, vs', rfl, h2, h3, h4⟩ := h
    cases i with
    | zero => simp only [List.set_cons_zero, VRc]; exact ⟨v, vs', rfl, hc, hv, h4⟩
    | succ i => simp only [List.set_cons_succ, VRc]; exact ⟨u, _, rfl, h2, h3, ih h4 i⟩
theorem VRs.get {cs : List SV} {vs : List Value} (h : VRs M w cs vs) : ∀ {i : Nat} {c : SV}, cs[i]? = some c → ∃ v, vs[i]? = some v ∧ VR M w c v := by
  induction cs generalizing vs with
  | nil => intro i c hc; simp at hc
  | cons d cs ih =>
    simp only [VRs] at h
    obtain ⟨v, vs', rfl, h2, h4⟩ := h
    intro i c hc
    cases i with
    | zero => simp at hc; subst hc; exact ⟨v, by simp, h2⟩
    | succ i => simp at hc ⊢; exact ih h4 hc

/-- The cells as values. -/
theorem Cells.vals : ∀ {b off : Nat} {cs : List SV}, Cells M w b off cs → ∃ vs, VRc M w cs vs ∧ ∀ j u, vs[j]? = some u → w.cell? ⟨b, off + j, none⟩ = some u
  | b, off, [], h => ⟨[], by simp [VRc], by simp⟩
  | b, off, c :: cs, h => by
    simp only [Cells] at h
    obtain ⟨⟨v, h1, h2, h3, h4⟩, h5⟩ := h
    obtain ⟨vs, k1, k2⟩ := Cells.vals h5
    refine ⟨v :: vs, by simp only [VRc]; exact ⟨v, vs, rfl, h3, h4, k1⟩, ?_⟩
    intro j u hu
    cases j with
    | zero => simp at hu; subst hu; exact h1
    | succ j =>
      simp at hu
      have := k2 j u hu
      rwa [show off + 1 + j = off + (j + 1) by omega] at this
theorem Cells.of_vals : ∀ {b off : Nat} {cs : List SV} {vs : List Value}, VRc M w cs vs → (∀ j u, vs[j]? = some u → w.cell? ⟨b, off + j, none⟩ = some u ∧ ¬ M b (off + j)) → Cells M w b off cs
  | b, off, [], vs, h, k => by simp [Cells]
  | b, off, c :: cs, vs, h, k => by
    simp only [VRc] at h
    obtain ⟨v, vs', rfl, h2, h3, h4⟩ := h
    simp only [Cells]
    have := k 0 v (by simp)
    refine ⟨⟨v, by simpa using this.1, by simpa using this.2, h2, h3⟩, Cells.of_vals h4 fun j u hu => ?_⟩
    have := k (j + 1) u (by simpa using hu)
    rwa [show off + (j + 1) = off + 1 + j by omega] at this
theorem Cells.drop : ∀ {b off : Nat} {cs : List SV}, Cells M w b off cs → ∀ n, Cells M w b (off + n) (cs.drop n)
  | b, off, cs, h, 0 => by simpa using h
  | b, off, [], h, n + 1 => by simp [Cells]
  | b, off, c :: cs, h, n + 1 => by
    simp only [Cells] at h
    have := Cells.drop h.2 n
    rw [show off + 1 + n = off + (n + 1) by omega] at this
    simpa using this
theorem Rows.get : ∀ {b sz off : Nat} {xs : List (List SV)}, Rows M w b sz off xs → ∀ {i : Nat} {x}, xs[i]? = some x → x.length = sz ∧ Cells M w b (off + i * sz) x
  | b, sz, off, [], h, i, x, hx => by simp at hx
  | b, sz, off, y :: xs, h, 0, x, hx => by
    simp at hx; subst hx
    simp only [Rows] at h
    exact ⟨h.1, by simpa using h.2.1⟩
  | b, sz, off, y :: xs, h, i + 1, x, hx => by
    simp only [Rows] at h
    simp at hx
    have := Rows.get h.2.2 hx
    rw [show off + sz + i * sz = off + (i + 1) * sz by rw [Nat.add_mul]; omega] at this
    exact this
theorem Rows.drop : ∀ {b sz off : Nat} {xs : List (List SV)}, Rows M w b sz off xs → ∀ n, Rows M w b sz (off + n * sz) (xs.drop n)
  | b, sz, off, xs, h, 0 => by simpa using h
  | b, sz, off, [], h, n + 1 => by simp [Rows]
  | b, sz, off, x :: xs, h, n + 1 => by
    simp only [Rows] at h
    have := Rows.drop h.2.2 n
    rw [show off + sz + n * sz = off + (n + 1) * sz by rw [Nat.add_mul]; omega] at this
    simpa using this
theorem Rows.take : ∀ {b sz off : Nat} {xs : List (List SV)}, Rows M w b sz off xs → ∀ n, Rows M w b sz off (xs.take n)
  | b, sz, off, xs, h, 0 => by simp [Rows]
  | b, sz, off, [], h, n + 1 => by simp [Rows]
  | b, sz, off, x :: xs, h, n + 1 => by
    simp only [Rows, List.take_succ_cons] at h ⊢
    exact ⟨h.1, h.2.1, Rows.take h.2.2 n⟩
/-- All elements' cells, one behind the other, as values. -/
theorem Rows.vals : ∀ {b sz off : Nat} {xs : List (List SV)}, Rows M w b sz off xs → ∃ vs, VRc M w xs.flatten vs ∧ vs.length = xs.length * sz ∧ ∀ j u, vs[j]? = some u → w.cell? ⟨b, off + j, none⟩ = some u
  | b, sz, off, [], h => ⟨[], by simp [VRc], by simp, by simp⟩
  | b, sz, off, x :: xs, h => by
    simp only [Rows] at h
    obtain ⟨vs, k1, k2⟩ := Cells.vals h.2.1
    obtain ⟨us, j1, j2, j3⟩ := Rows.vals h.2.2
    have hl := VRc.length k1
    refine ⟨vs ++ us, by simpa using VRc.append k1 j1, by simp [hl, h.1, j2, Nat.add_mul]; omega, ?_⟩
    intro j u hu
    by_cases hj : j < vs.length
    · rw [List.getElem?_append_left hj] at hu; exact k2 j u hu
    · rw [List.getElem?_append_right (by omega)] at hu
      have := j3 _ u hu
      rwa [show off + sz + (j - vs.length) = off + j by omega] at this
theorem Rows.of_vals : ∀ {b sz off : Nat} {xs : List (List SV)} {vs : List Value}, (∀ x ∈ xs, x.length = sz) → VRc M w xs.flatten vs → (∀ j u, vs[j]? = some u → w.cell? ⟨b, off + j, none⟩ = some u ∧ ¬ M b (off + j)) → Rows M w b sz off xs
  | b, sz, off, [], vs, hx, h, k => by simp [Rows]
  | b, sz, off, x :: xs, vs, hx, h, k => by
    simp only [List.flatten_cons] at h
    obtain ⟨a, c, rfl, ha, hc⟩ := VRc.split h
    have hl := VRc.length ha
    have hxl := hx x (List.mem_cons_self ..)
    simp only [Rows]
    refine ⟨hxl, Cells.of_vals ha fun j u hu => k j u ?_, Rows.of_vals (fun y hy => hx y (List.mem_cons_of_mem _ hy)) hc fun j u hu => ?_⟩
    · rw [List.getElem?_append_left (List.getElem?_eq_some_iff.1 hu).1]; exact hu
    · have := k (sz + j) u (by rw [List.getElem?_append_right (by omega), show sz + j - a.length = j by omega]; exact hu)
      rwa [show off + (sz + j) = off + sz + j by omega] at this
end
end Go.Proofs.Ytnoohgiecnmajaa.VC

