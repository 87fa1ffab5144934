/- A part of the ground of the proof. No condition. -/
import Derived.Test.YtnoohgiecnmajaaGE3

/- The engine, part 4: what 'va' tells of an operation is so. -/
namespace Go.Proofs.Ytnoohgiecnmajaa.VC
open Go Go.RowKit
set_option linter.unusedVariables false
set_option linter.unusedSimpArgs false

section
variable {M0 : Region} {base : Bs} {g : Gh} {st : St} {a : Act} {w w' : World} {P : Program} {T : Tab}

theorem TyOk.size {t : TypeId} {ti : TI} (h : TyOk P t ti) (w : World) : (sizeOf t).run P w = .ok ti.size w := by
  obtain ⟨i, z, h1, h2, _⟩ := h.info
  simp [sizeOf, typeInfo, h1, h2]
theorem TyOk.slice {t e : TypeId} {ti : TI} (h : TyOk P t ti) (hs : ti.sh = .slice e) : P.underlying t = some (.slice e) := by
  have := h.desc; rw [hs] at this; exact this
theorem TyOk.str {t : TypeId} {ti : TI} (h : TyOk P t ti) (hs : ti.sh = .str) : P.underlying t = some .string := by
  have := h.desc; rw [hs] at this; exact this
theorem TyOk.int {t : TypeId} {ti : TI} {k : IntKind} (h : TyOk P t ti) (hs : ti.sh = .int k) : P.underlying t = some (.int k) := by
  have := h.desc; rw [hs] at this; exact this
theorem TyOk.isAgg {t : TypeId} {ti : TI} (h : TyOk P t ti) (w : World) : (isAgg t).run P w = .ok ti.sh.row w := by
  have hd := h.desc
  generalize ti.sh = s at hd
  cases s <;> simp only [Sh.row] at hd ⊢
  case struct fs =>
    obtain ⟨fields, hf, _⟩ := hd
    simp [Go.isAgg, run_underlying hf]
  all_goals simp [Go.isAgg, run_underlying hd]
/-- A load of a scalar. -/
theorem load_one {t : TypeId} {ti : TI} (h : TyOk P t ti) (hr : ti.sh.row = false) {b o : Nat} {v : Value} (hc : w.cell? ⟨b, o, none⟩ = some v) :
    (Instr.loadAt t (.pointer (some ⟨b, o, none⟩))).run P w = .ok v w := by
  simp only [Instr.loadAt, Instr.sureAddr, Sem.run_bind, Sem.run_pure, Result.andThen_ok, loadVar, h.isAgg w, hr]
  simp [load, Sem.run, hc]
theorem load_row {t : TypeId} {ti : TI} (h : TyOk P t ti) (hr : ti.sh.row = true) {b o : Nat} {cs : List Value} (hc : ∀ j v, cs[j]? = some v → w.cell? ⟨b, o + j, none⟩ = some v) (hl : cs.length = ti.size) :
    (Instr.loadAt t (.pointer (some ⟨b, o, none⟩))).run P w = .ok (.agg cs.toArray) w := by
  have hd := h.desc
  cases hs : ti.sh with
  | struct fs =>
    rw [hs] at hd
    obtain ⟨fields, hf, _⟩ := hd
    obtain ⟨i, z, h1, h2, _⟩ := h.info
    exact run_loadAt_mid w b o t cs _ hc hf rfl (by rw [h1, hl, ← h2]; rfl)
  | _ => rw [hs] at hr; simp [Sh.row] at hr

def Good (P : Program) (M0 : Region) (g : Gh) (st : St) (a : Act) (w : World) (K : FE → List Nat → Prop) (o : Oper) : Prop :=
  ∃ fe ks v, K fe ks ∧ FR g (Mset M0 g (st.exposes ks)) w fe v ∧ ∀ w', (pureB o.op = true ∨ Hold w w') → (execOp a.eval o).run P w' = .ok (.value v) w'

theorem cells_of_row {g' : Nat} {cs : Array Value} {t : TypeId} {fr : Nat × Nat} (h : w.heap[g']? = some (.cells cs t fr)) (j : Nat) : w.cell? ⟨g', j, none⟩ = cs[j]? := by
  simp [World.cell?, h]

theorem flatten_row {sz : Nat} : ∀ {xs : List (List SV)} {i : Nat}, (∀ x ∈ xs, x.length = sz) → i < xs.length → (xs.flatten.drop (i * sz)).take sz = xs.getD i []
  | [], i, h, hi => by simp at hi
  | x :: xs, 0, h, hi => by
    have hx := h x (List.mem_cons_self ..)
    simp only [List.flatten_cons, Nat.zero_mul, List.drop_zero, List.getD_cons_zero]
    exact List.take_left' hx
  | x :: xs, i + 1, h, hi => by
    have hx := h x (List.mem_cons_self ..)
    have ih := flatten_row (i := i) (fun y hy => h y (List.mem_cons_of_mem _ hy)) (by simpa using hi)
    have e1 : (i + 1) * sz = x.length + i * sz := by rw [Nat.add_mul, hx]; omega
    rw [List.flatten_cons, e1, List.drop_length_add_append, ih, List.getD_cons_succ]
theorem good_load (hT : TabOk P T) (h : Rp M0 base g st a w) {K : FE → List Nat → Prop} {o : Oper} {t : TypeId} {x : Operand} (ho : o.op = .load t x) (hv : va T st K o.op) : Good P M0 g st a w K o := by
  have hold1 : ∀ {w' : World}, (pureB o.op = true ∨ Hold w w') → Hold w w' := fun q => q.resolve_left (by rw [ho]; simp [pureB])
  rw [ho] at hv
  simp only [va] at hv
  obtain ⟨ti, hti, hv⟩ := hv
  have ty := hT _ _ hti
  have run : ∀ (w' : World), (execOp a.eval o).run P w' = ((Instr.loadAt t (a.eval x)).run P w').andThen fun v w'' => .ok (.value v) w'' := by
    intro w'; simp only [execOp, ho, Sem.run_bind, Sem.run_pure]
  split at hv
  · rename_i s off hx
    obtain ⟨⟨TT, cs⟩, hb, hl⟩ := hv
    have hp : a.eval x = .pointer (some ⟨g.β s, off, none⟩) := h.ev hx
    obtain ⟨_, vs, hh, hc⟩ := h.box s TT cs hb
    have hcell : ∀ j v, (vs.drop off)[j]? = some v → w.cell? ⟨g.β s, off + j, none⟩ = some v := by
      intro j v hj
      rw [cells_of_row hh]
      rw [List.getElem?_drop] at hj
      simpa using hj
    have hd := FRc.drop hc off
    unfold vload at hl
    split at hl
    · rename_i hr
      obtain ⟨hsz, r, hp2, hK⟩ := hl
      refine ⟨_, _, .agg ((vs.drop off).take ti.size).toArray, hK, ?_, fun w' hw' => ?_⟩
      · simp only [FR, VR]
        exact ⟨_, rfl, h.pfs (FRc.take hd ti.size) hp2⟩
      · have e := load_row (w := w') ty hr (b := g.β s) (o := off) (cs := (vs.drop off).take ti.size) (fun j v hj => by
          rw [List.getElem?_take] at hj
          split at hj
          · exact (hold1 hw').cell (hcell j v hj)
          · cases hj) (by
          have := FRc.length hd
          simp only at hsz
          rw [List.length_take]; omega)
        rw [run, hp, e]
        rfl
    · rename_i hr
      obtain ⟨fe, hfe, hK⟩ := hl
      obtain ⟨v, hv1, hv2, hv3⟩ := FRc.get hd hfe
      refine ⟨_, _, v, hK, hv2, fun w' hw' => ?_⟩
      rw [run, hp, load_one ty hr ((hold1 hw').cell (by simpa using hcell 0 v hv1))]
      rfl
  · rename_i cs hx
    obtain ⟨b, off, hp, hc⟩ := h.ev hx
    obtain ⟨vs, hvs, hcell⟩ := Cells.vals hc
    unfold vloadR at hv
    split at hv
    · rename_i hr
      obtain ⟨hsz, hK⟩ := hv
      refine ⟨_, _, .agg (vs.take ti.size).toArray, hK, ?_, fun w' hw' => ?_⟩
      · simp only [FR, VR]
        exact ⟨_, rfl, VRc.take hvs _⟩
      · have e := load_row (w := w') ty hr (b := b) (o := off) (cs := vs.take ti.size) (fun j v hj => by
          rw [List.getElem?_take] at hj
          split at hj
          · exact (hold1 hw').cell (hcell j v hj)
          · cases hj) (by
          have := VRc.length hvs
          rw [List.length_take]; omega)
        rw [run, hp, e]
        rfl
    · rename_i hr
      obtain ⟨y, hy, hK⟩ := hv
      obtain ⟨v, hv1, hv2, hv3⟩ := VRc.get hvs hy
      refine ⟨_, _, v, hK, hv2, fun w' hw' => ?_⟩
      rw [run, hp, load_one ty hr ((hold1 hw').cell (by simpa using hcell 0 v hv1))]
      rfl
  · rename_i k sz i off hx
    obtain ⟨ow, hk, hsz, hi, hv⟩ := hv
    obtain ⟨b, hb, hp⟩ := h.ev hx
    obtain ⟨vals, hrow, hvals, hlp⟩ := h.own k ow hk
    subst hsz
    have hvs := VRc.drop (VRc.take (VRc.drop hvals (i * ow.sz)) ow.sz) off
    rw [flatten_row hlp hi] at hvs
    generalize hvse : ((vals.drop (i * ow.sz)).take ow.sz).drop off = vs at hvs
    have hcell : ∀ j v, vs[j]? = some v → w.cell? ⟨b, i * ow.sz + off + j, none⟩ = some v := by
      intro j v hj
      rw [← hvse, List.getElem?_drop, List.getElem?_take] at hj
      split at hj
      · rw [List.getElem?_drop] at hj
        have hc := hrow.cells hb (i * ow.sz + (off + j)) v hj
        rw [Addr.add_mid, Nat.zero_add] at hc
        rw [Nat.add_assoc]
        exact hc
      · cases hj
    unfold vloadR at hv
    split at hv
    · rename_i hr
      obtain ⟨hsz2, hK⟩ := hv
      refine ⟨_, _, .agg (vs.take ti.size).toArray, hK, ?_, fun w' hw' => ?_⟩
      · simp only [FR, VR]
        exact ⟨_, rfl, VRc.take hvs _⟩
      · have e := load_row (w := w') ty hr (b := b) (o := i * ow.sz + off) (cs := vs.take ti.size) (fun j v hj => by
          rw [List.getElem?_take] at hj
          split at hj
          · exact (hold1 hw').cell (hcell j v hj)
          · cases hj) (by
          have := VRc.length hvs
          rw [List.length_take]; omega)
        rw [run, hp, e]
        rfl
    · rename_i hr
      obtain ⟨y, hy, hK⟩ := hv
      obtain ⟨v, hv1, hv2, hv3⟩ := VRc.get hvs hy
      refine ⟨_, _, v, hK, hv2, fun w' hw' => ?_⟩
      rw [run, hp, load_one ty hr ((hold1 hw').cell (by simpa using hcell 0 v hv1))]
      rfl
  · exact hv.elim
end
end Go.Proofs.Ytnoohgiecnmajaa.VC

