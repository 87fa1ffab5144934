/- A part of the ground of the proof. No condition. -/
import Derived.Laws.StructEq
import Derived.Laws.Concat
import Derived.Test.YtnoohgiecnmajaaGE4

/- The engine, part 5: further operations that make no memory. -/
namespace Go.Proofs.Ytnoohgiecnmajaa.VC
open Go Go.RowKit
set_option linter.unusedVariables false
set_option linter.unusedSimpArgs false

section
variable {M0 : Region} {base : Bs} {g : Gh} {st : St} {a : Act} {w w' : World} {P : Program} {T : Tab} {K : FE → List Nat → Prop} {o : Oper}

theorem good_move (h : Rp M0 base g st a w) {x : Operand} (ho : o.op = .move x ∨ o.op = .assign x) (hv : ∃ fe, ev st x = some fe ∧ K fe []) : Good P M0 g st a w K o := by
  obtain ⟨fe, hx, hK⟩ := hv
  refine ⟨fe, [], a.eval x, hK, h.ev hx, fun w' _ => ?_⟩
  rcases ho with ho | ho <;> simp only [execOp, ho, Sem.run_pure]
theorem good_pick (h : Rp M0 base g st a w) {c x y : Operand} (ho : o.op = .pick c x y) (hv : va T st K o.op) : Good P M0 g st a w K o := by
  rw [ho] at hv
  simp only [va] at hv
  obtain ⟨t, hc, h1, h2⟩ := hv
  have hcv := h.val1 hc
  cases t with
  | true =>
    obtain ⟨fe, hx, hK⟩ := h1 rfl
    refine ⟨fe, [], a.eval x, hK, h.ev hx, fun w' _ => ?_⟩
    simp [execOp, ho, asBool, hcv]
  | false =>
    obtain ⟨fe, hx, hK⟩ := h2 rfl
    refine ⟨fe, [], a.eval y, hK, h.ev hx, fun w' _ => ?_⟩
    simp [execOp, ho, asBool, hcv]
theorem mapM_get {α β : Type} (f : α → Option β) : ∀ (l : List α) (r : List β), l.mapM f = some r → ∀ (i : Nat) (b : β), r[i]? = some b → ∃ x, l[i]? = some x ∧ f x = some b
  | [], r, h, i, b, hb => by simp at h; subst h; simp at hb
  | x :: l, r, h, i, b, hb => by
    rw [List.mapM_cons] at h
    cases hx : f x with
    | none => rw [hx] at h; cases h
    | some y =>
      rw [hx] at h
      cases hl : l.mapM f with
      | none => rw [hl] at h; cases h
      | some ys =>
        rw [hl] at h
        cases h
        cases i with
        | zero => simp at hb; subst hb; exact ⟨x, by simp, hx⟩
        | succ i => simp at hb; simpa using mapM_get f l ys hl i b hb
theorem run_fieldAt {s : TypeId} {ti : TI} (ty : TyOk P s ti) {fs : List (Nat × Nat)} (hs : ti.sh = .struct fs) {f : Nat} {oz : Nat × Nat} (hf : fs[f]? = some oz) (b off : Nat) (w : World) :
    (Instr.fieldAt s (.pointer (some ⟨b, off, none⟩)) f).run P w = .ok (.pointer (some ⟨b, off + oz.1, none⟩)) w := by
  have hd := ty.desc
  rw [hs] at hd
  obtain ⟨fields, hu, hm, hz⟩ := hd
  obtain ⟨fld, h1, h2⟩ := mapM_get _ _ _ hm f oz hf
  obtain ⟨i, hi, he⟩ := Option.map_eq_some_iff.1 h2
  have hne := hz oz (List.mem_iff_getElem?.2 ⟨f, hf⟩)
  subst he
  have h1' : fields[f]? = some fld := by simpa using h1
  have hsz : (sizeOf fld.type).run P w = .ok i.size w := by simp [sizeOf, typeInfo, hi]
  simp only at hne
  simp [Instr.fieldAt, run_underlying hu, h1', Instr.sureAddr, fieldPlace, hsz, hne, Addr.add_mid]
theorem good_fieldAddr (hT : TabOk P T) (h : Rp M0 base g st a w) {s : TypeId} {x : Operand} {f : Nat} (ho : o.op = .fieldAddr s x f) (hv : va T st K o.op) : Good P M0 g st a w K o := by
  rw [ho] at hv
  simp only [va] at hv
  obtain ⟨ti, fs, oz, hti, hs, hf, hv⟩ := hv
  have ty := hT _ _ hti
  have run : ∀ (b off : Nat), a.eval x = .pointer (some ⟨b, off, none⟩) → ∀ (w' : World), (execOp a.eval o).run P w' = .ok (.value (.pointer (some ⟨b, off + oz.1, none⟩))) w' := by
    intro b off hp w'
    simp only [execOp, ho, hp, Sem.run_bind, Sem.run_pure, run_fieldAt ty hs hf b off w', Result.andThen_ok]
  split at hv
  · rename_i b off hx
    exact ⟨_, _, _, hv, rfl, fun w' _ => run _ _ (h.ev hx) w'⟩
  · rename_i cs hx
    obtain ⟨b, off, hp, hc⟩ := h.ev hx
    exact ⟨_, _, _, hv, ⟨b, off + oz.1, rfl, Cells.drop hc _⟩, fun w' _ => run _ _ hp w'⟩
  · rename_i k sz i off hx
    obtain ⟨b, hb, hp⟩ := h.ev hx
    exact ⟨_, _, _, hv, ⟨b, hb, rfl⟩, fun w' _ => by rw [run _ _ hp w', Nat.add_assoc]⟩
  · exact hv.elim
theorem run_indexAt' {t e : TypeId} {ti te : TI} (ty : TyOk P t ti) (hs : ti.sh = .slice e) (te' : TyOk P e te) (b off len cap : Nat) (ki : IntKind) {n : Int} (h0 : 0 ≤ n) (h1 : n < len) (w : World) :
    (Instr.indexAt t (.slice (some ⟨b, off, none⟩) len cap) (.int ki n)).run P w = .ok (.pointer (some ⟨b, off + n.toNat * te.size, none⟩)) w := by
  simp [Instr.indexAt, asIntOf, run_underlying (ty.slice hs), h0, h1, te'.size w, Addr.add_mid]
theorem good_indexAddr (hT : TabOk P T) (h : Rp M0 base g st a w) {t : TypeId} {x i : Operand} (ho : o.op = .indexAddr t x i) (hv : va T st K o.op) : Good P M0 g st a w K o := by
  rw [ho] at hv
  simp only [va] at hv
  obtain ⟨ki, n, ti, e, te, hi, hti, hs, hte, hv⟩ := hv
  have ty := hT _ _ hti
  have tye := hT _ _ hte
  have hiv := h.val1 hi
  have run : ∀ (b off len cap : Nat), a.eval x = .slice (some ⟨b, off, none⟩) len cap → 0 ≤ n → n < len → ∀ (w' : World), (execOp a.eval o).run P w' = .ok (.value (.pointer (some ⟨b, off + n.toNat * te.size, none⟩))) w' := by
    intro b off len cap hp h0 h1 w'
    simp only [execOp, ho, hp, hiv, Sem.run_bind, Sem.run_pure, run_indexAt' ty hs tye b off len cap ki h0 h1 w', Result.andThen_ok]
  split at hv
  · rename_i sz xs hx
    obtain ⟨hsz, h0, h1, hK⟩ := hv
    have hr := h.ev hx
    simp only [FR, VR] at hr
    obtain ⟨A, cap, hp, _, hr⟩ := hr
    rcases hr with hr | ⟨b, off, hA, hr⟩
    · rw [hr] at h1; simp at h1; omega
    subst hA
    have hx2 : xs[n.toNat]? = some (xs.getD n.toNat []) := by rw [List.getD_eq_getElem?_getD, List.getElem?_eq_getElem (by omega)]; simp
    refine ⟨_, _, _, hK, ⟨b, off + n.toNat * te.size, rfl, ?_⟩, fun w' _ => run _ _ _ _ hp h0 h1 w'⟩
    rw [hsz]
    exact (Rows.get hr hx2).2
  · rename_i k hx
    obtain ⟨ow, hk, hsz, h0, h1, hK⟩ := hv
    have hp : a.eval x = g.ν k := h.ev hx
    obtain ⟨vals, hown, _⟩ := h.own k ow hk
    rcases hown.2 with ⟨e1, e2⟩ | ⟨gg, cap, cur, e1, _⟩
    · omega
    refine ⟨_, _, _, hK, ⟨gg, by rw [e1]; rfl, rfl⟩, fun w' _ => ?_⟩
    rw [run gg 0 _ cap (by rw [hp, e1]) h0 h1 w', hsz, Nat.zero_add, Nat.add_zero]
  · exact hv.elim
theorem good_index (hT : TabOk P T) (h : Rp M0 base g st a w) {t : TypeId} {x i : Operand} (ho : o.op = .index t x i) (hv : va T st K o.op) : Good P M0 g st a w K o := by
  rw [ho] at hv
  simp only [va] at hv
  obtain ⟨ki, n, s, ti, hi, hx, hti, hs, h0, h1, hK⟩ := hv
  have ty := hT _ _ hti
  refine ⟨_, _, _, hK, rfl, fun w' _ => ?_⟩
  have e := run_index_string (P := P) w' t s ki n (ty.str hs)
  rw [dif_pos ⟨h0, h1⟩] at e
  simp only [execOp, ho, h.val1 hi, h.val1 hx, Sem.run_bind, Sem.run_pure, e, Result.andThen_ok]
  have : byteAt s n = (((s[n.toNat]'(by omega)).toNat : Nat) : Int) := by
    unfold byteAt
    have hl : n.toNat < s.data.toList.length := by rw [Array.length_toList]; exact (show n.toNat < s.size by omega)
    rw [List.getD_eq_getElem?_getD, List.getElem?_eq_getElem hl]
    rfl
  rw [this]
theorem good_extract (h : Rp M0 base g st a w) {x : Operand} {i : Nat} (ho : o.op = .extract x i) (hv : va T st K o.op) : Good P M0 g st a w K o := by
  rw [ho] at hv
  simp only [va] at hv
  obtain ⟨vs, r, hx, hr, hK⟩ := hv
  have hp := h.ev hx
  simp only [FR, VR] at hp
  obtain ⟨us, hp, hvs⟩ := hp
  obtain ⟨v, h1, h2⟩ := VRs.get hvs hr
  refine ⟨_, _, v, hK, h2, fun w' _ => ?_⟩
  simp [execOp, ho, hp, Instr.extract, h1]
theorem good_nilCheck (h : Rp M0 base g st a w) {x : Operand} (ho : o.op = .nilCheck x) (hv : va T st K o.op) : Good P M0 g st a w K o := by
  rw [ho] at hv
  simp only [va] at hv
  split at hv
  · rename_i s off hx
    have hp := h.ev hx
    refine ⟨_, _, _, hv, hp, fun w' _ => ?_⟩
    have hp : a.eval x = .pointer (some ⟨g.β s, off, none⟩) := hp
    simp [execOp, ho, hp]
  · rename_i cs hx
    have hp := h.ev hx
    refine ⟨_, _, _, hv, hp, fun w' _ => ?_⟩
    obtain ⟨b, off, hp, hc⟩ := hp
    simp [execOp, ho, hp]
  · rename_i k sz i off hx
    have hp := h.ev hx
    refine ⟨_, _, _, hv, hp, fun w' _ => ?_⟩
    obtain ⟨b, hb, hp⟩ := hp
    simp [execOp, ho, hp]
  · exact hv.elim
theorem good_unOp (h : Rp M0 base g st a w) {op : UnOp} {t : TypeId} {x : Operand} (ho : o.op = .unOp op t x) (hv : va T st K o.op) : Good P M0 g st a w K o := by
  rw [ho] at hv
  simp only [va] at hv
  obtain ⟨u, hx, hv⟩ := hv
  have hxv := h.val1 hx
  split at hv
  · exact ⟨_, _, _, hv, rfl, fun w' _ => by simp [execOp, ho, hxv, Op.unary]⟩
  · exact ⟨_, _, _, hv, rfl, fun w' _ => by simp [execOp, ho, hxv, Op.unary, Op.intArith]⟩
  · exact hv.elim
theorem good_binOp (hT : TabOk P T) (h : Rp M0 base g st a w) {op : BinOp} {t yt : TypeId} {x y : Operand} (ho : o.op = .binOp op t x y yt) (hv : va T st K o.op) : Good P M0 g st a w K o := by
  rw [ho] at hv
  simp only [va] at hv
  rcases hv with ⟨u, v, hx, hy, hv⟩ | ⟨ti, p, q, hti, hsh, hx, hy, hv⟩
  rotate_left
  · have hxv := h.val1 hx
    have hyv := h.val1 hy
    have ty := (hT _ _ hti).desc
    rw [hsh] at ty
    have heq : ∀ w' : World, (Op.equalIn 10000 t (.bool p) (.bool q)).run P w' = .ok (p == q) w' := fun w' => run_equalIn_bool w' 9999 t p q ty
    rcases hv with ⟨rfl, hK⟩ | ⟨rfl, hK⟩
    · refine ⟨_, _, .bool (p == q), hK, rfl, fun w' _ => ?_⟩
      simp [execOp, ho, hxv, hyv, Go.binOp, eqGuard, Op.equal, Op.maxDepth, heq w']
    · refine ⟨_, _, .bool (!(p == q)), hK, rfl, fun w' _ => ?_⟩
      simp [execOp, ho, hxv, hyv, Go.binOp, eqGuard, Op.equal, Op.maxDepth, heq w']
  have hxv := h.val1 hx
  have hyv := h.val1 hy
  unfold vbin at hv
  split at hv
  · rename_i k n k' m
    obtain ⟨rfl, hv⟩ := hv
    cases op <;> simp only at hv
    all_goals first
      | exact hv.elim
      | exact ⟨_, _, _, hv, rfl, fun w' _ => by simp [execOp, ho, hxv, hyv, Go.binOp, Op.intArith, Op.intCmp, Op.intBits, eqGuard]⟩
      | exact ⟨_, _, _, hv.2, rfl, fun w' _ => by simp [execOp, ho, hxv, hyv, Go.binOp, Op.intDiv, eqGuard, hv.1]⟩
  · cases op <;> simp only at hv
    all_goals first
      | exact hv.elim
      | exact ⟨_, _, _, hv, rfl, fun w' _ => by simp [execOp, ho, hxv, hyv, Go.binOp, Op.stringOp, eqGuard]⟩
      | exact ⟨_, _, _, hv.2, rfl, fun w' _ => by have e := run_string_add_sum (P := P) w' _ _ hv.1; simp [execOp, ho, hxv, hyv, Go.binOp, eqGuard, e]⟩
  · exact hv.elim
theorem good_max (h : Rp M0 base g st a w) {c : Call} (ho : o.op = .call c) (hc : c.callee = .builtin .max) (hv : va T st K o.op) : Good P M0 g st a w K o := by
  rw [ho] at hv
  simp only [va, hc] at hv
  obtain ⟨x, y, n, m, ha, hx, hy, hK⟩ := hv
  refine ⟨_, _, _, hK, rfl, fun w' _ => ?_⟩
  simp [execOp, ho, resolve, hc, ha, h.val1 hx, h.val1 hy, invoke, builtin, Builtin.max_, Builtin.max2]
theorem good_len (hT : TabOk P T) (h : Rp M0 base g st a w) {c : Call} (ho : o.op = .call c) (hc : c.callee = .builtin .len) (hv : va T st K o.op) : Good P M0 g st a w K o := by
  rw [ho] at hv
  simp only [va, hc] at hv
  obtain ⟨x, t, ti, ha, hat, hti, hv⟩ := hv
  have ty := hT _ _ hti
  have run : ∀ (v : Value) (n : Nat), a.eval x = v → (∀ w' : World, (Builtin.len_ #[t] o.type #[v]).run P w' = .ok (.int .i64 n) w') → ∀ w' : World, (execOp a.eval o).run P w' = .ok (.value (.int .i64 n)) w' := by
    intro v n hp hr w'
    simp [execOp, ho, resolve, hc, ha, hat, hp, invoke, builtin, hr w']
  split at hv
  · rename_i s hx
    obtain ⟨hs, hK⟩ := hv
    exact ⟨_, _, _, hK, rfl, fun w' _ => run _ _ (h.evv hx) (fun w' => by simp [Builtin.len_, run_underlying (ty.str hs), goInt]) w'⟩
  · rename_i hx
    obtain ⟨e, hs, hK⟩ := hv
    exact ⟨_, _, _, hK, rfl, fun w' _ => run _ 0 (h.evv hx) (fun w' => by simp [Builtin.len_, run_underlying (ty.slice hs), goInt]) w'⟩
  · rename_i sz xs hx
    obtain ⟨e, hs, hK⟩ := hv
    have hr := h.ev hx
    simp only [FR, VR] at hr
    obtain ⟨A, cap, hp, _⟩ := hr
    exact ⟨_, _, _, hK, rfl, fun w' _ => run _ _ hp (fun w' => by simp [Builtin.len_, run_underlying (ty.slice hs), goInt]) w'⟩
  · rename_i k hx
    obtain ⟨ow, e, hk, hs, hK⟩ := hv
    have hp : a.eval x = g.ν k := h.ev hx
    obtain ⟨vals, hown, _⟩ := h.own k ow hk
    have hsl : ∃ A c, g.ν k = .slice A ow.xs.length c := by
      rcases hown.2 with ⟨e1, e2⟩ | ⟨gg, cap, cur, e1, _⟩
      · exact ⟨none, 0, by rw [e1, e2]⟩
      · exact ⟨_, _, e1⟩
    obtain ⟨A, cc, hsl⟩ := hsl
    exact ⟨_, _, _, hK, rfl, fun w' _ => run _ _ (hp.trans hsl) (fun w' => by simp [Builtin.len_, run_underlying (ty.slice hs), goInt]) w'⟩
  · exact hv.elim
end
end Go.Proofs.Ytnoohgiecnmajaa.VC

