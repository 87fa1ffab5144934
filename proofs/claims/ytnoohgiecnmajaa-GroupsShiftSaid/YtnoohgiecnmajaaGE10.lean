/- A part of the ground of the proof. No condition. -/
import Derived.Test.YtnoohgiecnmajaaGE23

/- The engine, part 10: the operations that make memory, write it, or call. -/
namespace Go.Proofs.Ytnoohgiecnmajaa.VC
open Go Go.RowKit
set_option linter.unusedVariables false
set_option linter.unusedSimpArgs false

def fcells (st : St) : FE → Option (List FE)
  | .pv x => (svcells x).map (·.map .pv)
  | .own k => if (look k st.own).isSome then some [.own k] else none
  | .ptr s o => some [.ptr s o]
  | _ => none
def vrows (T : Tab) (e : TypeId) (st : St) (sz : Nat) : List (List SV) → List (Nat × Operand) → Option (List (List SV) × List Nat)
  | rows, [] => some (rows, [])
  | rows, (i, x) :: rest => (ev st x).bind fun fe => (pf st fe).bind fun p => (svcells (normT T e p.1)).bind fun cs =>
    if cs.length = sz ∧ i < rows.length then (vrows T e st sz (rows.set i cs) rest).map fun r => (r.1, p.2 ++ r.2) else none
/-- What is appended: elements, and whose they are. -/
def vsrc (st : St) (sz : Nat) : FE → Option (List (List SV) × List Nat)
  | .pv (.sl s ys) => if s = sz then some (ys, []) else none
  | .pv (.val (.slice none 0 0)) => some ([], [])
  | .own k => (look k st.own).bind fun o => if o.sz = sz then some (o.xs, [k]) else none
  | _ => none
/-- Functions that take an own slice over. -/
def takes (f : FuncId) : Bool := f == 126
def isPtr (T : Tab) (t : TypeId) : Bool := match T t with | some ti => (match ti.sh with | .ptr _ => true | _ => false) | none => false
def quietB (T : Tab) : Op → Bool
  | .store _ _ _ => false
  | .mapUpdate _ _ _ _ => false
  | .call c => match c.callee with | .builtin .append => false | .value (.func f) => !(takes f || c.argTypes.toList.any (isPtr T)) | _ => true
  | _ => true
/-- Values as told, one by one. -/
def FRs (g : Gh) (M : Region) (w : World) : List FE → List Value → Prop
  | [], vs => vs = []
  | c :: cs, vs => ∃ v vs', vs = v :: vs' ∧ FR g M w c v ∧ FRs g M w cs vs'
def normF (T : Tab) (t : Option TypeId) : FE → FE
  | .pv x => .pv (normO T t x)
  | fe => fe
def evs (T : Tab) (st : St) : List Operand → List TypeId → Option (List FE)
  | [], _ => some []
  | x :: xs, ts => (ev st x).bind fun fe => (evs T st xs ts.tail).map fun r => normF T ts.head? fe :: r
/-- A call that may write what it is handed: told by the caller's state. -/
structure HQ (P : Program) (f : FuncId) (st : St) (args : List FE) (K : FE → St → Prop) : Prop where
  there : ∃ fn, P.funcs[f]? = some fn ∧ (fn.name == "runtime.NumGoroutine") = false ∧ fn.body.isNone = false
  calls : ∀ (M0 : Region) (base : Bs) (g : Gh) (a : Act) (w : World) (vs : List Value), Rp M0 base g st a w → FRs g (Mset M0 g st) w args vs →
    Calls P f vs.toArray w fun e w' => ∃ v fe g' st', e = .returned v ∧ Rp M0 base g' st' a w' ∧ FR g' (Mset M0 g' st') w' fe v ∧ K fe st'
theorem HQ.mono {P : Program} {f : FuncId} {st : St} {args : List FE} {K K' : FE → St → Prop} (h : HQ P f st args K) (hk : ∀ fe st', K fe st' → K' fe st') : HQ P f st args K' :=
  ⟨h.there, fun M0 base g a w vs h1 h2 => (h.calls M0 base g a w vs h1 h2).mono fun e w' ⟨v, fe, g', st', q1, q2, q3, q4⟩ => ⟨v, fe, g', st', q1, q2, q3, hk _ _ q4⟩⟩
def vb (P : Program) (T : Tab) (st : St) (K : St → Prop) (dst : Option Nat) : Op → Prop
  | .alloc e => ∃ d ti, dst = some d ∧ d < st.n ∧ T e = some ti ∧ K (st.newBox d e (ti.zero.map .pv))
  | .box e x => ∃ d fe cs, dst = some d ∧ d < st.n ∧ ev st x = some fe ∧ fcells st fe = some cs ∧ K (st.newBox d e cs)
  | .store t addr x => ∃ ti fe, T t = some ti ∧ st.fits dst ∧ ev st x = some fe ∧
    match ev st addr with
    | some (.ptr s off) => ∃ b cs, look s st.box = some b ∧ fcells st fe = some cs ∧ cs.length = ti.size ∧ off + ti.size ≤ b.2.length ∧
        K ((st.setBox s b.1 (splice b.2 off cs)).set dst .dead)
    | some (.optr k sz i off) => ∃ o x cs, look k st.own = some o ∧ o.virgin = true ∧ o.sz = sz ∧ fe = .pv x ∧ svcells x = some cs ∧ cs.length = ti.size ∧ i < o.xs.length ∧ off + ti.size ≤ sz ∧
        K ((st.setOwn k { o with xs := o.xs.set i ((o.xs.getD i []).take off ++ cs ++ (o.xs.getD i []).drop (off + ti.size)) }).set dst .dead)
    | _ => False
  | .buildSlice t len parts => ∃ d ti e te r, dst = some d ∧ d < st.n ∧ T t = some ti ∧ ti.sh = .slice e ∧ T e = some te ∧ 0 < te.size ∧ len * te.size ≤ 16777216 ∧
      vrows T e st te.size (List.replicate len (zipNil te.nz te.zero)) parts.toList = some r ∧ K ((st.exposes r.2).newOwn d ⟨te.size, e, true, r.1⟩)
  | .convert src t x => ∃ ts td e te s, T src = some ts ∧ T t = some td ∧ ts.sh = .str ∧ td.sh = .slice e ∧ T e = some te ∧ te.sh = .int .u8 ∧ val1 st x = some (.string s) ∧ st.fits dst ∧ K (st.set dst (.pv (.sl 1 (byteRows (numsOf s)))))
  | .call c =>
    match c.callee with
    | .value (.func f) => (∃ r, vargs T st c.args.toList c.argTypes.toList = some r ∧ st.fits dst ∧ VCalls P f r.1 (fun x => K ((st.exposes r.2).set dst (.pv x)))) ∨
        (quietB T (.call c) = false ∧ st.fits dst ∧ ∃ fes, evs T st c.args.toList c.argTypes.toList = some fes ∧ HQ P f st fes (fun fe st' => K (st'.set dst fe)))
    | .builtin .append => ∃ d x y t ti e te fy s, c.args = #[x, y] ∧ c.argTypes = #[t, t] ∧ dst = some d ∧ d < st.n ∧ T t = some ti ∧ ti.sh = .slice e ∧ T e = some te ∧ 0 < te.size ∧ 0 < te.bytes ∧
        ev st y = some fy ∧ vsrc st te.size fy = some s ∧
        match ev st x with
        | some (.pv (.val (.slice none 0 0))) => s.1.length * te.bytes ≤ 140737488355328 ∧ K ((st.exposes s.2).newOwn d ⟨te.size, e, true, s.1⟩)
        | some (.own k) => ∃ o, look k st.own = some o ∧ o.sz = te.size ∧ o.e = e ∧ (k ∈ s.2 → False) ∧ (o.xs.length + s.1.length) * te.bytes ≤ 140737488355328 ∧ K (((st.exposes s.2).noOwn k).newOwn d ⟨o.sz, o.e, o.virgin, o.xs ++ s.1⟩)
        | _ => False
    | .builtin .len => ∃ x t j m, c.args = #[x] ∧ c.argTypes = #[t] ∧ T t = none ∧ ev st x = some (.map j) ∧ look j st.mp = some m ∧ st.fits dst ∧ LenTy P t ∧ K (st.set dst (.pv (.val (.int .i64 m.length))))
    | _ => False
  | .makeMap t none => ∃ d, dst = some d ∧ d < st.n ∧ K (st.newMap d)
  | .lookup t x k ok => ∃ j m kv v b, ev st x = some (.map j) ∧ look j st.mp = some m ∧ val1 st k = some kv ∧ st.fits dst ∧ MLook P t m kv v b ∧ K (st.set dst (.pv (match ok with | true => .tuple [.val v, .val (.bool b)] | false => .val v)))
  | .mapUpdate t x k y => ∃ j m kv v m', ev st x = some (.map j) ∧ look j st.mp = some m ∧ val1 st k = some kv ∧ val1 st y = some v ∧ st.fits dst ∧ MUpd P t m kv v m' ∧ K ((st.setMap j m').set dst .dead)
  | .binOp op t x y _ => ∃ ti us vs b, T t = some ti ∧ ti.sh.row = true ∧ ev st x = some (.pv (.agg us)) ∧ ev st y = some (.pv (.agg vs)) ∧ st.fits dst ∧ EqS P t us vs b ∧
      ((op = .eql ∧ K (st.set dst (.pv (.val (.bool b))))) ∨ (op = .neq ∧ K (st.set dst (.pv (.val (.bool (!b)))))))
  | _ => False

section
variable {M0 : Region} {base : Bs} {g : Gh} {st : St} {a : Act} {w w' : World} {P : Program} {T : Tab} {o : Oper} {K : St → Prop} {Kw : Act → World → Prop} {Q : Exit → Act → World → Prop}

theorem fcells_ok (h : Rp M0 base g st a w) {fe : FE} {cs : List FE} {v : Value} (hx : FR g (Mset M0 g st) w fe v) (hc : fcells st fe = some cs) : FRc g (Mset M0 g st) w cs v.cells.toList := by
  cases fe <;> simp only [fcells] at hc
  case pv x =>
    obtain ⟨c, hc', rfl⟩ := Option.map_eq_some_iff.1 hc
    exact FRc.of_vrc (svcells_ok hx hc')
  case own k =>
    split at hc
    · rename_i hk
      cases hc
      obtain ⟨p, hp⟩ := Option.isSome_iff_exists.1 hk
      obtain ⟨vals, h1, _⟩ := h.own k p hp
      have hx : v = g.ν k := hx
      have hone : v.oneCell' = true := by
        rw [hx]
        rcases h1.2 with ⟨e, _⟩ | ⟨gg, cap, cur, e, _⟩ <;> rw [e] <;> rfl
      rw [cells_one hone]
      simp only [FRc]
      exact ⟨v, [], rfl, hx, hone, rfl⟩
    · cases hc
  case ptr s off =>
    cases hc
    have hx : v = .pointer (some ⟨g.β s, off, none⟩) := hx
    subst hx
    simp only [FRc]
    exact ⟨_, [], rfl, rfl, rfl, rfl⟩
  all_goals cases hc

theorem take_splice {α : Type} (cur X : List α) (q n : Nat) (h : q + X.length ≤ n) (hn : n ≤ cur.length) :
    (cur.take q ++ X ++ cur.drop (q + X.length)).take n = (cur.take n).take q ++ X ++ (cur.take n).drop (q + X.length) := by
  obtain ⟨A, R, rfl, hA⟩ : ∃ A R, cur = A ++ R ∧ A.length = q := ⟨cur.take q, cur.drop q, by simp, by rw [List.length_take]; omega⟩
  obtain ⟨B, S, rfl, hB⟩ : ∃ B S, R = B ++ S ∧ B.length = X.length := ⟨R.take X.length, R.drop X.length, by simp, by simp at hn; rw [List.length_take]; omega⟩
  obtain ⟨C, D, rfl, hC⟩ : ∃ C D, S = C ++ D ∧ C.length = n - q - X.length := ⟨S.take (n - q - X.length), S.drop (n - q - X.length), by simp, by simp at hn; rw [List.length_take]; omega⟩
  have e1 : (A ++ (B ++ (C ++ D))).take q = A := List.take_left' hA
  have e2 : (A ++ (B ++ (C ++ D))).drop (q + X.length) = C ++ D := by rw [← List.append_assoc]; exact List.drop_left' (by simp; omega)
  have e3 : (A ++ (B ++ (C ++ D))).take n = A ++ (B ++ C) := by
    rw [show A ++ (B ++ (C ++ D)) = (A ++ (B ++ C)) ++ D by simp]
    exact List.take_left' (by simp; omega)
  have e4 : (A ++ (B ++ C)).take q = A := List.take_left' hA
  have e5 : (A ++ (B ++ C)).drop (q + X.length) = C := by rw [← List.append_assoc]; exact List.drop_left' (by simp; omega)
  have e6 : (A ++ X ++ (C ++ D)).take n = A ++ X ++ C := by
    rw [show A ++ X ++ (C ++ D) = (A ++ X ++ C) ++ D by simp]
    exact List.take_left' (by simp; omega)
  rw [e1, e2, e3, e4, e5, e6]
theorem wp_of_run {v : Value} (hr : (execOp a.eval o).run P w = .ok (.value v) w') (hK : Kw (a.put o.dst v) w') : o.wp P a w Kw Q := by
  unfold Oper.wp
  rw [hr]
  exact hK
theorem wp_of_skip (hr : (execOp a.eval o).run P w = .ok .skip w') (hK : Kw (a.put o.dst undef) w') : o.wp P a w Kw Q := by
  unfold Oper.wp
  rw [hr]
  exact hK

theorem sound_alloc (hT : TabOk P T) (h : Rp M0 base g st a w) {e : TypeId} (ho : o.op = .alloc e) (hv : vb P T st K o.dst o.op)
    (hK : ∀ g' st' a' w', K st' → Rp M0 base g' st' a' w' → (quietB T o.op = true → Hold w w') → Kw a' w') : o.wp P a w Kw Q := by
  rw [ho] at hv
  simp only [vb] at hv
  obtain ⟨d, ti, hd, hdn, hti, hK'⟩ := hv
  obtain ⟨i, z, h1, h2, h3, h4, h5, h6, _⟩ := (hT _ _ hti).info
  have hr : (execOp a.eval o).run P w = .ok (.value (.pointer (some ⟨w.heap.size, 0, none⟩))) (w.alloc (.cells z.cells e)) := by
    simp [execOp, ho, Instr.alloc, zeroValue, typeInfo, h1, h4, newVar, newRow]
  have hnew : (w.alloc (.cells z.cells e)).heap[w.heap.size]? = some (.cells z.cells.toList.toArray e (0, 0)) := by rw [heap_alloc_new]
  have hp := h.newBox (h.below.alloc _) (Hold.alloc w _) hnew (FRc.of_vrc (h5 _ _)) hdn
  rw [← hd] at hp
  exact wp_of_run hr (hK _ _ _ _ hK' hp (fun _ => Hold.alloc w _))
theorem sound_box (hT : TabOk P T) (h : Rp M0 base g st a w) {e : TypeId} {x : Operand} (ho : o.op = .box e x) (hv : vb P T st K o.dst o.op)
    (hK : ∀ g' st' a' w', K st' → Rp M0 base g' st' a' w' → (quietB T o.op = true → Hold w w') → Kw a' w') : o.wp P a w Kw Q := by
  rw [ho] at hv
  simp only [vb] at hv
  obtain ⟨d, fe, cs, hd, hdn, he, hc, hK'⟩ := hv
  have hr : (execOp a.eval o).run P w = .ok (.value (.pointer (some ⟨w.heap.size, 0, none⟩))) (w.alloc (.cells (a.eval x).cells e)) := by
    simp [execOp, ho, Instr.box, newVar, newRow]
  have hnew : (w.alloc (.cells (a.eval x).cells e)).heap[w.heap.size]? = some (.cells (a.eval x).cells.toList.toArray e (0, 0)) := by rw [heap_alloc_new]
  have hp := h.newBox (h.below.alloc _) (Hold.alloc w _) hnew (fcells_ok h (h.ev he) hc) hdn
  rw [← hd] at hp
  exact wp_of_run hr (hK _ _ _ _ hK' hp (fun _ => Hold.alloc w _))
theorem set_dead (h : Rp M0 base g st a w) (hd : st.fits o.dst) (v : Value) : Rp M0 base g (st.set o.dst .dead) (a.put o.dst v) w := h.set o.dst hd (fe := .dead) trivial
theorem sound_store (hT : TabOk P T) (h : Rp M0 base g st a w) {t : TypeId} {addr x : Operand} (ho : o.op = .store t addr x) (hv : vb P T st K o.dst o.op)
    (hK : ∀ g' st' a' w', K st' → Rp M0 base g' st' a' w' → (quietB T o.op = true → Hold w w') → Kw a' w') : o.wp P a w Kw Q := by
  have hq : quietB T o.op = false := by rw [ho]; rfl
  rw [ho] at hv
  simp only [vb] at hv
  obtain ⟨ti, fe, hti, hfit, hx, hv⟩ := hv
  have ty := hT _ _ hti
  have hxr := h.ev hx
  split at hv
  · rename_i s off hp
    obtain ⟨⟨TT, cur⟩, cs, hb, hc, hlen, hfit2, hK'⟩ := hv
    have hp : a.eval addr = .pointer (some ⟨g.β s, off, none⟩) := h.ev hp
    obtain ⟨hge, vs, hh, hcur⟩ := h.box s TT cur hb
    rw [splice_eq hlen hfit2] at hK'
    have hcs := fcells_ok h hxr hc
    have hl := FRc.length hcs
    have hl2 := FRc.length hcur
    simp only at hfit2
    have hr := run_storeAt_row (P := P) (w := w) ty hh (off := off) (v := a.eval x) (by simpa [hlen] using hl) (FRc.one hcs) (by simp; omega)
    have hr2 : (execOp a.eval o).run P w = .ok .skip (w.setRow (g.β s) (vs.toArray.toList.take off ++ (a.eval x).cells.toList ++ vs.toArray.toList.drop (off + ti.size)).toArray) := by
      simp only [execOp, ho, Sem.run_bind, hp, hr, Result.andThen_ok, Sem.run_pure]
    refine wp_of_skip hr2 (hK g _ _ _ hK' ?_ (fun hh => by rw [hq] at hh; cases hh))
    have hb' : Bel base.X base.w (w.setRow (g.β s) (vs.toArray.toList.take off ++ (a.eval x).cells.toList ++ vs.toArray.toList.drop (off + ti.size)).toArray) :=
      h.below.step rfl rfl rfl (by simp [World.setRow]) (fun k hk hm => setRow_other w _ k _ (fun e => hm (by rw [e]; exact hge)))
    refine set_dead (h.setBox hb' hb (setRow_heap w _ _ _ _ _ hh) (fun k hk _ => setRow_other w _ k _ hk) ?_) ?_ _
    · simp only [List.toList_toArray]
      exact FRc.append (FRc.append (FRc.take hcur _) hcs) (FRc.drop hcur _)
    · exact hfit
  · rename_i k sz i off hp
    obtain ⟨p, y, cs, hk, hvir, hsz, rfl, hc, hlen, hi, hfit2, hK'⟩ := hv
    obtain ⟨b, hb, hp⟩ := h.ev hp
    obtain ⟨vals, hrow, hvals, hlp⟩ := h.own k p hk
    rcases hrow.2 with ⟨e1, e2⟩ | ⟨gg, cap, cur, e1, e2, e3, e4, e5, e6, e7⟩
    · omega
    have hbb : gg = b := by rw [e1] at hb; simpa [Value.ownBlock] using hb
    subst hbb
    have hcs := svcells_ok hxr hc
    have hl := VRc.length hcs
    have hfl := flatten_len hlp
    subst hsz
    have hmul : i * p.sz + p.sz ≤ p.xs.length * p.sz := by rw [← Nat.succ_mul]; exact Nat.mul_le_mul_right _ hi
    have hcapm : p.xs.length * p.sz ≤ cap * p.sz := Nat.mul_le_mul_right _ e4
    have hr := run_storeAt_row (P := P) (w := w) ty e3 (off := i * p.sz + off) (v := a.eval x) (by simpa [hlen] using hl) (VRc.one hcs) (by rw [e6]; clear hK hfl; omega)
    have hr2 : (execOp a.eval o).run P w = .ok .skip (w.setRow gg (cur.toList.take (i * p.sz + off) ++ (a.eval x).cells.toList ++ cur.toList.drop (i * p.sz + off + ti.size)).toArray) := by
      simp only [execOp, ho, Sem.run_bind, hp, hr, Result.andThen_ok, Sem.run_pure]
    refine wp_of_skip hr2 (hK g _ _ _ hK' ?_ (fun hh => by rw [hq] at hh; cases hh))
    have hb' : Bel base.X base.w (w.setRow gg (cur.toList.take (i * p.sz + off) ++ (a.eval x).cells.toList ++ cur.toList.drop (i * p.sz + off + ti.size)).toArray) :=
      h.below.step rfl rfl rfl (by simp [World.setRow]) (fun k hk' hm => setRow_other w _ k _ (fun e => hm (by rw [e]; exact h.omine _ p gg hk hb)))
    have hx2 : p.xs[i]? = some (p.xs.getD i []) := by rw [List.getD_eq_getElem?_getD, List.getElem?_eq_getElem hi]; simp
    have hrl : (p.xs.getD i []).length = p.sz := hlp _ (List.mem_iff_getElem?.2 ⟨i, hx2⟩)
    have hrow2 : ((p.xs.getD i []).take off ++ cs ++ (p.xs.getD i []).drop (off + ti.size)).length = p.sz := by simp only [List.length_append, List.length_take, List.length_drop, hlen, hrl]; omega
    have hcl : cur.toList.length = cur.size := Array.length_toList
    -- the new cells
    have hflat : (p.xs.set i ((p.xs.getD i []).take off ++ cs ++ (p.xs.getD i []).drop (off + ti.size))).flatten = p.xs.flatten.take (i * p.sz + off) ++ cs ++ p.xs.flatten.drop (i * p.sz + off + ti.size) := by
      rw [flatten_set hlp hi]
      have hsplit : p.xs.flatten = p.xs.flatten.take (i * p.sz) ++ (p.xs.getD i []) ++ p.xs.flatten.drop (i * p.sz + p.sz) := by
        have := flatten_set (cs := p.xs.getD i []) hlp hi
        rw [← this]
        congr 1
        apply List.ext_getElem?
        intro j
        rw [List.getElem?_set]
        by_cases hj : i = j
        · subst hj; rw [if_pos rfl, if_pos hi]; exact hx2
        · rw [if_neg hj]
      have ht : (p.xs.flatten.take (i * p.sz)).length = i * p.sz := by rw [List.length_take]; omega
      have t1 : p.xs.flatten.take (i * p.sz + off) = p.xs.flatten.take (i * p.sz) ++ (p.xs.getD i []).take off := by
        conv => lhs; rw [hsplit]
        rw [List.append_assoc, List.take_append, ht, List.take_of_length_le (by omega), show i * p.sz + off - i * p.sz = off by omega, List.take_append]
        rw [show off - (p.xs.getD i []).length = 0 by omega]
        simp
      have t2 : p.xs.flatten.drop (i * p.sz + off + ti.size) = (p.xs.getD i []).drop (off + ti.size) ++ p.xs.flatten.drop (i * p.sz + p.sz) := by
        conv => lhs; rw [hsplit]
        rw [List.append_assoc, List.drop_append, ht, List.drop_eq_nil_of_le (by omega), show i * p.sz + off + ti.size - i * p.sz = off + ti.size by omega, List.drop_append]
        rw [show off + ti.size - (p.xs.getD i []).length = 0 by omega]
        simp
      rw [t1, t2]
      simp
    refine set_dead (Rp.setOwn h hb' hk hvir (b := gg) hb (fun i' hi' _ => setRow_other w _ i' _ hi') (xs := p.xs.set i ((p.xs.getD i []).take off ++ cs ++ (p.xs.getD i []).drop (off + ti.size))) (vals := vals.take (i * p.sz + off) ++ (a.eval x).cells.toList ++ vals.drop (i * p.sz + off + ti.size)) ?_ ?_ ?_) hfit _
    · have hvl : vals.length = p.xs.length * p.sz := hrow.1
      rw [List.length_set]
      refine ⟨by simp at hl ⊢; omega, .inr ⟨gg, cap, _, e1, e2, setRow_heap w _ _ _ _ _ e3, e4, e5, ?_, ?_⟩⟩
      · simp at hl ⊢; omega
      · rw [← e7]
        simp only [List.toList_toArray]
        have hl' : (a.eval x).cells.toList.length = ti.size := by omega
        have := take_splice cur.toList (a.eval x).cells.toList (i * p.sz + off) (p.xs.length * p.sz) (by omega) (by omega)
        rw [hl'] at this
        exact this
    · rw [hflat]
      exact VRc.append (VRc.append (VRc.take hvals _) hcs) (VRc.drop hvals _)
    · intro r hr
      rcases List.mem_or_eq_of_mem_set hr with hr | rfl
      · exact hlp r hr
      · exact hrow2
  · exact hv.elim
end
end Go.Proofs.Ytnoohgiecnmajaa.VC

