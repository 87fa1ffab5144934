/- A part of the ground of the proof. No condition. -/
import Derived.Test.YtnoohgiecnmajaaGE15

/- The engine, part 16: the reducing form of operations that make memory, of regions and of code. -/
namespace Go.Proofs.Ytnoohgiecnmajaa.VC
open Go Go.RowKit
set_option linter.unusedVariables false
set_option linter.unusedSimpArgs false

def natEq (a b : Nat) : Bool := Nat.beq a b
/-- 'vb', reducing. -/
def xb (P : Program) (T : Tab) (st : St) (K : St → Prop) (dst : Option Nat) : Op → Prop
  | .alloc e => match dst, T e with
    | some d, some ti => match Nat.blt d st.n with | true => K (st.newBox d e (ti.zero.map .pv)) | false => False
    | _, _ => False
  | .box e x => match dst, ev st x with
    | some d, some fe => match Nat.blt d st.n, fcells st fe with | true, some cs => K (st.newBox d e cs) | _, _ => False
    | _, _ => False
  | .store t addr x => match T t, ev st x, fitB st dst with
    | some ti, some fe, true => match ev st addr with
      | some (.ptr s off) => match look s st.box, fcells st fe with
        | some b, some cs => match Nat.beq cs.length ti.size, Nat.ble (off + ti.size) b.2.length with
          | true, true => K ((st.setBox s b.1 (splice b.2 off cs)).set dst .dead)
          | _, _ => False
        | _, _ => False
      | some (.optr k sz i off) => match look k st.own, fe with
        | some o, .pv x => match o.virgin, svcells x with
          | true, some cs => match Nat.beq o.sz sz, Nat.beq cs.length ti.size, Nat.ble (off + ti.size) sz with
            | true, true, true => i < o.xs.length ∧ K ((st.setOwn k ⟨o.sz, o.e, o.virgin, o.xs.set i ((o.xs.getD i []).take off ++ cs ++ (o.xs.getD i []).drop (off + ti.size))⟩).set dst .dead)
            | _, _, _ => False
          | _, _ => False
        | _, _ => False
      | _ => False
    | _, _, _ => False
  | .buildSlice t len parts => match dst, T t with
    | some d, some ti => match ti.sh with
      | .slice e => match T e with
        | some te => match Nat.blt d st.n, Nat.blt 0 te.size, Nat.ble (len * te.size) 16777216, vrows T e st te.size (List.replicate len (zipNil te.nz te.zero)) parts.toList with
          | true, true, true, some r => K ((st.exposes r.2).newOwn d ⟨te.size, e, true, r.1⟩)
          | _, _, _, _ => False
        | none => False
      | _ => False
    | _, _ => False
  | .convert src t x => match T src, T t, val1 st x with
    | some ts, some td, some (.string s) => match ts.sh, td.sh with
      | .str, .slice e => match T e with
        | some te => match te.sh, fitB st dst with
          | .int .u8, true => K (st.set dst (.pv (.sl 1 (byteRows (numsOf s)))))
          | _, _ => False
        | none => False
      | _, _ => False
    | _, _, _ => False
  | .call c => match c.callee, c.args.toList, c.argTypes.toList with
    | .value (.func f), args, ts => match quietB T (.call c), fitB st dst with
      | true, true => match vargs T st args ts with
        | some r => VCalls P f r.1 (fun x => K ((st.exposes r.2).set dst (.pv x)))
        | none => False
      | false, true => match evs T st args ts with
        | some fes => HQ P f st fes (fun fe st' => K (st'.set dst fe))
        | none => False
      | _, _ => False
    | .builtin .append, [x, y], [t, t'] => match Nat.beq t t', dst, T t, ev st y with
      | true, some d, some ti, some fy => match ti.sh with
        | .slice e => match T e with
          | some te => match Nat.blt d st.n, Nat.blt 0 te.size, Nat.blt 0 te.bytes, vsrc st te.size fy with
            | true, true, true, some s => match ev st x with
              | some (.pv (.val (.slice none 0 0))) => s.1.length * te.bytes ≤ 140737488355328 ∧ K ((st.exposes s.2).newOwn d ⟨te.size, e, true, s.1⟩)
              | some (.own k) => match look k st.own with
                | some o => match Nat.beq o.sz te.size, Nat.beq o.e e, s.2.contains k with
                  | true, true, false => (o.xs.length + s.1.length) * te.bytes ≤ 140737488355328 ∧ K (((st.exposes s.2).noOwn k).newOwn d ⟨o.sz, o.e, o.virgin, o.xs ++ s.1⟩)
                  | _, _, _ => False
                | none => False
              | _ => False
            | _, _, _, _ => False
          | none => False
        | _ => False
      | _, _, _, _ => False
    | .builtin .len, [x], [t] => match T t, fitB st dst, ev st x with
      | none, true, some (.map j) => match look j st.mp with
        | some m => LenTy P t ∧ K (st.set dst (.pv (.val (.int .i64 m.length))))
        | none => False
      | _, _, _ => False
    | _, _, _ => False
  | .makeMap t none => match dst with
    | some d => match Nat.blt d st.n with | true => K (st.newMap d) | false => False
    | none => False
  | .lookup t x k ok => match ev st x, val1 st k, fitB st dst with
    | some (.map j), some kv, true => match look j st.mp with
      | some m => ∃ v b, MLook P t m kv v b ∧ K (st.set dst (.pv (match ok with | true => .tuple [.val v, .val (.bool b)] | false => .val v)))
      | none => False
    | _, _, _ => False
  | .mapUpdate t x k y => match ev st x, val1 st k, val1 st y, fitB st dst with
    | some (.map j), some kv, some v, true => match look j st.mp with
      | some m => ∃ m', MUpd P t m kv v m' ∧ K ((st.setMap j m').set dst .dead)
      | none => False
    | _, _, _, _ => False
  | .binOp op t x y _ => match T t with
    | some ti => match ti.sh.row, ev st x, ev st y, fitB st dst with
      | true, some (.pv (.agg us)), some (.pv (.agg vs)), true => match op with
        | .eql => ∃ b, EqS P t us vs b ∧ K (st.set dst (.pv (.val (.bool b))))
        | .neq => ∃ b, EqS P t us vs b ∧ K (st.set dst (.pv (.val (.bool (!b)))))
        | _ => False
      | _, _, _, _ => False
    | none => False
  | _ => False
theorem xb_ok {P : Program} {T : Tab} {st : St} {K : St → Prop} {dst : Option Nat} {op : Op} (h : xb P T st K dst op) : vb P T st K dst op := by
  cases op <;> simp only [xb] at h <;> try exact h.elim
  case alloc e =>
    simp only [vb]
    split at h
    · rename_i d ti hti
      split at h
      · rename_i hd; exact ⟨d, ti, rfl, Nat.le_of_ble_eq_true hd, hti, h⟩
      · exact h.elim
    · exact h.elim
  case box e x =>
    simp only [vb]
    split at h
    · rename_i d fe hx
      split at h
      · rename_i cs hd hc; exact ⟨d, fe, cs, rfl, Nat.le_of_ble_eq_true hd, hx, hc, h⟩
      · exact h.elim
    · exact h.elim
  case store t addr x =>
    simp only [vb]
    split at h
    · rename_i ti fe hti hx hf
      refine ⟨ti, fe, hti, fitB_ok hf, hx, ?_⟩
      split at h
      · rename_i s off hp
        rw [hp]
        split at h
        · rename_i b cs hb hc
          split at h
          · rename_i h1 h2
            exact ⟨b, cs, hb, hc, Nat.eq_of_beq_eq_true h1, Nat.le_of_ble_eq_true h2, h⟩
          · exact h.elim
        · exact h.elim
      · rename_i k sz i off hp
        rw [hp]
        split at h
        · rename_i o x' hk
          split at h
          · rename_i cs hv hc
            split at h
            · rename_i h1 h2 h3
              exact ⟨o, x', cs, hk, hv, Nat.eq_of_beq_eq_true h1, rfl, hc, Nat.eq_of_beq_eq_true h2, h.1, Nat.le_of_ble_eq_true h3, h.2⟩
            · exact h.elim
          · exact h.elim
        · exact h.elim
      · exact h.elim
    · exact h.elim
  case buildSlice t len ps =>
    simp only [vb]
    split at h
    · rename_i d ti hti
      split at h
      · rename_i e hs
        split at h
        · rename_i te hte
          split at h
          · rename_i r h1 h2 h3 h4
            exact ⟨d, ti, e, te, r, rfl, Nat.le_of_ble_eq_true h1, hti, hs, hte, Nat.le_of_ble_eq_true h2, Nat.le_of_ble_eq_true h3, h4, h⟩
          · exact h.elim
        · exact h.elim
      · exact h.elim
    · exact h.elim
  case convert s d x =>
    simp only [vb]
    split at h
    · rename_i ts td str hts htd hx
      split at h
      · rename_i e h1 h2
        split at h
        · rename_i te hte
          split at h
          · rename_i h3 h4
            exact ⟨ts, td, e, te, str, hts, htd, h1, h2, hte, h3, hx, fitB_ok h4, h⟩
          · exact h.elim
        · exact h.elim
      · exact h.elim
    · exact h.elim
  case call c =>
    simp only [vb]
    split at h
    · rename_i f hc
      rw [hc]
      simp only
      split at h
      · rename_i hq hf
        split at h
        · rename_i r hr
          exact .inl ⟨r, hr, fitB_ok hf, h⟩
        · exact h.elim
      · rename_i hq hf
        split at h
        · rename_i fes hr
          exact .inr ⟨hq, fitB_ok hf, fes, hr, h⟩
        · exact h.elim
      · exact h.elim
    · rename_i x y t t' hc ha hat
      rw [hc]
      simp only
      split at h
      · rename_i d ti fy htt hti hy
        split at h
        · rename_i e hs
          split at h
          · rename_i te hte
            split at h
            · rename_i s h1 h2 h3 h4
              have ett := Nat.eq_of_beq_eq_true htt
              subst ett
              refine ⟨d, x, y, t, ti, e, te, fy, s, by rw [← Array.toArray_toList (xs := c.args), ha], by rw [← Array.toArray_toList (xs := c.argTypes), hat], rfl, Nat.le_of_ble_eq_true h1, hti, hs, hte, Nat.le_of_ble_eq_true h2, Nat.le_of_ble_eq_true h3, hy, h4, ?_⟩
              split at h
              · rename_i hx; rw [hx]; exact h
              · rename_i k hx
                rw [hx]
                split at h
                · rename_i o hk
                  split at h
                  · rename_i g1 g2 g3
                    exact ⟨o, hk, Nat.eq_of_beq_eq_true g1, Nat.eq_of_beq_eq_true g2, fun hm => (by rw [List.contains_iff_mem.2 hm] at g3; cases g3), h⟩
                  · exact h.elim
                · exact h.elim
              · exact h.elim
            · exact h.elim
          · exact h.elim
        · exact h.elim
      · exact h.elim
    · rename_i x t hc ha hat
      rw [hc]
      simp only
      split at h
      · rename_i j hti hf hx
        split at h
        · rename_i m hm
          exact ⟨x, t, j, m, by rw [← Array.toArray_toList (xs := c.args), ha], by rw [← Array.toArray_toList (xs := c.argTypes), hat], hti, hx, hm, fitB_ok hf, h⟩
        · exact h.elim
      · exact h.elim
    · exact h.elim
  case makeMap t r =>
    cases r with
    | none =>
      simp only [vb]
      simp only [xb] at h
      split at h
      · rename_i d
        split at h
        · rename_i hd; exact ⟨d, rfl, Nat.le_of_ble_eq_true hd, h⟩
        · exact h.elim
      · exact h.elim
    | some r => simp only [xb] at h
  case lookup t x k ok =>
    simp only [vb]
    split at h
    · rename_i j kv hx hk hf
      split at h
      · rename_i m hm
        obtain ⟨v, b, h1, h2⟩ := h
        exact ⟨j, m, kv, v, b, hx, hm, hk, fitB_ok hf, h1, h2⟩
      · exact h.elim
    · exact h.elim
  case mapUpdate t x k y =>
    simp only [vb]
    split at h
    · rename_i j kv v hx hk hy hf
      split at h
      · rename_i m hm
        obtain ⟨m', h1, h2⟩ := h
        exact ⟨j, m, kv, v, m', hx, hm, hk, hy, fitB_ok hf, h1, h2⟩
      · exact h.elim
    · exact h.elim
  case binOp op t x y yt =>
    simp only [vb]
    split at h
    · rename_i ti hti
      split at h
      · rename_i us vs hr hx hy hf
        split at h
        · obtain ⟨b, h1, h2⟩ := h; exact ⟨ti, us, vs, b, hti, hr, hx, hy, fitB_ok hf, h1, .inl ⟨rfl, h2⟩⟩
        · obtain ⟨b, h1, h2⟩ := h; exact ⟨ti, us, vs, b, hti, hr, hx, hy, fitB_ok hf, h1, .inr ⟨rfl, h2⟩⟩
        · exact h.elim
      · exact h.elim
    · exact h.elim

/-- Two ways, by a bool. -/
structure Spl (b : Bool) (A B : Prop) : Prop where
  t : b = true → A
  f : b = false → B
theorem Spl.yes {A B : Prop} (h : A) : Spl true A B := ⟨fun _ => h, fun e => (by cases e)⟩
theorem Spl.no {A B : Prop} (h : B) : Spl false A B := ⟨fun e => (by cases e), fun _ => h⟩
theorem Spl.dec {p : Prop} [Decidable p] {A B : Prop} (h1 : p → A) (h2 : ¬ p → B) : Spl (decide p) A B := ⟨fun e => h1 (of_decide_eq_true e), fun e => h2 (of_decide_eq_false e)⟩
theorem Spl.eq {a b : Int} {A B : Prop} (h1 : a = b → A) (h2 : a ≠ b → B) : Spl (a == b) A B := ⟨fun e => h1 (by simpa using e), fun e => h2 (by simpa using e)⟩
theorem Spl.ne {a b : Int} {A B : Prop} (h1 : a ≠ b → A) (h2 : a = b → B) : Spl (a != b) A B := ⟨fun e => h1 (by simpa using e), fun e => h2 (by simpa using e)⟩
theorem toList_inj {a b : ByteArray} (h : a.toList = b.toList) : a = b := by
  rw [ByteArray.toList_eq, ByteArray.toList_eq] at h
  cases a; cases b
  simp only at h
  rw [Array.toList_inj.1 h]
theorem Spl.seq {a b : ByteArray} {A B : Prop} (h1 : a = b → A) (h2 : a ≠ b → B) : Spl (a.toList == b.toList) A B := ⟨fun e => h1 (toList_inj (by simpa using e)), fun e => h2 (fun e2 => by subst e2; simp at e)⟩
theorem Spl.not {b : Bool} {A B : Prop} (h : Spl b B A) : Spl (!b) A B := ⟨fun e => h.f (by simpa using e), fun e => h.t (by simpa using e)⟩
theorem Spl.any {b : Bool} {A B : Prop} (h1 : b = true → A) (h2 : b = false → B) : Spl b A B := ⟨h1, h2⟩
theorem Spl.mono {b : Bool} {A B A' B' : Prop} (h : Spl b A B) (h1 : A → A') (h2 : B → B') : Spl b A' B' := ⟨fun e => h1 (h.t e), fun e => h2 (h.f e)⟩
def xop (P : Program) (T : Tab) (st : St) (o : Oper) (K : St → Prop) : Prop :=
  match isA T o.op with
  | true => match fitB st o.dst with | true => xa T st (fun fe ks => K ((st.exposes ks).set o.dst fe)) o.op | false => False
  | false => xb P T st K o.dst o.op
def xskip (st : St) (o : Oper) (K : St → Prop) : Prop := match fitB st o.dst with | true => K (st.set o.dst (.pv (.val undef))) | false => False
def xguard (P : Program) (T : Tab) (all : List Oper) (st : St) (o : Oper) (K : St → Prop) : Prop :=
  match o.guard with
  | none => xop P T st o K
  | some (j, want) => match nth j all with
    | some p => match p.dst with
      | some d => match look d st.env with
        | some (.pv (.val (.bool b))) => match want with
          | true => Spl b (xop P T (st.put d (.pv (.val (.bool true)))) o K) (xskip (st.put d (.pv (.val (.bool false)))) o K)
          | false => Spl b (xskip (st.put d (.pv (.val (.bool true)))) o K) (xop P T (st.put d (.pv (.val (.bool false)))) o K)
        | some (.pv (.val (.tuple _))) => xskip st o K
        | _ => False
      | none => False
    | none => False
def xops (P : Program) (T : Tab) (all : List Oper) (Q : St → Prop) : List Oper → St → Prop
  | [], st => Q st
  | o :: rest, st => xguard P T all st o (xops P T all Q rest)
def xstep (P : Program) (T : Tab) (all : List Oper) (st : St) (i : Nat) (K : St → Prop) : Prop := match nth i all with | some o => xguard P T all st o K | none => False
def xplan (P : Program) (T : Tab) (all : List Oper) (Q : St → Prop) : Plan → St → Prop
  | .done, st => Q st
  | .one i p, st => xstep P T all st i (xplan P T all Q p)
  | .two i p j q, st => Fork (xstep P T all st i (xplan P T all Q p)) (xstep P T all st j (xplan P T all Q q))
  | .three i p j q k r, st => Fork (xstep P T all st i (xplan P T all Q p)) (Fork (xstep P T all st j (xplan P T all Q q)) (xstep P T all st k (xplan P T all Q r)))
def pickOps (all : List Oper) : List Nat → List Oper
  | [] => []
  | i :: l => match nth i all with | some o => o :: pickOps all l | none => pickOps all l
def xwp (P : Program) (T : Tab) : Code → (Ex → St → Prop) → St → Prop
  | .skip, Q, st => Q .normal st
  | .region _ ops true, Q, st => ∃ pl, okReg T ops pl = true ∧ xplan P T ops.toList (Q .normal) pl st
  | .region _ ops false, Q, st => xops P T ops.toList (Q .normal) ops.toList st
  | .seq a b, Q, st => xwp P T a (Ex.then (xwp P T b Q) Q) st
  | .cond c a b, Q, st => match val1 st c with
    | some (.bool t) => Spl t (xwp P T a Q st) (xwp P T b Q st)
    | _ => False
  | .block id b, Q, st => xwp P T b (Ex.inBlock id Q) st
  | .loop b, Q, st => ∃ I : Nat → St → Prop, (∃ n st0, Wk st st0 ∧ I n st0) ∧ ∀ n st', I n st' → xwp P T b (Ex.then (fun st'' => ∃ m st0, m < n ∧ Wk st'' st0 ∧ I m st0) Q) st'
  | .exit id, Q, st => Q (.exit id) st
  | .ret, Q, st => Q .ret st
  | _, _, _ => False
section
variable {P : Program} {T : Tab}
theorem xop_ok {st : St} {o : Oper} {K : St → Prop} (h : xop P T st o K) : vop P T st o K := by
  unfold xop at h
  split at h
  · split at h
    · rename_i hf; exact .inl ⟨fitB_ok hf, xa_ok h⟩
    · exact h.elim
  · exact .inr (xb_ok h)
theorem xskip_ok {st : St} {o : Oper} {K : St → Prop} (h : xskip st o K) : vskip st o K := by
  unfold xskip at h
  split at h
  · rename_i hf; exact ⟨fitB_ok hf, h⟩
  · exact h.elim
theorem xguard_ok {all : Array Oper} {st : St} {o : Oper} {K : St → Prop} (h : xguard P T all.toList st o K) : vguard P T all st o K := by
  unfold xguard at h
  unfold vguard
  split at h
  · rename_i hg; rw [hg]; exact xop_ok h
  · rename_i j want hg
    rw [hg]
    simp only
    split at h
    · rename_i p hp
      split at h
      · rename_i d hd
        have hj : (all[j]?).bind (·.dst) = some d := by
          rw [nth_eq, Array.getElem?_toList] at hp
          rw [hp]; exact hd
        split at h
        · rename_i b hl
          cases want with
          | true => exact ⟨d, _, hj, hl, fun e => xop_ok (h.t e), fun e => xskip_ok (h.f e)⟩
          | false => exact ⟨d, _, hj, hl, fun e => xop_ok (h.f e), fun e => xskip_ok (h.t e)⟩
        · rename_i vs hl
          exact ⟨d, _, hj, hl, xskip_ok h⟩
        · exact h.elim
      · exact h.elim
    · exact h.elim
theorem vop_mono {st : St} {o : Oper} {K K' : St → Prop} (hk : ∀ st, K st → K' st) (h : xop P T st o K) : xop P T st o K' := by
  have xbin_mono : ∀ (op : BinOp) (u v : Value) (K K' : Value → Prop), (∀ r, K r → K' r) → xbin op u v K → xbin op u v K' := by
    intro op u v K K' hk h
    unfold xbin at h ⊢
    split at h
    · cases op <;> simp only at h ⊢ <;> first | exact hk _ h | exact ⟨h.1, hk _ h.2⟩ | exact h.elim
    · cases op <;> simp only at h ⊢ <;> first | exact hk _ h | exact ⟨h.1, hk _ h.2⟩ | exact h.elim
    · cases op <;> simp only at h ⊢ <;> first | exact hk _ h | exact ⟨h.1, hk _ h.2⟩ | exact h.elim
    · exact h.elim
  have xl : ∀ (ti : TI) (cs : List FE) (K K' : FE → List Nat → Prop), (∀ a b, K a b → K' a b) → xload st ti cs K → xload st ti cs K' := by
    intro ti cs K K' hk h
    unfold xload at h ⊢
    (repeat' split at h) <;> first | exact hk _ _ h | exact h.elim
  have xr : ∀ (ti : TI) (cs : List SV) (K K' : FE → List Nat → Prop), (∀ a b, K a b → K' a b) → xloadR ti cs K → xloadR ti cs K' := by
    intro ti cs K K' hk h
    unfold xloadR at h ⊢
    (repeat' split at h) <;> first | exact hk _ _ h | exact ⟨h.1, hk _ _ h.2⟩ | exact h.elim
  unfold xop at h ⊢
  split at h
  · split at h
    · cases hop : o.op <;> rw [hop] at h <;> simp only [xa] at h ⊢ <;> try exact h.elim
      all_goals first
        | (((repeat' split at h) <;> first | exact hk _ h | exact h.elim); done)
        | (((repeat' split at h) <;> first | exact hk _ h | exact h.elim | exact xl _ _ _ _ (fun _ _ q => hk _ q) h | exact xr _ _ _ _ (fun _ _ q => hk _ q) h | exact ⟨h.1, xr _ _ _ _ (fun _ _ q => hk _ q) h.2⟩); done)
        | (((repeat' split at h) <;> first | exact ⟨h.1, h.2.1, hk _ h.2.2⟩ | exact ⟨h.1, hk _ h.2⟩ | exact h.elim); done)
        | (((repeat' split at h) <;> first | exact hk _ h | exact xbin_mono _ _ _ _ _ (fun _ q => hk _ q) h | exact h.elim); done)
        | (((repeat' split at h) <;> first | exact hk _ h | (obtain ⟨h1, l, h2, h3⟩ := h; exact ⟨h1, l, h2, hk _ h3⟩) | exact ⟨h.1, hk _ h.2⟩ | exact h.elim); done)
        | skip
      case call c =>
        split at h
        · split at h
          · split at h
            · exact hk _ h
            · exact hk _ h
            · exact hk _ h
            · split at h
              · exact hk _ h
              · exact h.elim
            · exact h.elim
          · exact h.elim
        · split at h
          · exact hk _ h
          · exact h.elim
        · exact h.elim
      case slice t x lo hi mx =>
        cases mx with
        | some m => simp only [xa] at h
        | none =>
          simp only [xa] at h ⊢
          ((repeat' split at h) <;> first | exact ⟨h.1, h.2.1, hk _ h.2.2⟩ | exact ⟨h.1, hk _ h.2⟩ | exact h.elim)
    · exact h.elim
  · have hmk : ∀ t r, o.op = .makeMap t r → xb P T st K o.dst o.op → xb P T st K' o.dst o.op := by
      intro t r e h
      rw [e] at h ⊢
      cases r with
      | none =>
        simp only [xb] at h ⊢
        (repeat' split at h) <;> first | exact hk _ h | exact h.elim
      | some r => simp only [xb] at h
    by_cases hmm : ∃ t r, o.op = .makeMap t r
    · obtain ⟨t, r, e⟩ := hmm
      exact hmk t r e h
    cases hop : o.op <;> rw [hop] at h hmm <;> first | (exact absurd ⟨_, _, rfl⟩ hmm) | skip
    all_goals (simp only [xb] at h ⊢ <;> try exact h.elim)
    case lookup =>
      (repeat' split at h) <;> first | (obtain ⟨v, b, h1, h2⟩ := h; exact ⟨v, b, h1, hk _ h2⟩) | exact h.elim
    case mapUpdate =>
      (repeat' split at h) <;> first | (obtain ⟨b, h1, h2⟩ := h; exact ⟨b, h1, hk _ h2⟩) | exact h.elim
    case binOp =>
      (repeat' split at h) <;> first | (obtain ⟨b, h1, h2⟩ := h; exact ⟨b, h1, hk _ h2⟩) | exact h.elim
    all_goals first
      | (((repeat' split at h) <;> first | exact hk _ h | exact h.elim); done)
      | (((repeat' split at h) <;> first | exact hk _ h | exact ⟨h.1, hk _ h.2⟩ | exact h.elim); done)
      | (((repeat' split at h) <;> first | exact VCalls.mono h (fun _ q => hk _ q) | exact HQ.mono h (fun _ _ q => hk _ q) | exact ⟨h.1, hk _ h.2⟩ | exact h.elim); done)
theorem pickOps_eq (ops : Array Oper) : ∀ l : List Nat, pickOps ops.toList l = l.filterMap (ops[·]?)
  | [] => rfl
  | i :: l => by
    simp only [pickOps, nth_eq, Array.getElem?_toList, List.filterMap_cons, pickOps_eq ops l]
    cases ops[i]? <;> rfl
theorem xguard_mono {all : List Oper} {st : St} {o : Oper} {K K' : St → Prop} (hk : ∀ st, K st → K' st) (h : xguard P T all st o K) : xguard P T all st o K' := by
  have sk : ∀ st, xskip st o K → xskip st o K' := by
    intro st h
    unfold xskip at h ⊢
    split at h
    · exact hk _ h
    · exact h.elim
  unfold xguard at h ⊢
  (repeat' split at h) <;> first | exact vop_mono hk h | exact Spl.mono h (fun q => vop_mono hk q) (fun q => sk _ q) | exact Spl.mono h (fun q => sk _ q) (fun q => vop_mono hk q) | exact sk _ h | exact h.elim
theorem xops_ok {all : Array Oper} {Q Q' : St → Prop} (hq : ∀ st, Q st → Q' st) : ∀ (l : List Oper) (st : St), xops P T all.toList Q l st → vops P T all Q' l st
  | [], st, h => hq st h
  | o :: rest, st, h => xguard_ok (xguard_mono (fun st' h' => xops_ok hq rest st' h') h)
theorem xstep_ok {all : Array Oper} {K K' : St → Prop} {st : St} {i : Nat} (hk : ∀ st, K st → K' st) (h : xstep P T all.toList st i K) : vstep P T all st i K' := by
  unfold xstep at h
  rw [nth_eq] at h
  split at h
  · rename_i o ho
    exact ⟨o, by simpa using ho, xguard_ok (xguard_mono hk h)⟩
  · exact h.elim
theorem xstep_mono {all : List Oper} {K K' : St → Prop} {st : St} {i : Nat} (hk : ∀ st, K st → K' st) (h : xstep P T all st i K) : xstep P T all st i K' := by
  unfold xstep at h ⊢
  split at h
  · exact xguard_mono hk h
  · exact h.elim
theorem xplan_ok {all : Array Oper} {Q Q' : St → Prop} (hq : ∀ st, Q st → Q' st) : ∀ (pl : Plan) (st : St), xplan P T all.toList Q pl st → vplan P T all Q' pl st
  | .done, st, h => hq st h
  | .one i p, st, h => xstep_ok (fun st' h' => xplan_ok hq p st' h') h
  | .two i p j q, st, h => ⟨xstep_ok (fun st' h' => xplan_ok hq p st' h') h.a, xstep_ok (fun st' h' => xplan_ok hq q st' h') h.b⟩
  | .three i p j q k r, st, h => ⟨xstep_ok (fun st' h' => xplan_ok hq p st' h') h.a, ⟨xstep_ok (fun st' h' => xplan_ok hq q st' h') h.b.a, xstep_ok (fun st' h' => xplan_ok hq r st' h') h.b.b⟩⟩
theorem xplan_mono {all : List Oper} {Q Q' : St → Prop} (hq : ∀ st, Q st → Q' st) : ∀ (pl : Plan) (st : St), xplan P T all Q pl st → xplan P T all Q' pl st
  | .done, st, h => hq st h
  | .one i p, st, h => xstep_mono (fun st' h' => xplan_mono hq p st' h') h
  | .two i p j q, st, h => ⟨xstep_mono (fun st' h' => xplan_mono hq p st' h') h.a, xstep_mono (fun st' h' => xplan_mono hq q st' h') h.b⟩
  | .three i p j q k r, st, h => ⟨xstep_mono (fun st' h' => xplan_mono hq p st' h') h.a, ⟨xstep_mono (fun st' h' => xplan_mono hq q st' h') h.b.a, xstep_mono (fun st' h' => xplan_mono hq r st' h') h.b.b⟩⟩
theorem xwp_ok : ∀ (c : Code) (Q Q' : Ex → St → Prop) (st : St), (∀ e st, Q e st → Q' e st) → xwp P T c Q st → vwp P T c Q' st
  | .skip, Q, Q', st, hq, h => hq _ _ h
  | .region id ops true, Q, Q', st, hq, h => by
    simp only [xwp] at h
    obtain ⟨ord, h1, h2⟩ := h
    exact ⟨ord, h1, xplan_ok (hq .normal) _ _ h2⟩
  | .region id ops false, Q, Q', st, hq, h => xops_ok (hq .normal) _ _ h
  | .seq a b, Q, Q', st, hq, h => by
    simp only [xwp] at h
    simp only [vwp]
    refine xwp_ok a _ _ st (fun e st' h' => ?_) h
    cases e with
    | normal => exact xwp_ok b Q Q' st' hq h'
    | exit i => exact hq _ _ h'
    | ret => exact hq _ _ h'
  | .cond c a b, Q, Q', st, hq, h => by
    simp only [xwp] at h
    simp only [vwp]
    split at h
    · rename_i t ht
      exact ⟨t, ht, fun e => xwp_ok a Q Q' st hq (h.t e), fun e => xwp_ok b Q Q' st hq (h.f e)⟩
    · exact h.elim
  | .block id b, Q, Q', st, hq, h => by
    simp only [xwp] at h
    simp only [vwp]
    refine xwp_ok b _ _ st (fun e st' h' => ?_) h
    cases e with
    | normal => exact hq _ _ h'
    | exit i =>
      simp only [Ex.inBlock] at h' ⊢
      split at h'
      · rename_i e; rw [if_pos e]; exact hq _ _ h'
      · rename_i e; rw [if_neg e]; exact hq _ _ h'
    | ret => exact hq _ _ h'
  | .loop b, Q, Q', st, hq, h => by
    simp only [xwp] at h
    simp only [vwp]
    obtain ⟨I, h1, h2⟩ := h
    refine ⟨I, h1, fun n st' hI => ?_⟩
    refine xwp_ok b _ _ st' (fun e st'' h' => ?_) (h2 n st' hI)
    cases e with
    | normal => exact h'
    | exit i => exact hq _ _ h'
    | ret => exact hq _ _ h'
  | .exit id, Q, Q', st, hq, h => hq _ _ h
  | .ret, Q, Q', st, hq, h => hq _ _ h
  | .rangeFunc .., Q, Q', st, hq, h => by simp only [xwp] at h
  | .scope .., Q, Q', st, hq, h => by simp only [xwp] at h
  | .label .., Q, Q', st, hq, h => by simp only [xwp] at h
  | .goto .., Q, Q', st, hq, h => by simp only [xwp] at h
  | .refuse .., Q, Q', st, hq, h => by simp only [xwp] at h
theorem xops_mono {all : List Oper} {Q Q' : St → Prop} (hq : ∀ st, Q st → Q' st) : ∀ (l : List Oper) (st : St), xops P T all Q l st → xops P T all Q' l st
  | [], st, h => hq st h
  | o :: rest, st, h => xguard_mono (fun st' h' => xops_mono hq rest st' h') h
theorem xwp_mono : ∀ (c : Code) (Q Q' : Ex → St → Prop) (st : St), (∀ e st, Q e st → Q' e st) → xwp P T c Q st → xwp P T c Q' st
  | .skip, Q, Q', st, hq, h => hq _ _ h
  | .region id ops true, Q, Q', st, hq, h => by
    simp only [xwp] at h
    obtain ⟨ord, h1, h2⟩ := h
    exact ⟨ord, h1, xplan_mono (hq .normal) _ _ h2⟩
  | .region id ops false, Q, Q', st, hq, h => xops_mono (hq .normal) _ _ h
  | .seq a b, Q, Q', st, hq, h => by
    simp only [xwp] at h
    simp only [xwp]
    refine xwp_mono a _ _ st (fun e st' h' => ?_) h
    cases e with
    | normal => exact xwp_mono b Q Q' st' hq h'
    | exit i => exact hq _ _ h'
    | ret => exact hq _ _ h'
  | .cond c a b, Q, Q', st, hq, h => by
    simp only [xwp] at h ⊢
    split at h
    · exact h.mono (fun q => xwp_mono a Q Q' st hq q) (fun q => xwp_mono b Q Q' st hq q)
    · exact h.elim
  | .block id b, Q, Q', st, hq, h => by
    simp only [xwp] at h
    simp only [xwp]
    refine xwp_mono b _ _ st (fun e st' h' => ?_) h
    cases e with
    | normal => exact hq _ _ h'
    | exit i =>
      simp only [Ex.inBlock] at h' ⊢
      split at h'
      · rename_i e; rw [if_pos e]; exact hq _ _ h'
      · rename_i e; rw [if_neg e]; exact hq _ _ h'
    | ret => exact hq _ _ h'
  | .loop b, Q, Q', st, hq, h => by
    simp only [xwp] at h
    simp only [xwp]
    obtain ⟨I, h1, h2⟩ := h
    refine ⟨I, h1, fun n st' hI => ?_⟩
    refine xwp_mono b _ _ st' (fun e st'' h' => ?_) (h2 n st' hI)
    cases e with
    | normal => exact h'
    | exit i => exact hq _ _ h'
    | ret => exact hq _ _ h'
  | .exit id, Q, Q', st, hq, h => hq _ _ h
  | .ret, Q, Q', st, hq, h => hq _ _ h
  | .rangeFunc .., Q, Q', st, hq, h => by simp only [xwp] at h
  | .scope .., Q, Q', st, hq, h => by simp only [xwp] at h
  | .label .., Q, Q', st, hq, h => by simp only [xwp] at h
  | .goto .., Q, Q', st, hq, h => by simp only [xwp] at h
  | .refuse .., Q, Q', st, hq, h => by simp only [xwp] at h
def xret (T : Tab) (fn : Func) (Q : SV → Prop) (st : St) : Prop := match vres T st fn.results.toList fn.resultTypes.toList with | some r => Q (mkres r.1) | none => False
def xbody (T : Tab) (fn : Func) (Q : SV → Prop) : Ex → St → Prop
  | .normal, st => xret T fn Q st
  | .ret, st => xret T fn Q st
  | .exit _, _ => False
theorem xret_ok {fn : Func} {Q : SV → Prop} {st : St} (h : xret T fn Q st) : vret T fn Q st := by
  unfold xret at h
  split at h
  · rename_i r hr; exact ⟨r, hr, h⟩
  · exact h.elim
/-- A contract out of the code, in the reducing form. -/
theorem VCalls.ofx {f : FuncId} {fn : Func} {c : Code} {xs : List SV} {Q : SV → Prop} (hT : TabOk P T) (hm : P.follows .mixedOrders = true) (hf : P.funcs[f]? = some fn) (hname : (fn.name == "runtime.NumGoroutine") = false)
    (hb : fn.body = some c) (hn : (Nat.ble xs.length fn.ntmps && Nat.ble fn.ntmps HI) = true) (h : xwp P T c (xbody T fn Q) (entry fn.ntmps xs)) : VCalls P f xs Q :=
  VCalls.of hT hm hf hname hb (by rw [Bool.and_eq_true] at hn; exact ⟨Nat.le_of_ble_eq_true hn.1, Nat.le_of_ble_eq_true hn.2⟩) (xwp_ok c _ _ _ (fun e st h => by
    cases e with
    | normal => exact xret_ok h
    | exit i => exact h.elim
    | ret => exact xret_ok h) h)
end
end Go.Proofs.Ytnoohgiecnmajaa.VC

