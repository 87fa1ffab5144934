/- A part of the ground of the proof. No condition. -/
import Derived.Lib.ConvBytes
import Derived.Test.YtnoohgiecnmajaaGE7

/- The engine, part 8: stores, literals of slices, and the calls' contract. -/
namespace Go.Proofs.Ytnoohgiecnmajaa.VC
open Go Go.RowKit
set_option linter.unusedVariables false
set_option linter.unusedSimpArgs false

section
variable {M0 : Region} {base : Bs} {g : Gh} {st : St} {a : Act} {w w' : World} {P : Program} {T : Tab}

theorem Rp.m_lt (h : Rp M0 base g st a w) : ∀ b off, Mset M0 g st b off → b < w.heap.size := by
  rintro b off (hh | ⟨s, c, q1, q2⟩ | ⟨k, o, q1, q2, q3⟩)
  · have := (h.m0 _ _ hh).1
    have := h.below.size
    omega
  · obtain ⟨_, vs, h2, _⟩ := h.box s c.1 c.2 q1
    rw [← q2]
    exact (Array.getElem?_eq_some_iff.1 h2).1
  · obtain ⟨vals, h1, _⟩ := h.own k o q1
    exact (h1.lt b q2).2

/-- A box's cells are set. -/
theorem Rp.setBox (h : Rp M0 base g st a w) (hb : Bel base.X base.w w') {s : Nat} {TT : TypeId} {cs cs' : List FE} {vs' : List Value} (hs : look s st.box = some (TT, cs))
    (hnew : w'.heap[g.β s]? = some (.cells vs'.toArray TT (0, 0))) (hold : ∀ k, k ≠ g.β s → k < w.heap.size → w'.heap[k]? = w.heap[k]?) (hcs : FRc g (Mset M0 g st) w cs' vs') :
    Rp M0 base g (st.setBox s TT cs') a w' := by
  have hm : Mv (Mset M0 g st) w (Mset M0 g (st.setBox s TT cs')) w' := ⟨fun b off u hu hn => by
    have hlt : b < w.heap.size := World.block_lt_of_cell? w _ hu
    have hne : b ≠ g.β s := fun e => hn (.inr (.inl ⟨s, _, hs, e.symm⟩))
    refine ⟨by rw [← hu]; exact World.cell?_of_block (hold b hne hlt), ?_⟩
    rintro (hh | ⟨s', c, q1, q2⟩ | ⟨k, o, q1, q2, q3⟩)
    · exact hn (.inl hh)
    · simp only [St.setBox, look_ins] at q1
      by_cases e : s' = s
      · subst e; exact hne q2.symm
      · rw [if_neg e] at q1
        exact hn (.inr (.inl ⟨s', c, q1, q2⟩))
    · exact hn (.inr (.inr ⟨k, o, q1, q2, q3⟩))⟩
  have hlt : g.β s < w.heap.size := by
    obtain ⟨_, vs, h2, _⟩ := h.box s TT cs hs
    exact (Array.getElem?_eq_some_iff.1 h2).1
  refine ⟨hb, h.m0, h.keep.trans hm, h.hn, h.pin, h.size, h.defers, ?_, ?_, ?_, h.omine, ?_, ?_, ?_, h.doo, h.dmm⟩
  · intro t fe hf
    obtain ⟨u, hu, hr⟩ := h.env t fe hf
    exact ⟨u, hu, FR.mv hm hr⟩
  · intro s' T1 c1 h1
    simp only [St.setBox, look_ins] at h1
    by_cases e : s' = s
    · rw [if_pos e] at h1
      cases h1
      subst e
      obtain ⟨k1, _⟩ := h.box s' TT cs hs
      exact ⟨k1, vs', hnew, FRc.mv hm hcs⟩
    · rw [if_neg e] at h1
      obtain ⟨k1, us, k2, k3⟩ := h.box s' T1 c1 h1
      exact ⟨k1, us, by rw [hold _ (h.dbb s' s _ _ h1 hs e) (Array.getElem?_eq_some_iff.1 k2).1]; exact k2, FRc.mv hm k3⟩
  · intro k o ho
    obtain ⟨vals, h1, h2, h3⟩ := h.own k o ho
    refine ⟨vals, ⟨h1.1, h1.2.imp id ?_⟩, VRc.mv hm _ _ h2, h3⟩
    rintro ⟨gg, cap, cur, e1, e2, e3, e4⟩
    have hne : gg ≠ g.β s := fun e => h.dbo s k _ o hs ho (by rw [e1, ← e]; rfl)
    exact ⟨gg, cap, cur, e1, e2, by rw [hold _ hne (Array.getElem?_eq_some_iff.1 e3).1]; exact e3, e4⟩
  · intro k m hq
    obtain ⟨h1, es, cl, h2, h3⟩ := h.map k m hq
    have hne : g.μ k ≠ g.β s := fun e => by
      obtain ⟨_, vs, q2, _⟩ := h.box s TT cs hs
      rw [e, q2] at h2
      cases h2
    exact ⟨h1, es, cl, by rw [hold _ hne (Array.getElem?_eq_some_iff.1 h2).1]; exact h2, h3⟩
  · intro s1 s2 c1 c2 h1 h2 hne
    simp only [St.setBox, look_ins] at h1 h2
    by_cases e1 : s1 = s
    · subst e1
      have e2 : ¬ s2 = s1 := Ne.symm hne
      rw [if_neg e2] at h2
      exact h.dbb s1 s2 _ c2 hs h2 hne
    · rw [if_neg e1] at h1
      by_cases e2 : s2 = s
      · subst e2; exact h.dbb s1 s2 c1 _ h1 hs hne
      · rw [if_neg e2] at h2; exact h.dbb s1 s2 c1 c2 h1 h2 hne
  · intro s1 k c1 o h1 h2
    simp only [St.setBox, look_ins] at h1
    by_cases e1 : s1 = s
    · subst e1; exact h.dbo s1 k _ o hs h2
    · rw [if_neg e1] at h1; exact h.dbo s1 k c1 o h1 h2

/-- An own slice's elements are set; nobody has looked at it as a value. -/
theorem Rp.setOwn (h : Rp M0 base g st a w) (hb : Bel base.X base.w w') {k b : Nat} {o : Own} {xs : List (List SV)} (hk : look k st.own = some o) (hv : o.virgin = true) (hbk : (g.ν k).ownBlock = some b)
    (hold : ∀ i, i ≠ b → i < w.heap.size → w'.heap[i]? = w.heap[i]?) {vals : List Value}
    (hrow : w'.ownsRow 0 o.e o.sz (g.ν k) xs.length vals) (hvals : VRc (Mset M0 g st) w xs.flatten vals) (hlen : ∀ x ∈ xs, x.length = o.sz) :
    Rp M0 base g (st.setOwn k { o with xs := xs }) a w' := by
  have hm : Mv (Mset M0 g st) w (Mset M0 g (st.setOwn k { o with xs := xs })) w' := ⟨fun b' off u hu hn => by
    have hlt : b' < w.heap.size := World.block_lt_of_cell? w _ hu
    have hne : b' ≠ b := fun e => hn (.inr (.inr ⟨k, o, hk, by rw [hbk, e], .inl hv⟩))
    refine ⟨by rw [← hu]; exact World.cell?_of_block (hold b' hne hlt), ?_⟩
    rintro (hh | ⟨s', c, q1, q2⟩ | ⟨k', o', q1, q2, q3⟩)
    · exact hn (.inl hh)
    · exact hn (.inr (.inl ⟨s', c, q1, q2⟩))
    · simp only [St.setOwn, look_ins] at q1
      by_cases e : k' = k
      · subst e; rw [hbk] at q2; cases q2; exact hne rfl
      · rw [if_neg e] at q1
        exact hn (.inr (.inr ⟨k', o', q1, q2, q3⟩))⟩
  refine ⟨hb, h.m0, h.keep.trans hm, h.hn, h.pin, h.size, h.defers, ?_, ?_, ?_, ?_, ?_, h.dbb, ?_, ?_, h.dmm⟩
  · intro t fe hf
    obtain ⟨u, hu, hr⟩ := h.env t fe hf
    exact ⟨u, hu, FR.mv hm hr⟩
  · intro s' T1 c1 h1
    obtain ⟨k1, us, k2, k3⟩ := h.box s' T1 c1 h1
    have hne : g.β s' ≠ b := fun e => h.dbo s' k _ o h1 hk (by rw [hbk, e])
    exact ⟨k1, us, by rw [hold _ hne (Array.getElem?_eq_some_iff.1 k2).1]; exact k2, FRc.mv hm k3⟩
  · intro k' o' ho
    simp only [St.setOwn, look_ins] at ho
    by_cases e : k' = k
    · rw [if_pos e] at ho
      cases ho
      subst e
      exact ⟨vals, hrow, VRc.mv hm _ _ hvals, hlen⟩
    · rw [if_neg e] at ho
      obtain ⟨us, h1, h2, h3⟩ := h.own k' o' ho
      refine ⟨us, ⟨h1.1, h1.2.imp id ?_⟩, VRc.mv hm _ _ h2, h3⟩
      rintro ⟨gg, cap, cur, e1, e2, e3, e4⟩
      have hne : gg ≠ b := fun e' => by
        rcases h.doo k' k o' o ho hk e with q | q
        · rw [e1] at q; simp [Value.ownBlock] at q
        · rw [e1, hbk, e'] at q; simp [Value.ownBlock] at q
      exact ⟨gg, cap, cur, e1, e2, by rw [hold _ hne (Array.getElem?_eq_some_iff.1 e3).1]; exact e3, e4⟩
  · intro k' o' b' ho hb'
    simp only [St.setOwn, look_ins] at ho
    by_cases e : k' = k
    · subst e; exact h.omine k' o b' hk hb'
    · rw [if_neg e] at ho; exact h.omine k' o' b' ho hb'
  · intro i m hq
    obtain ⟨h1, es, cl, h2, h3⟩ := h.map i m hq
    have hne : g.μ i ≠ b := fun e => by
      obtain ⟨us, q1, _⟩ := h.own k o hk
      rcases q1.2 with ⟨e1, _⟩ | ⟨gg, cap, cur, e1, _, e3, _⟩
      · rw [e1] at hbk; cases hbk
      · rw [e1] at hbk
        have hg : gg = b := by simpa [Value.ownBlock] using hbk
        rw [e, ← hg, e3] at h2
        cases h2
    exact ⟨h1, es, cl, by rw [hold _ hne (Array.getElem?_eq_some_iff.1 h2).1]; exact h2, h3⟩
  · intro s1 k' c1 o' h1 h2
    simp only [St.setOwn, look_ins] at h2
    by_cases e1 : k' = k
    · subst e1; exact h.dbo s1 k' _ o h1 hk
    · rw [if_neg e1] at h2; exact h.dbo s1 k' c1 o' h1 h2
  · intro k1 k2 o1 o2 h1 h2 hne
    simp only [St.setOwn, look_ins] at h1 h2
    by_cases e1 : k1 = k
    · subst e1
      have e2 : ¬ k2 = k1 := Ne.symm hne
      rw [if_neg e2] at h2
      exact h.doo k1 k2 o o2 hk h2 hne
    · rw [if_neg e1] at h1
      by_cases e2 : k2 = k
      · subst e2; exact h.doo k1 k2 o1 o h1 hk hne
      · rw [if_neg e2] at h2; exact h.doo k1 k2 o1 o2 h1 h2 hne

/-- A store into a row. -/
theorem run_storeAt_row {t : TypeId} {ti : TI} (ty : TyOk P t ti) {b off : Nat} {cur : Array Value} {e : TypeId} (hg : w.heap[b]? = some (.cells cur e (0, 0))) {v : Value} (hsz : v.cells.size = ti.size) (h1 : ∀ u ∈ v.cells.toList, u.oneCell' = true) (hfit : off + ti.size ≤ cur.size) :
    (Instr.storeAt t (.pointer (some ⟨b, off, none⟩)) v).run P w = .ok () (w.setRow b (cur.toList.take off ++ v.cells.toList ++ cur.toList.drop (off + ti.size)).toArray) := by
  have e1 := run_storeCells_at P b off e v.cells.toList 0 cur w hg (by simp; omega) h1
  simp only [Nat.add_zero, Array.length_toList, hsz] at e1
  simp only [Instr.storeAt, Instr.sureAddr, Sem.run_bind, Sem.run_pure, Result.andThen_ok, storeVar, ty.size w, hsz, ne_eq, not_true_eq_false, if_false]
  simp [e1]

theorem flatten_len {sz : Nat} : ∀ {xs : List (List SV)}, (∀ x ∈ xs, x.length = sz) → xs.flatten.length = xs.length * sz
  | [], _ => by simp
  | x :: xs, h => by
    simp only [List.flatten_cons, List.length_append, List.length_cons]
    rw [flatten_len (fun y hy => h y (List.mem_cons_of_mem _ hy)), h x (List.mem_cons_self ..), Nat.add_mul]
    omega
theorem flatten_set {sz : Nat} : ∀ {xs : List (List SV)} {i : Nat} {cs : List SV}, (∀ x ∈ xs, x.length = sz) → i < xs.length → (xs.set i cs).flatten = xs.flatten.take (i * sz) ++ cs ++ xs.flatten.drop (i * sz + sz)
  | [], i, cs, h, hi => by simp at hi
  | x :: xs, 0, cs, h, hi => by
    have hx := h x (List.mem_cons_self ..)
    simp only [List.set_cons_zero, List.flatten_cons, Nat.zero_mul, List.take_zero, List.nil_append, Nat.zero_add]
    rw [List.drop_left' hx]
  | x :: xs, i + 1, cs, h, hi => by
    have hx := h x (List.mem_cons_self ..)
    have ih := flatten_set (cs := cs) (i := i) (fun y hy => h y (List.mem_cons_of_mem _ hy)) (by simpa using hi)
    simp only [List.set_cons_succ, List.flatten_cons, ih]
    have e1 : (i + 1) * sz = x.length + i * sz := by rw [Nat.add_mul, hx]; omega
    rw [e1, List.take_length_add_append, show x.length + i * sz + sz = x.length + (i * sz + sz) by omega, List.drop_length_add_append]
    simp

/-- What a function answers: of these arguments it makes a value of which Q holds, and leaves all memory that was there. -/
structure VCalls (P : Program) (f : FuncId) (args : List SV) (Q : SV → Prop) : Prop where
  there : ∃ fn, P.funcs[f]? = some fn ∧ (fn.name == "runtime.NumGoroutine") = false ∧ fn.body.isNone = false
  calls : ∀ (M0 : Region) (w : World) (vs : List Value), (∀ b off, M0 b off → b < w.heap.size) → VRs M0 w args vs →
    Calls P f vs.toArray w fun e w' => ∃ v r, e = .returned v ∧ Below w.heap.size w w' ∧ VR M0 w' r v ∧ Q r
theorem VCalls.mono {f : FuncId} {args : List SV} {Q Q' : SV → Prop} (h : VCalls P f args Q) (hq : ∀ r, Q r → Q' r) : VCalls P f args Q' :=
  ⟨h.there, fun M0 w vs h1 h2 => (h.calls M0 w vs h1 h2).mono fun e w' ⟨v, r, k1, k2, k3, k4⟩ => ⟨v, r, k1, k2, k3, hq r k4⟩⟩

def normO (T : Tab) : Option TypeId → SV → SV
  | some t, x => normT T t x
  | none, x => x
theorem normO_ok {M : Region} {x : SV} {v : Value} (T : Tab) (t : Option TypeId) (hx : VR M w x v) : VR M w (normO T t x) v := by
  cases t with
  | none => exact hx
  | some t => exact normT_ok T t hx
def vargs (T : Tab) (st : St) : List Operand → List TypeId → Option (List SV × List Nat)
  | [], _ => some ([], [])
  | x :: xs, ts => (ev st x).bind fun fe => (pf st fe).bind fun p => (vargs T st xs ts.tail).map fun r => (normO T ts.head? p.1 :: r.1, p.2 ++ r.2)
theorem ev_exposes {st : St} (ks : List Nat) (x : Operand) : ev (st.exposes ks) x = ev st x := by
  have : ∀ (ks : List Nat) (st : St), (st.exposes ks).env = st.env := by
    intro ks
    induction ks with
    | nil => intro st; rfl
    | cons k ks ih => intro st; simp only [St.exposes]; rw [ih]; unfold St.expose; split <;> rfl
  cases x <;> simp only [ev, this]
theorem vargs_ok (h : Rp M0 base g st a w) : ∀ {xs : List Operand} {ts : List TypeId} {r : List SV × List Nat} (ks0 : List Nat), vargs T st xs ts = some r → VRs (Mset M0 g (st.exposes (ks0 ++ r.2))) w r.1 (xs.map a.eval) := by
  intro xs
  induction xs with
  | nil => intro ts r ks0 hr; simp only [vargs] at hr; cases hr; simp [VRs]
  | cons x xs ih =>
    intro ts r ks0 hr
    simp only [vargs] at hr
    obtain ⟨fe, he, hr⟩ := Option.bind_eq_some_iff.1 hr
    obtain ⟨p, hp, hr⟩ := Option.bind_eq_some_iff.1 hr
    obtain ⟨r', hr', hrr⟩ := Option.map_eq_some_iff.1 hr
    subst hrr
    simp only [List.map_cons, VRs]
    refine ⟨_, _, rfl, ?_, ?_⟩
    · have hx := (h.exposes ks0).pf (FR.mv (Mv.exposes M0 g ks0 w _) (h.ev he)) (pf_exposes (x := p.1) (ks := p.2) hp ks0)
      rw [← List.append_assoc, exposes_append, exposes_append]
      exact VR.mv (Mv.exposes M0 g r'.2 w _) _ _ (normO_ok T _ hx)
    · have := ih (ts := ts.tail) (ks0 ++ p.2) hr'
      rw [List.append_assoc] at this
      exact this
end
end Go.Proofs.Ytnoohgiecnmajaa.VC

