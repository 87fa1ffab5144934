/- A part of the ground of the proof. No condition. -/
import Derived.Laws.IdiomStrings
import Derived.Test.YtnoohgiecnmajaaGE10

/- The engine, part 11: literals of slices, bytes of a string, calls, appends. -/
namespace Go.Proofs.Ytnoohgiecnmajaa.VC
open Go Go.RowKit
set_option linter.unusedVariables false
set_option linter.unusedSimpArgs false

section
variable {M0 : Region} {base : Bs} {g : Gh} {st : St} {a : Act} {w w' : World} {P : Program} {T : Tab} {o : Oper} {K : St → Prop} {Kw : Act → World → Prop} {Q : Exit → Act → World → Prop}

theorem vrows_ok (h : Rp M0 base g st a w) {e : TypeId} {sz : Nat} : ∀ {parts : List (Nat × Operand)} {rows : List (List SV)} {r : List (List SV) × List Nat} {cur : Array Value} (ks0 : List Nat), vrows T e st sz rows parts = some r →
    (∀ x ∈ rows, x.length = sz) → VRc (Mset M0 g (st.exposes ks0)) w rows.flatten cur.toList →
    ∃ out, Instr.fill (fun i => some (i * sz, sz)) cur (parts.map fun p => (p.1, a.eval p.2)) = some out ∧ VRc (Mset M0 g (st.exposes (ks0 ++ r.2))) w r.1.flatten out.toList ∧ (∀ x ∈ r.1, x.length = sz) ∧ r.1.length = rows.length := by
  intro parts
  induction parts with
  | nil =>
    intro rows r cur ks0 hf hlr hc
    simp only [vrows] at hf
    cases hf
    exact ⟨cur, by simp [Instr.fill], by simpa using hc, hlr, rfl⟩
  | cons p parts ih =>
    intro rows r cur ks0 hf hlr hc
    obtain ⟨i, x⟩ := p
    simp only [vrows] at hf
    obtain ⟨fe, e2, hf⟩ := Option.bind_eq_some_iff.1 hf
    obtain ⟨⟨sv, ks⟩, e3, hf⟩ := Option.bind_eq_some_iff.1 hf
    obtain ⟨cs, e4, hf⟩ := Option.bind_eq_some_iff.1 hf
    split at hf
    · rename_i hcond
      obtain ⟨r', hr', hrr⟩ := Option.map_eq_some_iff.1 hf
      subst hrr
      have hM1 : VRc (Mset M0 g (st.exposes (ks0 ++ ks))) w rows.flatten cur.toList := by rw [exposes_append]; exact VRc.mv (Mv.exposes M0 g ks w _) _ _ hc
      have hM2 : VRc (Mset M0 g (st.exposes (ks0 ++ ks))) w cs (a.eval x).cells.toList := by
        have := (h.exposes ks0).pf (FR.mv (Mv.exposes M0 g ks0 w _) (h.ev e2)) (pf_exposes e3 ks0)
        rw [exposes_append]
        exact svcells_ok (normT_ok T e this) e4
      have hl := VRc.length hc
      have hl2 := VRc.length hM2
      have hfl := flatten_len hlr
      have hsz : (a.eval x).cells.size = sz := by rw [← hcond.1, ← hl2]; simp
      have hmul : i * sz + sz ≤ rows.length * sz := by rw [← Nat.succ_mul]; exact Nat.mul_le_mul_right _ hcond.2
      have hcl : cur.toList.length = cur.size := Array.length_toList
      have hcur : i * sz + (a.eval x).cells.size ≤ cur.size := by rw [hsz]; omega
      have hfl2 := fill_list (i * sz) (a.eval x).cells.toList 0 cur (by simpa using hcur)
      simp only [Nat.add_zero] at hfl2
      have hset : ∀ y ∈ rows.set i cs, y.length = sz := by
        intro y hy
        rcases List.mem_or_eq_of_mem_set hy with hy | rfl
        · exact hlr y hy
        · exact hcond.1
      obtain ⟨out, ho1, ho2, ho3, ho4⟩ := ih (rows := rows.set i cs) (r := r') (cur := (a.eval x).cells.zipIdx.foldl (fun cs (c, j) => cs.setIfInBounds (i * sz + j) c) cur) (ks0 ++ ks) hr' hset (by
        rw [← Array.foldl_toList, Array.toList_zipIdx]
        have e : (List.foldl (fun (cs : Array Value) (x : Value × Nat) => match x with | (c, j) => cs.setIfInBounds (i * sz + j) c) cur (List.zipIdx (a.eval x).cells.toList)).toList = cur.toList.take (i * sz) ++ (a.eval x).cells.toList ++ cur.toList.drop (i * sz + (a.eval x).cells.toList.length) := hfl2
        rw [e, flatten_set hlr hcond.2]
        refine VRc.append (VRc.append (VRc.take hM1 _) hM2) ?_
        have : (a.eval x).cells.toList.length = sz := by simpa using hsz
        rw [this]
        exact VRc.drop hM1 _)
      refine ⟨out, ?_, by rw [← List.append_assoc]; exact ho2, ho3, by rw [ho4, List.length_set]⟩
      simp only [List.map_cons, Instr.fill]
      rw [if_neg (by simp [hsz]; omega)]
      exact ho1
    · cases hf
theorem range_rows (z : Array Value) (hz : 0 < z.size) : ∀ n : Nat, ((Array.range (n * z.size)).map (fun i => z[i % z.size]!)).toList = (List.replicate n z.toList).flatten
  | 0 => by simp
  | n + 1 => by
    have ih := range_rows z hz n
    rw [List.replicate_succ', List.flatten_append, ← ih]
    simp only [Array.toList_map, Array.toList_range]
    rw [show (n + 1) * z.size = n * z.size + z.size by rw [Nat.add_mul]; omega, List.range_add, List.map_append]
    congr 1
    simp only [List.flatten_cons, List.flatten_nil, List.append_nil, List.map_map]
    apply List.ext_getElem?
    intro j
    by_cases hj : j < z.size
    · simp [hj, Nat.mod_eq_of_lt hj]
    · simp [hj]
theorem sound_buildSlice (hT : TabOk P T) (h : Rp M0 base g st a w) {t : TypeId} {len : Nat} {parts : Array (Nat × Operand)} (ho : o.op = .buildSlice t len parts) (hv : vb P T st K o.dst o.op)
    (hK : ∀ g' st' a' w', K st' → Rp M0 base g' st' a' w' → (quietB T o.op = true → Hold w w') → Kw a' w') : o.wp P a w Kw Q := by
  rw [ho] at hv
  simp only [vb] at hv
  obtain ⟨d, ti, e, te, r, hd, hdn, hti, hs, hte, hpos, hcap, hr, hK'⟩ := hv
  have ty := hT _ _ hti
  have tye := hT _ _ hte
  obtain ⟨i, z, h1, h2, h3, h4, h5, h6, _⟩ := tye.info
  have hzl : z.cells.size = te.size := by have := VRc.length (h5 (Mset M0 g (st.exposes [])) w); simp at this; omega
  have hz0 : VRc (Mset M0 g (st.exposes [])) w (List.replicate len (zipNil te.nz te.zero)).flatten ((Array.range (len * te.size)).map (fun i => z.cells[i % z.cells.size]!)).toList := by
    have e1 := range_rows z.cells (by omega) len
    rw [hzl] at e1 ⊢
    rw [e1]
    have : ∀ n : Nat, VRc (Mset M0 g (st.exposes [])) w (List.replicate n (zipNil te.nz te.zero)).flatten (List.replicate n z.cells.toList).flatten := by
      intro n
      induction n with
      | zero => simp [VRc]
      | succ n ih =>
        simp only [List.replicate_succ, List.flatten_cons]
        exact VRc.append (zipNil_ok _ (h5 _ _)) ih
    exact this len
  obtain ⟨out, ho1, ho2, ho3, ho4⟩ := vrows_ok h (cur := (Array.range (len * te.size)).map (fun i => z.cells[i % z.cells.size]!)) [] hr (by
    intro x hx
    rw [List.eq_of_mem_replicate hx, zipNil_length, h6]) hz0
  simp only [List.nil_append] at ho2
  rw [List.length_replicate] at ho4
  have hos := VRc.length ho2
  rw [flatten_len ho3, ho4] at hos
  have hrun : (execOp a.eval o).run P w = .ok (.value (.slice (some ⟨w.heap.size, 0, none⟩) len len)) (w.alloc (.cells out e)) := by
    have hfill : Instr.fill (fun i => some (i * te.size, te.size)) ((Array.range (len * te.size)).map (fun i => z.cells[i % z.cells.size]!)) (parts.map fun (i, x) => (i, a.eval x)).toList = some out := by
      rw [Array.toList_map]; exact ho1
    have hle : ¬ (len * te.size > 2 ^ 24) := by omega
    simp only [execOp, ho, Sem.run_bind, Sem.run_pure, Instr.buildSlice, run_underlying (ty.slice hs), Result.andThen_ok, tye.size w, hle, if_false]
    by_cases hl0 : len * te.size = 0
    · have hlen0 : len = 0 := by rcases Nat.mul_eq_zero.1 hl0 with q | q <;> omega
      subst hlen0
      simp only [Nat.zero_mul, if_true, Sem.run_bind, Sem.run_pure, Result.andThen_ok]
      have hfill' : Instr.fill (fun i => some (i * te.size, te.size)) ((Array.range 0).map (fun i => (#[] : Array Value)[i % (#[] : Array Value).size]!)) (parts.map fun (i, x) => (i, a.eval x)).toList = some out := by
        have : (Array.range 0).map (fun i => (#[] : Array Value)[i % (#[] : Array Value).size]!) = (Array.range (0 * te.size)).map (fun i => z.cells[i % z.cells.size]!) := by simp
        rw [this]; exact hfill
      rw [hfill']
      simp [newRow]
    · simp only [hl0, if_false, zeroValue, typeInfo, Sem.run_bind, Sem.run_pure, Result.andThen_ok, h1, h4]
      have : (program.run P w) = .ok P w := rfl
      simp only [this, Result.andThen_ok, h1, h4, Sem.run_pure, hfill, newRow]
      simp
  have hrow : (w.alloc (.cells out e)).ownsRow 0 e te.size (.slice (some ⟨w.heap.size, 0, none⟩) len len) r.1.length out.toList := by
    have hos' : out.size = len * te.size := by rw [← Array.length_toList]; exact hos
    rw [ho4]
    refine ⟨by rw [Array.length_toList]; exact hos', .inr ⟨w.heap.size, len, out, rfl, Nat.zero_le _, heap_alloc_new w _, Nat.le_refl _, ?_, hos', ?_⟩⟩
    · have : len ≤ len * te.size := Nat.le_mul_of_pos_right _ hpos
      simp only [maxLen]; omega
    · rw [← hos', ← Array.length_toList, List.take_length]
  have hp := (h.exposes r.2).freshOwn (h.below.alloc _) (Hold.alloc w (.cells out e)) (d := d) (by rw [exposes_n]; exact hdn) (o := ⟨te.size, e, true, r.1⟩) (v := .slice (some ⟨w.heap.size, 0, none⟩) len len)
    (fun b hb => by simp [Value.ownBlock] at hb; omega) hrow ho2 ho3
  obtain ⟨g', hp⟩ := hp
  rw [← hd] at hp
  exact wp_of_run hrun (hK _ _ _ _ hK' hp (fun _ => Hold.alloc w _))

theorem sound_convert (hT : TabOk P T) (h : Rp M0 base g st a w) {src t : TypeId} {x : Operand} (ho : o.op = .convert src t x) (hv : vb P T st K o.dst o.op)
    (hK : ∀ g' st' a' w', K st' → Rp M0 base g' st' a' w' → (quietB T o.op = true → Hold w w') → Kw a' w') : o.wp P a w Kw Q := by
  rw [ho] at hv
  simp only [vb] at hv
  obtain ⟨ts, td, e, te, s, hts, htd, h1, h2, hte, h3, hx, hfit, hK'⟩ := hv
  have hr := run_bytes_of_string (P := P) w src t e s ((hT _ _ hts).str h1) ((hT _ _ htd).slice h2) ((hT _ _ hte).int h3)
  have hrun : (execOp a.eval o).run P w = .ok (.value (.slice (some ⟨w.heap.size, 0, none⟩) s.size (grownCap w s.size 0 e)))
      (w.drew.alloc (.cells (bytesRow s (grownCap w s.size 0 e)) e ((bytesRow s (grownCap w s.size 0 e)).size, (bytesRow s (grownCap w s.size 0 e)).size + 1))) := by
    simp only [execOp, ho, Sem.run_bind, Sem.run_pure, h.val1 hx, hr, Result.andThen_ok]
  have hold : Hold w (w.drew.alloc (.cells (bytesRow s (grownCap w s.size 0 e)) e ((bytesRow s (grownCap w s.size 0 e)).size, (bytesRow s (grownCap w s.size 0 e)).size + 1))) := fun k hk => heap_alloc_old w.drew _ k hk
  have hb : Bel base.X base.w (w.drew.alloc (.cells (bytesRow s (grownCap w s.size 0 e)) e ((bytesRow s (grownCap w s.size 0 e)).size, (bytesRow s (grownCap w s.size 0 e)).size + 1))) := h.below.drew.alloc _
  have hp := (Rp.world h hb hold).set o.dst hfit (fe := .pv (.sl 1 (byteRows (numsOf s)))) (v := .slice (some ⟨w.heap.size, 0, none⟩) s.size (grownCap w s.size 0 e)) (by
    have hlen : (byteRows (numsOf s)).length = s.size := by simp [byteRows, numsOf]
    simp only [FR, VR]
    refine ⟨_, _, by rw [hlen], by rw [hlen]; exact grownCap_ge w s.size 0 e, .inr ⟨w.heap.size, 0, rfl, ?_⟩⟩
    refine Rows.of_vals (vs := (numsOf s).map (Value.int .u8)) (by intro y hy; simp only [byteRows, List.mem_map] at hy; obtain ⟨n, _, rfl⟩ := hy; rfl) ?_ ?_
    · have : ∀ l : List Int, VRc (Mset M0 g st) (w.drew.alloc (.cells (bytesRow s (grownCap w s.size 0 e)) e ((bytesRow s (grownCap w s.size 0 e)).size, (bytesRow s (grownCap w s.size 0 e)).size + 1))) (byteRows l).flatten (l.map (Value.int .u8)) := by
        intro l
        induction l with
        | nil => simp [byteRows, VRc]
        | cons n l ih =>
          simp only [byteRows, List.map_cons, List.flatten_cons, List.cons_append, List.nil_append, VRc, VR]
          exact ⟨_, _, rfl, rfl, rfl, ih⟩
      exact this _
    · intro j u hj
      refine ⟨?_, fun hh => ?_⟩
      · have hnew := heap_alloc_new w.drew (.cells (bytesRow s (grownCap w s.size 0 e)) e ((bytesRow s (grownCap w s.size 0 e)).size, (bytesRow s (grownCap w s.size 0 e)).size + 1))
        have hnew' : (w.drew.alloc (.cells (bytesRow s (grownCap w s.size 0 e)) e ((bytesRow s (grownCap w s.size 0 e)).size, (bytesRow s (grownCap w s.size 0 e)).size + 1))).heap[w.heap.size]? = _ := hnew
        rw [cells_of_row hnew', Nat.zero_add]
        have hjl : j < s.data.toList.length := by have := (List.getElem?_eq_some_iff.1 hj).1; simpa [numsOf] using this
        simp only [numsOf, List.map_map, List.getElem?_map] at hj
        have hjs : j < s.data.size := by simpa using hjl
        simp only [bytesRow]
        rw [Array.getElem?_append_left (by simpa using hjs)]
        simp only [Array.getElem?_map]
        simpa using hj
      · have := h.m_lt _ _ hh
        omega)
  exact wp_of_run hrun (hK _ _ _ _ hK' hp (fun _ => hold))

theorem evs_ok (h : Rp M0 base g st a w) : ∀ {xs : List Operand} {ts : List TypeId} {r : List FE}, evs T st xs ts = some r → FRs g (Mset M0 g st) w r (xs.map a.eval) := by
  intro xs
  induction xs with
  | nil => intro ts r hr; simp only [evs] at hr; cases hr; simp [FRs]
  | cons x xs ih =>
    intro ts r hr
    simp only [evs] at hr
    obtain ⟨fe, he, hr⟩ := Option.bind_eq_some_iff.1 hr
    obtain ⟨r', hr', hrr⟩ := Option.map_eq_some_iff.1 hr
    subst hrr
    simp only [List.map_cons, FRs]
    refine ⟨_, _, rfl, ?_, ih hr'⟩
    have hx := h.ev he
    cases fe <;> simp only [normF]
    case pv y => exact normO_ok T _ hx
    all_goals exact hx
theorem run_enter {c : Call} {f : FuncId} (ho : o.op = .call c) (hc : c.callee = .value (.func f)) (hf : ∃ fn, P.funcs[f]? = some fn ∧ (fn.name == "runtime.NumGoroutine") = false ∧ fn.body.isNone = false) : (execOp a.eval o).run P w = .ok (.enter f (c.args.map a.eval)) w := by
  obtain ⟨fn, hf, hname, hbody⟩ := hf
  have h1 : ¬ fn.name = "runtime.NumGoroutine" := by simpa using hname
  have h2 : ¬ fn.body = none := by cases hx : fn.body <;> simp_all
  simp [execOp, ho, resolve, hc, Deferred.ofValue, invoke, callFunc, hf, h1, h2, Act.eval]
theorem sound_call (hT : TabOk P T) (h : Rp M0 base g st a w) {c : Call} {f : FuncId} (ho : o.op = .call c) (hc : c.callee = .value (.func f)) (hv : vb P T st K o.dst o.op)
    (hK : ∀ g' st' a' w', K st' → Rp M0 base g' st' a' w' → (quietB T o.op = true → Hold w w') → Kw a' w') : o.wp P a w Kw Q := by
  have e1 : (c.args.toList.map a.eval).toArray = c.args.map a.eval := by apply Array.ext'; simp
  rw [ho] at hv
  simp only [vb, hc] at hv
  rcases hv with ⟨r, hr, hfit, hthere, hcalls⟩ | ⟨hq, hfit, fes, hr, hthere, hcalls⟩
  · have hargs := vargs_ok h (T := T) [] hr
    simp only [List.nil_append] at hargs
    unfold Oper.wp
    rw [run_enter ho hc hthere]
    simp only [Oper.upon_enter]
    have hex := h.exposes r.2
    have hcall := hcalls (Mset M0 g (st.exposes r.2)) w (c.args.toList.map a.eval) hex.m_lt hargs
    rw [e1] at hcall
    refine hcall.mono ?_
    rintro e w' ⟨v, x, rfl, hb, hx, hk⟩
    have hold : Hold w w' := fun k hk => hb.block k hk
    have hbel : Bel base.X base.w w' := h.below.below hb
    have hw := Rp.world hex hbel hold
    have hp := hw.set o.dst (by cases hd : o.dst with | none => trivial | some d => rw [hd] at hfit; show d < _; rw [exposes_n]; exact hfit) (fe := .pv x) (v := v) hx
    exact hK _ _ _ _ hk hp (fun _ => hold)
  · have hargs := evs_ok h (T := T) hr
    unfold Oper.wp
    rw [run_enter ho hc hthere]
    simp only [Oper.upon_enter]
    have hcall := hcalls M0 base g a w (c.args.toList.map a.eval) h hargs
    rw [e1] at hcall
    refine hcall.mono ?_
    rintro e w' ⟨v, fe, g', st', rfl, hp, hfe, hk⟩
    have hn : st'.n = st.n := by rw [← hp.size, ← h.size]
    have hp2 := hp.set o.dst (by cases hd : o.dst with | none => trivial | some d => rw [hd] at hfit; show d < _; rw [hn]; exact hfit) hfe
    exact hK _ _ _ _ hk hp2 (fun hh => by rw [ho, hq] at hh; cases hh)

theorem vsrc_ok (h : Rp M0 base g st a w) {sz : Nat} {fe : FE} {v : Value} (hx : FR g (Mset M0 g st) w fe v) {s : List (List SV) × List Nat} (hs : vsrc st sz fe = some s) (hpos : 0 < sz) :
    ∃ A c news, v = .slice A s.1.length c ∧ news.length = s.1.length * sz ∧ VRc (Mset M0 g (st.exposes s.2)) w s.1.flatten news ∧ (∀ y ∈ s.1, y.length = sz) ∧ (0 < s.1.length → ∃ ad, A = some ad ∧ ∀ j u, news[j]? = some u → w.cell? (ad.add j) = some u) := by
  have main : ∀ (M : Region) (ys : List (List SV)), VR M w (.sl sz ys) v → ∃ A c news, v = .slice A ys.length c ∧ news.length = ys.length * sz ∧ VRc M w ys.flatten news ∧ (∀ y ∈ ys, y.length = sz) ∧ (0 < ys.length → ∃ ad, A = some ad ∧ ∀ j u, news[j]? = some u → w.cell? (ad.add j) = some u) := by
    intro M ys hv
    simp only [VR] at hv
    obtain ⟨A, c, hv, _, hr⟩ := hv
    rcases hr with rfl | ⟨b, off, rfl, hr⟩
    · exact ⟨A, c, [], hv, by simp, by simp [VRc], by simp, by simp⟩
    · obtain ⟨news, h1, h2, h3⟩ := Rows.vals hr
      refine ⟨_, c, news, hv, h2, h1, ?_, fun _ => ⟨_, rfl, fun j u hj => ?_⟩⟩
      · intro y hy
        obtain ⟨i, hi⟩ := List.mem_iff_getElem?.1 hy
        exact (Rows.get hr hi).1
      · rw [Addr.add_mid]; exact h3 j u hj
  unfold vsrc at hs
  split at hs
  · rename_i sz' ys
    split at hs
    · rename_i e
      cases hs
      subst e
      exact main _ _ hx
    · cases hs
  · cases hs
    have hv : v = .slice none 0 0 := by simpa [FR, VR] using hx
    exact ⟨none, 0, [], hv, by simp, by simp [VRc], by simp, by simp⟩
  · rename_i k
    obtain ⟨p, hk, hs⟩ := Option.bind_eq_some_iff.1 hs
    split at hs
    · rename_i e
      cases hs
      subst e
      have hx : v = g.ν k := hx
      subst hx
      exact main _ _ (h.own_pure hk)
    · cases hs
  · cases hs

theorem sound_append (hT : TabOk P T) (h : Rp M0 base g st a w) {c : Call} (ho : o.op = .call c) (hc : c.callee = .builtin .append) (hv : vb P T st K o.dst o.op)
    (hK : ∀ g' st' a' w', K st' → Rp M0 base g' st' a' w' → (quietB T o.op = true → Hold w w') → Kw a' w') : o.wp P a w Kw Q := by
  have hq : quietB T o.op = false := by rw [ho]; simp [quietB, hc]
  rw [ho] at hv
  simp only [vb, hc] at hv
  obtain ⟨d, x, y, t, ti, e, te, fy, s, ha, hat, hd, hdn, hti, hs, hte, hpos, hbpos, hy, hsrc, hv⟩ := hv
  have ty := hT _ _ hti
  have tye := hT _ _ hte
  obtain ⟨i, z, h1, h2, h3, h4, h5, h6, _⟩ := tye.info
  have hzl : z.cells.size = i.size := by have := VRc.length (h5 (Mset M0 g st) w); simp at this; omega
  obtain ⟨A, cy, news, hvy, hnl, hnews, hly, hA⟩ := vsrc_ok h (h.ev hy) hsrc hpos
  have hex := h.exposes s.2
  have run : ∀ v : Value, a.eval x = v → ∀ v' w', (Builtin.append_ #[t, t] o.type #[v, .slice A s.1.length cy]).run P w = .ok v' w' → (execOp a.eval o).run P w = .ok (.value v') w' := by
    intro v hp v' w' hr
    simp [execOp, ho, resolve, hc, ha, hat, hp, hvy, invoke, builtin, hr]
  have mx : ∀ n : Nat, n * te.bytes ≤ 140737488355328 → n ≤ maxLen := by
    intro n hn
    have := Nat.le_trans (Nat.le_mul_of_pos_right n hbpos) hn
    simp only [maxLen]; omega
  split at hv
  · rename_i hx
    obtain ⟨hbytes, hK'⟩ := hv
    have hp := h.evv hx
    have hown : w.ownsRow 0 e i.size (.slice none 0 0) 0 [] := World.ownsRow_nil w 0 e i.size
    obtain ⟨v', w', hr, hrow, hcase⟩ := run_append_eng (P := P) 0 t o.type e i z (ty.slice hs) h1 h4 hzl (by omega) (.slice none 0 0) 0 [] hown A s.1.length cy news (by rw [hnl, h2]) hA (VRc.one hnews) (by rw [Nat.zero_add]; exact mx _ hbytes) (by rw [Nat.zero_add, h3]; exact hbytes) (Nat.zero_le _)
    simp only [Nat.zero_add, List.nil_append] at hrow
    have hg : w.grownBy w' none := by
      rcases hcase with ⟨_, hg⟩ | ⟨_, hg⟩
      · exact hg
      · exact hg
    have hold : Hold w w' := fun k hk => hg.block k hk (by simp)
    have hvb : ∀ b, v'.ownBlock = some b → w.heap.size ≤ b := by
      intro b hb
      rcases hcase with ⟨q, _⟩ | ⟨q, _⟩
      · rw [q] at hb; simp [Value.ownBlock] at hb
      · rw [q] at hb; have : w.heap.size = b := Option.some.inj hb; omega
    have hb : Bel base.X base.w w' := h.below.grown hg (fun b hb => by cases hb)
    have hpp := hex.freshOwn hb hold (d := d) (by rw [exposes_n]; exact hdn) (o := ⟨te.size, e, true, s.1⟩) (v := v') hvb (vals := news) (by rw [← h2]; exact hrow) hnews hly
    obtain ⟨g', hpp⟩ := hpp
    rw [← hd] at hpp
    exact wp_of_run (run _ hp _ _ hr) (hK _ _ _ _ hK' hpp (fun hh => by rw [hq] at hh; cases hh))
  · rename_i k hx
    obtain ⟨p, hk, hpsz, hpe, hnot, hbytes, hK'⟩ := hv
    have hp : a.eval x = g.ν k := h.ev hx
    -- k itself is not exposed
    have hkx : ∀ (ks : List Nat) (st : St), look k st.own = some p → (k ∈ ks → False) → look k (st.exposes ks).own = some p := by
      intro ks
      induction ks with
      | nil => intro st hh _; exact hh
      | cons j ks ih =>
        intro st hh hno
        refine ih _ ?_ (fun hm => hno (List.mem_cons_of_mem _ hm))
        have hjk : ¬ k = j := fun e => hno (by rw [e]; exact List.mem_cons_self ..)
        unfold St.expose
        cases hj : look j st.own with
        | none => exact hh
        | some q => simp only [look_ins]; rw [if_neg hjk]; exact hh
    have hk2 := hkx s.2 st hk hnot
    obtain ⟨vals, hrow0, hvals, hlp⟩ := hex.own k p hk2
    have hrow0' : w.ownsRow 0 e i.size (g.ν k) p.xs.length vals := by rw [h2, ← hpsz, ← hpe]; exact hrow0
    obtain ⟨v', w', hr, hrow, hcase⟩ := run_append_eng (P := P) 0 t o.type e i z (ty.slice hs) h1 h4 hzl (by omega) (g.ν k) p.xs.length vals hrow0' A s.1.length cy news (by rw [hnl, h2]) hA (VRc.one hnews) (mx _ hbytes) (by rw [h3]; exact hbytes) (Nat.zero_le _)
    have hpp := hex.appendOwn hk2 (d := d) (by rw [exposes_n]; exact hdn) (ys := s.1) (v := v') hrow0 hvals hnews hlp (by rw [hpsz]; exact hly) (by rw [hpe, hpsz, ← h2]; exact hrow) hcase
    obtain ⟨g', hpp⟩ := hpp
    rw [← hd] at hpp
    exact wp_of_run (run _ hp _ _ hr) (hK _ _ _ _ hK' hpp (fun hh => by rw [hq] at hh; cases hh))
  · exact hv.elim

theorem sound_makeMap (h : Rp M0 base g st a w) {t : TypeId} (ho : o.op = .makeMap t none) (hv : vb P T st K o.dst o.op)
    (hK : ∀ g' st' a' w', K st' → Rp M0 base g' st' a' w' → (quietB T o.op = true → Hold w w') → Kw a' w') : o.wp P a w Kw Q := by
  rw [ho] at hv
  simp only [vb] at hv
  obtain ⟨d, hd, hdn, hK'⟩ := hv
  have hr : (execOp a.eval o).run P w = .ok (.value (.map (some w.heap.size))) (w.alloc (.map #[] 0)) := by
    have := run_makeMap (P := P) t w
    simp [execOp, ho, this]
  have hp := h.newMap hdn
  rw [← hd] at hp
  exact wp_of_run hr (hK _ _ _ _ hK' hp (fun _ => Hold.alloc w _))
theorem sound_lookup (h : Rp M0 base g st a w) {t : TypeId} {x k : Operand} {ok : Bool} (ho : o.op = .lookup t x k ok) (hv : vb P T st K o.dst o.op)
    (hK : ∀ g' st' a' w', K st' → Rp M0 base g' st' a' w' → (quietB T o.op = true → Hold w w') → Kw a' w') : o.wp P a w Kw Q := by
  rw [ho] at hv
  simp only [vb] at hv
  obtain ⟨j, m, kv, v, b, hx, hm, hk, hfit, hl, hK'⟩ := hv
  have hxe : a.eval x = .map (some (g.μ j)) := h.ev hx
  have hke := h.val1 hk
  obtain ⟨_, es, c, hb, ha⟩ := h.map j m hm
  have hr0 := run_lookup_tells hl hb ha ok
  have hr : (execOp a.eval o).run P w = .ok (.value (if ok then .tuple #[v, .bool b] else v)) w := by
    simp [execOp, ho, hxe, hke, hr0]
  refine wp_of_run hr (hK _ _ _ _ hK' (h.set o.dst hfit ?_) (fun _ => Hold.refl w))
  cases ok with
  | true => exact ⟨[v, .bool b], rfl, by simp [VRs, VR]⟩
  | false => rfl
theorem sound_mapUpdate (h : Rp M0 base g st a w) {t : TypeId} {x k y : Operand} (ho : o.op = .mapUpdate t x k y) (hv : vb P T st K o.dst o.op)
    (hK : ∀ g' st' a' w', K st' → Rp M0 base g' st' a' w' → (quietB T o.op = true → Hold w w') → Kw a' w') : o.wp P a w Kw Q := by
  have hq : quietB T o.op = false := by rw [ho]; rfl
  rw [ho] at hv
  simp only [vb] at hv
  obtain ⟨j, m, kv, v, m', hx, hm, hk, hy, hfit, hl, hK'⟩ := hv
  have hxe : a.eval x = .map (some (g.μ j)) := h.ev hx
  have hke := h.val1 hk
  have hye := h.val1 hy
  obtain ⟨_, es, c, hb, ha⟩ := h.map j m hm
  obtain ⟨es', c', hr0, ha'⟩ := run_mapUpdate_tells hl hb ha
  have hr : (execOp a.eval o).run P w = .ok .skip { w with heap := w.heap.setIfInBounds (g.μ j) (.map es' c') } := by
    simp [execOp, ho, hxe, hke, hye, hr0]
  exact wp_of_skip hr (hK _ _ _ _ hK' (set_dead (h.setMap hm ha') hfit _) (fun hh => by rw [hq] at hh; cases hh))
theorem sound_eqs (h : Rp M0 base g st a w) {op : BinOp} {t yt : TypeId} {x y : Operand} (ho : o.op = .binOp op t x y yt) (hv : vb P T st K o.dst o.op)
    (hK : ∀ g' st' a' w', K st' → Rp M0 base g' st' a' w' → (quietB T o.op = true → Hold w w') → Kw a' w') : o.wp P a w Kw Q := by
  rw [ho] at hv
  simp only [vb] at hv
  obtain ⟨ti, us, vs, b, _, _, hx, hy, hfit, ⟨xs, ys, rfl, rfl, hg, hrun⟩, hc⟩ := hv
  obtain ⟨xs', hx1, hx2⟩ := h.ev hx
  obtain ⟨ys', hy1, hy2⟩ := h.ev hy
  rw [VRc_eq hx2] at hx1
  rw [VRc_eq hy2] at hy1
  have hgd := run_eqGuard_agg (P := P) w op t x y xs.toArray ys.toArray hg
  rcases hc with ⟨rfl, hK'⟩ | ⟨rfl, hK'⟩
  · have hb := run_eql_struct (P := P) w t xs.toArray ys.toArray
    rw [hrun w] at hb
    simp only [Result.andThen_ok] at hb
    have hr : (execOp a.eval o).run P w = .ok (.value (.bool b)) w := by
      simp [execOp, ho, hx1, hy1, hgd, hb]
    exact wp_of_run hr (hK _ _ _ _ hK' (h.set o.dst hfit rfl) (fun _ => Hold.refl w))
  · have hb := run_neq_struct (P := P) w t xs.toArray ys.toArray
    rw [hrun w] at hb
    simp only [Result.andThen_ok] at hb
    have hr : (execOp a.eval o).run P w = .ok (.value (.bool (!b))) w := by
      simp [execOp, ho, hx1, hy1, hgd, hb]
    exact wp_of_run hr (hK _ _ _ _ hK' (h.set o.dst hfit rfl) (fun _ => Hold.refl w))
theorem sound_lenMap (h : Rp M0 base g st a w) {c : Call} (ho : o.op = .call c) (hc : c.callee = .builtin .len) (hv : vb P T st K o.dst o.op)
    (hK : ∀ g' st' a' w', K st' → Rp M0 base g' st' a' w' → (quietB T o.op = true → Hold w w') → Kw a' w') : o.wp P a w Kw Q := by
  rw [ho] at hv
  simp only [vb, hc] at hv
  obtain ⟨x, t, j, m, ha1, hat, _, hx, hm, hfit, ⟨d, z, kt, et, u1, _, _⟩, hK'⟩ := hv
  have hxe : a.eval x = .map (some (g.μ j)) := h.ev hx
  obtain ⟨_, es, cl, hb, ha⟩ := h.map j m hm
  have hlen : es.size = m.length := by unfold MpAt at ha; rw [← ha]; simp
  have hg := MapKept.run_getObj_map (P := P) hb
  have hr : (execOp a.eval o).run P w = .ok (.value (.int .i64 m.length)) w := by
    simp [execOp, ho, resolve, hc, ha1, hat, hxe, invoke, builtin, Builtin.len_, run_underlying u1, hg, hlen, Result.andThen, goInt]
  exact wp_of_run hr (hK _ _ _ _ hK' (h.set o.dst hfit rfl) (fun _ => Hold.refl w))
theorem vb_sound (hT : TabOk P T) (h : Rp M0 base g st a w) (hv : vb P T st K o.dst o.op)
    (hK : ∀ g' st' a' w', K st' → Rp M0 base g' st' a' w' → (quietB T o.op = true → Hold w w') → Kw a' w') : o.wp P a w Kw Q := by
  have hv0 := hv
  cases ho : o.op <;> rw [ho] at hv
  case alloc e => exact sound_alloc hT h ho hv0 hK
  case box e x => exact sound_box hT h ho hv0 hK
  case store t x y => exact sound_store hT h ho hv0 hK
  case buildSlice t n ps => exact sound_buildSlice hT h ho hv0 hK
  case convert s t x => exact sound_convert hT h ho hv0 hK
  case call c =>
    have hv' := hv
    simp only [vb] at hv'
    split at hv'
    · rename_i f hc; exact sound_call hT h ho hc hv0 hK
    · rename_i hc; exact sound_append hT h ho hc hv0 hK
    · rename_i hc; exact sound_lenMap h ho hc hv0 hK
    · exact hv'.elim
  case makeMap t r =>
    cases r with
    | none => exact sound_makeMap h ho hv0 hK
    | some r => simp only [vb] at hv
  case lookup t x k ok => exact sound_lookup h ho hv0 hK
  case mapUpdate t x k y => exact sound_mapUpdate h ho hv0 hK
  case binOp op t x y yt => exact sound_eqs h ho hv0 hK
  all_goals (simp only [vb] at hv)
end
end Go.Proofs.Ytnoohgiecnmajaa.VC

