/- A part of the ground of the proof. No condition. -/
import Derived.Laws.Tables
import Derived.Test.YtnoohgiecnmajaaGE5

/- The engine, part 6: slicing, building, converting; all operations that make no memory. -/
namespace Go.Proofs.Ytnoohgiecnmajaa.VC
open Go Go.RowKit
set_option linter.unusedVariables false
set_option linter.unusedSimpArgs false

section
variable {M0 : Region} {base : Bs} {g : Gh} {st : St} {a : Act} {w w' : World} {P : Program} {T : Tab} {K : FE → List Nat → Prop} {o : Oper}

theorem bnd_some (h : Rp M0 base g st a w) {x : Operand} {d n : Int} (hb : bnd st (some x) d = some n) : ∃ k, a.eval x = .int k n := by
  simp only [bnd] at hb
  split at hb
  · rename_i k m hv
    cases hb
    exact ⟨k, h.val1 hv⟩
  · cases hb
/-- The bounds of a slice expression. -/
theorem run_bounds (h : Rp M0 base g st a w) (isS : Bool) (len cap : Nat) (hlc : len ≤ cap) {lo hi : Option Operand} {l r : Int} (hl : bnd st lo 0 = some l) (hr : bnd st hi len = some r) (h0 : 0 ≤ l) (h1 : l ≤ r) (h2 : r ≤ len) (w' : World) :
    (Instr.sliceBounds isS len cap (lo.map a.eval) (hi.map a.eval) none).run P w' = .ok (l.toNat, r.toNat, cap) w' := by
  have hc : r ≤ (cap : Int) := by omega
  have hrt : ((r.toNat : Nat) : Int) = r := by omega
  cases lo with
  | none =>
    have hl0 : l = 0 := by simpa [bnd] using hl.symm
    subst hl0
    cases hi with
    | none =>
      have hr0 : r = (len : Int) := by simpa [bnd] using hr.symm
      subst hr0
      simp [Instr.sliceBounds]
    | some y =>
      obtain ⟨k, hy⟩ := bnd_some h hr
      cases isS <;> simp [Instr.sliceBounds, Instr.sliceBound, asIntOf, hy, show 0 ≤ r by omega, hc]
  | some x =>
    obtain ⟨k, hx⟩ := bnd_some h hl
    cases hi with
    | none =>
      have hr0 : r = (len : Int) := by simpa [bnd] using hr.symm
      subst hr0
      cases isS <;> simp [Instr.sliceBounds, Instr.sliceBound, asIntOf, hx, h0, h1]
    | some y =>
      obtain ⟨k', hy⟩ := bnd_some h hr
      cases isS <;> simp [Instr.sliceBounds, Instr.sliceBound, asIntOf, hx, hy, show 0 ≤ r by omega, hc, h0, h1, hrt]
theorem good_slice (hT : TabOk P T) (h : Rp M0 base g st a w) {t : TypeId} {x : Operand} {lo hi : Option Operand} (ho : o.op = .slice t x lo hi none) (hv : va T st K o.op) : Good P M0 g st a w K o := by
  rw [ho] at hv
  simp only [va] at hv
  obtain ⟨ti, hti, hv⟩ := hv
  have ty := hT _ _ hti
  have fin : ∀ (e : TypeId) (te : TI) (sz : Nat) (xs : List (List SV)) (l r : Int) (ks : List Nat) (A : Option Addr) (cap : Nat), ti.sh = .slice e → T e = some te → te.size = sz → bnd st lo 0 = some l → bnd st hi xs.length = some r → 0 ≤ l → l ≤ r → r ≤ (xs.length : Int) →
      a.eval x = .slice A xs.length cap → xs.length ≤ cap → (xs = [] ∨ ∃ b off, A = some ⟨b, off, none⟩ ∧ Rows (Mset M0 g (st.exposes ks)) w b sz off xs) →
      K (.pv (.sl sz ((xs.take r.toNat).drop l.toNat))) ks → Good P M0 g st a w K o := by
    intro e te sz xs l r ks A cap hs hte hsz hl hr h0 h1 h2 hp hcap hrows hK
    have tye := hT _ _ hte
    have hb := fun w' => run_bounds (P := P) h true xs.length cap hcap hl hr h0 h1 h2 w'
    have hlen : ((xs.take r.toNat).drop l.toNat).length = r.toNat - l.toNat := by simp; omega
    refine ⟨_, ks, .slice (if cap = l.toNat then A else A.map (·.add (l.toNat * te.size))) (r.toNat - l.toNat) (cap - l.toNat), hK, ?_, fun w' _ => ?_⟩
    · simp only [FR, VR]
      refine ⟨_, _, by rw [hlen], by rw [hlen]; omega, ?_⟩
      rcases hrows with hrows | ⟨b, off, hA, hrows⟩
      · left; rw [hrows]; simp
      · by_cases hc : cap = l.toNat
        · left
          exact List.eq_nil_of_length_eq_zero (by rw [hlen]; omega)
        · right
          rw [if_neg hc, hA]
          refine ⟨b, off + l.toNat * te.size, by simp [Addr.add_mid], ?_⟩
          rw [hsz]
          exact Rows.drop (Rows.take hrows _) _
    · simp only [execOp, ho, Sem.run_bind, Sem.run_pure, Instr.sliceAt, run_underlying (ty.slice hs), Result.andThen_ok, Instr.slice, hp, Option.map_none, hb w', tye.size w']
  split at hv
  · rename_i s hx
    obtain ⟨hs, l, r, hl, hr, h0, h1, h2, hK⟩ := hv
    refine ⟨_, _, _, hK, rfl, fun w' _ => ?_⟩
    have hb := run_bounds (P := P) h false s.size s.size (Nat.le_refl _) hl hr h0 h1 h2 w'
    simp only [execOp, ho, Sem.run_bind, Sem.run_pure, Instr.sliceAt, run_underlying (ty.str hs), Result.andThen_ok, Instr.slice, h.evv hx, Option.map_none]
    simp
    rw [hb]
    rfl
  · rename_i sz xs hx
    obtain ⟨e, te, l, r, hs, hte, hsz, hl, hr, h0, h1, h2, hK⟩ := hv
    have hp := h.ev hx
    simp only [FR, VR] at hp
    obtain ⟨A, cap, hp, hcap, hrows⟩ := hp
    exact fin e te sz xs l r [] A cap hs hte hsz hl hr h0 h1 h2 hp hcap hrows hK
  · rename_i k hx
    obtain ⟨ow, e, te, l, r, hk, hs, hte, hsz, hl, hr, h0, h1, h2, hK⟩ := hv
    have hp : a.eval x = g.ν k := h.ev hx
    have hpure := h.own_pure hk
    simp only [VR] at hpure
    obtain ⟨A, cap, hA, hcap, hrows⟩ := hpure
    exact fin e te ow.sz ow.xs l r [k] A cap hs hte hsz hl hr h0 h1 h2 (hp.trans hA) hcap hrows hK
  · exact hv.elim

/-- A value's cells. -/
theorem svcells_ok {M : Region} {w : World} {cs : List SV} {x : SV} {v : Value} (hx : VR M w x v) (hc : svcells x = some cs) : VRc M w cs v.cells.toList := by
  unfold svcells at hc
  split at hc
  · cases hc
    simp only [VR] at hx
    obtain ⟨vs, rfl, h2⟩ := hx
    simpa [Value.cells] using h2
  · split at hc
    · rename_i u h1
      cases hc
      have hv : v = u := by simpa [VR] using hx
      subst hv
      rw [cells_one h1]
      simp only [VRc]
      exact ⟨_, [], rfl, hx, h1, rfl⟩
    · cases hc
  · cases hc
    have hx' := hx
    simp only [VR] at hx
    obtain ⟨A, cap, rfl, _⟩ := hx
    simp only [VRc]
    exact ⟨_, [], rfl, hx', rfl, rfl⟩
  · cases hc
theorem nilc_ok {M : Region} {w : World} {x : SV} {v : Value} (z : Option Nat) (hx : VR M w x v) : VR M w (nilc z x) v := by
  unfold nilc
  split
  · have hv : v = .slice none 0 0 := by simpa [VR] using hx
    subst hv
    simp only [VR]
    exact ⟨none, 0, rfl, by simp, .inl (by trivial)⟩
  · exact hx
theorem zipNil_ok {M : Region} {w : World} : ∀ {cs : List SV} {vs : List Value} (zs : List (Option Nat)), VRc M w cs vs → VRc M w (zipNil zs cs) vs
  | cs, vs, [], h => by simpa [zipNil] using h
  | [], vs, z :: zs, h => by simpa [zipNil] using h
  | c :: cs, vs, z :: zs, h => by
    simp only [VRc] at h
    obtain ⟨v, vs', h1, h2, h3, h4⟩ := h
    simp only [zipNil, VRc]
    exact ⟨v, vs', h1, nilc_ok z h2, h3, zipNil_ok zs h4⟩
theorem normT_ok {M : Region} {w : World} {x : SV} {v : Value} (T : Tab) (t : TypeId) (hx : VR M w x v) : VR M w (normT T t x) v := by
  unfold normT
  split
  · split
    · simp only [VR] at hx ⊢
      obtain ⟨vs, h1, h2⟩ := hx
      exact ⟨vs, h1, zipNil_ok _ h2⟩
    · exact nilc_ok _ hx
  · exact hx
theorem zipNil_length : ∀ (zs : List (Option Nat)) (cs : List SV), (zipNil zs cs).length = cs.length
  | [], cs => by simp [zipNil]
  | z :: zs, [] => by simp [zipNil]
  | z :: zs, c :: cs => by simp [zipNil, zipNil_length zs cs]
theorem vfill_ok (h : Rp M0 base g st a w) {fs : List (Nat × Nat)} : ∀ {parts : List (Nat × Operand)} {cells : List SV} {r : List SV × List Nat} {cur : Array Value} (ks0 : List Nat), vfill st fs cells parts = some r → VRc (Mset M0 g (st.exposes ks0)) w cells cur.toList →
    ∃ out, Instr.fill (fun i => fs.toArray[i]?) cur (parts.map fun p => (p.1, a.eval p.2)) = some out ∧ VRc (Mset M0 g (st.exposes (ks0 ++ r.2))) w r.1 out.toList := by
  intro parts
  induction parts with
  | nil =>
    intro cells r cur ks0 hf hc
    simp only [vfill] at hf
    cases hf
    exact ⟨cur, by simp [Instr.fill], by simpa using hc⟩
  | cons p parts ih =>
    intro cells r cur ks0 hf hc
    obtain ⟨i, x⟩ := p
    simp only [vfill] at hf
    generalize e1 : fs[i]? = q1 at hf
    generalize e2 : ev st x = q2 at hf
    match q1, q2, e1, e2, hf with
    | some (o, z), some fe, e1, e2, hf =>
      simp only at hf
      generalize e3 : pf st fe = q3 at hf
      match q3, e3, hf with
      | some (sv, ks), e3, hf =>
        simp only at hf
        generalize e4 : svcells sv = q4 at hf
        match q4, e4, hf with
        | some cs, e4, hf =>
          simp only at hf
          split at hf
          · rename_i hcond
            obtain ⟨r', hr', hrr⟩ := Option.map_eq_some_iff.1 hf
            subst hrr
            have hx := h.pf (h.ev e2) e3
            have hcs := svcells_ok hx e4
            have hl := VRc.length hc
            have hl2 := VRc.length hcs
            have hsz : (a.eval x).cells.size = z := by rw [← hcond.1, ← hl2]; simp
            have hcur : o + (a.eval x).cells.size ≤ cur.size := by rw [hsz]; simp at hl; omega
            have hM1 : VRc (Mset M0 g (st.exposes (ks0 ++ ks))) w cells cur.toList := by rw [exposes_append]; exact VRc.mv (Mv.exposes M0 g ks w _) _ _ hc
            have hM2 : VRc (Mset M0 g (st.exposes (ks0 ++ ks))) w cs (a.eval x).cells.toList := by
              have := (h.exposes ks0).pf (FR.mv (Mv.exposes M0 g ks0 w _) (h.ev e2)) (pf_exposes e3 ks0)
              rw [exposes_append]
              exact svcells_ok this e4
            have hfl := fill_list o (a.eval x).cells.toList 0 cur (by simpa using hcur)
            simp only [Nat.add_zero] at hfl
            rw [splice_eq hcond.1 hcond.2] at hr'
            obtain ⟨out, ho1, ho2⟩ := ih (cells := cells.take o ++ cs ++ cells.drop (o + z)) (r := r') (cur := (a.eval x).cells.zipIdx.foldl (fun cs (c, j) => cs.setIfInBounds (o + j) c) cur) (ks0 ++ ks) hr' (by
              rw [← Array.foldl_toList, Array.toList_zipIdx]
              have e : (List.foldl (fun (cs : Array Value) (x : Value × Nat) => match x with | (c, j) => cs.setIfInBounds (o + j) c) cur (List.zipIdx (a.eval x).cells.toList)).toList = cur.toList.take o ++ (a.eval x).cells.toList ++ cur.toList.drop (o + (a.eval x).cells.toList.length) := hfl
              rw [e]
              refine VRc.append (VRc.append (VRc.take hM1 _) hM2) ?_
              have : (a.eval x).cells.toList.length = z := by simpa using hsz
              rw [this]
              exact VRc.drop hM1 _)
            refine ⟨out, ?_, by rw [← List.append_assoc]; exact ho2⟩
            simp only [List.map_cons, Instr.fill]
            have e1' : fs.toArray[i]? = some (o, z) := by simpa using e1
            rw [e1']
            simp only
            rw [if_neg (by simp [hsz]; omega)]
            exact ho1
          · cases hf
theorem good_build (hT : TabOk P T) (h : Rp M0 base g st a w) {t : TypeId} {parts : Array (Nat × Operand)} (ho : o.op = .build t parts) (hv : va T st K o.op) : Good P M0 g st a w K o := by
  rw [ho] at hv
  simp only [va] at hv
  obtain ⟨ti, fs, r, hti, hs, hf, hK⟩ := hv
  have ty := hT _ _ hti
  have hd := ty.desc
  rw [hs] at hd
  obtain ⟨fields, hu, hm, _⟩ := hd
  obtain ⟨i, z, h1, h2, h3, h4, h5, h6, h7⟩ := ty.info
  obtain ⟨out, ho1, ho2⟩ := vfill_ok h (cur := z.cells) [] hf (by exact h5 _ _)
  refine ⟨_, _, .agg out, hK, ?_, fun w' _ => ?_⟩
  · simp only [FR, VR]
    exact ⟨out.toList, by simp, by simpa using ho2⟩
  · have hb : P.built t (parts.map fun p => (p.1, a.eval p.2)).toList = some out := by
      simp only [Program.built, h1, hu, h4, hm]
      simpa using ho1
    have e := run_build (P := P) w' t (parts.map fun p => (p.1, a.eval p.2)) out hb
    have e2 : (Instr.build t (parts.map fun (i, x) => (i, a.eval x))).run P w' = .ok (.agg out) w' := e
    simp only [execOp, ho, Sem.run_bind, Sem.run_pure, e2, Result.andThen_ok]

theorem rows_bytes {M : Region} {w : World} : ∀ {b off : Nat} {l : List Int}, Rows M w b 1 off (byteRows l) → ∀ i, i < l.length → w.cell? ⟨b, off + i, none⟩ = some (.int .u8 (l.getD i 0))
  | b, off, [], h, i, hi => by simp at hi
  | b, off, n :: l, h, i, hi => by
    simp only [byteRows, List.map_cons, Rows, Cells] at h
    obtain ⟨_, ⟨⟨v, h1, h2, h3, h4⟩, _⟩, h6⟩ := h
    simp only [VR] at h3
    subst h3
    cases i with
    | zero => simpa using h1
    | succ i =>
      have := rows_bytes h6 i (by simpa using hi)
      rw [show off + 1 + i = off + (i + 1) by omega] at this
      simpa using this
theorem good_convert (hT : TabOk P T) (h : Rp M0 base g st a w) {src dst : TypeId} {x : Operand} (ho : o.op = .convert src dst x) (hv : va T st K o.op) : Good P M0 g st a w K o := by
  have hold1 : ∀ {w' : World}, (pureB o.op = true ∨ Hold w w') → Hold w w' := fun q => q.resolve_left (by rw [ho]; simp [pureB])
  rw [ho] at hv
  simp only [va] at hv
  obtain ⟨ts, td, hts, htd, hv⟩ := hv
  have tys := hT _ _ hts
  have tyd := hT _ _ htd
  have us : ∃ d, P.underlying src = some d := by
    have := tys.desc
    generalize ts.sh = s at this
    cases s <;> first | exact ⟨_, this⟩ | (obtain ⟨f, hf, _⟩ := this; exact ⟨_, hf⟩)
  obtain ⟨ds, hds⟩ := us
  have bytes : ∀ (e : TypeId) (te : TI) (l : List Int) (M : Region) (A : Option Addr) (cap : Nat), td.sh = .str → ts.sh = .slice e → T e = some te → te.sh = .int .u8 → a.eval x = .slice A (byteRows l).length cap → (byteRows l = [] ∨ ∃ b off, A = some ⟨b, off, none⟩ ∧ Rows M w b 1 off (byteRows l)) →
      K (.pv (.val (.string (strOfNums l)))) [] → Good P M0 g st a w K o := by
    intro e te l M A cap hd hs hte he hp hrows hK
    have tye := hT _ _ hte
    have hlen : (byteRows l).length = l.length := by simp [byteRows]
    refine ⟨_, _, _, hK, rfl, fun w' hw' => ?_⟩
    rcases hrows with hrows | ⟨b, off, hA, hrows⟩
    · have hl0 : l = [] := by simpa [byteRows] using hrows
      subst hl0
      have e0 : strOfNums [] = ByteArray.empty := rfl
      have hlen0 : (byteRows []).length = 0 := rfl
      rw [hlen0] at hp
      cases A with
      | none =>
        have := run_convert_bytes_nil (P := P) w' src e (tys.slice hs) (tye.int he) 0 cap dst (tyd.str hd)
        simp only [execOp, ho, Sem.run_bind, Sem.run_pure, hp, this, Result.andThen_ok, e0]
      | some ad =>
        have hl0 : (loadCells ad 0).run P w' = .ok #[] w' := by simp [loadCells, loadCellsFrom]
        have := run_convert_bytes_string (P := P) w' src dst e (some ad) 0 cap (tys.slice hs) (tye.int he) (tyd.str hd)
        simp only [execOp, ho, Sem.run_bind, Sem.run_pure, hp, this, Conv.bytesToString, hl0, Result.andThen_ok, e0]
        simp
    · subst hA
      have hcell := fun i hi => (hold1 hw').cell (rows_bytes hrows i hi)
      have := run_convert_bytes_arg (P := P) w' src e (tys.slice hs) (tye.int he) b off l.length cap l rfl hcell dst (tyd.str hd)
      rw [hlen] at hp
      simp only [execOp, ho, Sem.run_bind, Sem.run_pure, hp, this, Result.andThen_ok]
  split at hv
  · rename_i k k' n hd hx
    have tk := tyd.int hd
    have hp := h.evv hx
    refine ⟨_, _, _, hv, rfl, fun w' _ => ?_⟩
    simp [execOp, ho, hp, Go.convert, run_underlying hds, run_underlying tk, Conv.intToInt]
  · rename_i s hd hx
    have tk := tyd.str hd
    have hp := h.evv hx
    refine ⟨_, _, _, hv, rfl, fun w' _ => ?_⟩
    simp [execOp, ho, hp, Go.convert, run_underlying hds, run_underlying tk]
  · rename_i xs hd hx
    obtain ⟨e, te, l, hs, hte, he, rfl, hK⟩ := hv
    have hp := h.ev hx
    simp only [FR, VR] at hp
    obtain ⟨A, cap, hp, _, hrows⟩ := hp
    exact bytes e te l _ A cap hd hs hte he hp hrows hK
  · rename_i k hd hx
    obtain ⟨ow, e, te, l, hk, hsz, hs, hte, he, hxs, hK⟩ := hv
    have hp : a.eval x = g.ν k := h.ev hx
    have hpure := h.own_pure hk
    simp only [VR] at hpure
    obtain ⟨A, cap, hA, _, hrows⟩ := hpure
    rw [hsz, hxs] at hrows
    rw [hxs] at hA
    exact bytes e te l _ A cap hd hs hte he (hp.trans hA) hrows hK
  · exact hv.elim
/-- What 'va' tells of an operation is so. -/
theorem va_sound (hT : TabOk P T) (h : Rp M0 base g st a w) (hv : va T st K o.op) : Good P M0 g st a w K o := by
  have hv0 := hv
  cases ho : o.op <;> rw [ho] at hv
  case move x => exact good_move h (.inl ho) (by simpa only [va] using hv)
  case assign x => exact good_move h (.inr ho) (by simpa only [va] using hv)
  case pick c x y => exact good_pick h ho hv0
  case load t x => exact good_load hT h ho hv0
  case fieldAddr s x f => exact good_fieldAddr hT h ho hv0
  case indexAddr t x i => exact good_indexAddr hT h ho hv0
  case index t x i => exact good_index hT h ho hv0
  case slice t x lo hi mx =>
    cases mx with
    | none => exact good_slice hT h ho hv0
    | some m => simp only [va] at hv
  case build t ps => exact good_build hT h ho hv0
  case binOp op t x y yt => exact good_binOp hT h ho hv0
  case unOp op t x => exact good_unOp h ho hv0
  case convert s d x => exact good_convert hT h ho hv0
  case extract x i => exact good_extract h ho hv0
  case nilCheck x => exact good_nilCheck h ho hv0
  case call c =>
    have hv' := hv
    simp only [va] at hv'
    split at hv'
    · rename_i hc; exact good_len hT h ho hc hv0
    · rename_i hc; exact good_max h ho hc hv0
    · exact hv'.elim
  all_goals (simp only [va] at hv)
end
end Go.Proofs.Ytnoohgiecnmajaa.VC

