/- A part of the ground of the proof. No condition. -/
import Derived.Test.YtnoohgiecnmajaaGE33

/- The engine, part 34: a region that draws, where loads of one box and stores to others meet. -/
namespace Go.Proofs.Ytnoohgiecnmajaa.VC
open Go Go.RowKit
set_option linter.unusedVariables false
set_option linter.unusedSimpArgs false
section
variable {P : Program} {T : Tab} {ops : Array Oper} {M0 : Region} {base : Bs} {g : Gh} {st : St} {a : Act} {w w' : World} {Q : Exit → Act → World → Prop} {K : St → Prop}
/-- One block is as it was. -/
def Kp (b : Nat) (w w' : World) : Prop := w'.heap[b]? = w.heap[b]?
def wpAnyK (P : Program) (ops : Array Oper) (Q : Exit → Act → World → Prop) (b : Nat) : Nat → Array Bool → Act → World → Prop
  | 0, listed, a, w => Region.ready .any ops listed = [] ∧ Q .normal a w
  | fuel + 1, listed, a, w => (Region.ready .any ops listed = [] → Q .normal a w) ∧
    ∀ i ∈ Region.ready .any ops listed, wpOp P ops Q i (fun a' w' => Kp b w w' ∧ wpAnyK P ops Q b fuel (listed.setIfInBounds i true) a' w') a w
theorem wpAny_of_K {b : Nat} : ∀ (fuel : Nat) (listed : Array Bool) (a : Act) (w : World), wpAnyK P ops Q b fuel listed a w → wpAny P .any ops Q fuel listed a w
  | 0, _, _, _, h => h
  | fuel + 1, _, _, _, h => ⟨h.1, fun i hi => wpOp_mono (fun a' w' h' => wpAny_of_K fuel _ a' w' h'.2) (h.2 i hi)⟩
theorem wpAnyK_done {b : Nat} {listed : Array Bool} (hr : Region.ready .any ops listed = []) (h : Q .normal a w) : ∀ fuel, wpAnyK P ops Q b fuel listed a w
  | 0 => ⟨hr, h⟩
  | _ + 1 => ⟨fun _ => h, by rw [hr]; simp⟩
theorem wpAnyK_first {b i : Nat} {oi : Oper} {v : Value} (hi : ops[i]? = some oi) (hsel : ∀ (j : Nat) (o : Oper) cs b, ops[j]? = some o → o.op ≠ .select cs b)
    (hQ : ∀ c a w, ¬ Q (.panic c) a w) :
    ∀ (fuel : Nat) (listed : Array Bool) (a : Act) (w : World),
      (∀ j oj, ops[j]? = some oj → j ≠ i → listed.getD j true = false → (∀ e ∈ oj.after, Region.binds .any e = true → e.on ≠ i) → oi.apart ops oj = true) →
      i ∈ Region.ready .any ops listed → YieldsIf P ops (Kp b w) oi v a →
      wpAnyK P ops Q b fuel (listed.setIfInBounds i true) (a.put oi.dst v) w → wpAnyK P ops Q b (fuel + 1) listed a w := by
  intro fuel
  induction fuel with
  | zero =>
    intro listed a w _ hr hy H
    refine ⟨fun h => (by rw [h] at hr; cases hr), fun j hj => ?_⟩
    by_cases hji : j = i
    · subst hji; exact hy.wpOp hi rfl ⟨rfl, H⟩
    · have := ready_mono hj hji
      rw [H.1] at this
      cases this
  | succ fuel ih =>
    intro listed a w hfree hr hy H
    refine ⟨fun h => (by rw [h] at hr; cases hr), fun j hj => ?_⟩
    by_cases hji : j = i
    · subst hji; exact hy.wpOp hi rfl ⟨rfl, H⟩
    · have h1 := H.2 j (ready_mono hj hji)
      obtain ⟨hjun, oj, hoj, hall⟩ := mem_ready.1 hj
      have hun := not_ready_listed hr
      have hnot : ∀ e ∈ oj.after, Region.binds .any e = true → e.on ≠ i := fun e he hb heq => by
        have h2 := hall e he hb
        rw [heq, hun] at h2
        cases h2
      have h2 := wpOp_putIf hoj (hfree j oj hoj hji hjun hnot) (fun cs b => hsel i oi cs b hi) (fun cs b => hsel j oj cs b hoj) (fun c a w hh => absurd hh (hQ c _ _)) hy h1
      refine wpOp_mono (fun a' w' h3 => ?_) h2
      have hK := h3.2.1
      refine ⟨hK, ih (listed.setIfInBounds j true) a' w' (fun k ok hk hki hkun hno => hfree k ok hk hki ?_ hno) (ready_mono hr (Ne.symm hji)) ?_ ?_⟩
      · by_cases hjk : j = k
        · subst hjk; exact hjun
        · rw [getD_set_ne true hjk] at hkun; exact hkun
      · rcases h3.1 with ⟨q1, q2⟩ | ⟨q1, q2⟩
        · exact .inl ⟨q1, fun x hx => q2 x (Eq.trans hx hK)⟩
        · exact .inr ⟨q1, q2⟩
      · rw [Array.setIfInBounds_comm _ _ hji]
        exact h3.2.2
/-- A load of a box. -/
theorem load_keep (hT : TabOk P T) (h : Rp M0 base g st a w) {K : FE → List Nat → Prop} {o : Oper} {t : TypeId} {x : Operand} {s off : Nat} (ho : o.op = .load t x) (hv : va T st K o.op) (hx : ev st x = some (.ptr s off)) :
    ∃ fe ks v, K fe ks ∧ FR g (Mset M0 g (st.exposes ks)) w fe v ∧ ∀ w', Kp (g.β s) w w' → (execOp a.eval o).run P w' = .ok (.value v) w' := by
  rw [ho] at hv
  simp only [va] at hv
  obtain ⟨ti, hti, hv⟩ := hv
  have ty := hT _ _ hti
  have run : ∀ (w' : World), (execOp a.eval o).run P w' = ((Instr.loadAt t (a.eval x)).run P w').andThen fun v w'' => .ok (.value v) w'' := by
    intro w'; simp only [execOp, ho, Sem.run_bind, Sem.run_pure]
  rw [hx] at hv
  simp only at hv
  obtain ⟨⟨TT, cs⟩, hb, hl⟩ := hv
  have hp : a.eval x = .pointer (some ⟨g.β s, off, none⟩) := h.ev hx
  obtain ⟨_, vs, hh, hc⟩ := h.box s TT cs hb
  have keep : ∀ {w' : World}, Kp (g.β s) w w' → ∀ {o : Nat} {v : Value}, w.cell? ⟨g.β s, o, none⟩ = some v → w'.cell? ⟨g.β s, o, none⟩ = some v := by
    intro w' hk o v hc
    rw [← hc]; exact World.cell?_of_block hk
  have hcell : ∀ j v, (vs.drop off)[j]? = some v → w.cell? ⟨g.β s, off + j, none⟩ = some v := by
    intro j v hj
    rw [cells_of_row hh]
    rw [List.getElem?_drop] at hj
    simpa using hj
  have hd := FRc.drop hc off
  unfold vload at hl
  split at hl
  · rename_i hr
    obtain ⟨hsz, r, hp2, hK⟩ := hl
    refine ⟨_, _, .agg ((vs.drop off).take ti.size).toArray, hK, ?_, fun w' hw' => ?_⟩
    · simp only [FR, VR]
      exact ⟨_, rfl, h.pfs (FRc.take hd ti.size) hp2⟩
    · have e := load_row (w := w') ty hr (b := g.β s) (o := off) (cs := (vs.drop off).take ti.size) (fun j v hj => by
        rw [List.getElem?_take] at hj
        split at hj
        · exact keep hw' (hcell j v hj)
        · cases hj) (by
        have := FRc.length hd
        simp only at hsz
        rw [List.length_take]; omega)
      rw [run, hp, e]
      rfl
  · rename_i hr
    obtain ⟨fe, hfe, hK⟩ := hl
    obtain ⟨v, hv1, hv2, hv3⟩ := FRc.get hd hfe
    refine ⟨_, _, v, hK, hv2, fun w' hw' => ?_⟩
    rw [run, hp, load_one ty hr (keep hw' (by simpa using hcell 0 v hv1))]
    rfl
/-- A store to a box. -/
theorem store_keep (hT : TabOk P T) (h : Rp M0 base g st a w) {o : Oper} {Kw : Act → World → Prop} {t : TypeId} {addr x : Operand} {s off : Nat} (ho : o.op = .store t addr x) (hv : vb P T st K o.dst o.op) (hs : ev st addr = some (.ptr s off))
    (hK : ∀ st' a' w', K st' → Rp M0 base g st' a' w' → (∀ k, k ≠ g.β s → w'.heap[k]? = w.heap[k]?) → Kw a' w') : o.wp P a w Kw Q := by
  rw [ho] at hv
  simp only [vb] at hv
  obtain ⟨ti, fe, hti, hfit, hx, hv⟩ := hv
  have ty := hT _ _ hti
  have hxr := h.ev hx
  rw [hs] at hv
  simp only at hv
  obtain ⟨⟨TT, cur⟩, cs, hb, hc, hlen, hfit2, hK'⟩ := hv
  have hp : a.eval addr = .pointer (some ⟨g.β s, off, none⟩) := h.ev hs
  obtain ⟨hge, vs, hh, hcur⟩ := h.box s TT cur hb
  rw [splice_eq hlen hfit2] at hK'
  have hcs := fcells_ok h hxr hc
  have hl := FRc.length hcs
  have hl2 := FRc.length hcur
  simp only at hfit2
  have hr := run_storeAt_row (P := P) (w := w) ty hh (off := off) (v := a.eval x) (by simpa [hlen] using hl) (FRc.one hcs) (by simp; omega)
  have hr2 : (execOp a.eval o).run P w = .ok .skip (w.setRow (g.β s) (vs.toArray.toList.take off ++ (a.eval x).cells.toList ++ vs.toArray.toList.drop (off + ti.size)).toArray) := by
    simp only [execOp, ho, Sem.run_bind, hp, hr, Result.andThen_ok, Sem.run_pure]
  refine wp_of_skip hr2 (hK _ _ _ hK' ?_ (fun k hk => setRow_other w _ k _ hk))
  have hb' : Bel base.X base.w (w.setRow (g.β s) (vs.toArray.toList.take off ++ (a.eval x).cells.toList ++ vs.toArray.toList.drop (off + ti.size)).toArray) :=
    h.below.step rfl rfl rfl (by simp [World.setRow]) (fun k hk hm => setRow_other w _ k _ (fun e => hm (by rw [e]; exact hge)))
  refine set_dead (h.setBox hb' hb (setRow_heap w _ _ _ _ _ hh) (fun k hk _ => setRow_other w _ k _ hk) ?_) ?_ _
  · simp only [List.toList_toArray]
    exact FRc.append (FRc.append (FRc.take hcur _) hcs) (FRc.drop hcur _)
  · exact hfit
def ptrTo (st : St) (x : Operand) (s0 : Nat) : Bool := match ev st x with | some (.ptr s _) => natEq s s0 | _ => false
def ptrOff (st : St) (x : Operand) (s0 : Nat) : Bool := match ev st x with | some (.ptr s _) => !natEq s s0 | _ => false
/-- What is asked of an operation: a load is of the box, a store is not. -/
def keepB (st : St) (s0 : Nat) : Op → Bool
  | .load _ x => ptrTo st x s0
  | .store _ x _ => ptrOff st x s0
  | op => pureB op
def xkeep (P : Program) (T : Tab) (all : List Oper) (s0 : Nat) (Q : St → Prop) : List Nat → St → Prop
  | [], st => Q st
  | i :: l, st => match nth i all with
    | some o => match o.guard with
      | none => match keepB st s0 o.op with
        | true => xop P T st o (xkeep P T all s0 Q l)
        | false => False
      | some _ => False
    | none => False
def okK (T : Tab) (ops : Array Oper) : Array Bool → List Nat → Bool
  | listed, [] => (Region.ready .any ops listed).isEmpty
  | listed, i :: l =>
    (match ops[i]? with
     | some o => if isA T o.op then (Region.ready .any ops listed).contains i && Region.free .any ops listed i
        else (match o.op with | .store _ _ _ => true | _ => false) && Region.ready .any ops listed == [i]
     | none => false) && okK T ops (listed.setIfInBounds i true) l
theorem keep_sound (hT : TabOk P T) {Qn : St → Prop} {s0 : Nat} (hQ : ∀ g' st' a' w', Qn st' → Rp M0 base g' st' a' w' → Q .normal a' w') (hnp : ∀ c a w, ¬ Q (.panic c) a w) (hsel : Region.noSelect ops = true) :
    ∀ (l : List Nat) (fuel : Nat) (listed : Array Bool) (st : St) (a : Act) (w : World), l.length ≤ fuel → okK T ops listed l = true → (look s0 st.box).isSome = true →
      xkeep P T ops.toList s0 Qn l st → Rp M0 base g st a w → wpAnyK P ops Q (g.β s0) fuel listed a w := by
  intro l
  induction l with
  | nil =>
    intro fuel listed st a w _ ho hb hv h
    simp only [okK, List.isEmpty_iff] at ho
    exact wpAnyK_done ho (hQ _ _ _ _ hv h) fuel
  | cons i l ih =>
    intro fuel listed st a w hf ho hb hv h
    obtain ⟨fuel, rfl⟩ : ∃ m, fuel = m + 1 := ⟨fuel - 1, by simp at hf; omega⟩
    simp only [List.length_cons] at hf
    simp only [okK, Bool.and_eq_true] at ho
    obtain ⟨ho, hrest⟩ := ho
    simp only [xkeep] at hv
    split at hv
    · rename_i o hi
      rw [nth_eq, Array.getElem?_toList] at hi
      split at hv
      · rename_i hg
        split at hv
        · rename_i hkb
          rw [hi] at ho
          simp only at ho
          have hw : Region.wanted o (yielded ops a.tmps) = true := by simp [Region.wanted, hg]
          have hv := xop_ok hv
          split at ho
          · rename_i hA
            simp only [Bool.and_eq_true] at ho
            obtain ⟨hr, hfree⟩ := ho
            have hr : i ∈ Region.ready .any ops listed := by simpa using hr
            have key : ∃ v st', YieldsIf P ops (Kp (g.β s0) w) o v a ∧ xkeep P T ops.toList s0 Qn l st' ∧ Rp M0 base g st' (a.put o.dst v) w ∧ (look s0 st'.box).isSome = true := by
              rcases hv with ⟨hfit, hv⟩ | hv
              · have fin : ∀ fe ks v, xkeep P T ops.toList s0 Qn l ((st.exposes ks).set o.dst fe) → FR g (Mset M0 g (st.exposes ks)) w fe v → (∀ w', Kp (g.β s0) w w' → (execOp a.eval o).run P w' = .ok (.value v) w') → ∃ v st', YieldsIf P ops (Kp (g.β s0) w) o v a ∧ xkeep P T ops.toList s0 Qn l st' ∧ Rp M0 base g st' (a.put o.dst v) w ∧ (look s0 st'.box).isSome = true := by
                  intro fe ks v hk hfr hrun
                  have hp := (h.exposes ks).set o.dst (by cases hd : o.dst with | none => trivial | some d => rw [hd] at hfit; show d < (St.exposes _ ks).n; rw [exposes_n]; exact hfit) hfr
                  refine ⟨v, _, .inl ⟨hw, hrun⟩, hk, hp, ?_⟩
                  have e1 : ∀ (ks : List Nat) (st : St), (st.exposes ks).box = st.box := by
                    intro ks
                    induction ks with
                    | nil => intro st; rfl
                    | cons k ks ih => intro st; rw [St.exposes, ih]; unfold St.expose; split <;> rfl
                  have e2 : ((st.exposes ks).set o.dst fe).box = (st.exposes ks).box := by cases o.dst <;> rfl
                  rw [e2, e1]; exact hb
                by_cases hload : ∃ t x, o.op = .load t x
                · obtain ⟨t, x, hop⟩ := hload
                  rw [hop] at hkb
                  simp only [keepB, ptrTo] at hkb
                  split at hkb
                  · rename_i s off hx
                    have : s = s0 := by simpa [natEq] using hkb
                    subst this
                    obtain ⟨fe, ks, v, hk, hfr, hrun⟩ := load_keep hT h hop hv hx
                    exact fin fe ks v hk hfr hrun
                  · cases hkb
                · have hpure : pureB o.op = true := by
                    cases hop : o.op
                    case load t x => exact absurd ⟨t, x, hop⟩ hload
                    case store t x y => rw [hop] at hA; exact absurd hA (by simp [isA])
                    all_goals (rw [hop] at hkb; exact hkb)
                  obtain ⟨fe, ks, v, hk, hfr, hrun⟩ := va_sound hT h hv
                  exact fin fe ks v hk hfr (fun w' _ => hrun w' (.inl hpure))
              · exact absurd hv (isA_not_vb hA)
            obtain ⟨v, st', hy, hk, hp, hb'⟩ := key
            exact wpAnyK_first hi (Region.noSelect_spec hsel) hnp fuel listed a w (Region.free_spec hi hfree) hr hy (ih fuel _ _ _ _ (by omega) hrest hb' hk hp)
          · simp only [Bool.and_eq_true, beq_iff_eq] at ho
            obtain ⟨hst, hr⟩ := ho
            refine ⟨fun h0 => (by rw [h0] at hr; cases hr), fun j hj => ?_⟩
            rw [hr] at hj
            obtain rfl : j = i := by simpa using hj
            unfold wpOp
            simp only [hi]
            rw [if_pos hw]
            refine .inl ?_
            cases hop : o.op <;> rw [hop] at hst <;> try (simp at hst)
            rename_i t addr x
            rw [hop] at hkb
            simp only [keepB, ptrOff] at hkb
            split at hkb
            · rename_i s off hx
              have hne : s ≠ s0 := fun e => by rw [e] at hkb; simp [natEq, Nat.beq_refl] at hkb
              rcases hv with ⟨hfit, hv⟩ | hv
              · rw [hop] at hv; simp only [va] at hv
              · have hv2 := hv
                rw [hop] at hv2
                simp only [vb] at hv2
                have hsb : (look s st.box).isSome = true := by
                  obtain ⟨ti, fe, _, _, _, hv2⟩ := hv2
                  rw [hx] at hv2
                  simp only at hv2
                  obtain ⟨b, cs, hb2, _⟩ := hv2
                  rw [hb2]; rfl
                obtain ⟨c1, hc1⟩ := Option.isSome_iff_exists.1 hsb
                obtain ⟨c0, hc0⟩ := Option.isSome_iff_exists.1 hb
                have hβ : g.β s0 ≠ g.β s := h.dbb s0 s c0 c1 hc0 hc1 (Ne.symm hne)
                have hbk : ∀ st', xkeep P T ops.toList s0 Qn l st' → True := fun _ _ => trivial
                -- the box is still there
                have hv3 : vb P T st (fun st' => xkeep P T ops.toList s0 Qn l st' ∧ (look s0 st'.box).isSome = true) o.dst o.op := by
                  rw [hop] at hv ⊢
                  simp only [vb] at hv ⊢
                  obtain ⟨ti, fe, q1, q2, q3, q4⟩ := hv
                  refine ⟨ti, fe, q1, q2, q3, ?_⟩
                  rw [hx] at q4 ⊢
                  simp only at q4 ⊢
                  obtain ⟨b, cs, r1, r2, r3, r4, r5⟩ := q4
                  refine ⟨b, cs, r1, r2, r3, r4, r5, ?_⟩
                  have e2 : ((st.setBox s b.1 (splice b.2 off cs)).set o.dst .dead).box = (st.setBox s b.1 (splice b.2 off cs)).box := by cases o.dst <;> rfl
                  rw [e2]
                  simp only [St.setBox, look_ins]
                  split
                  · rfl
                  · exact hb
                exact store_keep hT h hop hv3 hx (fun st' a' w' hk hp hheap => ⟨hheap _ hβ, ih fuel _ _ _ _ (by omega) hrest hk.2 hk.1 hp⟩)
            · cases hkb
        · exact hv.elim
      · exact hv.elim
    · exact hv.elim
theorem RWP.keep {Q : Ex → St → Prop} {st : St} {id : Nat} (hT : TabOk P T) (hm : P.follows .mixedOrders = true) (s0 : Nat) (l : List Nat) (hok : (Region.noSelect ops && (Nat.ble l.length ops.size && okK T ops (Array.replicate ops.size false) l)) = true) (hb : (look s0 st.box).isSome = true)
    (k : xkeep P T ops.toList s0 (Q .normal) l st) : RWP P T (.region id ops true) Q st := by
  simp only [Bool.and_eq_true] at hok
  obtain ⟨h1, h2, h3⟩ := hok
  refine ⟨fun M0 base a w hr => ?_⟩
  obtain ⟨g, hr⟩ := hr
  exact wp_region_any hm (wpAny_of_K (b := g.β s0) _ _ _ _ (keep_sound hT (fun g' st' a' w' hq hp => ⟨st', hq, g', hp⟩) (fun _ _ _ hh => hh) h1 l ops.size _ st a _ (Nat.le_of_ble_eq_true h2) h3 hb k hr.drew))
end
end Go.Proofs.Ytnoohgiecnmajaa.VC

