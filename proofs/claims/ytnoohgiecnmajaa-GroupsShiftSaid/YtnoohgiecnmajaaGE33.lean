/- A part of the ground of the proof. No condition. -/
import Derived.Test.YtnoohgiecnmajaaGE32

/- The engine, part 33: in the midst of a region that draws; a function in a temporary is called. -/
namespace Go.Proofs.Ytnoohgiecnmajaa.VC
open Go Go.RowKit
set_option linter.unusedVariables false
set_option linter.unusedSimpArgs false
section
variable {P : Program} {T : Tab} {ops : Array Oper}
theorem pre_sound {M0 : Region} {base : Bs} {Q : Exit → Act → World → Prop} {Qn : St → Prop} (hT : TabOk P T) (hnp : ∀ c a w, ¬ Q (.panic c) a w) (hsel : Region.noSelect ops = true) :
    ∀ (l : List Nat) (fuel : Nat) (listed : Array Bool) (st : St) (g : Gh) (a : Act) (w : World), pickDone T ops listed l = true → Down ops listed →
      vpre P T ops Qn l st → Rp M0 base g st a w → (∀ g' st' a' w', Qn st' → Rp M0 base g' st' a' w' → Down ops (listedOf listed l) → wpAnyS P ops Q (fun j => match ops[j]? with | some p => !quietB T p.op | none => false) fuel (listedOf listed l) a' w') →
      wpAnyS P ops Q (fun j => match ops[j]? with | some p => !quietB T p.op | none => false) (fuel + l.length) listed a w := by
  intro l
  induction l with
  | nil => intro fuel listed st g a w _ hd hv h hQ; exact hQ _ _ _ _ hv h hd
  | cons i l ih =>
    intro fuel listed st g a w ho hd hv h hQ
    simp only [pickDone, Bool.and_eq_true] at ho
    obtain ⟨ho, hrest⟩ := ho
    obtain ⟨o, hi, hv⟩ := hv
    rw [hi] at ho
    simp only [Bool.and_eq_true, Bool.or_eq_true] at ho
    obtain ⟨hA, ⟨hr, hfree⟩, hanc⟩ := ho
    have hr : i ∈ Region.ready .any ops listed := by simpa using hr
    have key : ∃ v, YieldsIf P ops (fun w' => pureB o.op = true ∨ Hold w w') o v a ∧ wpAnyS P ops Q (fun j => match ops[j]? with | some p => !quietB T p.op | none => false) (fuel + l.length) (listed.setIfInBounds i true) (a.put o.dst v) w := by
      obtain ⟨st1, h, ⟨hw, hv⟩ | ⟨hw, hv⟩⟩ := vguard_cases h hv
      · rcases hv with ⟨hfit, hv⟩ | hv
        · obtain ⟨fe, ks, v, hk, hfr, hrun⟩ := va_sound hT h hv
          have hp := (h.exposes ks).set o.dst (by cases hd : o.dst with | none => trivial | some d => rw [hd] at hfit; show d < (St.exposes _ ks).n; rw [exposes_n]; exact hfit) hfr
          exact ⟨v, .inl ⟨hw, hrun⟩, ih fuel _ _ _ _ _ hrest (hd.set hr) hk hp hQ⟩
        · exact absurd hv (isA_not_vb hA)
      · obtain ⟨st', hk, hp⟩ := vskip_sound h hv
        exact ⟨undef, .inr ⟨hw, rfl⟩, ih fuel _ _ _ _ _ hrest (hd.set hr) hk hp hQ⟩
    obtain ⟨v, hy, hn⟩ := key
    rw [List.length_cons, ← Nat.add_assoc]
    rcases hanc with hpure | hanc
    · have hy' : YieldsIf P ops (fun _ => True) o v a := by
        rcases hy with ⟨q1, q2⟩ | ⟨q1, q2⟩
        · exact .inl ⟨q1, fun x _ => q2 x (.inl hpure)⟩
        · exact .inr ⟨q1, q2⟩
      exact wpAnyS_firstP hi (Region.noSelect_spec hsel) hnp (fuel + l.length) listed a w (Region.free_spec hi hfree) hr hy' hn
    · have hy' : YieldsIf P ops (Hold w) o v a := by
        rcases hy with ⟨q1, q2⟩ | ⟨q1, q2⟩
        · exact .inl ⟨q1, fun x hx => q2 x (.inr hx)⟩
        · exact .inr ⟨q1, q2⟩
      refine wpAnyS_first hi (Region.noSelect_spec hsel) hnp (fuel + l.length) listed a w hd ?_ (Region.free_spec hi hfree) hr hy' hn
      intro j hN hun
      cases hj : ops[j]? with
      | none => rw [hj] at hN; cases hN
      | some p =>
        rw [hj] at hN
        have hjlt := (Array.getElem?_eq_some_iff.1 hj).1
        have := List.all_eq_true.1 hanc j (List.mem_range.2 hjlt)
        rw [hj] at this
        simp only [hun, Bool.or_false, Bool.or_eq_true] at this
        rcases this with q | q
        · simp [q] at hN
        · exact ⟨_, q⟩
def okMid (T : Tab) (ops : Array Oper) (l : List Nat) (pl : Plan) : Bool :=
  Region.noSelect ops && (Nat.ble (pl.depth + l.length) ops.size && (pickDone T ops (Array.replicate ops.size false) l && okPl T ops (listedOf (Array.replicate ops.size false) l) pl))
theorem RWL.midD {Q : QL} {bt : Nat} {hs : List (Nat × St)} {st : St} {id : Nat} (hT : TabOk P T) (hm : P.follows .mixedOrders = true) (l : List Nat) (pl : Plan) (hok : okMid T ops l pl = true)
    (k : xpre P T ops.toList (fun st' => Cv bt hs st' (fun bt' hs' st'' => xplan P T ops.toList (fun st3 => Q .normal bt' hs' st3) pl st'')) l st) : RWL P T (.region id ops true) Q bt hs st := by
  simp only [okMid, Bool.and_eq_true] at hok
  obtain ⟨h1, h2, h3, h4⟩ := hok
  have h2 := Nat.le_of_ble_eq_true h2
  refine ⟨fun M0 base a w hr => ?_⟩
  obtain ⟨M1, base1, hc, hb, g, hr⟩ := hr
  have hnp : ∀ c a w, ¬ LiftL M0 base Q (.panic c) a w := fun _ _ _ hh => hh
  refine wp_region_any hm (wpAny_of_S (N := fun j => match ops[j]? with | some p => !quietB T p.op | none => false) _ _ _ _ ?_)
  have e : ops.size = (ops.size - l.length) + l.length := by omega
  rw [show wpAnyS P ops (LiftL M0 base Q) (fun j => match ops[j]? with | some p => !quietB T p.op | none => false) ops.size = wpAnyS P ops (LiftL M0 base Q) (fun j => match ops[j]? with | some p => !quietB T p.op | none => false) ((ops.size - l.length) + l.length) from congrArg _ e]
  refine pre_sound hT hnp h1 l _ _ st g a _ h3 ?_ (xpre_ok (fun _ q => q) _ _ k) hr.drew ?_
  · intro k hk
    exfalso
    simp only [Array.getD_eq_getD_getElem?, Array.getElem?_replicate] at hk
    split at hk <;> simp at hk
  · intro g' st' a' w' hq hp hd
    obtain ⟨bt', hs', st'', ⟨M2, base2, hc2, hb2, g2, hp2⟩, hx⟩ := hq.run M0 base a' w' ⟨M1, base1, hc, hb, g', hp⟩
    exact plan_sound hT (fun g3 st3 a3 w3 hq3 hp3 => ⟨bt', hs', st3, hq3, M2, base2, hc2, hb2, g3, hp3⟩) hnp h1 pl _ _ _ _ _ _ (by omega) h4 hd (xplan_ok (fun _ q => q) _ _ hx) hp2
/-- A function is put into a temporary. -/
theorem RWP.assignF {id : Nat} {Q : Ex → St → Prop} {st : St} {o : Oper} {d f : Nat} (ho : ops.toList = [o]) (h1 : o.op = .assign (.func f) ∧ o.dst = some d ∧ o.guard = none) (hd : Nat.blt d st.n = true)
    (k : Q .normal (st.put d (.pv (.val (.func (.func f) #[] #[]))))) : RWP P T (.region id ops false) Q st := by
  have hd : d < st.n := Nat.le_of_ble_eq_true hd
  refine ⟨fun M0 base a w hr => ?_⟩
  obtain ⟨g, hr⟩ := hr
  apply wp_region_list
  rw [ho]
  unfold wpList
  rw [if_pos (by simp [Region.wanted, h1.2.2])]
  refine .inl ?_
  refine wp_of_run (v := .func (.func f) #[] #[]) (w' := w) (by simp [execOp, h1.1, Act.eval]) ?_
  rw [h1.2.1]
  unfold wpList
  exact ⟨_, k, g, Rp.set hr (some d) (show d < st.n from hd) (by simp [FR, VR])⟩
/-- A function in a temporary is called. -/
theorem RWP.callT {id : Nat} {Q : Ex → St → Prop} {st : St} {o : Oper} {c : Call} {t f : Nat} (hT : TabOk P T) (i : Nat)
    (ho : ops.toList[i]? = some o) (h1 : o.op = .call c ∧ c.callee = .value (.tmp t) ∧ o.guard = none)
    (k : xops P T ops.toList (fun st' => look t st'.env = some (.pv (.val (.func (.func f) #[] #[]))) ∧ xop P T st' { o with op := .call { c with callee := .value (.func f) } } (fun st'' => xops P T ops.toList (Q .normal) (ops.toList.drop (i + 1)) st'')) (ops.toList.take i) st) : RWP P T (.region id ops false) Q st := by
  refine ⟨fun M0 base a w hr => ?_⟩
  obtain ⟨g, hr⟩ := hr
  apply wp_region_list
  have hsplit : ops.toList = ops.toList.take i ++ o :: ops.toList.drop (i + 1) := by
    obtain ⟨hi, he⟩ := List.getElem?_eq_some_iff.1 ho
    rw [← he, ← List.drop_eq_getElem_cons hi, List.take_append_drop]
  generalize ops.toList.take i = l1 at *
  generalize ops.toList.drop (i + 1) = l2 at *
  rw [hsplit]
  refine vops_pre hT (fun g' st' a' w' hq hp => ?_) l1 st g a w (xops_ok (fun _ q => q) _ _ k) hr
  obtain ⟨hl, hq⟩ := hq
  obtain ⟨u, hu, hr'⟩ := hp.env t _ hl
  have hr' : u = .func (.func f) #[] #[] := by simpa [FR, VR] using hr'
  subst hr'
  have hev : a'.eval (.tmp t) = a'.eval (.func f) := by
    have hlt := (Array.getElem?_eq_some_iff.1 hu).1
    simp only [Act.eval]
    rw [Array.getD_eq_getD_getElem?, hu]
    rfl
  unfold wpList
  rw [if_pos (by simp [Region.wanted, h1.2.2])]
  refine .inl ?_
  have fin : ∀ g'' st'' a'' w'', xops P T ops.toList (Q .normal) l2 st'' → Rp M0 base g'' st'' a'' w'' → wpList P ops (Lift M0 base Q) l2 a'' w'' := fun g'' st'' a'' w'' hk hp =>
    vops_sound hT (fun g' st' a' w' hq hp => ⟨_, hq, _, hp⟩) _ _ _ _ _ (xops_ok (fun _ q => q) _ _ hk) hp
  have hw := vop_sound (Kw := wpList P ops (Lift M0 base Q) l2) (Q := Lift M0 base Q) hT hp (xop_ok hq) (fun g'' st'' a'' w'' hk hp' _ => fin _ _ _ _ hk hp')
  have he : execOp a'.eval o = execOp a'.eval { o with op := .call { c with callee := .value (.func f) } } := by
    simp only [execOp, h1.1, resolve, h1.2.1, hev]
  unfold Oper.wp at hw ⊢
  rw [he]
  exact hw
end
end Go.Proofs.Ytnoohgiecnmajaa.VC

