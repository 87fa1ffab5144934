/- A part of the ground of the proof. No condition. -/
import Derived.Test.YtnoohgiecnmajaaGE36

/- The engine, part 37: operations that are told by hand, in a region; the table of kinds is looked into. -/
namespace Go.Proofs.Ytnoohgiecnmajaa.VC
open Go Go.RowKit
set_option linter.unusedVariables false
set_option linter.unusedSimpArgs false
/-- What an operation yields, told by hand. -/
structure Hook (P : Program) (st : St) (o : Oper) (fe : FE) : Prop where
  run : ∀ (M0 : Region) (base : Bs) (g : Gh) (a : Act) (w : World), Rp M0 base g st a w → ∃ v, (∀ w', (pureB o.op = true ∨ Hold w w') → (execOp a.eval o).run P w' = .ok (.value v) w') ∧ FR g (Mset M0 g st) w fe v
def hookG (all : List Oper) (st : St) (o : Oper) : Prop :=
  match o.guard with
  | none => True
  | some (j, want) => match (nth j all).bind (·.dst) with
    | some d => look d st.env = some (.pv (.val (.bool want)))
    | none => False
def xhook (P : Program) (all : List Oper) (st : St) (i : Nat) (K : St → Prop) : Prop :=
  match nth i all with
  | some o => hookG all st o ∧ st.fits o.dst ∧ ∃ fe, Hook P st o fe ∧ K (st.set o.dst fe)
  | none => False
section
variable {P : Program} {T : Tab} {ops : Array Oper} {M0 : Region} {base : Bs} {g : Gh} {st : St} {a : Act} {w : World} {K : St → Prop}
theorem xhook_ok (h : Rp M0 base g st a w) {i : Nat} (hk : xhook P ops.toList st i K) : ∃ o fe v, ops[i]? = some o ∧ Region.wanted o (yielded ops a.tmps) = true ∧ (∀ w', (pureB o.op = true ∨ Hold w w') → (execOp a.eval o).run P w' = .ok (.value v) w') ∧ K (st.set o.dst fe) ∧ Rp M0 base g (st.set o.dst fe) (a.put o.dst v) w := by
  unfold xhook at hk
  split at hk
  · rename_i o ho
    rw [nth_eq, Array.getElem?_toList] at ho
    obtain ⟨hg, hfit, fe, hh, hk⟩ := hk
    obtain ⟨v, hrun, hfr⟩ := hh.run M0 base g a w h
    refine ⟨o, fe, v, ho, ?_, hrun, hk, h.set o.dst hfit hfr⟩
    unfold hookG at hg
    split at hg
    · rename_i hn; simp [Region.wanted, hn]
    · rename_i j want hn
      split at hg
      · rename_i d hd
        rw [nth_eq, Array.getElem?_toList] at hd
        obtain ⟨u, hu, hr⟩ := h.env d _ hg
        have hr : u = .bool want := by simpa [FR, VR] using hr
        subst hr
        have : yielded ops a.tmps j = some want := by
          unfold yielded
          rw [hd]
          simp only [Option.bind_some, hu]
        simp [Region.wanted, hn, this]
      · exact hg.elim
  · exact hk.elim
/-- In text order. -/
theorem RWP.hookL {id : Nat} {Q : Ex → St → Prop} {st : St} (hT : TabOk P T) (i : Nat)
    (k : xops P T ops.toList (fun st' => xhook P ops.toList st' i (fun st2 => xhook P ops.toList st2 (i + 1) (fun st3 => xops P T ops.toList (Q .normal) (ops.toList.drop (i + 2)) st3))) (ops.toList.take i) st) : RWP P T (.region id ops false) Q st := by
  refine ⟨fun M0 base a w hr => ?_⟩
  obtain ⟨g, hr⟩ := hr
  apply wp_region_list
  have hsplit : ops.toList = ops.toList.take i ++ ops.toList.drop i := (List.take_append_drop i _).symm
  have hd : ∀ {i : Nat} {o : Oper}, ops[i]? = some o → ops.toList.drop i = o :: ops.toList.drop (i + 1) := by
    intro i o ho
    have ho : ops.toList[i]? = some o := by simpa using ho
    obtain ⟨hi, he⟩ := List.getElem?_eq_some_iff.1 ho
    rw [← he, ← List.drop_eq_getElem_cons hi]
  rw [hsplit]
  refine vops_pre hT (fun g' st' a' w' hq hp => ?_) (ops.toList.take i) st g a w (xops_ok (fun _ q => q) _ _ k) hr
  obtain ⟨o1, f1, v1, ho1, hw1, hrun1, hk1, hp1⟩ := xhook_ok hp hq
  rw [hd ho1]
  unfold wpList
  rw [if_pos hw1]
  refine .inl (wp_of_run (hrun1 w' (.inr (Hold.refl w'))) ?_)
  obtain ⟨o2, f2, v2, ho2, hw2, hrun2, hk2, hp2⟩ := xhook_ok hp1 hk1
  rw [hd ho2]
  unfold wpList
  rw [if_pos hw2]
  refine .inl (wp_of_run (hrun2 w' (.inr (Hold.refl w'))) ?_)
  exact vops_sound hT (fun g' st' a' w' hq hp => ⟨_, hq, _, hp⟩) _ _ _ _ _ (xops_ok (fun _ q => q) _ _ hk2) hp2
def stepOk (T : Tab) (ops : Array Oper) (listed : Array Bool) (i : Nat) : Bool :=
  match ops[i]? with
  | some o => isA T o.op && ((Region.ready .any ops listed).contains i && Region.free .any ops listed i && (pureB o.op || (List.range ops.size).all (fun j => match ops[j]? with | some p => quietB T p.op || listed.getD j true || anc ops ops.size j i | none => true)))
  | none => false
theorem hook_step {Q : Exit → Act → World → Prop} (hnp : ∀ c a w, ¬ Q (.panic c) a w) (hsel : Region.noSelect ops = true) {listed : Array Bool} {i fuel : Nat} (hok : stepOk T ops listed i = true) (hd : Down ops listed)
    (h : Rp M0 base g st a w) (hk : xhook P ops.toList st i K)
    (next : ∀ st' a', K st' → Rp M0 base g st' a' w → Down ops (listed.setIfInBounds i true) → wpAnyS P ops Q (fun j => match ops[j]? with | some p => !quietB T p.op | none => false) fuel (listed.setIfInBounds i true) a' w) :
    wpAnyS P ops Q (fun j => match ops[j]? with | some p => !quietB T p.op | none => false) (fuel + 1) listed a w := by
  obtain ⟨o, fe, v, hi, hw, hrun, hK, hp⟩ := xhook_ok h hk
  unfold stepOk at hok
  rw [hi] at hok
  simp only [Bool.and_eq_true, Bool.or_eq_true] at hok
  obtain ⟨hA, ⟨hr, hfree⟩, hanc⟩ := hok
  have hr : i ∈ Region.ready .any ops listed := by simpa using hr
  have hn := next _ _ hK hp (hd.set hr)
  rcases hanc with hpure | hanc
  · exact wpAnyS_firstP hi (Region.noSelect_spec hsel) hnp fuel listed a w (Region.free_spec hi hfree) hr (.inl ⟨hw, fun x _ => hrun x (.inl hpure)⟩) hn
  · refine wpAnyS_first hi (Region.noSelect_spec hsel) hnp fuel listed a w hd ?_ (Region.free_spec hi hfree) hr (.inl ⟨hw, fun x hx => hrun x (.inr hx)⟩) hn
    intro j hN hun
    cases hj : ops[j]? with
    | none => rw [hj] at hN; cases hN
    | some p =>
      rw [hj] at hN
      have hjlt := (Array.getElem?_eq_some_iff.1 hj).1
      have := List.all_eq_true.1 hanc j (List.mem_range.2 hjlt)
      rw [hj] at this
      simp only [hun, Bool.or_false, Bool.or_eq_true] at this
      rcases this with q | q
      · simp [q] at hN
      · exact ⟨_, q⟩
def okHook (T : Tab) (ops : Array Oper) (l : List Nat) (i1 i2 : Nat) (pl : Plan) : Bool :=
  Region.noSelect ops && (Nat.ble (pl.depth + (l.length + 2)) ops.size && (pickDone T ops (Array.replicate ops.size false) l && (stepOk T ops (listedOf (Array.replicate ops.size false) l) i1 &&
    (stepOk T ops ((listedOf (Array.replicate ops.size false) l).setIfInBounds i1 true) i2 && okPl T ops (((listedOf (Array.replicate ops.size false) l).setIfInBounds i1 true).setIfInBounds i2 true) pl))))
/-- In a region that draws. -/
theorem RWP.hookD {id : Nat} {Q : Ex → St → Prop} {st : St} (hT : TabOk P T) (hm : P.follows .mixedOrders = true) (l : List Nat) (i1 i2 : Nat) (pl : Plan) (hok : okHook T ops l i1 i2 pl = true)
    (k : xpre P T ops.toList (fun st' => xhook P ops.toList st' i1 (fun st2 => xhook P ops.toList st2 i2 (fun st3 => xplan P T ops.toList (Q .normal) pl st3))) l st) : RWP P T (.region id ops true) Q st := by
  simp only [okHook, Bool.and_eq_true] at hok
  obtain ⟨h1, h2, h3, h4, h5, h6⟩ := hok
  have h2 := Nat.le_of_ble_eq_true h2
  refine ⟨fun M0 base a w hr => ?_⟩
  obtain ⟨g, hr⟩ := hr
  have hnp : ∀ c a w, ¬ Lift M0 base Q (.panic c) a w := fun _ _ _ hh => hh
  refine wp_region_any hm (wpAny_of_S (N := fun j => match ops[j]? with | some p => !quietB T p.op | none => false) _ _ _ _ ?_)
  have e : ops.size = (ops.size - (l.length + 2) + 1 + 1) + l.length := by omega
  rw [show wpAnyS P ops (Lift M0 base Q) (fun j => match ops[j]? with | some p => !quietB T p.op | none => false) ops.size = wpAnyS P ops (Lift M0 base Q) (fun j => match ops[j]? with | some p => !quietB T p.op | none => false) ((ops.size - (l.length + 2) + 1 + 1) + l.length) from congrArg _ e]
  refine pre_sound hT hnp h1 l _ _ st g a _ h3 ?_ (xpre_ok (fun _ q => q) _ _ k) hr.drew ?_
  · intro k hk
    exfalso
    simp only [Array.getD_eq_getD_getElem?, Array.getElem?_replicate] at hk
    split at hk <;> simp at hk
  · intro g' st' a' w' hq hp hd
    refine hook_step hnp h1 h4 hd hp hq (fun st2 a2 hq2 hp2 hd2 => ?_)
    refine hook_step hnp h1 h5 hd2 hp2 hq2 (fun st3 a3 hq3 hp3 hd3 => ?_)
    exact plan_sound hT (fun g3 st3 a3 w3 hq3 hp3 => ⟨st3, hq3, g3, hp3⟩) hnp h1 pl _ _ _ _ _ _ (by omega) h6 hd3 (xplan_ok (fun _ q => q) _ _ hq3) hp3
end
/-! ### The table of kinds -/
def kindsF : List FE := kindsL.map fun n => .pv (.val (.int .i64 n))
theorem FRc_kinds {g : Gh} {M : Region} {w : World} : ∀ l : List Int, FRc g M w (l.map fun n => .pv (.val (.int .i64 n))) (l.map (Value.int .i64))
  | [] => rfl
  | n :: l => ⟨_, _, rfl, by simp [FR, VR], rfl, FRc_kinds l⟩
theorem size3 (w : World) : (sizeOf 3).run Try.prog w = .ok 1 w := by
  have h : (Try.prog.info? 3).map (·.size) = some 1 := by kernel_rfl
  obtain ⟨i, h1, h2⟩ := Option.map_eq_some_iff.1 h
  simp [sizeOf, typeInfo, h1, h2]
theorem hook_idx {st : St} {o : Oper} {x i : Operand} {s : Nat} {n : Int} (ho : o.op = .indexAddr 92 x i) (hx : ev st x = some (.ptr s 0)) (hi : val1 st i = some (.int .i64 n)) (h0 : 0 ≤ n ∧ n < 16) : Hook Try.prog st o (.ptr s n.toNat) := by
  refine ⟨fun M0 base g a w h => ⟨.pointer (some ⟨g.β s, n.toNat, none⟩), fun w' _ => ?_, rfl⟩⟩
  have hp : a.eval x = .pointer (some ⟨g.β s, 0, none⟩) := h.ev hx
  have hv := h.val1 hi
  have hu := Try.underlying92
  have e : (Instr.indexAt 92 (.pointer (some ⟨g.β s, 0, none⟩)) (.int .i64 n)).run Try.prog w' = .ok (.pointer (some ⟨g.β s, n.toNat, none⟩)) w' := by
    simp [Instr.indexAt, run_underlying hu, Instr.sureAddr, asIntOf, h0.1, h0.2, size3, Addr.add_mid]
  simp only [execOp, ho, hp, hv, Sem.run_bind, Sem.run_pure, e, Result.andThen_ok]
theorem hook_kind {st : St} {o : Oper} {x : Operand} {s : Nat} {n : Int} (ho : o.op = .load 3 x) (hx : ev st x = some (.ptr s n.toNat)) (hb : look s st.box = some (92, kindsF)) (h0 : 0 ≤ n ∧ n < 16) : Hook Try.prog st o (.pv (.val (.int .i64 (kindsL.getD n.toNat 0)))) := by
  refine ⟨fun M0 base g a w h => ⟨.int .i64 (kindsL.getD n.toNat 0), fun w' hw' => ?_, by simp [FR, VR]⟩⟩
  have hold : Hold w w' := hw'.resolve_left (by rw [ho]; simp [pureB])
  have hp : a.eval x = .pointer (some ⟨g.β s, n.toNat, none⟩) := h.ev hx
  obtain ⟨_, vs, hh, hc⟩ := h.box s _ _ hb
  have hlt : n.toNat < kindsF.length := by show n.toNat < 16; omega
  have hfe : kindsF[n.toNat]? = some (.pv (.val (.int .i64 (kindsL.getD n.toNat 0)))) := by
    have hlt2 : n.toNat < kindsL.length := hlt
    unfold kindsF
    rw [List.getElem?_map, List.getD_eq_getElem?_getD, List.getElem?_eq_getElem hlt2]
    rfl
  obtain ⟨v, hv1, hv2, hv3⟩ := FRc.get hc hfe
  have hv2 : v = .int .i64 (kindsL.getD n.toNat 0) := by simpa [FR, VR] using hv2
  subst hv2
  have hcell : w.cell? ⟨g.β s, n.toNat, none⟩ = some (.int .i64 (kindsL.getD n.toNat 0)) := by rw [cells_of_row hh]; simpa using hv1
  have e := load_one (P := Try.prog) (w := w') ok3 rfl (hold.cell hcell)
  simp only [execOp, ho, hp, Sem.run_bind, Sem.run_pure, e, Result.andThen_ok]
/-- The table is made. -/
def St.kinds (st : St) (d1 d2 : Nat) : St := ((st.put d1 .dead).newBox d2 92 kindsF)
theorem RWP.kinds {id : Nat} {ops : Array Oper} {Q : Ex → St → Prop} {st : St} {o1 o2 o3 : Oper} {c : Call} {d1 d2 : Nat} (ho : ops.toList = [o1, o2, o3])
    (h1 : o1.op = .call c ∧ o1.dst = some d1 ∧ o1.guard = none) (hc : c.callee = .value (.func 54) ∧ c.args = #[]) (h2 : o2.op = .alloc 92 ∧ o2.dst = some d2 ∧ o2.guard = none) (h3 : o3.op = .store 92 (.tmp d2) (.tmp d1) ∧ o3.dst = none ∧ o3.guard = none)
    (hd : (Nat.blt d1 st.n && (Nat.blt d2 st.n && !Nat.beq d1 d2)) = true) (k : Q .normal (st.kinds d1 d2)) : RWP Try.prog tab (.region id ops false) Q st := by
  simp only [Bool.and_eq_true] at hd
  have hd1 : d1 < st.n := Nat.le_of_ble_eq_true hd.1
  have hd2 : d2 < st.n := Nat.le_of_ble_eq_true hd.2.1
  have hne : d1 ≠ d2 := fun e => by have := hd.2.2; rw [e, Nat.beq_refl] at this; cases this
  refine ⟨fun M0 base a w hr => ?_⟩
  obtain ⟨g, hr⟩ := hr
  apply wp_region_list
  rw [ho]
  have wt : ∀ (o : Oper) a', o.guard = none → Region.wanted o (yielded ops a') = true := fun o a' h => by simp [Region.wanted, h]
  unfold wpList
  rw [if_pos (wt _ _ h1.2.2)]
  refine .inl ?_
  unfold Oper.wp
  rw [run_enter h1.1 hc.1 ⟨_, Try.func54, rfl, rfl⟩]
  simp only [Oper.upon_enter]
  have hargs : c.args.map a.eval = #[] := by rw [hc.2]; simp
  rw [hargs]
  have hcall := calls54 w
  have S := @store92
  generalize hkv : kindsV = kv at *
  have hkl : kv = kindsL.map (Value.int .i64) := hkv.symm
  refine hcall.mono ?_
  rintro e w1 ⟨rfl, hb⟩
  simp only
  have hold : Hold w w1 := fun k hk => hb.block k hk
  have hp1 := (Rp.world hr (hr.below.below hb) hold).set o1.dst (by rw [h1.2.1]; exact hd1) (fe := .dead) (v := .agg kv.toArray) trivial
  rw [h1.2.1] at hp1 ⊢
  have hsz : (a.put (some d1) (.agg kv.toArray)).tmps.size = st.n := hp1.size
  have v1 : (a.put (some d1) (.agg kv.toArray)).tmps[d1]? = some (.agg kv.toArray) := by
    have : d1 < a.tmps.size := by have := hr.size; omega
    simp [Act.put, this]
  generalize a.put (some d1) (.agg kv.toArray) = a1 at *
  unfold wpList
  rw [if_pos (wt _ _ h2.2.2)]
  refine .inl ?_
  refine wp_of_run (v := .pointer (some ⟨w1.heap.size, 0, none⟩)) (w' := w1.alloc (.cells zeros16.toArray 92)) (by simp [execOp, h2.1, alloc92]) ?_
  rw [h2.2.1]
  have hnew := heap_alloc_new w1 (.cells zeros16.toArray 92)
  have hold1 : Hold w1 (w1.alloc (.cells zeros16.toArray 92)) := Hold.alloc w1 _
  have hbel := hp1.below.alloc (.cells zeros16.toArray 92)
  generalize w1.alloc (.cells zeros16.toArray 92) = w2 at *
  unfold wpList
  rw [if_pos (wt _ _ h3.2.2)]
  refine .inl ?_
  have e0 : (a1.put (some d2) (.pointer (some ⟨w1.heap.size, 0, none⟩))).eval (.tmp d2) = .pointer (some ⟨w1.heap.size, 0, none⟩) := by
    have : d2 < a1.tmps.size := by rw [hsz]; exact hd2
    simp [Act.put, Act.eval, this]
  have e1 : (a1.put (some d2) (.pointer (some ⟨w1.heap.size, 0, none⟩))).eval (.tmp d1) = .agg kv.toArray := by
    simp only [Act.put, Act.eval]
    rw [Array.getD_eq_getD_getElem?, Array.getElem?_setIfInBounds, if_neg (by omega), v1]
    rfl
  have hrow := setRow_heap w2 w1.heap.size _ kv.toArray _ _ hnew
  refine wp_of_skip (w' := w2.setRow w1.heap.size kv.toArray) (by
    have := S (w := w2) (b := w1.heap.size) (cur := zeros16) hnew rfl
    simp only [execOp, h3.1, e0, e1, Sem.run_bind, this, Result.andThen_ok, Sem.run_pure]) ?_
  rw [h3.2.1]
  have hold2 : Hold w1 (w2.setRow w1.heap.size kv.toArray) := fun k hk => (setRow_other w2 _ k _ (by omega)).trans (hold1 k hk)
  have hbel2 : Bel base.X base.w (w2.setRow w1.heap.size kv.toArray) := hbel.step rfl rfl rfl (by simp [World.setRow]) (fun k hk hm => setRow_other w2 _ k _ (fun e => hm (by rw [e]; exact .inl hp1.below.size)))
  have hp2 := Rp.newBox (d := d2) hp1 hbel2 hold2 hrow (cs := kindsF) (by rw [hkl]; exact FRc_kinds kindsL) hd2
  unfold wpList
  exact ⟨_, k, _, hp2⟩
end Go.Proofs.Ytnoohgiecnmajaa.VC

