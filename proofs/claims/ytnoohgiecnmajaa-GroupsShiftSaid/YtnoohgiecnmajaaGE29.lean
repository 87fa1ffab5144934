/- A part of the ground of the proof. No condition. -/
import Derived.Laws.Cover3
import Derived.Test.YtnoohgiecnmajaaGE28

/- The engine, part 29: a slice is asked to be nil, in a region. -/
namespace Go.Proofs.Ytnoohgiecnmajaa.VC
open Go Go.RowKit
set_option linter.unusedVariables false
set_option linter.unusedSimpArgs false
section
variable {P : Program} {T : Tab} {M0 : Region} {base : Bs} {Q : Exit → Act → World → Prop}
theorem vops_pre (hT : TabOk P T) {all : Array Oper} {rest : List Oper} {Qn : St → Prop} (hQ : ∀ g' st' a' w', Qn st' → Rp M0 base g' st' a' w' → wpList P all Q rest a' w') :
    ∀ (l : List Oper) (st : St) (g : Gh) (a : Act) (w : World), vops P T all Qn l st → Rp M0 base g st a w → wpList P all Q (l ++ rest) a w := by
  intro l
  induction l with
  | nil => intro st g a w hv h; exact hQ _ _ _ _ hv h
  | cons o l ih =>
    intro st g a w hv h
    rw [List.cons_append]
    unfold wpList
    obtain ⟨st1, h, ⟨hw, hv⟩ | ⟨hw, hv⟩⟩ := vguard_cases h hv
    · rw [if_pos hw]
      exact .inl (vop_sound hT h hv fun g' st' a' w' hk hp _ => ih st' g' a' w' hk hp)
    · rw [if_neg (by rw [hw]; simp)]
      obtain ⟨st', hk, hp⟩ := vskip_sound h hv
      exact ih st' g _ w hk hp
/-- Is a slice nil? -/
def nilB (st : St) (x : Operand) : Option Bool :=
  match ev st x with
  | some (.pv (.val (.slice none 0 0))) => some true
  | some (.own k) => match look k st.own with
    | some o => match o.xs with
      | [] => none
      | _ :: _ => some false
    | none => none
  | _ => none
def xnil (d : Nat) (x : Operand) (dst : Nat) (st : St) (K : St → Prop) : Prop :=
  match look d st.env with
  | some (.pv (.val (.bool true))) => match nilB st x with
    | some r => K (st.put dst (.pv (.val (.bool r))))
    | none => False
  | some (.pv (.val (.bool false))) => K (st.put dst (.pv (.val undef)))
  | _ => False
theorem nilB_ok {g : Gh} {st : St} {a : Act} {w : World} {x : Operand} {r : Bool} (h : Rp M0 base g st a w) (hx : nilB st x = some r) : ∃ A l c, a.eval x = .slice A l c ∧ A.isNone = r := by
  unfold nilB at hx
  split at hx
  · rename_i he
    cases hx
    have := h.evv he
    exact ⟨none, 0, 0, this, rfl⟩
  · rename_i k he
    split at hx
    · rename_i o ho
      split at hx
      · cases hx
      · rename_i y ys hxs
        cases hx
        have hv : a.eval x = g.ν k := h.ev he
        have hp := h.own_pure ho
        simp only [VR] at hp
        obtain ⟨A, cap, hA, _, hrows⟩ := hp
        rw [hxs] at hrows
        rcases hrows with hrows | ⟨b, off, hb, _⟩
        · cases hrows
        · exact ⟨A, _, cap, hv.trans hA, by rw [hb]; rfl⟩
    · cases hx
  · cases hx
theorem RWP.nilEq {id : Nat} {ops : Array Oper} {Q : Ex → St → Prop} {st : St} {o : Oper} {x : Operand} {t yt e : TypeId} {d dst j : Nat} (hT : TabOk P T) (i : Nat)
    (ho : ops.toList[i]? = some o) (h1 : o.op = .binOp .eql t x (.const (.slice none 0 0)) yt ∧ o.dst = some dst ∧ o.guard = some (j, true)) (hj : (ops[j]?).bind (·.dst) = some d) (hu : P.underlying t = some (.slice e))
    (k : xops P T ops.toList (fun st' => Nat.blt dst st'.n = true ∧ xnil d x dst st' (fun st'' => xops P T ops.toList (Q .normal) (ops.toList.drop (i + 1)) st'')) (ops.toList.take i) st) : RWP P T (.region id ops false) Q st := by
  refine ⟨fun M0 base a w hr => ?_⟩
  obtain ⟨g, hr⟩ := hr
  apply wp_region_list
  have hsplit : ops.toList = ops.toList.take i ++ o :: ops.toList.drop (i + 1) := by
    obtain ⟨hi, he⟩ := List.getElem?_eq_some_iff.1 ho
    rw [← he, ← List.drop_eq_getElem_cons hi, List.take_append_drop]
  generalize ops.toList.take i = l1 at *
  generalize ops.toList.drop (i + 1) = l2 at *
  rw [hsplit]
  refine vops_pre hT (fun g' st' a' w' hq hp => ?_) l1 st g a w (xops_ok (fun _ q => q) _ _ k) hr
  obtain ⟨hd, hq⟩ := hq
  have hd : dst < st'.n := Nat.le_of_ble_eq_true hd
  unfold xnil at hq
  have fin : ∀ g'' st'' a'' w'', xops P T ops.toList (Q .normal) l2 st'' → Rp M0 base g'' st'' a'' w'' → wpList P ops (Lift M0 base Q) l2 a'' w'' := fun g'' st'' a'' w'' hk hp =>
    vops_sound hT (fun g' st' a' w' hq hp => ⟨_, hq, _, hp⟩) _ _ _ _ _ (xops_ok (fun _ q => q) _ _ hk) hp
  have hy : ∀ b, look d st'.env = some (.pv (.val (.bool b))) → yielded ops a'.tmps j = some b := by
    intro b hl
    obtain ⟨u, hu', hr'⟩ := hp.env d _ hl
    have hr' : u = .bool b := by simpa [FR, VR] using hr'
    subst hr'
    unfold yielded
    rw [hj]
    simp only [Option.bind_some, hu']
  unfold wpList
  split at hq
  · rename_i hl
    have hyy := hy true hl
    rw [if_pos (by simp [Region.wanted, h1.2.2, hyy])]
    split at hq
    · rename_i r hn
      obtain ⟨A, l, c, hev, hA⟩ := nilB_ok hp hn
      refine .inl ?_
      have hrun : (execOp a'.eval o).run P w' = .ok (.value (.bool r)) w' := by
        have he := run_equal_slice_nil (P := P) w' t e A l c hu
        rw [hA] at he
        have hc : a'.eval (.const (.slice none 0 0)) = .slice none 0 0 := rfl
        simp [execOp, h1.1, hev, hc, Go.binOp, eqGuard, he]
      refine wp_of_run hrun ?_
      rw [h1.2.1]
      exact fin _ _ _ _ hq (Rp.set hp (some dst) (show dst < st'.n from hd) (fe := .pv (.val (.bool r))) (v := .bool r) (by simp [FR, VR]))
    · exact hq.elim
  · rename_i hl
    have hyy := hy false hl
    rw [if_neg (by simp [Region.wanted, h1.2.2, hyy]), h1.2.1]
    exact fin _ _ _ _ hq (Rp.set hp (some dst) (show dst < st'.n from hd) (fe := .pv (.val undef)) (v := undef) (by simp [FR, VR]))
  · exact hq.elim
end
end Go.Proofs.Ytnoohgiecnmajaa.VC

