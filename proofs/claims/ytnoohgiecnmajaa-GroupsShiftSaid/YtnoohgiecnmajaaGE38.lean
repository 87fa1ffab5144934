/- A part of the ground of the proof. No condition. -/
import Derived.Test.YtnoohgiecnmajaaGE37

/- The engine, part 38: an own slice is cut shorter. -/
namespace Go.Proofs.Ytnoohgiecnmajaa.VC
open Go Go.RowKit
set_option linter.unusedVariables false
set_option linter.unusedSimpArgs false
section
variable {P : Program} {T : Tab} {ops : Array Oper} {M0 : Region} {base : Bs} {g : Gh} {st : St} {a : Act} {w : World}
def St.cutOwn (st : St) (k d : Nat) (o : Own) (n : Nat) : St := (st.noOwn k).newOwn d ⟨o.sz, o.e, true, o.xs.take n⟩
theorem Rp.cutOwn (h : Rp M0 base g st a w) {k d : Nat} {o : Own} (ho : look k st.own = some o) (hv : o.virgin = true) (hd : d < st.n) {n : Nat} (h0 : 0 < n) (hn : n ≤ o.xs.length) :
    ∃ gg cap, g.ν k = .slice (some ⟨gg, 0, none⟩) o.xs.length cap ∧ o.xs.length ≤ cap ∧ ∃ g', Rp M0 base g' (st.cutOwn k d o n) (a.put (some d) (.slice (some ⟨gg, 0, none⟩) n cap)) w := by
  obtain ⟨vals, hrow, hvals, hlp⟩ := h.own k o ho
  rcases hrow.2 with ⟨e1, e2⟩ | ⟨gg, cap, cur, e1, e2, e3, e4, e5, e6, e7⟩
  · omega
  refine ⟨gg, cap, e1, e4, ?_⟩
  have hb : (g.ν k).ownBlock = some gg := by rw [e1]; rfl
  have hM : ∀ off, Mset M0 g st gg off := fun off => .inr (.inr ⟨k, o, ho, hb, .inl hv⟩)
  have h1 := RpM.noOwn h k nilV
  obtain ⟨g1, hg1⟩ : ∃ g1 : Gh, g1 = { g with ν := fun i => if i = k then nilV else g.ν i } := ⟨_, rfl⟩
  rw [← hg1] at h1
  have β1 : g1.β = g.β := by rw [hg1]
  have μ1 : g1.μ = g.μ := by rw [hg1]
  have ν1 : ∀ i, i ≠ k → g1.ν i = g.ν i := fun i hi => by rw [hg1]; show (if i = k then nilV else g.ν i) = g.ν i; rw [if_neg hi]
  have hfl : o.xs.flatten.length = o.xs.length * o.sz := flatten_len hlp
  have hsplit : (o.xs.take n).flatten = o.xs.flatten.take (n * o.sz) := by
    have h1 : o.xs.flatten = (o.xs.take n).flatten ++ (o.xs.drop n).flatten := by rw [← List.flatten_append, List.take_append_drop]
    have h2 : (o.xs.take n).flatten.length = n * o.sz := by
      rw [flatten_len (fun x hx => hlp x (List.mem_of_mem_take hx)), List.length_take, Nat.min_eq_left hn]
    rw [h1, List.take_left' h2]
  have hmul : n * o.sz ≤ o.xs.length * o.sz := Nat.mul_le_mul_right _ hn
  have hvl : vals.length = o.xs.length * o.sz := hrow.1
  have hlt : (o.xs.take n).length = n := by rw [List.length_take, Nat.min_eq_left hn]
  exact ⟨_, RpM.newOwn (M := Mset M0 g st) h1 (fun b off hh => by
      rcases hh with hh | ⟨s, c, q1, q2⟩ | ⟨i, p, q1, q2, q3⟩
      · exact .inl hh
      · obtain ⟨c', hc'⟩ := look_noOwn_box q1
        exact .inr (.inl ⟨s, c', hc', by rw [← β1]; exact q2⟩)
      · obtain ⟨p1, p2⟩ := look_noOwn_own q1
        rw [ν1 i p1] at q2
        exact .inr (.inr ⟨i, p, p2, q2, q3⟩)) h.below (d := d) hd (o := ⟨o.sz, o.e, true, o.xs.take n⟩) (v := .slice (some ⟨gg, 0, none⟩) n cap)
    (fun b off u hu _ => hu) (fun b off u hu hn hbk => by
      exfalso
      have : gg = b := by simpa [Value.ownBlock] using hbk
      exact hn (by rw [← this]; exact hM off))
    (fun s c hs => ⟨rfl, by
      obtain ⟨c', hc'⟩ := look_noOwn_box hs
      rw [β1]
      have := h.dbo s k c' o hc' ho
      rw [hb] at this
      exact this⟩)
    (fun i p b hi hp hbk => ⟨rfl, by
      obtain ⟨p1, p2⟩ := look_noOwn_own hp
      rw [ν1 i p1] at hbk
      intro e
      have e : gg = b := by simpa [Value.ownBlock] using e
      rcases h.doo i k p o p2 ho p1 with q | q
      · rw [hbk] at q; cases q
      · exact q (by rw [hbk, hb, e])⟩)
    (fun b hbk => h.omine k o b ho (by rw [hb]; exact hbk)) (fun _ _ _ => rfl) (vals := vals.take (n * o.sz))
    ⟨by show (vals.take (n * o.sz)).length = (o.xs.take n).length * o.sz; rw [hlt, List.length_take]; omega, .inr ⟨gg, cap, cur, by rw [hlt], e2, e3, by rw [hlt]; omega, e5, e6, by
      show cur.toList.take ((o.xs.take n).length * o.sz) = _
      rw [hlt, ← e7, List.take_take, Nat.min_eq_left hmul]⟩⟩
    (by show VRc _ _ (o.xs.take n).flatten _; rw [hsplit]; exact VRc.take hvals _) (fun x hx => hlp x (List.mem_of_mem_take hx))⟩
def xcut (T : Tab) (st : St) (t x y d : Nat) (K : St → Prop) : Prop :=
  match T t with
  | some ti => match ti.sh with
    | .slice e => match T e with
      | some te => match look x st.env with
        | some (.own k) => match look k st.own with
          | some o => match o.virgin with
            | true => match look y st.env with
              | some (.pv (.val (.int .i64 n))) => (0 < n ∧ n ≤ o.xs.length) ∧ K (st.cutOwn k d o n.toNat)
              | _ => False
            | false => False
          | none => False
        | _ => False
      | none => False
    | _ => False
  | none => False
theorem RWP.cutOwn {id : Nat} {Q : Ex → St → Prop} {st : St} {o : Oper} {t x y d : Nat} (hT : TabOk P T) (i : Nat)
    (ho : ops.toList[i]? = some o) (h1 : o.op = .slice t (.tmp x) none (some (.tmp y)) none ∧ o.dst = some d ∧ o.guard = none)
    (k : xops P T ops.toList (fun st' => Nat.blt d st'.n = true ∧ xcut T st' t x y d (fun st'' => xops P T ops.toList (Q .normal) (ops.toList.drop (i + 1)) st'')) (ops.toList.take i) st) : RWP P T (.region id ops false) Q st := by
  refine ⟨fun M0 base a w hr => ?_⟩
  obtain ⟨g, hr⟩ := hr
  apply wp_region_list
  have hsplit : ops.toList = ops.toList.take i ++ o :: ops.toList.drop (i + 1) := by
    obtain ⟨hi, he⟩ := List.getElem?_eq_some_iff.1 ho
    rw [← he, ← List.drop_eq_getElem_cons hi, List.take_append_drop]
  generalize ops.toList.take i = l1 at *
  generalize ops.toList.drop (i + 1) = l2 at *
  rw [hsplit]
  refine vops_pre hT (fun g' st' a' w' hq hp => ?_) l1 st g a w (xops_ok (fun _ q => q) _ _ k) hr
  obtain ⟨hd, hq⟩ := hq
  have hd : d < st'.n := Nat.le_of_ble_eq_true hd
  unfold xcut at hq
  split at hq
  · rename_i ti hti
    split at hq
    · rename_i e hs
      split at hq
      · rename_i te hte
        split at hq
        · rename_i k' hk'
          split at hq
          · rename_i ow how
            split at hq
            · rename_i hvir
              split at hq
              · rename_i n hn
                obtain ⟨⟨h0, hle⟩, hq⟩ := hq
                have ty := hT _ _ hti
                have tye := hT _ _ hte
                obtain ⟨gg, cap, e1, hcap, g2, hp2⟩ := hp.cutOwn how hvir hd (n := n.toNat) (by omega) (by omega)
                have hxv : a'.eval (.tmp x) = .slice (some ⟨gg, 0, none⟩) ow.xs.length cap := by
                  have : a'.eval (.tmp x) = g'.ν k' := hp.ev (x := .tmp x) hk'
                  rw [this, e1]
                have hb : bnd st' (some (.tmp y)) (ow.xs.length : Int) = some n := by
                  show (match val1 st' (.tmp y) with | some (.int _ n) => some n | _ => none) = some n
                  have : val1 st' (.tmp y) = some (.int .i64 n) := by
                    show (match ev st' (.tmp y) with | some (.pv (.val v)) => some v | _ => none) = _
                    have : ev st' (.tmp y) = some (.pv (.val (.int .i64 n))) := hn
                    rw [this]
                  rw [this]
                have hrb := run_bounds (P := P) hp true ow.xs.length cap hcap (lo := none) (l := 0) rfl hb (by omega) (by omega) hle w'
                unfold wpList
                rw [if_pos (by simp [Region.wanted, h1.2.2])]
                refine .inl ?_
                have hrun : (execOp a'.eval o).run P w' = .ok (.value (.slice (some ⟨gg, 0, none⟩) n.toNat cap)) w' := by
                  have hrb2 : (Instr.sliceBounds true ow.xs.length cap none (some (a'.eval (.tmp y))) none).run P w' = .ok (0, n.toNat, cap) w' := hrb
                  have hc : ¬ cap = 0 := by omega
                  simp only [execOp, h1.1, Sem.run_bind, Sem.run_pure, Instr.sliceAt, run_underlying (ty.slice hs), Result.andThen_ok, Instr.slice, hxv, Option.map_none]
                  simp [hrb2, tye.size w', hc, Addr.add_mid]
                refine wp_of_run hrun ?_
                rw [h1.2.1]
                exact vops_sound hT (fun g' st' a' w' hq hp => ⟨_, hq, _, hp⟩) _ _ _ _ _ (xops_ok (fun _ q => q) _ _ hq) hp2
              · exact hq.elim
            · exact hq.elim
          · exact hq.elim
        · exact hq.elim
      · exact hq.elim
    · exact hq.elim
  · exact hq.elim
end
end Go.Proofs.Ytnoohgiecnmajaa.VC

