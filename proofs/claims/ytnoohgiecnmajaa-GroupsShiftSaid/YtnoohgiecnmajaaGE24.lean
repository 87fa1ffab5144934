/- A part of the ground of the proof. No condition. -/
import Derived.Test.YtnoohgiecnmajaaGE22

/- The engine, part 24: facts of this program's types of maps and structs. -/
namespace Go.Proofs.Ytnoohgiecnmajaa.VC
open Go Go.RowKit
set_option linter.unusedVariables false
set_option linter.unusedSimpArgs false
theorem zero3 (w : World) : (zeroValue 3).run Try.prog w = .ok (.int .i64 0) w := by
  have h : (Try.prog.info? 3).map (·.zero) = some (some (.int .i64 0)) := by kernel_rfl
  obtain ⟨i, h1, h2⟩ := Option.map_eq_some_iff.1 h
  simp [zeroValue, typeInfo, h1, h2]
theorem mapTy67 : MapTy Try.prog 67 .string (.int .i64 0) := ⟨9, 3, Try.underlying67, Try.underlying9, zero3⟩
theorem mapTy39 : MapTy Try.prog 39 (.int .i64) (.int .i64 0) := ⟨3, 3, Try.underlying39, Try.underlying3, zero3⟩
theorem eqF_nil (d : Nat) (xs ys : Array Value) (w : World) : (Op.eqFields d xs ys []).run Try.prog w = .ok true w := by simp [Op.eqFields]
theorem eqF_cons {d : Nat} {xs ys : Array Value} {w : World} {f : Field} {fs : List Field} {u v : Value} {r q : Bool} (hn : (f.name == "_") = false) (hp : Try.prog.plainKey f.type = true) (hx : xs[f.offset]? = some u) (hy : ys[f.offset]? = some v)
    (he : (Op.equalIn d f.type u v).run Try.prog w = .ok r w) (hr : (Op.eqFields d xs ys fs).run Try.prog w = .ok q w) : (Op.eqFields d xs ys (f :: fs)).run Try.prog w = .ok (r && q) w := by
  have p1 := run_part_plain (P := Try.prog) w hp hx
  have p2 := run_part_plain (P := Try.prog) w hp hy
  have hn' : f.name ≠ "_" := by simpa using hn
  simp only [Op.eqFields, hn', ne_eq, not_false_eq_true, if_true, Sem.run_bind, p1, p2, he, Result.andThen_ok]
  cases r
  · simp
  · simpa using hr
theorem eqS74 (a b c d : Int) : EqS Try.prog 74 [.val (.int .i64 a), .val (.int .i64 b)] [.val (.int .i64 c), .val (.int .i64 d)] (a == c && (b == d && true)) := by
  refine ⟨[.int .i64 a, .int .i64 b], [.int .i64 c, .int .i64 d], rfl, rfl, by kernel_rfl, fun w => ?_⟩
  have hu : Try.prog.underlying 74 = some (.struct (Try.prog.fieldsOf 74)) := by unfold Program.fieldsOf; rw [Try.underlying74]
  have hp3 : Try.prog.plainKey 3 = true := by unfold Program.plainKey; rw [Try.underlying3]
  rw [run_equalIn_agg w 9999 74 _ _ hu (by kernel_rfl)]
  simp only [Program.fieldsOf, Try.underlying74]
  refine eqF_cons rfl hp3 rfl rfl (run_equalIn_int w 9998 3 .i64 .i64 a c Try.underlying3) ?_
  exact eqF_cons rfl hp3 rfl rfl (run_equalIn_int w 9998 3 .i64 .i64 b d Try.underlying3) (eqF_nil _ _ _ w)
theorem eqS45 (a c : ByteArray) (b d : Int) : EqS Try.prog 45 [.val (.string a), .val (.int .i64 b)] [.val (.string c), .val (.int .i64 d)] (a.toList == c.toList && (b == d && true)) := by
  refine ⟨[.string a, .int .i64 b], [.string c, .int .i64 d], rfl, rfl, by kernel_rfl, fun w => ?_⟩
  have hu : Try.prog.underlying 45 = some (.struct (Try.prog.fieldsOf 45)) := by unfold Program.fieldsOf; rw [Try.underlying45]
  have hp3 : Try.prog.plainKey 3 = true := by unfold Program.plainKey; rw [Try.underlying3]
  have hp9 : Try.prog.plainKey 9 = true := by unfold Program.plainKey; rw [Try.underlying9]
  rw [run_equalIn_agg w 9999 45 _ _ hu (by kernel_rfl)]
  simp only [Program.fieldsOf, Try.underlying45]
  refine eqF_cons rfl hp9 rfl rfl (run_equalIn_string w 9998 9 a c Try.underlying9) ?_
  exact eqF_cons rfl hp3 rfl rfl (run_equalIn_int w 9998 3 .i64 .i64 b d Try.underlying3) (eqF_nil _ _ _ w)
/-- A field of a box that is nil, as an own slice without elements. -/
def St.boxNil (st : St) (s i k sz : Nat) (e : TypeId) (T : TypeId) (cs : List FE) : St :=
  { st.noOwn k with box := ins s (T, (cs.map (FE.ko k)).set i (.own k)) (st.noOwn k).box, own := ins k ⟨sz, e, true, []⟩ (st.noOwn k).own, mp := st.mp }
theorem FRc.set_at {g : Gh} {M : Region} {w : World} {fe : FE} : ∀ {cs : List FE} {vs : List Value} {i : Nat}, FRc g M w cs vs → (∀ v, vs[i]? = some v → FR g M w fe v) → FRc g M w (cs.set i fe) vs
  | [], vs, i, h, _ => by simpa [FRc] using h
  | c :: cs, vs, 0, h, hf => by
    simp only [FRc, List.set_cons_zero] at h ⊢
    obtain ⟨v, vs', rfl, h2, h3, h4⟩ := h
    exact ⟨v, vs', rfl, hf v (by simp), h3, h4⟩
  | c :: cs, vs, i + 1, h, hf => by
    simp only [FRc, List.set_cons_succ] at h ⊢
    obtain ⟨v, vs', rfl, h2, h3, h4⟩ := h
    exact ⟨v, vs', rfl, h2, h3, FRc.set_at h4 (fun v hv => hf v (by simpa using hv))⟩
theorem FRc.at {g : Gh} {M : Region} {w : World} : ∀ {cs : List FE} {vs : List Value} {i : Nat} {fe : FE}, FRc g M w cs vs → cs[i]? = some fe → ∀ v, vs[i]? = some v → FR g M w fe v
  | [], vs, i, fe, h, hc, v, hv => by simp at hc
  | c :: cs, vs, 0, fe, h, hc, v, hv => by
    simp only [FRc] at h
    obtain ⟨u, vs', rfl, h2, h3, h4⟩ := h
    simp at hc hv
    subst hc; subst hv
    exact h2
  | c :: cs, vs, i + 1, fe, h, hc, v, hv => by
    simp only [FRc] at h
    obtain ⟨u, vs', rfl, h2, h3, h4⟩ := h
    exact FRc.at h4 (by simpa using hc) v (by simpa using hv)
theorem Wk.boxNil {st : St} {s i k sz : Nat} {e T : TypeId} {cs : List FE} (hl : look s st.box = some (T, cs)) (hc : cs[i]? = some (.pv (.val nilV))) : Wk st (st.boxNil s i k sz e T cs) := by
  rintro M0 base a w ⟨g, h⟩
  have h1 : RpM (Mset M0 g st) M0 base _ (st.noOwn k) a w := RpM.noOwn h k nilV
  have hs1 : look s (st.noOwn k).box = some (T, cs.map (FE.ko k)) := by simp only [St.noOwn, look_mapv, hl]; rfl
  have hm : Mv (Mset M0 g st) w (Mset M0 { g with ν := fun i => if i = k then nilV else g.ν i } (st.boxNil s i k sz e T cs)) w := ⟨fun b off u hu hn => ⟨hu, by
    rintro (hh | ⟨s', c, q1, q2⟩ | ⟨k', o, q1, q2, q3⟩)
    · exact hn (.inl hh)
    · simp only [St.boxNil, look_ins] at q1
      by_cases es : s' = s
      · subst es; exact hn (.inr (.inl ⟨s', _, hl, q2⟩))
      · rw [if_neg es] at q1
        obtain ⟨c', hc'⟩ := look_noOwn_box (st := st) (k := k) q1
        exact hn (.inr (.inl ⟨s', c', hc', q2⟩))
    · simp only [St.boxNil, look_ins] at q1
      simp only at q2
      by_cases ek : k' = k
      · rw [if_pos ek] at q2; simp [nilV, Value.ownBlock] at q2
      · rw [if_neg ek] at q1 q2
        exact hn (.inr (.inr ⟨k', o, (look_noOwn_own q1).2, q2, q3⟩))⟩⟩
  have key : ∀ {s' c}, look s' (st.boxNil s i k sz e T cs).box = some c → ∃ c', look s' (st.noOwn k).box = some c' := by
    intro s' c q
    simp only [St.boxNil, look_ins] at q
    by_cases es : s' = s
    · subst es; exact ⟨_, hs1⟩
    · rw [if_neg es] at q; exact ⟨_, q⟩
  refine ⟨_, h1.below, h1.m0, h1.keep.trans hm, h1.hn, h1.pin, h1.size, h1.defers, ?_, ?_, ?_, ?_, h1.map, ?_, ?_, ?_, h1.dmm⟩
  · intro u fe hf
    obtain ⟨x, hx, hr⟩ := h1.env u fe hf
    exact ⟨x, hx, FR.mv hm hr⟩
  · intro s' TT cs' hs
    simp only [St.boxNil, look_ins] at hs
    by_cases es : s' = s
    · rw [if_pos es] at hs
      cases hs
      subst es
      obtain ⟨k1, vs, k2, k3⟩ := h1.box s' T _ hs1
      refine ⟨k1, vs, k2, FRc.mv hm (FRc.set_at k3 (fun v hv => ?_))⟩
      have hci : (cs.map (FE.ko k))[i]? = some (.pv (.val nilV)) := by rw [List.getElem?_map, hc]; rfl
      have := FRc.at k3 hci v hv
      simp only [FR, VR] at this
      show v = (if k = k then nilV else g.ν k)
      rw [if_pos rfl]
      exact this
    · rw [if_neg es] at hs
      obtain ⟨k1, vs, k2, k3⟩ := h1.box s' TT cs' hs
      exact ⟨k1, vs, k2, FRc.mv hm k3⟩
  · intro k' o ho
    simp only [St.boxNil, look_ins] at ho
    by_cases ek : k' = k
    · rw [if_pos ek] at ho
      cases ho
      simp only [if_pos ek]
      exact ⟨[], World.ownsRow_nil w 0 e sz, by simp [VRc], by simp⟩
    · rw [if_neg ek] at ho
      obtain ⟨vals, q1, q2, q3⟩ := h1.own k' o ho
      exact ⟨vals, q1, VRc.mv hm _ _ q2, q3⟩
  · intro k' o b ho hb
    simp only [St.boxNil, look_ins] at ho
    by_cases ek : k' = k
    · simp only [if_pos ek] at hb; simp [nilV, Value.ownBlock] at hb
    · rw [if_neg ek] at ho
      exact h1.omine k' o b ho hb
  · intro s1 s2 c1 c2 q1 q2 hne
    obtain ⟨c1', q1⟩ := key q1
    obtain ⟨c2', q2⟩ := key q2
    exact h1.dbb s1 s2 c1' c2' q1 q2 hne
  · intro s1 k' c o q1 q2
    obtain ⟨c1', q1⟩ := key q1
    simp only [St.boxNil, look_ins] at q2
    by_cases ek : k' = k
    · simp only [if_pos ek]; simp [nilV, Value.ownBlock]
    · rw [if_neg ek] at q2
      exact h1.dbo s1 k' c1' o q1 q2
  · intro k1 k2 o1 o2 q1 q2 hne
    simp only [St.boxNil, look_ins] at q1 q2
    by_cases ek : k1 = k
    · exact .inl (by simp only [if_pos ek]; simp [nilV, Value.ownBlock])
    · rw [if_neg ek] at q1
      by_cases ek2 : k2 = k
      · simp only [if_neg ek, if_pos ek2]
        cases hq : (g.ν k1).ownBlock with
        | none => exact .inl rfl
        | some b => exact .inr (by simp [nilV, Value.ownBlock])
      · rw [if_neg ek2] at q2
        exact h1.doo k1 k2 o1 o2 q1 q2 hne
end Go.Proofs.Ytnoohgiecnmajaa.VC

