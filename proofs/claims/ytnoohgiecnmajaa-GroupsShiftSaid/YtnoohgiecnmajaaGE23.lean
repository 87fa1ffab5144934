/- A part of the ground of the proof. No condition. -/
import Derived.MapKept
import Derived.Carry
import Derived.Laws.StructEq
import Derived.Test.YtnoohgiecnmajaaGE9

/- The engine, part 23 (behind part 9): maps; structs that are asked to be the same. -/
namespace Go.Proofs.Ytnoohgiecnmajaa.VC
open Go Go.RowKit
set_option linter.unusedVariables false
set_option linter.unusedSimpArgs false

/-- A map's name is forgotten. -/
def FE.km (d : Nat) : FE → FE
  | .map k => if k = d then .dead else .map k
  | x => x
def St.newMap (st : St) (d : Nat) : St :=
  { n := st.n, env := ins d (.map d) (mapv (FE.km d) st.env), box := mapv (fun c => (c.1, c.2.map (FE.km d))) st.box, own := st.own, mp := ins d [] st.mp }
def St.setMap (st : St) (d : Nat) (m : Mp) : St := { st with mp := ins d m st.mp }

/-- A type of maps: the keys' kind; what an entry that is not there tells. -/
structure MapTy (P : Program) (t : TypeId) (d : TypeDesc) (z : Value) : Prop where
  ex : ∃ kt et, P.underlying t = some (.map kt et) ∧ P.underlying kt = some d ∧ ∀ w : World, (zeroValue et).run P w = .ok z w
def LenTy (P : Program) (t : TypeId) : Prop := ∃ d z, MapTy P t d z
/-- An entry, the first one of its key. -/
def Nth (m : Mp) (k : Value) (i : Nat) (v : Value) : Prop := m[i]? = some (k, v) ∧ ∀ j x, j < i → m[j]? = some x → x.1 ≠ k
def MLook (P : Program) (t : TypeId) (m : Mp) (k v : Value) (b : Bool) : Prop :=
  ∃ d z, MapTy P t d z ∧ MapKept.IsKey d k ∧ (∀ x ∈ m, MapKept.IsKey d x.1) ∧ ((b = false ∧ v = z ∧ ∀ x ∈ m, x.1 ≠ k) ∨ (b = true ∧ ∃ i, Nth m k i v))
def MUpd (P : Program) (t : TypeId) (m : Mp) (k v : Value) (m' : Mp) : Prop :=
  ∃ d z, MapTy P t d z ∧ MapKept.IsKey d k ∧ (∀ x ∈ m, MapKept.IsKey d x.1) ∧ (((∀ x ∈ m, x.1 ≠ k) ∧ m' = m ++ [(k, v)]) ∨ ∃ i u, Nth m k i u ∧ m' = m.set i (k, v))

theorem findNow_none {d : TypeDesc} {k : Value} (hk : MapKept.IsKey d k) : ∀ (l : List MapEntry) (i : Nat), (∀ x ∈ l, MapKept.IsKey d x.key) → (∀ x ∈ l, x.key ≠ k) → Instr.findNow d k l i = some none
  | [], _, _, _ => rfl
  | e :: es, i, h, hn => by
    obtain ⟨r, hr, hiff⟩ := MapKept.sameNow_of_keys hk (h e (List.mem_cons_self ..))
    cases r with
    | true => exact absurd (hiff.1 rfl).symm (hn e (List.mem_cons_self ..))
    | false =>
      unfold Instr.findNow
      rw [hr]
      exact findNow_none hk es (i + 1) (fun x hx => h x (List.mem_cons_of_mem _ hx)) (fun x hx => hn x (List.mem_cons_of_mem _ hx))
theorem findNow_first {d : TypeDesc} {k : Value} (hk : MapKept.IsKey d k) : ∀ (l : List MapEntry) (i j : Nat) (e : MapEntry), (∀ x ∈ l, MapKept.IsKey d x.key) → l[j]? = some e → e.key = k → (∀ j' x, j' < j → l[j']? = some x → x.key ≠ k) →
    Instr.findNow d k l i = some (some (i + j, e.val))
  | [], i, j, e, _, h, _, _ => by simp at h
  | x :: es, i, j, e, h, hj, he, hf => by
    obtain ⟨r, hr, hiff⟩ := MapKept.sameNow_of_keys hk (h x (List.mem_cons_self ..))
    unfold Instr.findNow
    cases j with
    | zero =>
      have hx : x = e := by simpa using hj
      subst hx
      have : r = true := hiff.2 he.symm
      subst this
      rw [hr]
      rfl
    | succ j =>
      have hne := hf 0 x (by omega) (by simp)
      cases r with
      | true => exact absurd (hiff.1 rfl).symm hne
      | false =>
        rw [hr]
        simp only
        rw [findNow_first hk es (i + 1) j e (fun y hy => h y (List.mem_cons_of_mem _ hy)) (by simpa using hj) he (fun j' y hj' hy => hf (j' + 1) y (by omega) (by simpa using hy))]
        rw [show i + 1 + j = i + (j + 1) by omega]
/-- Entries and the list that tells them. -/
theorem mpAt_get {m : Mp} {es : Array MapEntry} {c : Nat} (h : MpAt m es c) {i : Nat} {k v : Value} (hi : m[i]? = some (k, v)) : ∃ e, es.toList[i]? = some e ∧ e.key = k ∧ e.val = v := by
  unfold MpAt at h
  rw [← h, List.getElem?_map] at hi
  obtain ⟨e, he, hp⟩ := Option.map_eq_some_iff.1 hi
  cases hp
  exact ⟨e, he, rfl, rfl⟩
theorem mpAt_get' {m : Mp} {es : Array MapEntry} {c : Nat} (h : MpAt m es c) {i : Nat} {e : MapEntry} (hi : es.toList[i]? = some e) : m[i]? = some (e.key, e.val) := by
  unfold MpAt at h
  rw [← h, List.getElem?_map, hi]
  rfl
theorem mpAt_mem {m : Mp} {es : Array MapEntry} {c : Nat} (h : MpAt m es c) {e : MapEntry} (he : e ∈ es.toList) : (e.key, e.val) ∈ m := by
  unfold MpAt at h
  rw [← h]
  exact List.mem_map.2 ⟨e, he, rfl⟩

section
variable {P : Program} {w : World}
theorem run_lookup_tells {t : TypeId} {m : Mp} {k v : Value} {b : Bool} {r : Nat} {es : Array MapEntry} {c : Nat} (hm : MLook P t m k v b) (hb : w.heap[r]? = some (.map es c)) (ha : MpAt m es c) (ok : Bool) :
    (Instr.lookup t (.map (some r)) k ok).run P w = .ok (if ok then .tuple #[v, .bool b] else v) w := by
  obtain ⟨d, z, ⟨kt, et, h1, h2, h3⟩, hk, hks, h⟩ := hm
  have hes : ∀ x ∈ es.toList, MapKept.IsKey d x.key := fun x hx => hks _ (mpAt_mem ha hx)
  have hf : ∃ a : Option (Nat × Value), Instr.findNow d k es.toList 0 = some a ∧ ((a = none ∧ v = z ∧ b = false) ∨ (∃ i, a = some (i, v)) ∧ b = true) := by
    rcases h with ⟨rfl, rfl, hn⟩ | ⟨rfl, i, hi, hf⟩
    · exact ⟨none, findNow_none hk _ _ hes (fun x hx => hn _ (mpAt_mem ha hx)), .inl ⟨rfl, rfl, rfl⟩⟩
    · obtain ⟨e, he, e1, e2⟩ := mpAt_get ha hi
      refine ⟨some (0 + i, e.val), findNow_first hk _ _ _ _ hes he e1 (fun j' x hj' hx => hf j' _ hj' (mpAt_get' ha hx)), .inr ⟨⟨_, by rw [e2]⟩, rfl⟩⟩
  obtain ⟨a, hf, hcase⟩ := hf
  have hg := MapKept.run_getObj_map (P := P) hb
  have hck := MapKept.run_checkKey (w := w) h2 hk es.isEmpty 9999
  have hfk := MapKept.run_findKey (w := w) h2 hf
  rcases hcase with ⟨rfl, rfl, rfl⟩ | ⟨⟨i, rfl⟩, rfl⟩
  · cases ok <;> simp [Instr.lookup, run_underlying h1, hg, hck, hfk, h3, Result.andThen]
  · cases ok <;> simp [Instr.lookup, run_underlying h1, hg, hck, hfk, Result.andThen]
theorem run_mapUpdate_tells {t : TypeId} {m m' : Mp} {k v : Value} {r : Nat} {es : Array MapEntry} {c : Nat} (hm : MUpd P t m k v m') (hb : w.heap[r]? = some (.map es c)) (ha : MpAt m es c) :
    ∃ es' c', (Instr.mapUpdate t (.map (some r)) k v).run P w = .ok () { w with heap := w.heap.setIfInBounds r (.map es' c') } ∧ MpAt m' es' c' := by
  obtain ⟨d, z, ⟨kt, et, h1, h2, h3⟩, hk, hks, h⟩ := hm
  have hes : ∀ x ∈ es.toList, MapKept.IsKey d x.key := fun x hx => hks _ (mpAt_mem ha hx)
  have hg := MapKept.run_getObj_map (P := P) hb
  have hck := MapKept.run_checkKey (w := w) h2 hk false 9999
  rcases h with ⟨hn, rfl⟩ | ⟨i, u, ⟨hi, hf⟩, rfl⟩
  · have hfk := MapKept.run_findKey (w := w) h2 (findNow_none hk _ 0 hes (fun x hx => hn _ (mpAt_mem ha hx)))
    refine ⟨es.push { key := k, val := v, born := c }, c + 1, ?_, ?_⟩
    · simp [Instr.mapUpdate, run_underlying h1, hg, hck, hfk, MapKept.run_setObj_map _ hb, Result.andThen]
    · unfold MpAt at ha ⊢
      simp [ha]
  · obtain ⟨e, he, e1, e2⟩ := mpAt_get ha hi
    have hfk := MapKept.run_findKey (w := w) h2 (findNow_first hk _ 0 _ _ hes he e1 (fun j' x hj' hx => hf j' _ hj' (mpAt_get' ha hx)))
    have hj : es[i]? = some e := by simpa using he
    refine ⟨es.modify i fun e => { e with key := k, val := v }, c, ?_, ?_⟩
    · simp [Instr.mapUpdate, run_underlying h1, hg, hck, hfk, hj, e1, MapKept.run_keyThatStays hk, MapKept.run_setObj_map _ hb, Result.andThen]
    · unfold MpAt at ha ⊢
      rw [← ha]
      apply List.ext_getElem?
      intro j
      simp only [List.getElem?_map, List.getElem?_set, Array.getElem?_toList, Array.getElem?_modify]
      by_cases hij : i = j
      · subst hij
        have hlt : i < es.size := (Array.getElem?_eq_some_iff.1 hj).1
        simp [hj, hlt]
      · simp [hij]
end

section
variable {M0 : Region} {base : Bs} {g : Gh} {st : St} {a : Act} {w w' : World}
theorem FR.km {M : Region} {d n : Nat} {fe : FE} {v : Value} (h : FR g M w fe v) : FR { g with μ := fun s => if s = d then n else g.μ s } M w (FE.km d fe) v := by
  cases fe <;> simp only [FE.km]
  case map s =>
    split
    · trivial
    · rename_i hne
      simp only [FR] at h ⊢
      rw [if_neg hne]
      exact h
  all_goals exact h
theorem Rp.newMap (h : Rp M0 base g st a w) {d : Nat} (hd : d < st.n) :
    Rp M0 base { g with μ := fun s => if s = d then w.heap.size else g.μ s } (st.newMap d) (a.put (some d) (.map (some w.heap.size))) (w.alloc (.map #[] 0)) := by
  have hold : Hold w (w.alloc (.map #[] 0)) := Hold.alloc w _
  have hm : Mv (Mset M0 g st) w (Mset M0 { g with μ := fun s => if s = d then w.heap.size else g.μ s } (st.newMap d)) (w.alloc (.map #[] 0)) := ⟨fun b off u hu hn => ⟨hold.cell hu, by
    rintro (hh | ⟨s, c, q1, q2⟩ | ⟨k, o, q1, q2, q3⟩)
    · exact hn (.inl hh)
    · simp only [St.newMap, look_mapv] at q1
      obtain ⟨c', hc', _⟩ := Option.map_eq_some_iff.1 q1
      exact hn (.inr (.inl ⟨s, c', hc', q2⟩))
    · exact hn (.inr (.inr ⟨k, o, q1, q2, q3⟩))⟩⟩
  have hge : base.w.heap.size ≤ w.heap.size := h.below.size
  have hhi : ∀ s, HI ≤ s → ¬ s = d := fun s hs => by have := h.hn; omega
  have mlt : ∀ k m, look k st.mp = some m → g.μ k < w.heap.size := fun k m hk => by
    obtain ⟨_, es, c, h2, _⟩ := h.map k m hk
    exact (Array.getElem?_eq_some_iff.1 h2).1
  refine ⟨h.below.alloc _, h.m0, h.keep.trans hm, h.hn, fun s hs => ⟨(h.pin s hs).1, by simp only [if_neg (hhi s hs)]; exact (h.pin s hs).2⟩, by simp [Act.put, St.newMap, h.size], h.defers, ?_, ?_, ?_, h.omine, ?_, ?_, ?_, h.doo, ?_⟩
  · intro t fe hf
    simp only [St.newMap, look_ins, look_mapv] at hf
    simp only [Act.put, Array.getElem?_setIfInBounds]
    by_cases e : t = d
    · rw [if_pos e] at hf
      cases hf
      subst e
      have : t < a.tmps.size := by rw [h.size]; exact hd
      exact ⟨.map (some w.heap.size), by simp [this], by simp [FR]⟩
    · rw [if_neg e] at hf
      obtain ⟨fe', hfe, rfl⟩ := Option.map_eq_some_iff.1 hf
      obtain ⟨u, hu, hr⟩ := h.env t fe' hfe
      exact ⟨u, by rw [if_neg (by omega)]; exact hu, FR.mv hm (FR.km hr)⟩
  · intro s TT' cs' hs
    simp only [St.newMap, look_mapv] at hs
    obtain ⟨⟨T1, c1⟩, hc1, he⟩ := Option.map_eq_some_iff.1 hs
    cases he
    obtain ⟨k1, us, k2, k3⟩ := h.box s T1 c1 hc1
    exact ⟨k1, us, by rw [hold _ (Array.getElem?_eq_some_iff.1 k2).1]; exact k2, FRc.mv hm (FRc.map _ (fun _ _ hh => FR.km hh) k3)⟩
  · intro k o ho
    obtain ⟨vals, h1, h2, h3⟩ := h.own k o ho
    refine ⟨vals, ⟨h1.1, h1.2.imp id ?_⟩, VRc.mv hm _ _ h2, h3⟩
    rintro ⟨gg, cap, cur, e1, e2, e3, e4⟩
    exact ⟨gg, cap, cur, e1, e2, by rw [hold _ (Array.getElem?_eq_some_iff.1 e3).1]; exact e3, e4⟩
  · intro k m hq
    simp only [St.newMap, look_ins] at hq
    by_cases e : k = d
    · rw [if_pos e] at hq
      cases hq
      simp only [if_pos e]
      exact ⟨.inl hge, #[], 0, by rw [heap_alloc_new], rfl⟩
    · rw [if_neg e] at hq
      simp only [if_neg e]
      obtain ⟨h1, es, cl, h2, h3⟩ := h.map k m hq
      exact ⟨h1, es, cl, by rw [hold _ (Array.getElem?_eq_some_iff.1 h2).1]; exact h2, h3⟩
  · intro s s' c c' h1 h2 hne
    simp only [St.newMap, look_mapv] at h1 h2
    obtain ⟨c1, hc1, _⟩ := Option.map_eq_some_iff.1 h1
    obtain ⟨c2, hc2, _⟩ := Option.map_eq_some_iff.1 h2
    exact h.dbb s s' c1 c2 hc1 hc2 hne
  · intro s k c o h1 h2
    simp only [St.newMap, look_mapv] at h1
    obtain ⟨c1, hc1, _⟩ := Option.map_eq_some_iff.1 h1
    exact h.dbo s k c1 o hc1 h2
  · intro k k' m m' h1 h2 hne
    simp only [St.newMap, look_ins] at h1 h2
    simp only
    by_cases e : k = d
    · have e' : ¬ k' = d := by omega
      rw [if_neg e'] at h2
      rw [if_pos e, if_neg e']
      have := mlt k' m' h2
      omega
    · rw [if_neg e] at h1
      rw [if_neg e]
      by_cases e' : k' = d
      · rw [if_pos e']
        have := mlt k m h1
        omega
      · rw [if_neg e'] at h2
        rw [if_neg e']
        exact h.dmm k k' m m' h1 h2 hne
theorem Rp.setMap (h : Rp M0 base g st a w) {d : Nat} {m m' : Mp} (hl : look d st.mp = some m) {es' : Array MapEntry} {c' : Nat} (ha : MpAt m' es' c') :
    Rp M0 base g (st.setMap d m') a { w with heap := w.heap.setIfInBounds (g.μ d) (.map es' c') } := by
  obtain ⟨hmine, es, c, hb, _⟩ := h.map d m hl
  have hset := MapKept.heap_set (o' := .map es' c') hb
  have hm : Mv (Mset M0 g st) w (Mset M0 g (st.setMap d m')) { w with heap := w.heap.setIfInBounds (g.μ d) (.map es' c') } := ⟨fun b off u hu hn => ⟨by
    by_cases e : b = g.μ d
    · subst e
      simp only [World.cell?, hb] at hu
      cases hu
    · rw [← hu]
      exact World.cell?_of_block (hset.2 b e), hn⟩⟩
  have hbel : Bel base.X base.w { w with heap := w.heap.setIfInBounds (g.μ d) (.map es' c') } := h.below.step rfl rfl rfl (by simp) (fun k hk hnm => hset.2 k (fun e => hnm (e ▸ hmine)))
  refine ⟨hbel, h.m0, h.keep.trans hm, h.hn, h.pin, h.size, h.defers, ?_, ?_, ?_, h.omine, ?_, h.dbb, h.dbo, h.doo, ?_⟩
  · intro t fe hf
    obtain ⟨u, hu, hr⟩ := h.env t fe hf
    exact ⟨u, hu, FR.mv hm hr⟩
  · intro s TT' cs' hs
    obtain ⟨k1, us, k2, k3⟩ := h.box s TT' cs' hs
    exact ⟨k1, us, by rw [hset.2 _ (fun e => by rw [e, hb] at k2; cases k2)]; exact k2, FRc.mv hm k3⟩
  · intro k o ho
    obtain ⟨vals, h1, h2, h3⟩ := h.own k o ho
    refine ⟨vals, ⟨h1.1, h1.2.imp id ?_⟩, VRc.mv hm _ _ h2, h3⟩
    rintro ⟨gg, cap, cur, e1, e2, e3, e4⟩
    exact ⟨gg, cap, cur, e1, e2, by rw [hset.2 _ (fun e => by rw [e, hb] at e3; cases e3)]; exact e3, e4⟩
  · intro k m1 hq
    simp only [St.setMap, look_ins] at hq
    by_cases e : k = d
    · rw [if_pos e] at hq
      cases hq
      subst e
      exact ⟨hmine, es', c', hset.1, ha⟩
    · rw [if_neg e] at hq
      obtain ⟨h1, es1, cl, h2, h3⟩ := h.map k m1 hq
      exact ⟨h1, es1, cl, by rw [hset.2 _ (h.dmm k d m1 m hq hl e)]; exact h2, h3⟩
  · intro k k' m1 m2 h1 h2 hne
    have key : ∀ {k : Nat} {m1 : Mp}, look k (st.setMap d m').mp = some m1 → ∃ m2, look k st.mp = some m2 := by
      intro k m1 hq
      simp only [St.setMap, look_ins] at hq
      by_cases e : k = d
      · subst e; exact ⟨m, hl⟩
      · rw [if_neg e] at hq; exact ⟨_, hq⟩
    obtain ⟨n1, h1⟩ := key h1
    obtain ⟨n2, h2⟩ := key h2
    exact h.dmm k k' n1 n2 h1 h2 hne
end

/-- Structs are asked to be the same: the answer. -/
def EqS (P : Program) (t : TypeId) (us vs : List SV) (b : Bool) : Prop :=
  ∃ xs ys : List Value, us = xs.map .val ∧ vs = ys.map .val ∧ P.eqGuardType P.depth t = false ∧ ∀ w : World, (Op.equalIn 10000 t (.agg xs.toArray) (.agg ys.toArray)).run P w = .ok b w
theorem VRc_eq {M : Region} {w : World} : ∀ {xs vs : List Value}, VRc M w (xs.map .val) vs → vs = xs
  | [], vs, h => by simpa [VRc] using h
  | x :: xs, vs, h => by
    simp only [List.map_cons, VRc, VR] at h
    obtain ⟨v, vs', rfl, rfl, _, h4⟩ := h
    rw [VRc_eq h4]
end Go.Proofs.Ytnoohgiecnmajaa.VC

