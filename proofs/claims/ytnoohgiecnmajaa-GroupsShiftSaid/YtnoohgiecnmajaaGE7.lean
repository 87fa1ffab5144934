/- A part of the ground of the proof. No condition. -/
import Derived.Test.YtnoohgiecnmajaaGE6

/- The engine, part 7: what making, storing and appending do to a state. -/
namespace Go.Proofs.Ytnoohgiecnmajaa.VC
open Go Go.RowKit
set_option linter.unusedVariables false
set_option linter.unusedSimpArgs false

/-- A box's address is forgotten; an own slice is. -/
def FE.kp (d : Nat) : FE → FE
  | .ptr s o => if s = d then .dead else .ptr s o
  | x => x
def FE.ko (d : Nat) : FE → FE
  | .own k => if k = d then .dead else .own k
  | .optr k sz i off => if k = d then .dead else .optr k sz i off
  | x => x
def St.newBox (st : St) (d : Nat) (T : TypeId) (cs : List FE) : St :=
  { n := st.n, env := ins d (.ptr d 0) (mapv (FE.kp d) st.env), box := ins d (T, cs.map (FE.kp d)) (mapv (fun c => (c.1, c.2.map (FE.kp d))) st.box), own := st.own, mp := st.mp }
def St.noOwn (st : St) (k : Nat) : St :=
  { n := st.n, env := mapv (FE.ko k) st.env, box := mapv (fun c => (c.1, c.2.map (FE.ko k))) st.box, own := del k st.own, mp := st.mp }
/-- A new own slice, named by d. -/
def St.newOwn (st : St) (d : Nat) (o : Own) : St := { st.noOwn d with env := ins d (.own d) (st.noOwn d).env, own := ins d o (st.noOwn d).own }
def St.setBox (st : St) (s : Nat) (T : TypeId) (cs : List FE) : St := { st with box := ins s (T, cs) st.box }
def St.setOwn (st : St) (k : Nat) (o : Own) : St := { st with own := ins k o st.own }

section
variable {M0 : Region} {base : Bs} {g : Gh} {st : St} {a : Act} {w w' : World}
theorem Hold.alloc (w : World) (o : Obj) : Hold w (w.alloc o) := fun k hk => heap_alloc_old w o k hk
theorem Hold.mv {M : Region} (h : Hold w w') : Mv M w M w' := ⟨fun b off u hu hn => ⟨h.cell hu, hn⟩⟩

theorem FR.kp {M : Region} {d n : Nat} {fe : FE} {v : Value} (h : FR g M w fe v) : FR { g with β := fun s => if s = d then n else g.β s } M w (FE.kp d fe) v := by
  cases fe <;> simp only [FE.kp]
  case ptr s o =>
    split
    · trivial
    · rename_i hne
      simp only [FR] at h ⊢
      rw [if_neg hne]
      exact h
  all_goals exact h
theorem FR.ko {M : Region} {d : Nat} {fe : FE} {v x : Value} (h : FR g M w fe v) : FR { g with ν := fun k => if k = d then x else g.ν k } M w (FE.ko d fe) v := by
  cases fe <;> simp only [FE.ko]
  case own k =>
    split
    · trivial
    · rename_i hne
      simp only [FR] at h ⊢
      rw [if_neg hne]
      exact h
  case optr k sz i off =>
    split
    · trivial
    · rename_i hne
      simp only [FR] at h ⊢
      rw [if_neg hne]
      exact h
  all_goals exact h

theorem Rp.newBox (h : Rp M0 base g st a w) (hb : Bel base.X base.w w') (hold : Hold w w') {d : Nat} {TT : TypeId} {cs : List FE} {vs : List Value} (hnew : w'.heap[w.heap.size]? = some (.cells vs.toArray TT (0, 0)))
    (hcs : FRc g (Mset M0 g st) w cs vs) (hd : d < st.n) :
    Rp M0 base { g with β := fun s => if s = d then w.heap.size else g.β s } (st.newBox d TT cs) (a.put (some d) (.pointer (some ⟨w.heap.size, 0, none⟩))) w' := by
  have hm : Mv (Mset M0 g st) w (Mset M0 { g with β := fun s => if s = d then w.heap.size else g.β s } (st.newBox d TT cs)) w' := ⟨fun b off u hu hn => ⟨hold.cell hu, by
    have hlt : b < w.heap.size := World.block_lt_of_cell? w _ hu
    rintro (hh | ⟨s, c, q1, q2⟩ | ⟨k, o, q1, q2, q3⟩)
    · exact hn (.inl hh)
    · simp only [St.newBox, look_ins, look_mapv] at q1
      simp only at q2
      by_cases e : s = d
      · rw [if_pos e] at q2; omega
      · rw [if_neg e] at q1 q2
        obtain ⟨c', hc', _⟩ := Option.map_eq_some_iff.1 q1
        exact hn (.inr (.inl ⟨s, c', hc', q2⟩))
    · exact hn (.inr (.inr ⟨k, o, q1, q2, q3⟩))⟩⟩
  have hsz : w.heap.size < w'.heap.size := (Array.getElem?_eq_some_iff.1 hnew).1
  have hge : base.w.heap.size ≤ w.heap.size := h.below.size
  have hhi : ∀ s, HI ≤ s → ¬ s = d := fun s hs => by have := h.hn; omega
  have blt : ∀ s c, look s st.box = some c → g.β s < w.heap.size := fun s c hs => by
    obtain ⟨_, vs, h2, _⟩ := h.box s c.1 c.2 hs
    exact (Array.getElem?_eq_some_iff.1 h2).1
  have olt : ∀ k o b, look k st.own = some o → (g.ν k).ownBlock = some b → b < w.heap.size := fun k o b hk hb => by
    obtain ⟨vals, h1, _⟩ := h.own k o hk
    exact (h1.lt b hb).2
  refine ⟨hb, h.m0, h.keep.trans hm, h.hn, fun s hs => ⟨by simp only [if_neg (hhi s hs)]; exact (h.pin s hs).1, (h.pin s hs).2⟩, by simp [Act.put, St.newBox, h.size], h.defers, ?_, ?_, ?_, h.omine, ?_, ?_, ?_, ?_, h.dmm⟩
  · intro t fe hf
    simp only [St.newBox, look_ins, look_mapv] at hf
    simp only [Act.put, Array.getElem?_setIfInBounds]
    by_cases e : t = d
    · rw [if_pos e] at hf
      cases hf
      subst e
      have : t < a.tmps.size := by rw [h.size]; exact hd
      exact ⟨.pointer (some ⟨w.heap.size, 0, none⟩), by simp [this], by simp [FR]⟩
    · rw [if_neg e] at hf
      obtain ⟨fe', hfe, rfl⟩ := Option.map_eq_some_iff.1 hf
      obtain ⟨u, hu, hr⟩ := h.env t fe' hfe
      exact ⟨u, by rw [if_neg (by omega)]; exact hu, FR.mv hm (FR.kp hr)⟩
  · intro s TT' cs' hs
    simp only [St.newBox, look_ins, look_mapv] at hs
    by_cases e : s = d
    · rw [if_pos e] at hs
      cases hs
      simp only [if_pos e]
      exact ⟨.inl hge, vs, hnew, FRc.mv hm (FRc.map _ (fun _ _ hh => FR.kp hh) hcs)⟩
    · rw [if_neg e] at hs
      obtain ⟨⟨T1, c1⟩, hc1, he⟩ := Option.map_eq_some_iff.1 hs
      cases he
      obtain ⟨k1, us, k2, k3⟩ := h.box s T1 c1 hc1
      simp only [if_neg e]
      exact ⟨k1, us, by rw [hold _ (blt s _ hc1)]; exact k2, FRc.mv hm (FRc.map _ (fun _ _ hh => FR.kp hh) k3)⟩
  · intro k o ho
    obtain ⟨vals, h1, h2, h3⟩ := h.own k o ho
    refine ⟨vals, ⟨h1.1, h1.2.imp id ?_⟩, VRc.mv hm _ _ h2, h3⟩
    rintro ⟨gg, cap, cur, e1, e2, e3, e4⟩
    exact ⟨gg, cap, cur, e1, e2, by rw [hold _ (Array.getElem?_eq_some_iff.1 e3).1]; exact e3, e4⟩
  · intro k m hq
    obtain ⟨h1, es, cl, h2, h3⟩ := h.map k m hq
    exact ⟨h1, es, cl, by rw [hold _ (Array.getElem?_eq_some_iff.1 h2).1]; exact h2, h3⟩
  · intro s s' c c' h1 h2 hne
    simp only [St.newBox, look_ins, look_mapv] at h1 h2
    simp only
    by_cases e : s = d
    · have e' : ¬ s' = d := by omega
      rw [if_neg e'] at h2
      obtain ⟨c1, hc1, _⟩ := Option.map_eq_some_iff.1 h2
      rw [if_pos e, if_neg e']
      have := blt s' c1 hc1
      omega
    · rw [if_neg e] at h1
      obtain ⟨c1, hc1, _⟩ := Option.map_eq_some_iff.1 h1
      rw [if_neg e]
      by_cases e' : s' = d
      · rw [if_pos e']
        have := blt s c1 hc1
        omega
      · rw [if_neg e'] at h2
        obtain ⟨c2, hc2, _⟩ := Option.map_eq_some_iff.1 h2
        rw [if_neg e']
        exact h.dbb s s' c1 c2 hc1 hc2 hne
  · intro s k c o h1 h2
    simp only [St.newBox, look_ins, look_mapv] at h1
    simp only
    by_cases e : s = d
    · rw [if_pos e]
      intro hh
      have := olt k o _ h2 hh
      omega
    · rw [if_neg e] at h1
      obtain ⟨c1, hc1, _⟩ := Option.map_eq_some_iff.1 h1
      rw [if_neg e]
      exact h.dbo s k c1 o hc1 h2
  · exact h.doo

/-- An own slice is forgotten (what may change stays as it was told). -/
theorem RpM.noOwn {M : Region} (h : RpM M M0 base g st a w) (k : Nat) (x : Value) : RpM M M0 base { g with ν := fun i => if i = k then x else g.ν i } (st.noOwn k) a w := by
  refine ⟨h.below, h.m0, h.keep, h.hn, h.pin, h.size, h.defers, ?_, ?_, ?_, ?_, h.map, ?_, ?_, ?_, h.dmm⟩
  · intro t fe hf
    simp only [St.noOwn, look_mapv] at hf
    obtain ⟨fe', hfe, rfl⟩ := Option.map_eq_some_iff.1 hf
    obtain ⟨u, hu, hr⟩ := h.env t fe' hfe
    exact ⟨u, hu, FR.ko hr⟩
  · intro s TT' cs' hs
    simp only [St.noOwn, look_mapv] at hs
    obtain ⟨⟨T1, c1⟩, hc1, he⟩ := Option.map_eq_some_iff.1 hs
    cases he
    obtain ⟨k1, us, k2, k3⟩ := h.box s T1 c1 hc1
    exact ⟨k1, us, k2, FRc.map _ (fun _ _ hh => FR.ko hh) k3⟩
  · intro k' o ho
    simp only [St.noOwn, look_del] at ho
    by_cases e : k' = k
    · rw [if_pos e] at ho; cases ho
    · rw [if_neg e] at ho
      obtain ⟨vals, h1, h2, h3⟩ := h.own k' o ho
      simp only [if_neg e]
      exact ⟨vals, h1, h2, h3⟩
  · intro k' o b ho hb
    simp only [St.noOwn, look_del] at ho
    by_cases e : k' = k
    · rw [if_pos e] at ho; cases ho
    · rw [if_neg e] at ho
      simp only [if_neg e] at hb
      exact h.omine k' o b ho hb
  · intro s s' c c' h1 h2 hne
    simp only [St.noOwn, look_mapv] at h1 h2
    obtain ⟨c1, hc1, _⟩ := Option.map_eq_some_iff.1 h1
    obtain ⟨c2, hc2, _⟩ := Option.map_eq_some_iff.1 h2
    exact h.dbb s s' c1 c2 hc1 hc2 hne
  · intro s k' c o h1 h2
    simp only [St.noOwn, look_mapv, look_del] at h1 h2
    obtain ⟨c1, hc1, _⟩ := Option.map_eq_some_iff.1 h1
    by_cases e : k' = k
    · rw [if_pos e] at h2; cases h2
    · rw [if_neg e] at h2
      simp only [if_neg e]
      exact h.dbo s k' c1 o hc1 h2
  · intro k1 k2 o1 o2 h1 h2 hne
    simp only [St.noOwn, look_del] at h1 h2
    by_cases e1 : k1 = k
    · rw [if_pos e1] at h1; cases h1
    · by_cases e2 : k2 = k
      · rw [if_pos e2] at h2; cases h2
      · rw [if_neg e1] at h1
        rw [if_neg e2] at h2
        simp only [if_neg e1, if_neg e2]
        exact h.doo k1 k2 o1 o2 h1 h2 hne

/-- An own slice is put: at a name that none has, with a row that no other has. -/
theorem RpM.putOwn {M : Region} (h : RpM M M0 base g st a w) (hb : Bel base.X base.w w') {d : Nat} (hd : d < st.n) (hno : look d st.own = none) {o : Own} {v : Value} (hν : g.ν d = v)
    (hmv : Mv M w (Mset M0 g { st with own := ins d o st.own }) w')
    (hbx : ∀ s c, look s st.box = some c → w'.heap[g.β s]? = w.heap[g.β s]?)
    (how : ∀ k p b, look k st.own = some p → (g.ν k).ownBlock = some b → w'.heap[b]? = w.heap[b]?)
    {vals : List Value} (hrow : w'.ownsRow 0 o.e o.sz v o.xs.length vals) (hvals : VRc M w o.xs.flatten vals) (hlen : ∀ x ∈ o.xs, x.length = o.sz)
    (hmine : ∀ b, v.ownBlock = some b → base.mine b) (hmp : ∀ k m, look k st.mp = some m → w'.heap[g.μ k]? = w.heap[g.μ k]?)
    (hab : ∀ s c, look s st.box = some c → v.ownBlock ≠ some (g.β s)) (hao : ∀ k p, look k st.own = some p → v.ownBlock = none ∨ v.ownBlock ≠ (g.ν k).ownBlock) :
    Rp M0 base g { st with env := ins d (.own d) st.env, own := ins d o st.own } (a.put (some d) v) w' := by
  have hmv' : Mv M w (Mset M0 g { st with env := ins d (.own d) st.env, own := ins d o st.own }) w' := hmv
  refine ⟨hb, h.m0, h.keep.trans hmv', h.hn, h.pin, by simp [Act.put, h.size], h.defers, ?_, ?_, ?_, ?_, ?_, h.dbb, ?_, ?_, h.dmm⟩
  · intro t fe hf
    simp only [look_ins] at hf
    simp only [Act.put, Array.getElem?_setIfInBounds]
    by_cases e : t = d
    · rw [if_pos e] at hf
      cases hf
      subst e
      have : t < a.tmps.size := by rw [h.size]; exact hd
      exact ⟨v, by simp [this], hν.symm⟩
    · rw [if_neg e] at hf
      obtain ⟨u, hu, hr⟩ := h.env t fe hf
      exact ⟨u, by rw [if_neg (by omega)]; exact hu, FR.mv hmv' hr⟩
  · intro s TT cs hs
    obtain ⟨k1, us, k2, k3⟩ := h.box s TT cs hs
    exact ⟨k1, us, by rw [hbx s _ hs]; exact k2, FRc.mv hmv' k3⟩
  · intro k p hp
    simp only [look_ins] at hp
    by_cases e : k = d
    · rw [if_pos e] at hp
      cases hp
      subst e
      rw [hν]
      exact ⟨vals, hrow, VRc.mv hmv' _ _ hvals, hlen⟩
    · rw [if_neg e] at hp
      obtain ⟨us, h1, h2, h3⟩ := h.own k p hp
      refine ⟨us, ⟨h1.1, h1.2.imp id ?_⟩, VRc.mv hmv' _ _ h2, h3⟩
      rintro ⟨gg, cap, cur, e1, e2, e3, e4⟩
      exact ⟨gg, cap, cur, e1, e2, by rw [how k p gg hp (by rw [e1]; rfl)]; exact e3, e4⟩
  · intro k p b hp hkb
    simp only [look_ins] at hp
    by_cases e : k = d
    · subst e; rw [hν] at hkb; exact hmine b hkb
    · rw [if_neg e] at hp; exact h.omine k p b hp hkb
  · intro k m hq
    obtain ⟨h1, es, cl, h2, h3⟩ := h.map k m hq
    exact ⟨h1, es, cl, by rw [hmp k m hq]; exact h2, h3⟩
  · intro s k c p h1 h2
    simp only [look_ins] at h2
    by_cases e : k = d
    · subst e; rw [hν]; exact hab s c h1
    · rw [if_neg e] at h2; exact h.dbo s k c p h1 h2
  · intro k1 k2 o1 o2 h1 h2 hne
    simp only [look_ins] at h1 h2
    by_cases e1 : k1 = d
    · subst e1
      have e2 : ¬ k2 = k1 := Ne.symm hne
      rw [if_neg e2] at h2
      rw [hν]
      exact hao k2 o2 h2
    · rw [if_neg e1] at h1
      by_cases e2 : k2 = d
      · subst e2
        rw [hν]
        rcases hao k1 o1 h1 with q | q
        · cases hq : (g.ν k1).ownBlock with
          | none => exact .inl rfl
          | some b => exact .inr (by rw [q]; simp)
        · exact .inr (Ne.symm q)
      · rw [if_neg e2] at h2
        exact h.doo k1 k2 o1 o2 h1 h2 hne
end
end Go.Proofs.Ytnoohgiecnmajaa.VC

