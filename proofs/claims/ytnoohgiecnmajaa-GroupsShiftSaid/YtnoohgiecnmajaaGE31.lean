/- A part of the ground of the proof. No condition. -/
import Derived.Test.YtnoohgiecnmajaaGE30

/- The engine, part 31: memory is put aside, and taken back. -/
namespace Go.Proofs.Ytnoohgiecnmajaa.VC
open Go Go.RowKit
set_option linter.unusedVariables false
set_option linter.unusedSimpArgs false

def FE.lo : FE → Bool
  | .ptr s _ => Nat.blt s HI
  | .own k => Nat.blt k HI
  | .optr k _ _ _ => Nat.blt k HI
  | _ => true
def FE.hi : FE → Bool
  | .ptr s _ => Nat.ble HI s
  | .own k => Nat.ble HI k
  | .optr k _ _ _ => Nat.ble HI k
  | .map _ => false
  | _ => true
/-- All names are of the call's own. -/
def St.lo (st : St) : Bool := st.env.all (fun e => e.2.lo) && (st.box.all (fun e => Nat.blt e.1 HI && e.2.2.all FE.lo) && st.own.all (fun e => Nat.blt e.1 HI))
/-- All names are from HI on. -/
def St.hi (st : St) : Bool := st.box.all (fun e => Nat.ble HI e.1 && e.2.2.all FE.hi) && st.own.all (fun e => Nat.ble HI e.1)
theorem look_all {α : Type} {p : Nat × α → Bool} : ∀ {l : List (Nat × α)} {t : Nat} {x : α}, l.all p = true → look t l = some x → p (t, x) = true
  | [], t, x, h, hl => by simp [look] at hl
  | (k, v) :: l, t, x, h, hl => by
    simp only [List.all_cons, Bool.and_eq_true] at h
    rw [look_cons] at hl
    split at hl
    · rename_i e; subst e; cases hl; exact h.1
    · exact look_all h.2 hl
theorem St.lo_env {st : St} (h : st.lo = true) {t : Nat} {fe : FE} (hl : look t st.env = some fe) : fe.lo = true := by
  simp only [St.lo, Bool.and_eq_true] at h
  exact look_all (p := fun e => e.2.lo) h.1 hl
theorem St.lo_box {st : St} (h : st.lo = true) {s : Nat} {c : TypeId × List FE} (hl : look s st.box = some c) : s < HI ∧ c.2.all FE.lo = true := by
  simp only [St.lo, Bool.and_eq_true] at h
  have := look_all (p := fun e => Nat.blt e.1 HI && e.2.2.all FE.lo) h.2.1 hl
  simp only [Bool.and_eq_true] at this
  exact ⟨Nat.le_of_ble_eq_true this.1, this.2⟩
theorem St.lo_own {st : St} (h : st.lo = true) {k : Nat} {o : Own} (hl : look k st.own = some o) : k < HI := by
  simp only [St.lo, Bool.and_eq_true] at h
  exact Nat.le_of_ble_eq_true (look_all (p := fun e => Nat.blt e.1 HI) h.2.2 hl)
theorem St.hi_box {st : St} (h : st.hi = true) {s : Nat} {c : TypeId × List FE} (hl : look s st.box = some c) : HI ≤ s ∧ c.2.all FE.hi = true := by
  simp only [St.hi, Bool.and_eq_true] at h
  have := look_all (p := fun e => Nat.ble HI e.1 && e.2.2.all FE.hi) h.1 hl
  simp only [Bool.and_eq_true] at this
  exact ⟨Nat.le_of_ble_eq_true this.1, this.2⟩
theorem St.hi_own {st : St} (h : st.hi = true) {k : Nat} {o : Own} (hl : look k st.own = some o) : HI ≤ k := by
  simp only [St.hi, Bool.and_eq_true] at h
  exact Nat.le_of_ble_eq_true (look_all (p := fun e => Nat.ble HI e.1) h.2 hl)
theorem FRc.all {g g' : Gh} {M M' : Region} {w w' : World} {p : FE → Bool} (hf : ∀ fe v, p fe = true → FR g M w fe v → FR g' M' w' fe v) : ∀ {cs : List FE} {vs : List Value}, cs.all p = true → FRc g M w cs vs → FRc g' M' w' cs vs
  | [], vs, _, h => h
  | c :: cs, vs, hc, h => by
    simp only [List.all_cons, Bool.and_eq_true] at hc
    simp only [FRc] at h ⊢
    obtain ⟨v, vs', h1, h2, h3, h4⟩ := h
    exact ⟨v, vs', h1, hf _ _ hc.1 h2, h3, FRc.all hf hc.2 h4⟩

section
variable {M M0 M1 M2 : Region} {base base1 base2 : Bs} {g g' : Gh} {st st1 h : St} {a : Act} {w w' : World}

/-- A temporary is told in other words. -/
theorem Rp.retell (hp : Rp M0 base g st a w) {t : Nat} {fe : FE} (fe' : FE) (hl : look t st.env = some fe) (hf : ∀ v, FR g (Mset M0 g st) w fe v → FR g (Mset M0 g st) w fe' v) : Rp M0 base g (st.put t fe') a w := by
  refine ⟨hp.below, hp.m0, hp.keep, hp.hn, hp.pin, hp.size, hp.defers, ?_, hp.box, hp.own, hp.omine, hp.map, hp.dbb, hp.dbo, hp.doo, hp.dmm⟩
  intro t' f hf'
  simp only [St.put, look_ins] at hf'
  by_cases e : t' = t
  · rw [if_pos e] at hf'
    cases hf'
    subst e
    obtain ⟨v, h1, h2⟩ := hp.env t' _ hl
    exact ⟨v, h1, hf v h2⟩
  · rw [if_neg e] at hf'
    exact hp.env t' f hf'
/-- What is told of less. -/
structure Sub (st1 st : St) : Prop where
  n : st1.n = st.n
  env : ∀ t x, look t st1.env = some x → look t st.env = some x
  box : ∀ t x, look t st1.box = some x → look t st.box = some x
  own : ∀ t x, look t st1.own = some x → look t st.own = some x
  mp : st1.mp = st.mp
theorem Mset_sub (M0 : Region) (g : Gh) (hb : ∀ t x, look t st1.box = some x → look t st.box = some x) (ho : ∀ t x, look t st1.own = some x → look t st.own = some x) {b off : Nat} (hh : Mset M0 g st1 b off) : Mset M0 g st b off := by
  rcases hh with hh | ⟨s, c, h1, h2⟩ | ⟨k, o, h1, h2⟩
  · exact .inl hh
  · exact .inr (.inl ⟨s, c, hb _ _ h1, h2⟩)
  · exact .inr (.inr ⟨k, o, ho _ _ h1, h2⟩)
theorem Rp.sub (hp : Rp M0 base g st a w) (hs : Sub st1 st) : Rp M0 base g st1 a w := by
  have hm : Mv (Mset M0 g st) w (Mset M0 g st1) w := ⟨fun b off u hu hn => ⟨hu, fun hh => hn (Mset_sub M0 g hs.box hs.own hh)⟩⟩
  refine ⟨hp.below, hp.m0, hp.keep.trans hm, by rw [hs.n]; exact hp.hn, hp.pin, by rw [hs.n]; exact hp.size, hp.defers, ?_, ?_, ?_, fun k o b hk => hp.omine k o b (hs.own _ _ hk), by rw [hs.mp]; exact hp.map,
    fun s s' c c' h1 h2 => hp.dbb s s' c c' (hs.box _ _ h1) (hs.box _ _ h2), fun s k c o h1 h2 => hp.dbo s k c o (hs.box _ _ h1) (hs.own _ _ h2), fun k k' o o' h1 h2 => hp.doo k k' o o' (hs.own _ _ h1) (hs.own _ _ h2), by rw [hs.mp]; exact hp.dmm⟩
  · intro t fe hf
    obtain ⟨v, h1, h2⟩ := hp.env t fe (hs.env _ _ hf)
    exact ⟨v, h1, FR.mv hm h2⟩
  · intro s T cs hq
    obtain ⟨k1, vs, k2, k3⟩ := hp.box s T cs (hs.box _ _ hq)
    exact ⟨k1, vs, k2, FRc.mv hm k3⟩
  · intro k o ho
    obtain ⟨vals, q1, q2, q3⟩ := hp.own k o (hs.own _ _ ho)
    exact ⟨vals, q1, VRc.mv hm _ _ q2, q3⟩

/-- The blocks of a state. -/
def HB (g : Gh) (h : St) (k : Nat) : Prop := (∃ s c, look s h.box = some c ∧ g.β s = k) ∨ (∃ i o, look i h.own = some o ∧ (g.ν i).ownBlock = some k)
theorem HB.cells {M : Region} (hp : RpM M M0 base g h a w) {k : Nat} (hk : HB g h k) : ∃ cs e, w.heap[k]? = some (.cells cs e (0, 0)) := by
  rcases hk with ⟨s, c, h1, rfl⟩ | ⟨i, o, h1, h2⟩
  · obtain ⟨_, vs, h3, _⟩ := hp.box s c.1 c.2 h1
    exact ⟨_, _, h3⟩
  · obtain ⟨vals, q1, _⟩ := hp.own i o h1
    obtain ⟨cur, hc⟩ := own_cells q1 h2
    exact ⟨_, _, hc⟩
theorem HB.lt {M : Region} (hp : RpM M M0 base g h a w) {k : Nat} (hk : HB g h k) : k < w.heap.size := by
  obtain ⟨cs, e, hc⟩ := HB.cells hp hk
  exact (Array.getElem?_eq_some_iff.1 hc).1
theorem HB.mine {M : Region} (hp : RpM M M0 base g h a w) {k : Nat} (hk : HB g h k) : base.mine k := by
  rcases hk with ⟨s, c, h1, rfl⟩ | ⟨i, o, h1, h2⟩
  · exact (hp.box s c.1 c.2 h1).1
  · exact hp.omine i o k h1 h2
/-- Memory that was put aside, and the call's base from then on. -/
structure Hid (M1 : Region) (base1 : Bs) (g : Gh) (h : St) (M2 : Region) (base2 : Bs) : Prop where
  hp : RpM base2.MB M1 base1 g h a0 base2.w
  hm : ∀ b off, Mset M1 g h b off → M2 b off
  hx : ∀ k, base2.X k → base1.mine k
  hy : ∀ k, HB g h k → ¬ base2.X k
  hμ : ∀ s, base2.μ s = base1.μ s
theorem Rp.hide (hp : Rp M1 base1 g st a w) (hs : Sub st1 st) (b2 : ∀ t x, look t h.box = some x → look t st.box = some x) (o2 : ∀ t x, look t h.own = some x → look t st.own = some x)
    (b3 : ∀ t x y, look t st1.box = some x → look t h.box = some y → False) (o3 : ∀ t x y, look t st1.own = some x → look t h.own = some y → False) (h0 : h.n = 0 ∧ h.env = [] ∧ h.mp = []) :
    Rp (Mset M1 g h) ⟨w, fun k => base1.mine k ∧ ¬ HB g h k, Mset M1 g st, base1.β, base1.μ⟩ g st1 a w ∧ Hid M1 base1 g h (Mset M1 g h) ⟨w, fun k => base1.mine k ∧ ¬ HB g h k, Mset M1 g st, base1.β, base1.μ⟩ := by
  have hh : RpM (Mset M1 g st) M1 base1 g h a0 w := by
    refine ⟨hp.below, hp.m0, hp.keep, by rw [h0.1]; exact Nat.zero_le _, hp.pin, by rw [h0.1]; rfl, rfl, fun t fe hf => by rw [h0.2.1] at hf; simp [look] at hf, fun s T cs hq => hp.box s T cs (b2 _ _ hq), fun k o ho => hp.own k o (o2 _ _ ho), fun k o b hk => hp.omine k o b (o2 _ _ hk),
      fun k m hq => by rw [h0.2.2] at hq; simp [look] at hq, fun s s' c c' h1 h2 => hp.dbb s s' c c' (b2 _ _ h1) (b2 _ _ h2), fun s k c o h1 h2 => hp.dbo s k c o (b2 _ _ h1) (o2 _ _ h2), fun k k' o o' h1 h2 => hp.doo k k' o o' (o2 _ _ h1) (o2 _ _ h2), fun k k' m m' h1 h2 => by rw [h0.2.2] at h1; simp [look] at h1⟩
  have hsub : ∀ b off, Mset (Mset M1 g h) g st1 b off → Mset M1 g st b off := by
    rintro b off (q | ⟨s, c, h1, h2⟩ | ⟨k, o, h1, h2⟩)
    · exact Mset_sub M1 g b2 o2 q
    · exact .inr (.inl ⟨s, c, hs.box _ _ h1, h2⟩)
    · exact .inr (.inr ⟨k, o, hs.own _ _ h1, h2⟩)
  have hm : Mv (Mset M1 g st) w (Mset (Mset M1 g h) g st1) w := ⟨fun b off u hu hn => ⟨hu, fun q => hn (hsub b off q)⟩⟩
  refine ⟨⟨Bel.refl _ _, ?_, hm, by rw [hs.n]; exact hp.hn, hp.pin, by rw [hs.n]; exact hp.size, hp.defers, ?_, ?_, ?_, ?_, ?_,
    fun s s' c c' h1 h2 => hp.dbb s s' c c' (hs.box _ _ h1) (hs.box _ _ h2), fun s k c o h1 h2 => hp.dbo s k c o (hs.box _ _ h1) (hs.own _ _ h2), fun k k' o o' h1 h2 => hp.doo k k' o o' (hs.own _ _ h1) (hs.own _ _ h2), by rw [hs.mp]; exact hp.dmm⟩, ⟨hh, fun _ _ q => q, fun k q => q.1, fun k q q' => q'.2 q, fun _ => rfl⟩⟩
  · intro b off q
    have key : HB g h b → b < w.heap.size ∧ ¬ (base1.mine b ∧ ¬ HB g h b) := fun hk => ⟨HB.lt hh hk, fun q => q.2 hk⟩
    rcases q with q | ⟨s, c, h1, h2⟩ | ⟨k, o, h1, h2, h3⟩
    · obtain ⟨q1, q2⟩ := hp.m0 b off q
      refine ⟨Nat.lt_of_lt_of_le q1 hp.below.size, fun q => ?_⟩
      rcases q.1 with q | q
      · omega
      · exact q2 q
    · exact key (.inl ⟨s, c, h1, h2⟩)
    · exact key (.inr ⟨k, o, h1, h2⟩)
  · intro t fe hf
    obtain ⟨v, h1, h2⟩ := hp.env t fe (hs.env _ _ hf)
    exact ⟨v, h1, FR.mv hm h2⟩
  · intro s T cs hq
    obtain ⟨k1, vs, k2, k3⟩ := hp.box s T cs (hs.box _ _ hq)
    refine ⟨.inr ⟨k1, ?_⟩, vs, k2, FRc.mv hm k3⟩
    rintro (⟨s', c', h1, h2⟩ | ⟨i, o, h1, h2⟩)
    · have hne : s' ≠ s := fun e => b3 s _ _ hq (by rw [← e]; exact h1)
      exact hp.dbb s' s c' _ (b2 _ _ h1) (hs.box _ _ hq) hne h2
    · exact hp.dbo s i _ o (hs.box _ _ hq) (o2 _ _ h1) h2
  · intro k o ho
    obtain ⟨vals, q1, q2, q3⟩ := hp.own k o (hs.own _ _ ho)
    exact ⟨vals, q1, VRc.mv hm _ _ q2, q3⟩
  · intro k o b ho hb
    refine .inr ⟨hp.omine k o b (hs.own _ _ ho) hb, ?_⟩
    rintro (⟨s', c', h1, h2⟩ | ⟨i, o', h1, h2⟩)
    · exact hp.dbo s' k c' o (b2 _ _ h1) (hs.own _ _ ho) (by rw [hb, h2])
    · have hne : i ≠ k := fun e => o3 k _ _ ho (by rw [← e]; exact h1)
      rcases hp.doo i k o' o (o2 _ _ h1) (hs.own _ _ ho) hne with q | q
      · rw [h2] at q; cases q
      · exact q (h2.trans hb.symm)
  · intro k m hq
    rw [hs.mp] at hq
    obtain ⟨q1, es, cl, q2, q3⟩ := hp.map k m hq
    refine ⟨.inr ⟨q1, fun hk => ?_⟩, es, cl, q2, q3⟩
    obtain ⟨cs, e, hc⟩ := HB.cells hh hk
    rw [q2] at hc
    cases hc
/-- A state and what was put aside. -/
def St.join (st h : St) : St := { n := st.n, env := st.env, box := app st.box h.box, own := app st.own h.own, mp := st.mp }
def gJoin (base1 : Bs) (g g' : Gh) : Gh := ⟨fun s => if HI ≤ s then base1.β s else g'.β s, fun k => if HI ≤ k then g.ν k else g'.ν k, g'.μ⟩
theorem Hid.back (H : Hid M1 base1 g h M2 base2) (hp : Rp M2 base2 g' st a w) (hlo : st.lo = true) (hhi : h.hi = true) : Rp M1 base1 (gJoin base1 g g') (st.join h) a w := by
  obtain ⟨g2, hg2⟩ : ∃ g2, g2 = gJoin base1 g g' := ⟨_, rfl⟩
  rw [← hg2]
  have βl : ∀ s, s < HI → g2.β s = g'.β s := fun s hs => by rw [hg2]; simp only [gJoin]; rw [if_neg (by omega)]
  have βh : ∀ s, HI ≤ s → g2.β s = base1.β s := fun s hs => by rw [hg2]; simp only [gJoin]; rw [if_pos hs]
  have νl : ∀ s, s < HI → g2.ν s = g'.ν s := fun s hs => by rw [hg2]; simp only [gJoin]; rw [if_neg (by omega)]
  have νh : ∀ s, HI ≤ s → g2.ν s = g.ν s := fun s hs => by rw [hg2]; simp only [gJoin]; rw [if_pos hs]
  have μe : ∀ s, g2.μ s = g'.μ s := fun s => by rw [hg2]; rfl
  have βg : ∀ s, HI ≤ s → g2.β s = g.β s := fun s hs => by rw [βh s hs, (H.hp.pin s hs).1]
  have lb : ∀ {s c}, look s (app st.box h.box) = some c → (s < HI ∧ look s st.box = some c) ∨ (HI ≤ s ∧ look s h.box = some c) := by
    intro s c q
    rw [look_app] at q
    cases e : look s st.box with
    | some x => rw [e] at q; cases q; exact .inl ⟨(St.lo_box hlo e).1, rfl⟩
    | none => rw [e] at q; exact .inr ⟨(St.hi_box hhi q).1, q⟩
  have lw : ∀ {k o}, look k (app st.own h.own) = some o → (k < HI ∧ look k st.own = some o) ∨ (HI ≤ k ∧ look k h.own = some o) := by
    intro k o q
    rw [look_app] at q
    cases e : look k st.own with
    | some x => rw [e] at q; cases q; exact .inl ⟨St.lo_own hlo e, rfl⟩
    | none => rw [e] at q; exact .inr ⟨St.hi_own hhi q, q⟩
  have hsub : ∀ b off, Mset M1 g2 (st.join h) b off → Mset M2 g' st b off := by
    rintro b off (q | ⟨s, c, h1, h2⟩ | ⟨k, o, h1, h2, h3⟩)
    · exact .inl (H.hm _ _ (.inl q))
    · rcases lb h1 with ⟨q1, q2⟩ | ⟨q1, q2⟩
      · exact .inr (.inl ⟨s, c, q2, by rw [← βl s q1]; exact h2⟩)
      · exact .inl (H.hm _ _ (.inr (.inl ⟨s, c, q2, by rw [← βg s q1]; exact h2⟩)))
    · rcases lw h1 with ⟨q1, q2⟩ | ⟨q1, q2⟩
      · exact .inr (.inr ⟨k, o, q2, by rw [← νl k q1]; exact h2, h3⟩)
      · exact .inl (H.hm _ _ (.inr (.inr ⟨k, o, q2, by rw [← νh k q1]; exact h2, h3⟩)))
  have mvA : Mv (Mset M2 g' st) w (Mset M1 g2 (st.join h)) w := ⟨fun b off u hu hn => ⟨hu, fun q => hn (hsub b off q)⟩⟩
  have mvB : Mv base2.MB base2.w (Mset M1 g2 (st.join h)) w := hp.keep.trans mvA
  have mine1 : ∀ k, base2.mine k → base1.mine k := fun k q => by
    rcases q with q | q
    · exact .inl (Nat.le_trans H.hp.below.size q)
    · exact H.hx k q
  have hold : ∀ k, HB g h k → w.heap[k]? = base2.w.heap[k]? := fun k q => hp.below.block k (HB.lt H.hp q) (H.hy k q)
  have sep : ∀ k, base2.mine k → ¬ HB g h k := fun k q q' => by
    rcases q with q | q
    · have := HB.lt H.hp q'; omega
    · exact H.hy k q' q
  have frl : ∀ fe v, FE.lo fe = true → FR g' (Mset M2 g' st) w fe v → FR g2 (Mset M1 g2 (st.join h)) w fe v := by
    intro fe v hl hf
    cases fe with
    | pv x => exact VR.mv mvA x v hf
    | ptr s off => simp only [FR] at hf ⊢; rw [βl s (Nat.le_of_ble_eq_true hl)]; exact hf
    | rptr cs => obtain ⟨b, off, h1, h2⟩ := hf; exact ⟨b, off, h1, Cells.mv mvA b off cs h2⟩
    | own k => simp only [FR] at hf ⊢; rw [νl k (Nat.le_of_ble_eq_true hl)]; exact hf
    | optr k sz i off => simp only [FR] at hf ⊢; rw [νl k (Nat.le_of_ble_eq_true hl)]; exact hf
    | map k => simp only [FR] at hf ⊢; rw [μe]; exact hf
    | dead => trivial
  have frh : ∀ fe v, FE.hi fe = true → FR g base2.MB base2.w fe v → FR g2 (Mset M1 g2 (st.join h)) w fe v := by
    intro fe v hl hf
    cases fe with
    | pv x => exact VR.mv mvB x v hf
    | ptr s off => simp only [FR] at hf ⊢; rw [βg s (Nat.le_of_ble_eq_true hl)]; exact hf
    | rptr cs => obtain ⟨b, off, h1, h2⟩ := hf; exact ⟨b, off, h1, Cells.mv mvB b off cs h2⟩
    | own k => simp only [FR] at hf ⊢; rw [νh k (Nat.le_of_ble_eq_true hl)]; exact hf
    | optr k sz i off => simp only [FR] at hf ⊢; rw [νh k (Nat.le_of_ble_eq_true hl)]; exact hf
    | map k => cases hl
    | dead => trivial
  refine ⟨⟨hp.below.os.trans H.hp.below.os, hp.below.tape.trans H.hp.below.tape, hp.below.output.trans H.hp.below.output, Nat.le_trans H.hp.below.size hp.below.size, ?_⟩, H.hp.m0, H.hp.keep.trans mvB, hp.hn, ?_, hp.size, hp.defers, ?_, ?_, ?_, ?_, ?_, ?_, ?_, ?_, ?_⟩
  · intro k hk hx
    have hn : ¬ base2.X k := fun q => by
      rcases H.hx k q with q | q
      · omega
      · exact hx q
    exact (hp.below.block k (Nat.lt_of_lt_of_le hk H.hp.below.size) hn).trans (H.hp.below.block k hk hx)
  · intro s hs
    exact ⟨βh s hs, by rw [μe, (hp.pin s hs).2, H.hμ]⟩
  · intro t fe hf
    obtain ⟨v, h1, h2⟩ := hp.env t fe hf
    exact ⟨v, h1, frl fe v (St.lo_env hlo hf) h2⟩
  · intro s T cs hs
    rcases lb hs with ⟨q1, q2⟩ | ⟨q1, q2⟩
    · obtain ⟨k1, vs, k2, k3⟩ := hp.box s T cs q2
      rw [βl s q1]
      exact ⟨mine1 _ k1, vs, k2, FRc.all (p := FE.lo) frl (St.lo_box hlo q2).2 k3⟩
    · obtain ⟨k1, vs, k2, k3⟩ := H.hp.box s T cs q2
      rw [βg s q1]
      exact ⟨k1, vs, by rw [hold _ (.inl ⟨s, _, q2, rfl⟩)]; exact k2, FRc.all (p := FE.hi) frh (St.hi_box hhi q2).2 k3⟩
  · intro k o ho
    rcases lw ho with ⟨q1, q2⟩ | ⟨q1, q2⟩
    · obtain ⟨vals, k1, k2, k3⟩ := hp.own k o q2
      rw [νl k q1]
      exact ⟨vals, k1, VRc.mv mvA _ _ k2, k3⟩
    · obtain ⟨vals, k1, k2, k3⟩ := H.hp.own k o q2
      rw [νh k q1]
      refine ⟨vals, ⟨k1.1, k1.2.imp id ?_⟩, VRc.mv mvB _ _ k2, k3⟩
      rintro ⟨gg, cap, cur, e1, e2, e3, e4⟩
      exact ⟨gg, cap, cur, e1, e2, by rw [hold gg (.inr ⟨k, o, q2, by rw [e1]; rfl⟩)]; exact e3, e4⟩
  · intro k o b ho hb
    rcases lw ho with ⟨q1, q2⟩ | ⟨q1, q2⟩
    · rw [νl k q1] at hb; exact mine1 _ (hp.omine k o b q2 hb)
    · rw [νh k q1] at hb; exact H.hp.omine k o b q2 hb
  · intro k m hq
    obtain ⟨q1, es, cl, q2, q3⟩ := hp.map k m hq
    rw [μe]
    exact ⟨mine1 _ q1, es, cl, q2, q3⟩
  · intro s s' c c' h1 h2 hne
    rcases lb h1 with ⟨p1, p2⟩ | ⟨p1, p2⟩ <;> rcases lb h2 with ⟨q1, q2⟩ | ⟨q1, q2⟩
    · rw [βl s p1, βl s' q1]; exact hp.dbb s s' c c' p2 q2 hne
    · rw [βl s p1, βg s' q1]; exact fun e => sep _ (hp.box s c.1 c.2 p2).1 (.inl ⟨s', c', q2, e.symm⟩)
    · rw [βg s p1, βl s' q1]; exact fun e => sep _ (hp.box s' c'.1 c'.2 q2).1 (.inl ⟨s, c, p2, e⟩)
    · rw [βg s p1, βg s' q1]; exact H.hp.dbb s s' c c' p2 q2 hne
  · intro s k c o h1 h2
    rcases lb h1 with ⟨p1, p2⟩ | ⟨p1, p2⟩ <;> rcases lw h2 with ⟨q1, q2⟩ | ⟨q1, q2⟩
    · rw [βl s p1, νl k q1]; exact hp.dbo s k c o p2 q2
    · rw [βl s p1, νh k q1]; exact fun e => sep _ (hp.box s c.1 c.2 p2).1 (.inr ⟨k, o, q2, e⟩)
    · rw [βg s p1, νl k q1]; exact fun e => sep _ (hp.omine k o _ q2 e) (.inl ⟨s, c, p2, rfl⟩)
    · rw [βg s p1, νh k q1]; exact H.hp.dbo s k c o p2 q2
  · intro k k' o o' h1 h2 hne
    rcases lw h1 with ⟨p1, p2⟩ | ⟨p1, p2⟩ <;> rcases lw h2 with ⟨q1, q2⟩ | ⟨q1, q2⟩
    · rw [νl k p1, νl k' q1]; exact hp.doo k k' o o' p2 q2 hne
    · rw [νl k p1, νh k' q1]
      cases e : (g'.ν k).ownBlock with
      | none => exact .inl rfl
      | some b => exact .inr fun e2 => sep b (hp.omine k o b p2 e) (.inr ⟨k', o', q2, e2.symm⟩)
    · rw [νh k p1, νl k' q1]
      cases e : (g.ν k).ownBlock with
      | none => exact .inl rfl
      | some b => exact .inr fun e2 => sep b (hp.omine k' o' b q2 e2.symm) (.inr ⟨k, o, p2, e⟩)
    · rw [νh k p1, νh k' q1]; exact H.hp.doo k k' o o' p2 q2 hne
  · intro k k' m m' h1 h2 hne
    rw [μe, μe]
    exact hp.dmm k k' m m' h1 h2 hne
/-- A box gets the name HI. -/
def FE.rb (d : Nat) : FE → FE
  | .ptr s off => if s = d then .ptr HI off else .ptr s off
  | x => x
def St.rnb (st : St) (d : Nat) (c : TypeId × List FE) : St := { n := st.n, env := mapv (FE.rb d) st.env, box := (HI, (c.1, c.2.map (FE.rb d))) :: mapv (fun c => (c.1, c.2.map (FE.rb d))) (del d st.box), own := st.own, mp := st.mp }
def Bs.at (base : Bs) (b : Nat) : Bs := { base with β := fun s => if s = HI then b else base.β s }
theorem Rp.renBox (hp : Rp M0 base g st a w) {d : Nat} {c : TypeId × List FE} (hd : look d st.box = some c) (hlo : st.lo = true) : Rp M0 (base.at (g.β d)) { g with β := fun s => if s = HI then g.β d else g.β s } (st.rnb d c) a w := by
  obtain ⟨g2, hg2⟩ : ∃ g2 : Gh, g2 = { g with β := fun s => if s = HI then g.β d else g.β s } := ⟨_, rfl⟩
  rw [← hg2]
  have hdl := (St.lo_box hlo hd).1
  have βl : ∀ s, s < HI → g2.β s = g.β s := fun s hs => by rw [hg2]; show (if s = HI then g.β d else g.β s) = _; rw [if_neg (by omega)]
  have βh : g2.β HI = g.β d := by rw [hg2]; show (if HI = HI then g.β d else g.β HI) = _; rw [if_pos rfl]
  have ν0 : g2.ν = g.ν := by rw [hg2]
  have μ0 : g2.μ = g.μ := by rw [hg2]
  have lb : ∀ {s c'}, look s (st.rnb d c).box = some c' → (s = HI ∧ c' = (c.1, c.2.map (FE.rb d))) ∨ (s < HI ∧ s ≠ d ∧ ∃ c2, look s st.box = some c2 ∧ c' = (c2.1, c2.2.map (FE.rb d))) := by
    intro s c' q
    simp only [St.rnb, look_cons] at q
    by_cases e : HI = s
    · rw [if_pos e] at q; cases q; exact .inl ⟨e.symm, rfl⟩
    · rw [if_neg e, look_mapv, look_del] at q
      by_cases e2 : s = d
      · rw [if_pos e2] at q; cases q
      · rw [if_neg e2] at q
        obtain ⟨c2, h1, h2⟩ := Option.map_eq_some_iff.1 q
        exact .inr ⟨(St.lo_box hlo h1).1, e2, c2, h1, h2.symm⟩
  have hsub : ∀ b off, Mset M0 g2 (st.rnb d c) b off → Mset M0 g st b off := by
    rintro b off (q | ⟨s, c', h1, h2⟩ | ⟨k, o, h1, h2, h3⟩)
    · exact .inl q
    · rcases lb h1 with ⟨rfl, _⟩ | ⟨q1, _, c2, q2, _⟩
      · exact .inr (.inl ⟨d, c, hd, by rw [← βh]; exact h2⟩)
      · exact .inr (.inl ⟨s, c2, q2, by rw [← βl s q1]; exact h2⟩)
    · rw [ν0] at h2; exact .inr (.inr ⟨k, o, h1, h2, h3⟩)
  have mv : Mv (Mset M0 g st) w (Mset M0 g2 (st.rnb d c)) w := ⟨fun b off u hu hn => ⟨hu, fun q => hn (hsub b off q)⟩⟩
  have fr : ∀ fe v, FE.lo fe = true → FR g (Mset M0 g st) w fe v → FR g2 (Mset M0 g2 (st.rnb d c)) w (FE.rb d fe) v := by
    intro fe v hl hf
    cases fe with
    | pv x => exact VR.mv mv x v hf
    | ptr s off =>
      simp only [FE.rb]
      have hf : v = .pointer (some ⟨g.β s, off, none⟩) := hf
      split
      · rename_i e; simp only [FR]; rw [βh, hf, e]
      · simp only [FR]; rw [βl s (Nat.le_of_ble_eq_true hl)]; exact hf
    | rptr cs => obtain ⟨b, off, h1, h2⟩ := hf; exact ⟨b, off, h1, Cells.mv mv b off cs h2⟩
    | own k => simp only [FE.rb, FR] at hf ⊢; rw [ν0]; exact hf
    | optr k sz i off => simp only [FE.rb, FR] at hf ⊢; rw [ν0]; exact hf
    | map k => simp only [FE.rb, FR] at hf ⊢; rw [μ0]; exact hf
    | dead => trivial
  have frc : ∀ (cs : List FE) (vs : List Value), cs.all FE.lo = true → FRc g (Mset M0 g st) w cs vs → FRc g2 (Mset M0 g2 (st.rnb d c)) w (cs.map (FE.rb d)) vs := by
    intro cs
    induction cs with
    | nil => intro vs _ hf; exact hf
    | cons x cs ih =>
      intro vs hc hf
      simp only [List.all_cons, Bool.and_eq_true] at hc
      simp only [List.map_cons, FRc] at hf ⊢
      obtain ⟨v, vs', q1, q2, q3, q4⟩ := hf
      exact ⟨v, vs', q1, fr _ _ hc.1 q2, q3, ih _ hc.2 q4⟩
  refine ⟨hp.below, hp.m0, hp.keep.trans mv, hp.hn, ?_, hp.size, hp.defers, ?_, ?_, ?_, ?_, ?_, ?_, ?_, ?_, ?_⟩
  · intro s hs
    refine ⟨?_, by rw [μ0]; exact (hp.pin s hs).2⟩
    rw [hg2]
    show (if s = HI then g.β d else g.β s) = (if s = HI then g.β d else base.β s)
    split
    · rfl
    · exact (hp.pin s hs).1
  · intro t fe hf
    simp only [St.rnb, look_mapv] at hf
    obtain ⟨fe', h1, rfl⟩ := Option.map_eq_some_iff.1 hf
    obtain ⟨v, h2, h3⟩ := hp.env t fe' h1
    exact ⟨v, h2, fr _ _ (St.lo_env hlo h1) h3⟩
  · intro s T cs hs
    rcases lb hs with ⟨rfl, e⟩ | ⟨q1, _, c2, q2, e⟩
    · cases e
      obtain ⟨k1, vs, k2, k3⟩ := hp.box d c.1 c.2 hd
      rw [βh]
      exact ⟨k1, vs, k2, frc _ _ (St.lo_box hlo hd).2 k3⟩
    · cases e
      obtain ⟨k1, vs, k2, k3⟩ := hp.box s c2.1 c2.2 q2
      rw [βl s q1]
      exact ⟨k1, vs, k2, frc _ _ (St.lo_box hlo q2).2 k3⟩
  · intro k o ho
    obtain ⟨vals, k1, k2, k3⟩ := hp.own k o ho
    rw [ν0]
    exact ⟨vals, k1, VRc.mv mv _ _ k2, k3⟩
  · intro k o b ho hb; rw [ν0] at hb; exact hp.omine k o b ho hb
  · intro k m hq; rw [μ0]; exact hp.map k m hq
  · intro s s' c1 c2 h1 h2 hne
    rcases lb h1 with ⟨rfl, _⟩ | ⟨p1, p2, x, p3, _⟩ <;> rcases lb h2 with ⟨rfl, _⟩ | ⟨q1, q2, y, q3, _⟩
    · exact absurd rfl hne
    · rw [βh, βl s' q1]; exact hp.dbb d s' c y hd q3 (fun e => q2 e.symm)
    · rw [βh, βl s p1]; exact hp.dbb s d x c p3 hd p2
    · rw [βl s p1, βl s' q1]; exact hp.dbb s s' x y p3 q3 hne
  · intro s k c1 o h1 h2
    rw [ν0]
    rcases lb h1 with ⟨rfl, _⟩ | ⟨p1, p2, x, p3, _⟩
    · rw [βh]; exact hp.dbo d k c o hd h2
    · rw [βl s p1]; exact hp.dbo s k x o p3 h2
  · intro k k' o o' h1 h2 hne; rw [ν0]; exact hp.doo k k' o o' h1 h2 hne
  · intro k k' m m' h1 h2 hne; rw [μ0]; exact hp.dmm k k' m m' h1 h2 hne
end
end Go.Proofs.Ytnoohgiecnmajaa.VC

