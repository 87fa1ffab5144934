/- A part of the ground of the proof. No condition. -/
import Derived.Test.YtnoohgiecnmajaaGE0

/- The engine, part 1: a state told by value, and what it means of a frame and a world. -/
namespace Go.Proofs.Ytnoohgiecnmajaa.VC
open Go Go.RowKit
set_option linter.unusedVariables false
set_option linter.unusedSimpArgs false

/-- What a temporary (or a cell of a box) holds: a value; the address of a box's cell; the address of cells that stay; a slice of the call's own; the address of one of its cells; nothing that is known. -/
inductive FE where
  | pv (x : SV)
  | ptr (s off : Nat)
  | rptr (cs : List SV)
  | own (k : Nat)
  | optr (k sz i off : Nat)
  | map (k : Nat)
  | dead
  deriving Inhabited
structure Own where
  sz : Nat
  e : TypeId
  virgin : Bool
  xs : List (List SV)
/-- A map of the call's own: its keys and what they lead to. -/
abbrev Mp := List (Value × Value)
structure St where
  n : Nat
  env : List (Nat × FE)
  box : List (Nat × (TypeId × List FE))
  own : List (Nat × Own)
  mp : List (Nat × Mp)

def look {α : Type} (t : Nat) : List (Nat × α) → Option α
  | [] => none
  | (k, v) :: l => if k = t then some v else look t l
def del {α : Type} (t : Nat) : List (Nat × α) → List (Nat × α)
  | [] => []
  | (k, v) :: l => if k = t then del t l else (k, v) :: del t l
def ins {α : Type} (t : Nat) (v : α) (l : List (Nat × α)) : List (Nat × α) := (t, v) :: l
theorem look_nil {α : Type} (u : Nat) : look u ([] : List (Nat × α)) = none := rfl
theorem look_cons {α : Type} (u k : Nat) (v : α) (l : List (Nat × α)) : look u ((k, v) :: l) = if k = u then some v else look u l := rfl
theorem look_del {α : Type} (t u : Nat) : ∀ l : List (Nat × α), look u (del t l) = if u = t then none else look u l
  | [] => by simp [look, del]
  | (k, v) :: l => by
    have ih := look_del t u l
    have e : del t ((k, v) :: l) = if k = t then del t l else (k, v) :: del t l := rfl
    rw [e, look_cons]
    by_cases h : k = t
    · rw [if_pos h, ih]
      by_cases h2 : u = t
      · rw [if_pos h2, if_pos h2]
      · rw [if_neg h2, if_neg h2, if_neg (by omega)]
    · rw [if_neg h, look_cons, ih]
      by_cases h2 : u = t
      · rw [if_pos h2, if_pos h2, if_neg (by omega)]
      · rw [if_neg h2, if_neg h2]
theorem look_ins {α : Type} (t u : Nat) (v : α) (l : List (Nat × α)) : look u (ins t v l) = if u = t then some v else look u l := by
  unfold ins
  rw [look_cons]
  by_cases h : u = t
  · rw [if_pos h.symm, if_pos h]
  · rw [if_neg (Ne.symm h), if_neg h]
def mapv {α β : Type} (f : α → β) : List (Nat × α) → List (Nat × β)
  | [] => []
  | (k, v) :: l => (k, f v) :: mapv f l
theorem look_mapv {α β : Type} (f : α → β) (u : Nat) : ∀ l : List (Nat × α), look u (mapv f l) = (look u l).map f
  | [] => by simp [look, mapv]
  | (k, v) :: l => by
    have e : mapv f ((k, v) :: l) = (k, f v) :: mapv f l := rfl
    rw [e, look_cons, look_cons, look_mapv f u l]
    by_cases h : k = u <;> simp [h]
/-- Some entries alone, in an order of their own. -/
def sel {α : Type} : List Nat → List (Nat × α) → List (Nat × α)
  | [], _ => []
  | t :: ts, l => match look t l with | some v => (t, v) :: sel ts l | none => sel ts l
theorem look_sel_some {α : Type} {u : Nat} {l : List (Nat × α)} {x : α} : ∀ {ts : List Nat}, look u (sel ts l) = some x → look u l = some x
  | [], h => by simp [sel, look] at h
  | t :: ts, h => by
    unfold sel at h
    split at h
    · rename_i v hv
      rw [look_cons] at h
      split at h
      · rename_i e; subst e; cases h; exact hv
      · exact look_sel_some h
    · exact look_sel_some h

/-- Ghosts: where a box lies; what an own slice is. -/
structure Gh where
  β : Nat → Nat
  ν : Nat → Value
  μ : Nat → Nat
/-- Names from here on are of what the call was handed. -/
def HI : Nat := 1000000
/-- What was there when the call began: the world; the blocks that the call was handed; what no reading may meet; where what it was handed lies. -/
structure Bs where
  w : World
  X : Nat → Prop
  MB : Region
  β : Nat → Nat
  μ : Nat → Nat
def Bs.mine (b : Bs) (k : Nat) : Prop := b.w.heap.size ≤ k ∨ b.X k
/-- But the blocks of X all that was there is as it was. -/
structure Bel (X : Nat → Prop) (w w' : World) : Prop where
  os : w'.os = w.os
  tape : w'.tape = w.tape
  output : w'.output = w.output
  size : w.heap.size ≤ w'.heap.size
  block : ∀ k, k < w.heap.size → ¬ X k → w'.heap[k]? = w.heap[k]?
theorem Bel.refl (X : Nat → Prop) (w : World) : Bel X w w := ⟨rfl, rfl, rfl, Nat.le_refl _, fun _ _ _ => rfl⟩
theorem Bel.step {base : Bs} {w w' : World} (h : Bel base.X base.w w) (ho : w'.os = w.os) (ht : w'.tape = w.tape) (hp : w'.output = w.output) (hs : w.heap.size ≤ w'.heap.size)
    (hk : ∀ k, k < w.heap.size → ¬ base.mine k → w'.heap[k]? = w.heap[k]?) : Bel base.X base.w w' :=
  ⟨ho.trans h.os, ht.trans h.tape, hp.trans h.output, Nat.le_trans h.size hs, fun k hlt hx => (hk k (Nat.lt_of_lt_of_le hlt h.size) (fun q => q.elim (fun q => absurd q (by omega)) hx)).trans (h.block k hlt hx)⟩
theorem Bel.hold {base : Bs} {w w' : World} (h : Bel base.X base.w w) (ho : w'.os = w.os) (ht : w'.tape = w.tape) (hp : w'.output = w.output) (hs : w.heap.size ≤ w'.heap.size)
    (hk : ∀ k, k < w.heap.size → w'.heap[k]? = w.heap[k]?) : Bel base.X base.w w' := h.step ho ht hp hs (fun k hlt _ => hk k hlt)
theorem Bel.alloc {base : Bs} {w : World} (h : Bel base.X base.w w) (o : Obj) : Bel base.X base.w (w.alloc o) := h.hold rfl rfl rfl (by simp) (fun k hk => heap_alloc_old w o k hk)
theorem Bel.drew {base : Bs} {w : World} (h : Bel base.X base.w w) : Bel base.X base.w w.drew := h.hold rfl rfl rfl (Nat.le_refl _) (fun _ _ => rfl)
theorem Bel.grown {base : Bs} {w w' : World} {row : Option Nat} (h : Bel base.X base.w w) (hg : w.grownBy w' row) (hr : ∀ k, row = some k → base.mine k) : Bel base.X base.w w' :=
  h.step hg.os hg.tape hg.output hg.size (fun k hk hm => hg.block k hk (fun e => hm (hr k e.symm)))
theorem Bel.below {base : Bs} {w w' : World} (h : Bel base.X base.w w) (hb : Below w.heap.size w w') : Bel base.X base.w w' := h.hold hb.os hb.tape hb.output hb.size hb.block

def Mset (M0 : Region) (g : Gh) (st : St) : Region := fun b off =>
  M0 b off ∨ (∃ s c, look s st.box = some c ∧ g.β s = b) ∨ (∃ k o, look k st.own = some o ∧ (g.ν k).ownBlock = some b ∧ (o.virgin = true ∨ o.xs.length * o.sz ≤ off))

def FR (g : Gh) (M : Region) (w : World) : FE → Value → Prop
  | .pv x, v => VR M w x v
  | .ptr s off, v => v = .pointer (some ⟨g.β s, off, none⟩)
  | .rptr cs, v => ∃ b off, v = .pointer (some ⟨b, off, none⟩) ∧ Cells M w b off cs
  | .own k, v => v = g.ν k
  | .optr k sz i off, v => ∃ b, (g.ν k).ownBlock = some b ∧ v = .pointer (some ⟨b, i * sz + off, none⟩)
  | .map k, v => v = .map (some (g.μ k))
  | .dead, _ => True
def FRc (g : Gh) (M : Region) (w : World) : List FE → List Value → Prop
  | [], vs => vs = []
  | c :: cs, vs => ∃ v vs', vs = v :: vs' ∧ FR g M w c v ∧ v.oneCell' = true ∧ FRc g M w cs vs'

theorem FR.mv {g : Gh} {M M' : Region} {w w' : World} (hm : Mv M w M' w') : ∀ {fe : FE} {v : Value}, FR g M w fe v → FR g M' w' fe v
  | .pv x, v, h => VR.mv hm x v h
  | .ptr s off, v, h => h
  | .rptr cs, v, h => by
    obtain ⟨b, off, h1, h2⟩ := h
    exact ⟨b, off, h1, Cells.mv hm b off cs h2⟩
  | .own k, v, h => h
  | .optr k sz i off, v, h => h
  | .map k, v, h => h
  | .dead, v, h => trivial
section
variable {g : Gh} {M M' : Region} {w w' : World}
theorem FRc.mv (hm : Mv M w M' w') : ∀ {cs : List FE} {vs : List Value}, FRc g M w cs vs → FRc g M' w' cs vs
  | [], vs, h => by simpa [FRc] using h
  | c :: cs, vs, h => by
    simp only [FRc] at h ⊢
    obtain ⟨v, vs', h1, h2, h3, h4⟩ := h
    exact ⟨v, vs', h1, FR.mv hm h2, h3, FRc.mv hm h4⟩
theorem FRc.length : ∀ {cs : List FE} {vs : List Value}, FRc g M w cs vs → vs.length = cs.length
  | [], vs, h => by simp only [FRc] at h; simp [h]
  | c :: cs, vs, h => by
    simp only [FRc] at h
    obtain ⟨v, vs', rfl, _, _, h4⟩ := h
    simp [FRc.length h4]
theorem FRc.one : ∀ {cs : List FE} {vs : List Value}, FRc g M w cs vs → ∀ v ∈ vs, v.oneCell' = true
  | [], vs, h => by simp only [FRc] at h; simp [h]
  | c :: cs, vs, h => by
    simp only [FRc] at h
    obtain ⟨v, vs', rfl, _, h3, h4⟩ := h
    intro u hu
    rcases List.mem_cons.1 hu with rfl | hu
    · exact h3
    · exact FRc.one h4 u hu
theorem FRc.map (f : FE → FE) {g' : Gh} (hf : ∀ fe v, FR g M w fe v → FR g' M w (f fe) v) : ∀ {cs : List FE} {vs : List Value}, FRc g M w cs vs → FRc g' M w (cs.map f) vs
  | [], vs, h => by simpa [FRc] using h
  | c :: cs, vs, h => by
    simp only [FRc, List.map_cons] at h ⊢
    obtain ⟨v, vs', h1, h2, h3, h4⟩ := h
    exact ⟨v, vs', h1, hf _ _ h2, h3, FRc.map f hf h4⟩
theorem FRc.append : ∀ {cs ds : List FE} {vs us : List Value}, FRc g M w cs vs → FRc g M w ds us → FRc g M w (cs ++ ds) (vs ++ us)
  | [], ds, vs, us, h, k => by simp only [FRc] at h; subst h; simpa using k
  | c :: cs, ds, vs, us, h, k => by
    simp only [FRc] at h
    obtain ⟨v, vs', rfl, h2, h3, h4⟩ := h
    simp only [List.cons_append, FRc]
    exact ⟨v, _, rfl, h2, h3, FRc.append h4 k⟩
theorem FRc.split : ∀ {cs ds : List FE} {us : List Value}, FRc g M w (cs ++ ds) us → ∃ a b, us = a ++ b ∧ FRc g M w cs a ∧ FRc g M w ds b
  | [], ds, us, h => ⟨[], us, rfl, by simp [FRc], by simpa using h⟩
  | c :: cs, ds, us, h => by
    simp only [List.cons_append, FRc] at h
    obtain ⟨v, vs', rfl, h2, h3, h4⟩ := h
    obtain ⟨a, b, rfl, ha, hb⟩ := FRc.split h4
    exact ⟨v :: a, b, rfl, by simp only [FRc]; exact ⟨v, a, rfl, h2, h3, ha⟩, hb⟩
theorem FRc.take {cs : List FE} {vs : List Value} (h : FRc g M w cs vs) (n : Nat) : FRc g M w (cs.take n) (vs.take n) := by
  have h0 := h
  rw [← List.take_append_drop n cs] at h
  obtain ⟨a, b, rfl, ha, hb⟩ := FRc.split h
  have hl := FRc.length ha
  have hl2 := FRc.length h0
  rw [List.length_append] at hl2
  rw [List.length_take] at hl
  by_cases hn : n ≤ cs.length
  · rw [List.take_left' (by omega)]; exact ha
  · have hb' := FRc.length hb
    rw [List.drop_eq_nil_of_le (by omega)] at hb'
    have : b = [] := List.eq_nil_of_length_eq_zero (by simpa using hb')
    subst this
    rw [List.append_nil, List.take_of_length_le (l := a) (by omega)]; exact ha
theorem FRc.drop {cs : List FE} {vs : List Value} (h : FRc g M w cs vs) (n : Nat) : FRc g M w (cs.drop n) (vs.drop n) := by
  have h0 := h
  rw [← List.take_append_drop n cs] at h
  obtain ⟨a, b, rfl, ha, hb⟩ := FRc.split h
  have hl := FRc.length ha
  rw [List.length_take] at hl
  by_cases hn : n ≤ cs.length
  · rw [List.drop_left' (by omega)]; exact hb
  · have hb' := FRc.length hb
    rw [List.drop_eq_nil_of_le (by omega)] at hb'
    have : b = [] := List.eq_nil_of_length_eq_zero (by simpa using hb')
    subst this
    rw [List.append_nil, List.drop_eq_nil_of_le (by omega), List.drop_eq_nil_of_le (by omega)]; simp [FRc]
theorem FRc.get {cs : List FE} {vs : List Value} (h : FRc g M w cs vs) : ∀ {i : Nat} {c : FE}, cs[i]? = some c → ∃ v, vs[i]? = some v ∧ FR g M w c v ∧ v.oneCell' = true := by
  induction cs generalizing vs with
  | nil => intro i c hc; simp at hc
  | cons d cs ih =>
    simp only [FRc] at h
    obtain ⟨v, vs', rfl, h2, h3, h4⟩ := h
    intro i c hc
    cases i with
    | zero => simp at hc; subst hc; exact ⟨v, by simp, h2, h3⟩
    | succ i => simp at hc ⊢; exact ih h4 hc
/-- Cells that are values. -/
theorem FRc.of_vrc : ∀ {cs : List SV} {vs : List Value}, VRc M w cs vs → FRc g M w (cs.map .pv) vs
  | [], vs, h => by simpa [FRc, VRc] using h
  | c :: cs, vs, h => by
    simp only [FRc, VRc, List.map_cons] at h ⊢
    obtain ⟨v, vs', h1, h2, h3, h4⟩ := h
    exact ⟨v, vs', h1, h2, h3, FRc.of_vrc h4⟩
end

/-- Entries tell a map. -/
def MpAt (m : Mp) (es : Array MapEntry) (clock : Nat) : Prop := es.toList.map (fun e => (e.key, e.val)) = m
/-- The state tells the frame and the world. -/
structure RpM (M : Region) (M0 : Region) (base : Bs) (g : Gh) (st : St) (a : Act) (w : World) : Prop where
  below : Bel base.X base.w w
  m0 : ∀ b off, M0 b off → b < base.w.heap.size ∧ ¬ base.X b
  keep : Mv base.MB base.w M w
  hn : st.n ≤ HI
  pin : ∀ s, HI ≤ s → g.β s = base.β s ∧ g.μ s = base.μ s
  size : a.tmps.size = st.n
  defers : a.defers = []
  env : ∀ t fe, look t st.env = some fe → ∃ v, a.tmps[t]? = some v ∧ FR g M w fe v
  box : ∀ s T cs, look s st.box = some (T, cs) → base.mine (g.β s) ∧ ∃ vs : List Value, w.heap[g.β s]? = some (.cells vs.toArray T (0, 0)) ∧ FRc g M w cs vs
  own : ∀ k o, look k st.own = some o → ∃ vals, w.ownsRow 0 o.e o.sz (g.ν k) o.xs.length vals ∧ VRc M w o.xs.flatten vals ∧ ∀ x ∈ o.xs, x.length = o.sz
  omine : ∀ k o b, look k st.own = some o → (g.ν k).ownBlock = some b → base.mine b
  map : ∀ k m, look k st.mp = some m → base.mine (g.μ k) ∧ ∃ es clock, w.heap[g.μ k]? = some (.map es clock) ∧ MpAt m es clock
  dbb : ∀ s s' c c', look s st.box = some c → look s' st.box = some c' → s ≠ s' → g.β s ≠ g.β s'
  dbo : ∀ s k c o, look s st.box = some c → look k st.own = some o → (g.ν k).ownBlock ≠ some (g.β s)
  doo : ∀ k k' o o', look k st.own = some o → look k' st.own = some o' → k ≠ k' → (g.ν k).ownBlock = none ∨ (g.ν k).ownBlock ≠ (g.ν k').ownBlock
  dmm : ∀ k k' m m', look k st.mp = some m → look k' st.mp = some m' → k ≠ k' → g.μ k ≠ g.μ k'

abbrev Rp (M0 : Region) (base : Bs) (g : Gh) (st : St) (a : Act) (w : World) : Prop := RpM (Mset M0 g st) M0 base g st a w
def Rep (M0 : Region) (base : Bs) (st : St) (a : Act) (w : World) : Prop := ∃ g, Rp M0 base g st a w

def St.put (st : St) (d : Nat) (fe : FE) : St := { st with env := ins d fe st.env }
def St.set (st : St) (dst : Option Nat) (fe : FE) : St := match dst with | some d => st.put d fe | none => st
def St.fits (st : St) : Option Nat → Prop | some d => d < st.n | none => True

section
variable {M0 : Region} {base : Bs} {g : Gh} {st : St} {a : Act} {w w' : World}
theorem Mset_env (M0 : Region) (g : Gh) (st : St) (env : List (Nat × FE)) : Mset M0 g { st with env } = Mset M0 g st := rfl
/-- A temporary is set. -/
theorem Rp.set (h : Rp M0 base g st a w) (dst : Option Nat) (hd : st.fits dst) {fe : FE} {v : Value} (hv : FR g (Mset M0 g st) w fe v) : Rp M0 base g (st.set dst fe) (a.put dst v) w := by
  cases dst with
  | none => exact h
  | some d =>
    refine ⟨h.below, h.m0, h.keep, h.hn, h.pin, by simp [Act.put, St.set, St.put, h.size], h.defers, ?_, h.box, h.own, h.omine, h.map, h.dbb, h.dbo, h.doo, h.dmm⟩
    intro t f hf
    simp only [St.set, St.put, look_ins] at hf
    simp only [Act.put, Array.getElem?_setIfInBounds]
    by_cases e : t = d
    · rw [if_pos e] at hf
      cases hf
      subst e
      have : t < a.tmps.size := by rw [h.size]; exact hd
      exact ⟨v, by simp [this], hv⟩
    · rw [if_neg e] at hf
      obtain ⟨u, hu, hr⟩ := h.env t f hf
      exact ⟨u, by rw [if_neg (by omega)]; exact hu, hr⟩
/-- The world moves on, and nothing of the call's own is touched. -/
theorem Rp.world (h : Rp M0 base g st a w) (hb : Bel base.X base.w w') (hk : ∀ k, k < w.heap.size → w'.heap[k]? = w.heap[k]?) : Rp M0 base g st a w' := by
  have hm : Mv (Mset M0 g st) w (Mset M0 g st) w' := ⟨fun b off u hu hn => by
    have hlt := World.block_lt_of_cell? w _ hu
    exact ⟨by rw [← hu]; exact World.cell?_of_block (hk b hlt), hn⟩⟩
  refine ⟨hb, h.m0, h.keep.trans hm, h.hn, h.pin, h.size, h.defers, ?_, ?_, ?_, h.omine, ?_, h.dbb, h.dbo, h.doo, h.dmm⟩
  · intro t fe hf
    obtain ⟨v, h1, h2⟩ := h.env t fe hf
    exact ⟨v, h1, FR.mv hm h2⟩
  · intro s T cs hs
    obtain ⟨h1, vs, h2, h3⟩ := h.box s T cs hs
    exact ⟨h1, vs, by rw [hk _ (Array.getElem?_eq_some_iff.1 h2).1]; exact h2, FRc.mv hm h3⟩
  · intro k o ho
    obtain ⟨vals, h1, h2, h3⟩ := h.own k o ho
    refine ⟨vals, ⟨h1.1, h1.2.imp id ?_⟩, VRc.mv hm _ _ h2, h3⟩
    rintro ⟨gg, cap, cur, e1, e2, e3, e4⟩
    exact ⟨gg, cap, cur, e1, e2, by rw [hk _ (Array.getElem?_eq_some_iff.1 e3).1]; exact e3, e4⟩
  · intro k m hq
    obtain ⟨h1, es, cl, h2, h3⟩ := h.map k m hq
    exact ⟨h1, es, cl, by rw [hk _ (Array.getElem?_eq_some_iff.1 h2).1]; exact h2, h3⟩
theorem Rp.drew (h : Rp M0 base g st a w) : Rp M0 base g st a { w with drawn := w.drawn + 1 } :=
  h.world ⟨h.below.os, h.below.tape, h.below.output, h.below.size, h.below.block⟩ (fun _ _ => rfl)

/-- The state is told less. -/
def St.narrow (st : St) (ts ss ks : List Nat) : St := { n := st.n, env := sel ts st.env, box := sel ss st.box, own := sel ks st.own, mp := st.mp }
theorem Mset_narrow (M0 : Region) (g : Gh) (st : St) (ts ss ks : List Nat) {b off : Nat} (h : Mset M0 g (st.narrow ts ss ks) b off) : Mset M0 g st b off := by
  rcases h with h | ⟨s, c, h1, h2⟩ | ⟨k, o, h1, h2⟩
  · exact .inl h
  · exact .inr (.inl ⟨s, c, look_sel_some h1, h2⟩)
  · exact .inr (.inr ⟨k, o, look_sel_some h1, h2⟩)
theorem Rp.narrow (h : Rp M0 base g st a w) (ts ss ks : List Nat) : Rp M0 base g (st.narrow ts ss ks) a w := by
  have hm : Mv (Mset M0 g st) w (Mset M0 g (st.narrow ts ss ks)) w := ⟨fun b off u hu hn => ⟨hu, fun hh => hn (Mset_narrow M0 g st ts ss ks hh)⟩⟩
  refine ⟨h.below, h.m0, h.keep.trans hm, h.hn, h.pin, h.size, h.defers, ?_, ?_, ?_, fun k o b ho => h.omine k o b (look_sel_some ho), h.map, ?_, ?_, ?_, h.dmm⟩
  · intro t fe hf
    obtain ⟨v, h1, h2⟩ := h.env t fe (look_sel_some hf)
    exact ⟨v, h1, FR.mv hm h2⟩
  · intro s T cs hs
    obtain ⟨h1, vs, h2, h3⟩ := h.box s T cs (look_sel_some hs)
    exact ⟨h1, vs, h2, FRc.mv hm h3⟩
  · intro k o ho
    obtain ⟨vals, h1, h2, h3⟩ := h.own k o (look_sel_some ho)
    exact ⟨vals, h1, VRc.mv hm _ _ h2, h3⟩
  · intro s s' c c' h1 h2 hne
    exact h.dbb s s' c c' (look_sel_some h1) (look_sel_some h2) hne
  · intro s k c o h1 h2
    exact h.dbo s k c o (look_sel_some h1) (look_sel_some h2)
  · intro k k' o o' h1 h2 hne
    exact h.doo k k' o o' (look_sel_some h1) (look_sel_some h2) hne

/-- An own slice is looked at as a value: from here on its elements stay. -/
def St.expose (st : St) (k : Nat) : St := match look k st.own with | some o => { st with own := ins k { o with virgin := false } st.own } | none => st
theorem expose_own {st : St} {k : Nat} {o : Own} (ho : look k st.own = some o) : st.expose k = { st with own := ins k { o with virgin := false } st.own } := by
  unfold St.expose; rw [ho]
theorem Mset_expose {st : St} (M0 : Region) (g : Gh) (k : Nat) {b off : Nat} (h : Mset M0 g (st.expose k) b off) : Mset M0 g st b off := by
  unfold St.expose at h
  cases ho : look k st.own with
  | none => rw [ho] at h; exact h
  | some o =>
    rw [ho] at h
    rcases h with h | ⟨s, c, h1, h2⟩ | ⟨k', o', h1, h2, h3⟩
    · exact .inl h
    · exact .inr (.inl ⟨s, c, h1, h2⟩)
    · simp only [look_ins] at h1
      by_cases e : k' = k
      · rw [if_pos e] at h1
        cases h1
        subst e
        exact .inr (.inr ⟨k', o, ho, h2, h3.elim (fun hh => by cases hh) .inr⟩)
      · rw [if_neg e] at h1
        exact .inr (.inr ⟨k', o', h1, h2, h3⟩)
theorem Rp.expose (h : Rp M0 base g st a w) (k : Nat) : Rp M0 base g (st.expose k) a w := by
  cases ho : look k st.own with
  | none => unfold St.expose; rw [ho]; exact h
  | some o =>
    have hm : Mv (Mset M0 g st) w (Mset M0 g (st.expose k)) w := ⟨fun b off u hu hn => ⟨hu, fun hh => hn (Mset_expose M0 g k hh)⟩⟩
    rw [expose_own ho] at hm ⊢
    refine ⟨h.below, h.m0, h.keep.trans hm, h.hn, h.pin, h.size, h.defers, ?_, ?_, ?_, ?_, h.map, h.dbb, ?_, ?_, h.dmm⟩
    · intro t fe hf
      obtain ⟨v, h1, h2⟩ := h.env t fe hf
      exact ⟨v, h1, FR.mv hm h2⟩
    · intro s T cs hs
      obtain ⟨h1, vs, h2, h3⟩ := h.box s T cs hs
      exact ⟨h1, vs, h2, FRc.mv hm h3⟩
    · intro k' o' ho'
      simp only [look_ins] at ho'
      by_cases e : k' = k
      · rw [if_pos e] at ho'
        cases ho'
        subst e
        obtain ⟨vals, h1, h2, h3⟩ := h.own k' o ho
        exact ⟨vals, h1, VRc.mv hm _ _ h2, h3⟩
      · rw [if_neg e] at ho'
        obtain ⟨vals, h1, h2, h3⟩ := h.own k' o' ho'
        exact ⟨vals, h1, VRc.mv hm _ _ h2, h3⟩
    · intro k' o' b ho' hb
      simp only [look_ins] at ho'
      by_cases e : k' = k
      · subst e; exact h.omine k' o b ho hb
      · rw [if_neg e] at ho'; exact h.omine k' o' b ho' hb
    · intro s k' c o' h1 h2
      simp only [look_ins] at h2
      by_cases e : k' = k
      · subst e; exact h.dbo s k' c o h1 ho
      · rw [if_neg e] at h2; exact h.dbo s k' c o' h1 h2
    · intro k1 k2 o1 o2 h1 h2 hne
      simp only [look_ins] at h1 h2
      by_cases e1 : k1 = k
      · subst e1
        by_cases e2 : k2 = k1
        · exact absurd e2.symm hne
        · rw [if_neg e2] at h2; exact h.doo k1 k2 o o2 ho h2 hne
      · rw [if_neg e1] at h1
        by_cases e2 : k2 = k
        · subst e2; exact h.doo k1 k2 o1 o h1 ho hne
        · rw [if_neg e2] at h2; exact h.doo k1 k2 o1 o2 h1 h2 hne
/-- An own slice as a value. -/
theorem Rp.own_pure (h : Rp M0 base g st a w) {k : Nat} {o : Own} (ho : look k st.own = some o) : VR (Mset M0 g (st.expose k)) w (.sl o.sz o.xs) (g.ν k) := by
  obtain ⟨vals, h1, h2, h3⟩ := (h.expose k).own k { o with virgin := false } (by rw [expose_own ho]; simp [look_ins])
  simp only at h1 h2 h3
  simp only [VR]
  rcases h1.2 with ⟨e1, e2⟩ | ⟨gg, cap, cur, e1, e2, e3, e4, e5, e6, e7⟩
  · exact ⟨none, 0, by rw [e1, e2], by omega, .inl (List.eq_nil_of_length_eq_zero e2)⟩
  · refine ⟨_, cap, e1, e4, .inr ⟨gg, 0, rfl, Rows.of_vals h3 h2 fun j u hu => ?_⟩⟩
    have hown : (g.ν k).ownBlock = some gg := by rw [e1]; rfl
    have hj : j < o.xs.length * o.sz := by have := (List.getElem?_eq_some_iff.1 hu).1; rw [h1.1] at this; exact this
    have hc := h1.cells hown j u hu
    rw [show (⟨gg, 0, none⟩ : Addr).add j = ⟨gg, j, none⟩ by unfold Addr.add; split <;> simp_all] at hc
    refine ⟨by rw [Nat.zero_add]; exact hc, ?_⟩
    rw [Nat.zero_add]
    rintro (hh | ⟨s, c, q1, q2⟩ | ⟨k', o', q1, q2, q3⟩)
    · have hmn := h.omine k o gg ho hown
      obtain ⟨p1, p2⟩ := h.m0 _ _ hh
      rcases hmn with q | q
      · omega
      · exact p2 q
    · rw [expose_own ho] at q1
      exact h.dbo s k c o q1 ho (by rw [hown, q2])
    · rw [expose_own ho] at q1
      simp only [look_ins] at q1
      by_cases e : k' = k
      · rw [if_pos e] at q1
        cases q1
        rcases q3 with q3 | q3
        · cases q3
        · simp only at q3; omega
      · rw [if_neg e] at q1
        rcases h.doo k' k o' o q1 ho e with q | q
        · rw [q] at q2; cases q2
        · rw [q2, hown] at q; exact q rfl
end
end Go.Proofs.Ytnoohgiecnmajaa.VC

