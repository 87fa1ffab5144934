/- A part of the ground of the proof. No condition. -/
import Derived.Test.YtnoohgiecnmajaaGE8

/- The engine, part 9: appending. -/
namespace Go.Proofs.Ytnoohgiecnmajaa.VC
open Go Go.RowKit
set_option linter.unusedVariables false
set_option linter.unusedSimpArgs false

section
variable {M0 : Region} {base : Bs} {g : Gh} {st : St} {a : Act} {w w' : World} {P : Program} {T : Tab}

theorem run_append_none (t ty e : TypeId) (i : TypeInfo) (ht : P.underlying t = some (.slice e)) (hi : P.info? e = some i) (A B : Option Addr) (n cap c : Nat) (h : n ≤ cap) :
    (Builtin.append_ #[t, t] ty #[.slice A n cap, .slice B 0 c]).run P w = .ok (.slice A n cap) w := by
  cases B with
  | none => cases A <;> simp [Builtin.append_, run_underlying ht, sizeOf, typeInfo, hi, Builtin.lenOf, h, Builtin.firstCells, storeCells]
  | some b => cases A <;> simp [Builtin.append_, run_underlying ht, sizeOf, typeInfo, hi, Builtin.lenOf, h, Builtin.firstCells, storeCells, loadCells, loadCellsFrom]

/-- Appending to an own row: in place, or to a new row. -/
theorem run_append_eng (base : Nat) (t ty e : TypeId) (i : TypeInfo) (z : Value) (ht : P.underlying t = some (.slice e)) (hi : P.info? e = some i) (hz : i.zero = some z) (hzs : z.cells.size = i.size) (hsz : 0 < i.size)
    (v : Value) (n : Nat) (xs : List Value) (hown : w.ownsRow base e i.size v n xs)
    (A : Option Addr) (m c : Nat) (news : List Value) (hl : news.length = m * i.size) (hA : 0 < m → ∃ ad, A = some ad ∧ ∀ j u, news[j]? = some u → w.cell? (ad.add j) = some u) (h1 : ∀ u ∈ news, u.oneCell' = true)
    (h63 : n + m ≤ maxLen) (hbytes : (n + m) * i.bytes ≤ 140737488355328) (hbase : base ≤ w.heap.size) :
    ∃ v' w', (Builtin.append_ #[t, t] ty #[v, .slice A m c]).run P w = .ok v' w' ∧ w'.ownsRow base e i.size v' (n + m) (xs ++ news) ∧
      ((v'.ownBlock = v.ownBlock ∧ w.grownBy w' v.ownBlock) ∨ (v'.ownBlock = some w.heap.size ∧ w.grownBy w' none)) := by
  have h63' : n + m ≤ 9223372036854775807 := by simp only [maxLen] at h63; omega
  rcases Nat.eq_zero_or_pos m with hm | hm
  · subst hm
    have hn : news = [] := List.eq_nil_of_length_eq_zero (by simpa using hl)
    subst hn
    have hsl : ∃ B cap, v = .slice B n cap ∧ n ≤ cap := by
      rcases hown.2 with ⟨e1, e2⟩ | ⟨gg, cap, cur, e1, _, _, e4, _⟩
      · exact ⟨none, 0, by rw [e1, e2], by omega⟩
      · exact ⟨_, cap, e1, e4⟩
    obtain ⟨B, cap, rfl, hcap⟩ := hsl
    exact ⟨_, w, run_append_none t ty e i ht hi B A n cap c hcap, by simpa using hown, .inl ⟨rfl, ⟨rfl, rfl, rfl, Nat.le_refl _, fun _ _ _ => rfl⟩⟩⟩
  obtain ⟨ad, rfl, hnews⟩ := hA hm
  have hlen : (xs ++ news).length = (n + m) * i.size := by rw [List.length_append, hown.1, hl, Nat.add_mul]
  have grown : ∀ (old : Nat),
      (w.drew.alloc (.cells (xs.toArray ++ news.toArray ++ Builtin.zeroCells z.cells (grownCap w (n + m) old e - (n + m))) e)).ownsRow base e i.size
        (.slice (some ⟨w.heap.size, 0, none⟩) (n + m) (grownCap w (n + m) old e)) (n + m) (xs ++ news) ∧
      w.grownBy (w.drew.alloc (.cells (xs.toArray ++ news.toArray ++ Builtin.zeroCells z.cells (grownCap w (n + m) old e - (n + m))) e)) none := by
    intro old
    have hge := grownCap_ge w (n + m) old e
    have hcm := grownCap_le_maxLen w (n + m) old e h63
    refine ⟨⟨hlen, .inr ⟨w.heap.size, _, _, rfl, hbase, heap_alloc_new w.drew _, hge, hcm, ?_, ?_⟩⟩, ⟨rfl, rfl, rfl, by simp, fun k hk _ => heap_alloc_old w.drew _ k hk⟩⟩
    · simp only [Array.size_append, List.size_toArray, size_zeroCells, hzs, hown.1, hl]
      rw [← Nat.add_mul, ← Nat.add_mul]
      congr 1
      omega
    · simp only [Array.toList_append]
      rw [List.append_assoc, ← List.append_assoc, ← hlen]
      exact List.take_left' rfl
  rcases hown.2 with ⟨rfl, rfl⟩ | ⟨gg, cap, cur, rfl, hbg, hg, hnc, hcm, hcs, htake⟩
  · have hx : xs = [] := List.eq_nil_of_length_eq_zero (by simpa using hown.1)
    subst hx
    have hr := run_append_nil (P := P) w t ty e i z ht hi hz ad m c news hl hnews hm (by omega) (by simp only [Nat.zero_add] at hbytes; omega)
    have hgr := grown 0
    simp only [Nat.zero_add, List.nil_append, Array.empty_append] at hgr ⊢
    exact ⟨_, _, hr, hgr.1, .inr ⟨rfl, hgr.2⟩⟩
  · by_cases hroom : n + m ≤ cap
    · have hfit : n * i.size + news.length ≤ cur.size := by rw [hl, hcs, ← Nat.add_mul]; exact Nat.mul_le_mul_right _ hroom
      have hr := run_append_room (P := P) w t ty e i ht hi gg n cap cur hg ad m c news hl hnews h1 hroom hfit
      refine ⟨_, _, hr, ⟨hlen, .inr ⟨gg, cap, _, rfl, hbg, setRow_heap w gg cur _ e _ hg, hroom, hcm, ?_, ?_⟩⟩, .inl ⟨rfl, ⟨rfl, rfl, rfl, by simp [World.setRow], fun k _ hk => setRow_other w gg k _ (fun e => hk (by simp [Value.ownBlock, e]))⟩⟩⟩
      · simp only [List.size_toArray, List.length_append, List.length_take, List.length_drop, Array.length_toList]
        omega
      · rw [htake, ← hlen]
        exact List.take_left' rfl
    · have holds : ∀ j u, xs[j]? = some u → w.cell? ((⟨gg, 0, none⟩ : Addr).add j) = some u := hown.cells (g := gg) rfl
      have hr := run_append_grow (P := P) w t ty e i z ht hi hz ⟨gg, 0, none⟩ n cap xs hown.1 holds ad m c news hl hnews (by omega) (by omega) (growslice_fits (by omega) hbytes)
      have hgr := grown cap
      exact ⟨_, _, hr, hgr.1, .inr ⟨rfl, hgr.2⟩⟩

/-- The state behind an append to an own slice (k), or to nil. -/
def St.appended (st : St) (k : Option Nat) (d : Nat) (o : Own) : St := match k with | some k => (st.noOwn k).newOwn d o | none => st.newOwn d o

theorem look_noOwn_box {st : St} {k s : Nat} {c : TypeId × List FE} (h : look s (st.noOwn k).box = some c) : ∃ c', look s st.box = some c' := by
  simp only [St.noOwn, look_mapv] at h
  obtain ⟨c', hc, _⟩ := Option.map_eq_some_iff.1 h
  exact ⟨c', hc⟩
theorem look_noOwn_own {st : St} {k i : Nat} {o : Own} (h : look i (st.noOwn k).own = some o) : i ≠ k ∧ look i st.own = some o := by
  simp only [St.noOwn, look_del] at h
  by_cases e : i = k
  · rw [if_pos e] at h; cases h
  · rw [if_neg e] at h; exact ⟨e, h⟩

/-- A new own row that no other has: d's. -/
theorem RpM.newOwn {M : Region} (h : RpM M M0 base g st a w) (hsub : ∀ b off, Mset M0 g st b off → M b off) (hb : Bel base.X base.w w') {d : Nat} (hd : d < st.n) {o : Own} {v : Value}
    (hcell : ∀ b off u, w.cell? ⟨b, off, none⟩ = some u → ¬ M b off → w'.cell? ⟨b, off, none⟩ = some u)
    (hnm : ∀ b off u, w.cell? ⟨b, off, none⟩ = some u → ¬ M b off → v.ownBlock = some b → ¬ (o.virgin = true ∨ o.xs.length * o.sz ≤ off))
    (hbx : ∀ s c, look s st.box = some c → w'.heap[g.β s]? = w.heap[g.β s]? ∧ v.ownBlock ≠ some (g.β s))
    (how : ∀ k p b, k ≠ d → look k st.own = some p → (g.ν k).ownBlock = some b → w'.heap[b]? = w.heap[b]? ∧ v.ownBlock ≠ some b)
    (hmine : ∀ b, v.ownBlock = some b → base.mine b) (hmp : ∀ k m, look k st.mp = some m → w'.heap[g.μ k]? = w.heap[g.μ k]?)
    {vals : List Value} (hrow : w'.ownsRow 0 o.e o.sz v o.xs.length vals) (hvals : VRc M w o.xs.flatten vals) (hlen : ∀ x ∈ o.xs, x.length = o.sz) :
    Rp M0 base { g with ν := fun i => if i = d then v else g.ν i } (st.newOwn d o) (a.put (some d) v) w' := by
  have h1 := h.noOwn d v
  refine RpM.putOwn h1 hb (d := d) hd (by simp [St.noOwn, look_del]) (o := o) (v := v) (by simp) ⟨fun b off u hu hn => ⟨hcell b off u hu hn, ?_⟩⟩ ?_ ?_ hrow hvals hlen hmine hmp ?_ ?_
  · rintro (hh | ⟨s, c, q1, q2⟩ | ⟨k, p, q1, q2, q3⟩)
    · exact hn (hsub _ _ (.inl hh))
    · obtain ⟨c', hc'⟩ := look_noOwn_box q1
      exact hn (hsub _ _ (.inr (.inl ⟨s, c', hc', q2⟩)))
    · simp only [look_ins] at q1
      simp only at q2
      by_cases e : k = d
      · rw [if_pos e] at q1 q2
        cases q1
        exact hnm b off u hu hn q2 q3
      · rw [if_neg e] at q1 q2
        exact hn (hsub _ _ (.inr (.inr ⟨k, p, (look_noOwn_own q1).2, q2, q3⟩)))
  · intro s c hs
    obtain ⟨c', hc'⟩ := look_noOwn_box hs
    exact (hbx s c' hc').1
  · intro k p b hp hkb
    obtain ⟨e, hp'⟩ := look_noOwn_own hp
    simp only [if_neg e] at hkb
    exact (how k p b e hp' hkb).1
  · intro s c hs
    obtain ⟨c', hc'⟩ := look_noOwn_box hs
    exact (hbx s c' hc').2
  · intro k p hp
    obtain ⟨e, hp'⟩ := look_noOwn_own hp
    simp only [if_neg e]
    cases hv : v.ownBlock with
    | none => exact .inl rfl
    | some b =>
      refine .inr fun hh => ?_
      exact (how k p b e hp' hh.symm).2 hv

theorem Rp.heap_box (h : Rp M0 base g st a w) {s : Nat} {c : TypeId × List FE} (hs : look s st.box = some c) : g.β s < w.heap.size := by
  obtain ⟨_, vs, h2, _⟩ := h.box s c.1 c.2 hs
  exact (Array.getElem?_eq_some_iff.1 h2).1
theorem Rp.heap_own (h : Rp M0 base g st a w) {k b : Nat} {o : Own} (hk : look k st.own = some o) (hb : (g.ν k).ownBlock = some b) : b < w.heap.size := by
  obtain ⟨vals, h1, _⟩ := h.own k o hk
  exact (h1.lt b hb).2

theorem Rp.heap_map (h : Rp M0 base g st a w) {k : Nat} {m : Mp} (hk : look k st.mp = some m) : g.μ k < w.heap.size := by
  obtain ⟨_, es, cl, h2, _⟩ := h.map k m hk
  exact (Array.getElem?_eq_some_iff.1 h2).1
/-- A fresh own row. -/
theorem Rp.freshOwn (h : Rp M0 base g st a w) (hb : Bel base.X base.w w') (hold : Hold w w') {d : Nat} (hd : d < st.n) {o : Own} {v : Value} (hv : ∀ b, v.ownBlock = some b → w.heap.size ≤ b)
    {vals : List Value} (hrow : w'.ownsRow 0 o.e o.sz v o.xs.length vals) (hvals : VRc (Mset M0 g st) w o.xs.flatten vals) (hlen : ∀ x ∈ o.xs, x.length = o.sz) :
    ∃ g', Rp M0 base g' (st.newOwn d o) (a.put (some d) v) w' :=
  ⟨_, RpM.newOwn h (fun _ _ hh => hh) hb hd (fun b off u hu _ => hold.cell hu)
    (fun b off u hu _ hvb => absurd (hv b hvb) (by have := World.block_lt_of_cell? w _ hu; simp at this; omega))
    (fun s c hs => ⟨hold _ (h.heap_box hs), fun e => absurd (hv _ e) (by have := h.heap_box hs; omega)⟩)
    (fun k p b _ hk hkb => ⟨hold _ (h.heap_own hk hkb), fun e => absurd (hv _ e) (by have := h.heap_own hk hkb; omega)⟩)
    (fun b hb => .inl (Nat.le_trans h.below.size (hv b hb))) (fun k m hq => hold _ (h.heap_map hq)) hrow hvals hlen⟩

/-- Appending to nil: the new row is fresh. Appending to own slice k: in place or fresh. -/
theorem Rp.appendOwn (h : Rp M0 base g st a w) {k : Nat} {p : Own} (hk : look k st.own = some p) {d : Nat} (hd : d < st.n) {ys : List (List SV)} {v : Value} {vals news : List Value}
    (hrow0 : w.ownsRow 0 p.e p.sz (g.ν k) p.xs.length vals) (hvals : VRc (Mset M0 g st) w p.xs.flatten vals) (hnews : VRc (Mset M0 g st) w ys.flatten news) (hlp : ∀ x ∈ p.xs, x.length = p.sz) (hly : ∀ x ∈ ys, x.length = p.sz)
    (hrow : w'.ownsRow 0 p.e p.sz v (p.xs.length + ys.length) (vals ++ news))
    (hcase : (v.ownBlock = (g.ν k).ownBlock ∧ w.grownBy w' (g.ν k).ownBlock) ∨ (v.ownBlock = some w.heap.size ∧ w.grownBy w' none)) :
    ∃ g', Rp M0 base g' ((st.noOwn k).newOwn d { p with xs := p.xs ++ ys }) (a.put (some d) v) w' := by
  have hkb : ∀ b, (g.ν k).ownBlock = some b → b < w.heap.size := fun b hb => (hrow0.lt b hb).2
  have hb : Bel base.X base.w w' := by
    rcases hcase with ⟨_, hg⟩ | ⟨_, hg⟩
    · exact h.below.grown hg (fun b hb => h.omine k p b hk hb)
    · exact h.below.grown hg (fun b hb => by cases hb)
  have hlen : (p.xs ++ ys).length = p.xs.length + ys.length := List.length_append
  have hlt : ∀ {b off : Nat} {u : Value}, w.cell? ⟨b, off, none⟩ = some u → b < w.heap.size := fun hu => World.block_lt_of_cell? w _ hu
  have hkM : ∀ b off, (g.ν k).ownBlock = some b → ¬ Mset M0 g st b off → p.virgin = false ∧ off < p.xs.length * p.sz := by
    intro b off hkb' hn
    have hn' : ¬ (p.virgin = true ∨ p.xs.length * p.sz ≤ off) := fun hh => hn (.inr (.inr ⟨k, p, hk, hkb', hh⟩))
    refine ⟨by cases hv : p.virgin <;> simp_all, by omega⟩
  have h1 : RpM (Mset M0 g st) M0 base _ (st.noOwn k) a w := RpM.noOwn h k nilV
  refine ⟨_, RpM.newOwn (o := { p with xs := p.xs ++ ys }) (v := v) h1 ?_ hb hd ?_ ?_ ?_ ?_ ?_ ?_ (vals := vals ++ news) (by simp only [hlen]; exact hrow) (by simp only [List.flatten_append]; exact VRc.append hvals hnews) ?_⟩
  · rintro b off (hh | ⟨s, c, q1, q2⟩ | ⟨k', o', q1, q2, q3⟩)
    · exact .inl hh
    · obtain ⟨c', hc'⟩ := look_noOwn_box q1
      exact .inr (.inl ⟨s, c', hc', q2⟩)
    · obtain ⟨e, ho'⟩ := look_noOwn_own q1
      simp only [if_neg e] at q2
      exact .inr (.inr ⟨k', o', ho', q2, q3⟩)
  · intro b off u hu hn
    rcases hcase with ⟨hvb, hg⟩ | ⟨_, hg⟩
    · by_cases e : some b = (g.ν k).ownBlock
      · obtain ⟨_, hoff⟩ := hkM b off e.symm hn
        have hj : off < vals.length := by rw [hrow0.1]; exact hoff
        have c1 := hrow0.cells e.symm off vals[off] (List.getElem?_eq_getElem hj)
        have c2 := hrow.cells (g := b) (by rw [hvb, e]) off vals[off] (by rw [List.getElem?_append_left hj]; exact List.getElem?_eq_getElem hj)
        rw [Addr.add_mid, Nat.zero_add] at c1 c2
        rw [c1] at hu
        cases hu
        exact c2
      · exact hg.cell hu e
    · exact hg.cell hu (by simp)
  · intro b off u hu hn hvb
    rcases hcase with ⟨hvb', hg⟩ | ⟨hvb', hg⟩
    · obtain ⟨hv, hoff⟩ := hkM b off (by rw [← hvb', hvb]) hn
      rintro (hh | hh)
      · simp only at hh; rw [hv] at hh; cases hh
      · simp only [hlen, Nat.add_mul] at hh; omega
    · rw [hvb'] at hvb
      cases hvb
      exact absurd (hlt hu) (by omega)
  · intro s c hs
    obtain ⟨c', hc'⟩ := look_noOwn_box hs
    have hbs := h.heap_box hc'
    have hne := h.dbo s k c' p hc' hk
    rcases hcase with ⟨hvb', hg⟩ | ⟨hvb', hg⟩
    · exact ⟨hg.block _ hbs (Ne.symm hne), by rw [hvb']; exact hne⟩
    · exact ⟨hg.block _ hbs (by simp), by rw [hvb']; intro e; have : w.heap.size = g.β s := Option.some.inj e; omega⟩
  · intro i o' b _ hi hib
    obtain ⟨e, ho'⟩ := look_noOwn_own hi
    simp only [if_neg e] at hib
    have hbs := h.heap_own ho' hib
    have hne : (g.ν k).ownBlock ≠ some b := by
      intro hh
      rcases h.doo i k o' p ho' hk e with q | q
      · rw [q] at hib; cases hib
      · rw [hib, hh] at q; exact q rfl
    rcases hcase with ⟨hvb', hg⟩ | ⟨hvb', hg⟩
    · exact ⟨hg.block _ hbs (Ne.symm hne), by rw [hvb']; exact hne⟩
    · exact ⟨hg.block _ hbs (by simp), by rw [hvb']; intro e; have := Option.some.inj e; omega⟩
  · intro b hvb
    rcases hcase with ⟨hvb', hg⟩ | ⟨hvb', hg⟩
    · exact h.omine k p b hk (by rw [← hvb', hvb])
    · rw [hvb'] at hvb
      cases hvb
      exact .inl h.below.size
  · intro i m hq
    have hlm := h.heap_map hq
    rcases hcase with ⟨hvb', hg⟩ | ⟨hvb', hg⟩
    · refine hg.block _ hlm (fun e => ?_)
      obtain ⟨_, es, cl, h2, _⟩ := h.map i m hq
      rcases hrow0.2 with ⟨e1, _⟩ | ⟨gg, cap, cur, e1, _, e3, _⟩
      · rw [e1] at e; cases e
      · rw [e1] at e
        have hgg : g.μ i = gg := by simpa [Value.ownBlock] using e
        rw [hgg, e3] at h2
        cases h2
    · exact hg.block _ hlm (by simp)
  · intro x hx
    rcases List.mem_append.1 hx with hx | hx
    · exact hlp x hx
    · exact hly x hx
end
end Go.Proofs.Ytnoohgiecnmajaa.VC

