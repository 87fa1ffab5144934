/- A part of the ground of the proof. No condition. -/
import Derived.Test.YtnoohgiecnmajaaGE20

/- The engine, part 21: a call that is handed memory, told by the caller's state: it is so. -/
namespace Go.Proofs.Ytnoohgiecnmajaa.VC
open Go Go.RowKit
set_option linter.unusedVariables false
set_option linter.unusedSimpArgs false

theorem own_cells {w : World} {base : Nat} {e : TypeId} {sz n : Nat} {v : Value} {xs : List Value} (h : w.ownsRow base e sz v n xs) {b : Nat} (hb : v.ownBlock = some b) : ∃ cur, w.heap[b]? = some (.cells cur e (0, 0)) := by
  rcases h.2 with ⟨e1, _⟩ | ⟨gg, cap, cur, e1, _, e3, _⟩
  · rw [e1] at hb; cases hb
  · rw [e1] at hb
    have : gg = b := by simpa [Value.ownBlock] using hb
    exact ⟨cur, by rw [← this]; exact e3⟩
theorem HQ.use {P : Program} {f : FuncId} {H : St} {args : List FE} {Q : FE → St → Prop} (h : HCalls P f H args Q) (ρ : Ren) {st : St} {fes : List FE} {K : FE → St → Prop} (hH : H.n = 0 ∧ H.env = [])
    (hfes : fes = args.map (FE.ren ρ H)) (hcl : args.all (FE.closed H) = true) (hb : OkB ρ H st H.box) (ho : OkO ρ st H.own) (hm : OkM ρ st H.mp)
    (k : ∀ fe H', Q fe H' → (nms id H'.box = nms id H.box ∧ nms id H'.own = nms id H.own ∧ nms id H'.mp = nms id H.mp) ∧ K (fe.ren ρ H') (st.back ρ H H')) : HQ P f st fes K := by
  refine ⟨h.there, fun M0 base gc a w vs hp hargs => ?_⟩
  subst hfes
  generalize hpb : nms ρ.b H.box = pb
  generalize hpo : nms ρ.o H.own = po
  generalize hpm : nms ρ.m H.mp = pm
  obtain ⟨R, hR⟩ : ∃ R : Region, R = Mset M0 gc { st with box := delAll pb st.box, own := delAll po st.own } := ⟨_, rfl⟩
  obtain ⟨g, hg⟩ : ∃ g : Gh, g = ⟨fun s => gc.β (ρ.b s), fun k => gc.ν (ρ.o k), fun k => gc.μ (ρ.m k)⟩ := ⟨_, rfl⟩
  obtain ⟨X, hX⟩ : ∃ X : Nat → Prop, X = fun b => (∃ s c, look s H.box = some c ∧ gc.β (ρ.b s) = b) ∨ (∃ k o, look k H.own = some o ∧ (gc.ν (ρ.o k)).ownBlock = some b) ∨ (∃ k m, look k H.mp = some m ∧ gc.μ (ρ.m k) = b) := ⟨_, rfl⟩
  have gβ : ∀ s, g.β s = gc.β (ρ.b s) := fun s => by rw [hg]
  have gν : ∀ s, g.ν s = gc.ν (ρ.o s) := fun s => by rw [hg]
  have gμ : ∀ s, g.μ s = gc.μ (ρ.m s) := fun s => by rw [hg]
  have r1 : ∀ b off, R b off → Mset M0 gc st b off := by
    intro b off hh
    rw [hR] at hh
    rcases hh with hh | ⟨s, c, q1, q2⟩ | ⟨k, o, q1, q2, q3⟩
    · exact .inl hh
    · simp only [look_delAll] at q1
      split at q1
      · cases q1
      · exact .inr (.inl ⟨s, c, q1, q2⟩)
    · simp only [look_delAll] at q1
      split at q1
      · cases q1
      · exact .inr (.inr ⟨k, o, q1, q2, q3⟩)
  have s1 : ∀ b off, Mset R g H b off → Mset M0 gc st b off := by
    rintro b off (hh | ⟨s, c, q1, q2⟩ | ⟨k, o, q1, q2, q3⟩)
    · exact r1 b off hh
    · exact .inr (.inl ⟨ρ.b s, _, (hb.get q1).1, by rw [← gβ]; exact q2⟩)
    · exact .inr (.inr ⟨ρ.o k, o, ho.get q1, by rw [← gν]; exact q2, q3⟩)
  have mv1 : Mv (Mset M0 gc st) w (Mset R g H) w := ⟨fun b off u hu hn => ⟨hu, fun hh => hn (s1 b off hh)⟩⟩
  have fr1 : ∀ fe v, FE.closed H fe = true → FR gc (Mset M0 gc st) w (FE.ren ρ H fe) v → FR g (Mset R g H) w fe v := by
    intro fe v hc hf
    cases fe with
    | pv x => exact VR.mv mv1 x v hf
    | ptr s off =>
      obtain ⟨c, hx⟩ := Option.isSome_iff_exists.1 hc
      simp only [FE.ren, hx] at hf
      simp only [FR, gβ]
      exact hf
    | rptr cs =>
      obtain ⟨b, off, h1, h2⟩ := hf
      exact ⟨b, off, h1, Cells.mv mv1 b off cs h2⟩
    | own k =>
      obtain ⟨c, hx⟩ := Option.isSome_iff_exists.1 hc
      simp only [FE.ren, hx] at hf
      simp only [FR, gν]
      exact hf
    | optr k sz i off => cases hc
    | map k =>
      obtain ⟨c, hx⟩ := Option.isSome_iff_exists.1 hc
      simp only [FE.ren, hx] at hf
      simp only [FR, gμ]
      exact hf
    | dead => trivial
  have frc1 : ∀ (cs : List FE) (vs : List Value), cs.all (FE.closed H) = true → FRc gc (Mset M0 gc st) w (cs.map (FE.ren ρ H)) vs → FRc g (Mset R g H) w cs vs := by
    intro cs
    induction cs with
    | nil => intro vs _ hf; exact hf
    | cons c cs ih =>
      intro vs hc hf
      simp only [List.all_cons, Bool.and_eq_true] at hc
      simp only [List.map_cons, FRc] at hf ⊢
      obtain ⟨v, vs', q1, q2, q3, q4⟩ := hf
      exact ⟨v, vs', q1, fr1 _ _ hc.1 q2, q3, ih _ hc.2 q4⟩
  have frs1 : ∀ (cs : List FE) (vs : List Value), cs.all (FE.closed H) = true → FRs gc (Mset M0 gc st) w (cs.map (FE.ren ρ H)) vs → FRs g (Mset R g H) w cs vs := by
    intro cs
    induction cs with
    | nil => intro vs _ hf; exact hf
    | cons c cs ih =>
      intro vs hc hf
      simp only [List.all_cons, Bool.and_eq_true] at hc
      simp only [List.map_cons, FRs] at hf ⊢
      obtain ⟨v, vs', q1, q2, q4⟩ := hf
      exact ⟨v, vs', q1, fr1 _ _ hc.1 q2, ih _ hc.2 q4⟩
  have mineX : ∀ b, X b → base.mine b ∧ b < w.heap.size := by
    intro b hx
    rw [hX] at hx
    rcases hx with ⟨s, c, q1, q2⟩ | ⟨k, o, q1, q2⟩ | ⟨k, m, q1, q2⟩
    · have := hb.get q1
      have h1 := hp.box _ _ _ this.1
      rw [← q2]
      exact ⟨h1.1, hp.heap_box this.1⟩
    · exact ⟨hp.omine _ _ _ (ho.get q1) q2, hp.heap_own (ho.get q1) q2⟩
    · have := hm.get q1
      rw [← q2]
      exact ⟨(hp.map _ _ this.1).1, hp.heap_map this.1⟩
  have nxBox : ∀ s c, pb.contains s ≠ true → look s st.box = some c → ¬ X (gc.β s) := by
    intro s c hs hc hx
    rw [hX] at hx
    rcases hx with ⟨s', c', q1, q2⟩ | ⟨k, o, q1, q2⟩ | ⟨k, m, q1, q2⟩
    · have hne : ρ.b s' ≠ s := fun e => hs (by rw [← e, ← hpb]; exact nms_mem ρ.b q1)
      exact hp.dbb _ _ _ _ (hb.get q1).1 hc hne q2
    · exact hp.dbo _ _ _ _ hc (ho.get q1) q2
    · obtain ⟨_, es, cl, h2, _⟩ := hp.map _ _ (hm.get q1).1
      obtain ⟨_, vs, h3, _⟩ := hp.box s c.1 c.2 hc
      rw [q2, h3] at h2
      cases h2
  have nxOwn : ∀ k o b, po.contains k ≠ true → look k st.own = some o → (gc.ν k).ownBlock = some b → ¬ X b := by
    intro k o b hk hc hbk hx
    rw [hX] at hx
    rcases hx with ⟨s', c', q1, q2⟩ | ⟨k', o', q1, q2⟩ | ⟨k', m, q1, q2⟩
    · exact hp.dbo _ _ _ _ (hb.get q1).1 hc (by rw [hbk, q2])
    · have hne : ρ.o k' ≠ k := fun e => hk (by rw [← e, ← hpo]; exact nms_mem ρ.o q1)
      rcases hp.doo _ _ _ _ (ho.get q1) hc hne with q | q
      · rw [q] at q2; cases q2
      · rw [q2, hbk] at q; exact q rfl
    · obtain ⟨_, es, cl, h2, _⟩ := hp.map _ _ (hm.get q1).1
      obtain ⟨vals, h3, _⟩ := hp.own k o hc
      obtain ⟨cur, h4⟩ := own_cells h3 hbk
      rw [q2, h4] at h2
      cases h2
  have nxMap : ∀ k m, pm.contains k ≠ true → look k st.mp = some m → ¬ X (gc.μ k) := by
    intro k m hk hc hx
    obtain ⟨_, es, cl, h2, _⟩ := hp.map _ _ hc
    rw [hX] at hx
    rcases hx with ⟨s', c', q1, q2⟩ | ⟨k', o', q1, q2⟩ | ⟨k', m', q1, q2⟩
    · obtain ⟨_, vs, h3, _⟩ := hp.box _ _ _ (hb.get q1).1
      rw [q2, h2] at h3
      cases h3
    · obtain ⟨vals, h3, _⟩ := hp.own _ _ (ho.get q1)
      obtain ⟨cur, h4⟩ := own_cells h3 q2
      rw [h2] at h4
      cases h4
    · have hne : ρ.m k' ≠ k := fun e => hk (by rw [← e, ← hpm]; exact nms_mem ρ.m q1)
      exact hp.dmm _ _ _ _ (hm.get q1).1 hc hne q2
  have hent : Rp R (bs0 w X R g H) g H a0 w := by
    refine ⟨Bel.refl _ _, ?_, Mv.refl _ _, by rw [hH.1]; exact Nat.zero_le _, fun s _ => ⟨rfl, rfl⟩, by rw [hH.1]; rfl, rfl, ?_, ?_, ?_, ?_, ?_, ?_, ?_, ?_, ?_⟩
    · intro b off hh
      refine ⟨hp.m_lt b off (r1 b off hh), ?_⟩
      intro hx
      have hx : X b := hx
      have hmx := mineX b hx
      rw [hR] at hh
      rcases hh with hh | ⟨s, c, q1, q2⟩ | ⟨k, o, q1, q2, q3⟩
      · have := hp.m0 b off hh
        rcases hmx.1 with q | q
        · omega
        · exact this.2 q
      · simp only [look_delAll] at q1
        split at q1
        · cases q1
        · rename_i hns
          exact nxBox s c hns q1 (by rw [q2]; exact hx)
      · simp only [look_delAll] at q1
        split at q1
        · cases q1
        · rename_i hnk
          exact nxOwn k o b hnk q1 q2 hx
    · intro t fe hf
      rw [hH.2] at hf
      simp [look] at hf
    · intro s T cs hs
      have h1 := hb.get hs
      obtain ⟨m1, vs, h2, h3⟩ := hp.box _ _ _ h1.1
      rw [gβ]
      exact ⟨.inr (by show X _; rw [hX]; exact .inl ⟨s, _, hs, rfl⟩), vs, h2, frc1 _ _ h1.2.1 h3⟩
    · intro k o hk
      obtain ⟨vals, h1, h2, h3⟩ := hp.own _ _ (ho.get hk)
      rw [gν]
      exact ⟨vals, h1, VRc.mv mv1 _ _ h2, h3⟩
    · intro k o b hk hkb
      rw [gν] at hkb
      exact .inr (by show X _; rw [hX]; exact .inr (.inl ⟨k, o, hk, hkb⟩))
    · intro k m hk
      obtain ⟨_, es, cl, h2, h3⟩ := hp.map _ _ (hm.get hk).1
      rw [gμ]
      exact ⟨.inr (by show X _; rw [hX]; exact .inr (.inr ⟨k, m, hk, rfl⟩)), es, cl, h2, h3⟩
    · intro s s' c c' h1 h2 hne
      rw [gβ, gβ]
      exact hp.dbb _ _ _ _ (hb.get h1).1 (hb.get h2).1 (hb.inj h1 h2 hne)
    · intro s k c o h1 h2
      rw [gβ, gν]
      exact hp.dbo _ _ _ _ (hb.get h1).1 (ho.get h2)
    · intro k k' o o' h1 h2 hne
      rw [gν, gν]
      exact hp.doo _ _ _ _ (ho.get h1) (ho.get h2) (ho.inj h1 h2 hne)
    · intro k k' o o' h1 h2 hne
      rw [gμ, gμ]
      exact hp.dmm _ _ _ _ (hm.get h1).1 (hm.get h2).1 (hm.inj h1 h2 hne)
  refine (h.calls R X g w vs hent (frs1 _ _ hcl hargs)).mono ?_
  rintro e w' ⟨v, fe, g', H', rfl, hp', hfr, hQ⟩
  obtain ⟨⟨n1, n2, n3⟩, hK⟩ := k fe H' hQ
  have pinβ : ∀ s, HI ≤ s → g'.β s = gc.β (ρ.b s) := fun s hs => (hp'.pin s hs).1.trans (gβ s)
  have pinμ : ∀ s, HI ≤ s → g'.μ s = gc.μ (ρ.m s) := fun s hs => (hp'.pin s hs).2.trans (gμ s)
  classical
  obtain ⟨ν2, hν2⟩ : ∃ ν2 : Nat → Value, ν2 = fun j => if hj : ∃ k, (∃ o, look k H.own = some o) ∧ ρ.o k = j then g'.ν (Classical.choose hj) else gc.ν j := ⟨_, rfl⟩
  have hν1 : ∀ k o, look k H.own = some o → ν2 (ρ.o k) = g'.ν k := by
    intro k o hk
    have hj : ∃ k', (∃ o, look k' H.own = some o) ∧ ρ.o k' = ρ.o k := ⟨k, ⟨o, hk⟩, rfl⟩
    rw [hν2]
    simp only [dif_pos hj]
    obtain ⟨⟨o', h1⟩, h2⟩ := Classical.choose_spec hj
    by_cases e : Classical.choose hj = k
    · rw [e]
    · exact absurd h2 (ho.inj h1 hk e)
  have hν3 : ∀ j, po.contains j ≠ true → ν2 j = gc.ν j := by
    intro j hj
    rw [hν2]
    have : ¬ ∃ k, (∃ o, look k H.own = some o) ∧ ρ.o k = j := by
      rintro ⟨k, ⟨o, h1⟩, h2⟩
      exact hj (by rw [← h2, ← hpo]; exact nms_mem ρ.o h1)
    simp only [dif_neg this]
  obtain ⟨g2, hg2⟩ : ∃ g2 : Gh, g2 = ⟨gc.β, ν2, gc.μ⟩ := ⟨_, rfl⟩
  have g2β : ∀ s, g2.β s = gc.β s := fun s => by rw [hg2]
  have g2ν : ∀ s, g2.ν s = ν2 s := fun s => by rw [hg2]
  have g2μ : ∀ s, g2.μ s = gc.μ s := fun s => by rw [hg2]
  have lb : ∀ s c, look s (st.back ρ H H').box = some c → (∃ s0 c0, ρ.b s0 = s ∧ look s0 H'.box = some c0 ∧ c = (c0.1, c0.2.map (FE.ren ρ H'))) ∨ (pb.contains s ≠ true ∧ ∃ c0, look s st.box = some c0 ∧ c = (c0.1, c0.2.map (FE.koAll po))) := by
    intro s c hc
    simp only [St.back, look_app, hpb, hpo] at hc
    split at hc
    · rename_i x hx
      cases hc
      obtain ⟨s0, x0, e1, e2, e3⟩ := look_renL _ _ _ _ _ hx
      exact .inl ⟨s0, x0, e1, e2, e3⟩
    · rw [look_delAll] at hc
      split at hc
      · cases hc
      · rename_i hns
        rw [look_mapv] at hc
        obtain ⟨c0, h1, h2⟩ := Option.map_eq_some_iff.1 hc
        exact .inr ⟨hns, c0, h1, h2.symm⟩
  have lo : ∀ s c, look s (st.back ρ H H').own = some c → (∃ s0, ρ.o s0 = s ∧ look s0 H'.own = some c) ∨ (po.contains s ≠ true ∧ look s st.own = some c) := by
    intro s c hc
    simp only [St.back, look_app, hpo] at hc
    split at hc
    · rename_i x hx
      cases hc
      obtain ⟨s0, x0, e1, e2, e3⟩ := look_renL _ _ _ _ _ hx
      exact .inl ⟨s0, e1, by rw [e3]; exact e2⟩
    · rw [look_delAll] at hc
      split at hc
      · cases hc
      · rename_i hns
        exact .inr ⟨hns, hc⟩
  have lm : ∀ s c, look s (st.back ρ H H').mp = some c → (∃ s0, ρ.m s0 = s ∧ look s0 H'.mp = some c) ∨ (pm.contains s ≠ true ∧ look s st.mp = some c) := by
    intro s c hc
    simp only [St.back, look_app, hpm] at hc
    split at hc
    · rename_i x hx
      cases hc
      obtain ⟨s0, x0, e1, e2, e3⟩ := look_renL _ _ _ _ _ hx
      exact .inl ⟨s0, e1, by rw [e3]; exact e2⟩
    · rw [look_delAll] at hc
      split at hc
      · cases hc
      · rename_i hns
        exact .inr ⟨hns, hc⟩
  have nb : ∀ {s c}, look s H'.box = some c → ∃ c0, look s H.box = some c0 ∧ HI ≤ s := by
    intro s c hs
    obtain ⟨c0, h0⟩ := nms_look n1 hs
    exact ⟨c0, h0, (hb.get h0).2.2⟩
  have no : ∀ {s c}, look s H'.own = some c → ∃ c0, look s H.own = some c0 := fun hs => nms_look n2 hs
  have nm : ∀ {s c}, look s H'.mp = some c → ∃ c0, look s H.mp = some c0 ∧ HI ≤ s := by
    intro s c hs
    obtain ⟨c0, h0⟩ := nms_look n3 hs
    exact ⟨c0, h0, (hm.get h0).2⟩
  have s3 : ∀ b off, Mset M0 g2 (st.back ρ H H') b off → Mset R g' H' b off := by
    rintro b off (hh | ⟨s, c, q1, q2⟩ | ⟨k, o, q1, q2, q3⟩)
    · exact .inl (by rw [hR]; exact .inl hh)
    · rcases lb s c q1 with ⟨s0, c0, rfl, q3, rfl⟩ | ⟨hns, c0, q3, rfl⟩
      · obtain ⟨_, _, hi⟩ := nb q3
        exact .inr (.inl ⟨s0, c0, q3, by rw [pinβ s0 hi, ← g2β]; exact q2⟩)
      · exact .inl (by rw [hR]; exact .inr (.inl ⟨s, c0, by simp only [look_delAll]; rw [if_neg hns]; exact q3, by rw [← g2β]; exact q2⟩))
    · rw [g2ν] at q2
      rcases lo k o q1 with ⟨k0, rfl, q4⟩ | ⟨hnk, q4⟩
      · obtain ⟨_, h0⟩ := no q4
        rw [hν1 _ _ h0] at q2
        exact .inr (.inr ⟨k0, o, q4, q2, q3⟩)
      · rw [hν3 _ hnk] at q2
        exact .inl (by rw [hR]; exact .inr (.inr ⟨k, o, by simp only [look_delAll]; rw [if_neg hnk]; exact q4, q2, q3⟩))
  have mv3 : Mv (Mset R g' H') w' (Mset M0 g2 (st.back ρ H H')) w' := ⟨fun b off u hu hn => ⟨hu, fun hh => hn (s3 b off hh)⟩⟩
  have mvA : Mv (Mset M0 gc st) w (Mset M0 g2 (st.back ρ H H')) w' := mv1.trans (hp'.keep.trans mv3)
  have frk : ∀ fe v, FR gc (Mset M0 gc st) w fe v → FR g2 (Mset M0 g2 (st.back ρ H H')) w' (FE.koAll po fe) v := by
    intro fe v hf
    cases fe with
    | pv x => exact VR.mv mvA x v hf
    | ptr s off => simp only [FE.koAll, FR, g2β] at hf ⊢; exact hf
    | rptr cs =>
      obtain ⟨b, off, h1, h2⟩ := hf
      exact ⟨b, off, h1, Cells.mv mvA b off cs h2⟩
    | own k =>
      simp only [FE.koAll]
      split
      · trivial
      · rename_i hk
        simp only [FR, g2ν, hν3 k hk] at hf ⊢
        exact hf
    | optr k sz i off =>
      simp only [FE.koAll]
      split
      · trivial
      · rename_i hk
        simp only [FR, g2ν, hν3 k hk] at hf ⊢
        exact hf
    | map k => simp only [FE.koAll, FR, g2μ] at hf ⊢; exact hf
    | dead => trivial
  have frn : ∀ fe v, FR g' (Mset R g' H') w' fe v → FR g2 (Mset M0 g2 (st.back ρ H H')) w' (fe.ren ρ H') v := by
    intro fe v hf
    cases fe with
    | pv x => exact VR.mv mv3 x v hf
    | ptr s off =>
      simp only [FE.ren]
      split
      · rename_i c hc
        obtain ⟨_, _, hi⟩ := nb hc
        simp only [FR, g2β] at hf ⊢
        rw [← pinβ s hi]
        exact hf
      · trivial
    | rptr cs =>
      obtain ⟨b, off, h1, h2⟩ := hf
      exact ⟨b, off, h1, Cells.mv mv3 b off cs h2⟩
    | own k =>
      simp only [FE.ren]
      split
      · rename_i c hc
        obtain ⟨_, h0⟩ := no hc
        simp only [FR, g2ν] at hf ⊢
        rw [hν1 _ _ h0]
        exact hf
      · trivial
    | optr k sz i off => trivial
    | map k =>
      simp only [FE.ren]
      split
      · rename_i c hc
        obtain ⟨_, _, hi⟩ := nm hc
        simp only [FR, g2μ] at hf ⊢
        rw [← pinμ k hi]
        exact hf
      · trivial
    | dead => trivial
  have frcn : ∀ (cs : List FE) (vs : List Value), FRc g' (Mset R g' H') w' cs vs → FRc g2 (Mset M0 g2 (st.back ρ H H')) w' (cs.map (FE.ren ρ H')) vs := by
    intro cs
    induction cs with
    | nil => intro vs hf; exact hf
    | cons c cs ih =>
      intro vs hf
      simp only [List.map_cons, FRc] at hf ⊢
      obtain ⟨v, vs', q1, q2, q3, q4⟩ := hf
      exact ⟨v, vs', q1, frn _ _ q2, q3, ih _ q4⟩
  have frck : ∀ (cs : List FE) (vs : List Value), FRc gc (Mset M0 gc st) w cs vs → FRc g2 (Mset M0 g2 (st.back ρ H H')) w' (cs.map (FE.koAll po)) vs := by
    intro cs
    induction cs with
    | nil => intro vs hf; exact hf
    | cons c cs ih =>
      intro vs hf
      simp only [List.map_cons, FRc] at hf ⊢
      obtain ⟨v, vs', q1, q2, q3, q4⟩ := hf
      exact ⟨v, vs', q1, frk _ _ q2, q3, ih _ q4⟩
  have mine2 : ∀ b, (w.heap.size ≤ b ∨ X b) → base.mine b := by
    rintro b (q | q)
    · exact .inl (Nat.le_trans hp.below.size q)
    · exact (mineX b q).1
  have hblk : ∀ b, b < w.heap.size → ¬ X b → w'.heap[b]? = w.heap[b]? := fun b h1 h2 => hp'.below.block b h1 h2
  refine ⟨v, fe.ren ρ H', g2, st.back ρ H H', rfl, ⟨?_, hp.m0, hp.keep.trans mvA, hp.hn, ?_, hp.size, hp.defers, ?_, ?_, ?_, ?_, ?_, ?_, ?_, ?_, ?_⟩, frn fe v hfr, hK⟩
  · exact hp.below.step hp'.below.os hp'.below.tape hp'.below.output hp'.below.size (fun b h1 h2 => hblk b h1 (fun hx => h2 (mineX b hx).1))
  · intro s hs
    rw [g2β, g2μ]
    exact hp.pin s hs
  · intro t fe hf
    simp only [St.back, look_mapv, hpo] at hf
    obtain ⟨fe0, h1, rfl⟩ := Option.map_eq_some_iff.1 hf
    obtain ⟨u, h2, h3⟩ := hp.env t fe0 h1
    exact ⟨u, h2, frk _ _ h3⟩
  · intro s T cs hs
    rw [g2β]
    rcases lb s _ hs with ⟨s0, c0, rfl, q3, q4⟩ | ⟨hns, c0, q3, q4⟩
    · obtain ⟨_, _, hi⟩ := nb q3
      cases q4
      obtain ⟨m1, vs, h2, h3⟩ := hp'.box s0 c0.1 c0.2 q3
      rw [pinβ s0 hi] at m1 h2
      exact ⟨mine2 _ m1, vs, h2, frcn _ _ h3⟩
    · cases q4
      obtain ⟨m1, vs, h2, h3⟩ := hp.box s c0.1 c0.2 q3
      exact ⟨m1, vs, by rw [hblk _ (hp.heap_box q3) (nxBox s _ hns q3)]; exact h2, frck _ _ h3⟩
  · intro k o hk
    rw [g2ν]
    rcases lo k o hk with ⟨k0, rfl, q4⟩ | ⟨hnk, q4⟩
    · obtain ⟨_, h0⟩ := no q4
      rw [hν1 _ _ h0]
      obtain ⟨vals, h1, h2, h3⟩ := hp'.own k0 o q4
      exact ⟨vals, h1, VRc.mv mv3 _ _ h2, h3⟩
    · rw [hν3 _ hnk]
      obtain ⟨vals, h1, h2, h3⟩ := hp.own k o q4
      refine ⟨vals, ⟨h1.1, h1.2.imp id ?_⟩, VRc.mv mvA _ _ h2, h3⟩
      rintro ⟨gg, cap, cur, e1, e2, e3, e4⟩
      exact ⟨gg, cap, cur, e1, e2, by rw [hblk _ (Array.getElem?_eq_some_iff.1 e3).1 (nxOwn k o gg hnk q4 (by rw [e1]; rfl))]; exact e3, e4⟩
  · intro k o b hk hkb
    rw [g2ν] at hkb
    rcases lo k o hk with ⟨k0, rfl, q4⟩ | ⟨hnk, q4⟩
    · obtain ⟨_, h0⟩ := no q4
      rw [hν1 _ _ h0] at hkb
      exact mine2 _ (hp'.omine k0 o b q4 hkb)
    · rw [hν3 _ hnk] at hkb
      exact hp.omine k o b q4 hkb
  · intro k m hk
    rw [g2μ]
    rcases lm k m hk with ⟨k0, rfl, q4⟩ | ⟨hnk, q4⟩
    · obtain ⟨_, _, hi⟩ := nm q4
      obtain ⟨m1, es, cl, h2, h3⟩ := hp'.map k0 m q4
      rw [pinμ k0 hi] at m1 h2
      exact ⟨mine2 _ m1, es, cl, h2, h3⟩
    · obtain ⟨m1, es, cl, h2, h3⟩ := hp.map k m q4
      exact ⟨m1, es, cl, by rw [hblk _ (hp.heap_map q4) (nxMap k m hnk q4)]; exact h2, h3⟩
  · have got : ∀ s c, look s (st.back ρ H H').box = some c → ∃ c', look s st.box = some c' := by
      intro s c hc
      rcases lb s c hc with ⟨s0, c0, rfl, q3, _⟩ | ⟨_, c0, q3, _⟩
      · obtain ⟨_, h0, _⟩ := nb q3
        exact ⟨_, (hb.get h0).1⟩
      · exact ⟨c0, q3⟩
    intro s s' c c' h1 h2 hne
    obtain ⟨d, hd⟩ := got s c h1
    obtain ⟨d', hd'⟩ := got s' c' h2
    rw [g2β, g2β]
    exact hp.dbb _ _ _ _ hd hd' hne
  · intro s k c o h1 h2
    rw [g2β, g2ν]
    rcases lb s c h1 with ⟨s0, c0, rfl, q3, _⟩ | ⟨hns, c0, q3, _⟩
    · obtain ⟨_, hs0, hi⟩ := nb q3
      rcases lo k o h2 with ⟨k0, rfl, q4⟩ | ⟨hnk, q4⟩
      · obtain ⟨_, h0⟩ := no q4
        rw [hν1 _ _ h0, ← pinβ s0 hi]
        exact hp'.dbo s0 k0 _ _ q3 q4
      · rw [hν3 _ hnk]
        exact hp.dbo _ _ _ _ (hb.get hs0).1 q4
    · rcases lo k o h2 with ⟨k0, rfl, q4⟩ | ⟨hnk, q4⟩
      · obtain ⟨_, h0⟩ := no q4
        rw [hν1 _ _ h0]
        intro hh
        rcases hp'.omine k0 o _ q4 hh with q | q
        · have hq : w.heap.size ≤ gc.β s := q
          have := hp.heap_box q3; omega
        · exact nxBox s _ hns q3 q
      · rw [hν3 _ hnk]
        exact hp.dbo _ _ _ _ q3 q4
  · intro k k' o o' h1 h2 hne
    rw [g2ν, g2ν]
    have mixed : ∀ k0 p, look k0 H'.own = some p → ∀ j q, po.contains j ≠ true → look j st.own = some q → ∀ b, (g'.ν k0).ownBlock = some b → (gc.ν j).ownBlock = some b → False := by
      intro k0 p h1 j q hj h2 b hb1 hb2
      rcases hp'.omine k0 p b h1 hb1 with r | r
      · have hr : w.heap.size ≤ b := r
        have := hp.heap_own h2 hb2; omega
      · exact nxOwn j q b hj h2 hb2 r
    rcases lo k o h1 with ⟨k0, rfl, q3⟩ | ⟨hnk, q3⟩
    · obtain ⟨_, h0⟩ := no q3
      rw [hν1 _ _ h0]
      rcases lo k' o' h2 with ⟨k1, rfl, q4⟩ | ⟨hnk', q4⟩
      · obtain ⟨_, h0'⟩ := no q4
        rw [hν1 _ _ h0']
        exact hp'.doo k0 k1 _ _ q3 q4 (fun e => hne (by rw [e]))
      · rw [hν3 _ hnk']
        cases hq : (g'.ν k0).ownBlock with
        | none => exact .inl rfl
        | some b => exact .inr (fun hh => mixed k0 o q3 k' o' hnk' q4 b hq hh.symm)
    · rw [hν3 _ hnk]
      rcases lo k' o' h2 with ⟨k1, rfl, q4⟩ | ⟨hnk', q4⟩
      · obtain ⟨_, h0'⟩ := no q4
        rw [hν1 _ _ h0']
        cases hq : (gc.ν k).ownBlock with
        | none => exact .inl rfl
        | some b => exact .inr (fun hh => mixed k1 o' q4 k o hnk q3 b hh.symm hq)
      · rw [hν3 _ hnk']
        exact hp.doo _ _ _ _ q3 q4 hne
  · have got : ∀ s c, look s (st.back ρ H H').mp = some c → ∃ c', look s st.mp = some c' := by
      intro s c hc
      rcases lm s c hc with ⟨s0, rfl, q3⟩ | ⟨_, q3⟩
      · obtain ⟨_, h0, _⟩ := nm q3
        exact ⟨_, (hm.get h0).1⟩
      · exact ⟨_, q3⟩
    intro k k' o o' h1 h2 hne
    obtain ⟨d, hd⟩ := got k o h1
    obtain ⟨d', hd'⟩ := got k' o' h2
    rw [g2μ, g2μ]
    exact hp.dmm _ _ _ _ hd hd' hne
end Go.Proofs.Ytnoohgiecnmajaa.VC

