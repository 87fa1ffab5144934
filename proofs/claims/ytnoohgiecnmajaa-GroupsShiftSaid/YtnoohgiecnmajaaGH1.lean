/- A part of the ground of the proof. No condition. -/
import Derived.Test.YtnoohgiecnmajaaGH0

/- The lexer of the document: what is known of its tokens. -/
namespace Go.Proofs.Ytnoohgiecnmajaa.VC
open Go Go.RowKit
set_option linter.unusedVariables false
set_option linter.unusedSimpArgs false
set_option maxHeartbeats 4000000

/-- What is known of a token. -/
structure TokMay (m : Int) (t : Tok) : Prop where
  kind : 1 ≤ t.kind ∧ t.kind ≤ 15
  c : 0 ≤ t.c ∧ t.c ≤ 1114111
  n : 0 ≤ t.n ∧ t.n ≤ 255
  mm : -1 ≤ t.m ∧ t.m ≤ 255
  mode : -1 ≤ t.mode ∧ t.mode ≤ 255
  set : t.set = [] ∨ t.set = [(10, 10)] ∨ ∃ l : List (Int × Int), t.set = newP l m ∧ l.length ≤ 30000000
  k4 : t.kind = 4 → 1 ≤ t.n ∧ t.n ≤ 10
  k9 : t.kind = 9 → (t.m = -1 ∨ t.n ≤ t.m) ∧ 0 ≤ t.mode ∧ t.mode ≤ 2
  k10 : t.kind = 10 → 1 ≤ t.n ∧ t.n ≤ 13
  m3 : t.kind ≠ 9 → 0 ≤ t.m ∧ t.m ≤ 3
  k13 : t.kind = 13 → 1 ≤ t.n ∧ t.n ≤ 7
  cond : t.kind = 10 → (t.n = 9 → t.m ≤ 2 ∧ t.name = bs [] ∧ 1 ≤ t.mode) ∧ (t.n = 10 → t.m = 0 ∧ t.mode = 0) ∧ (t.n = 11 → (t.m = 3 ∧ t.mode = 0) ∨ (t.m = 0 ∧ t.name = bs [])) ∧ (t.n ≥ 12 → t.m = 0 ∧ t.mode = 0 ∧ t.name = bs [])
/-- What is known of what begins at an offset. -/
def GotOk (x : Text) (i : Int) (g : Got) : Prop := g.e = 0 → i < g.to ∧ g.to ≤ x.s.size ∧ (g.some = true → TokMay x.most g.t ∧ g.t.at_ = i ∧ g.t.to = g.to)
theorem gotOk_bad {x : Text} {i : Int} (e a : Int) (he : e ≠ 0) : GotOk x i (badG e a) := fun h => absurd h he
theorem gotOk_end {x : Text} {i : Int} : GotOk x i (endG x) := gotOk_bad 20 _ (by decide)
theorem gotOk_skip {x : Text} {i b : Int} (h1 : i < b) (h2 : b ≤ x.s.size) : GotOk x i (skipG b) := fun _ => ⟨h1, h2, fun h => by cases h⟩
theorem gotOk_tok {x : Text} {i b : Int} {t : Tok} (h1 : i < b) (h2 : b ≤ x.s.size) (ht : TokMay x.most t) : GotOk x i (tokG t i b) :=
  fun _ => ⟨h1, h2, fun _ => ⟨⟨ht.kind, ht.c, ht.n, ht.mm, ht.mode, ht.set, ht.k4, ht.k9, ht.k10, ht.m3, ht.k13, ht.cond⟩, rfl, rfl⟩⟩
theorem gotOk_ite {x : Text} {i : Int} {c : Prop} [Decidable c] {a b : Got} (h1 : c → GotOk x i a) (h2 : ¬ c → GotOk x i b) : GotOk x i (if c then a else b) := by
  by_cases h : c
  · rw [if_pos h]; exact h1 h
  · rw [if_neg h]; exact h2 h
theorem gotOk_shut {x : Text} {t : Tok} {a i : Int} {s : ByteArray} {e : Int} (ha : a < i) (he : e ≠ 0) (ht : TokMay x.most t) : GotOk x a (shutP x t a i s e) := by
  unfold shutP
  split
  · rename_i h
    have := isP_le h
    exact gotOk_tok (by omega) this ht
  split
  · exact gotOk_end
  · exact gotOk_bad _ _ he
theorem gotOk_called {x : Text} {t : Tok} {a i : Int} {s : ByteArray} (ha : a < i) (ht : ∀ nm, TokMay x.most { t with name := nm }) : GotOk x a (calledP x t a i s) := by
  have hr := nameTo_rng x.s i
  unfold calledP
  split
  · exact gotOk_end
  split
  · exact gotOk_bad _ _ (by decide)
  split
  · exact gotOk_bad _ _ (by decide)
  · rename_i h
    have h' : isP x.s (nameTo x.s i) s = true := by simpa using h
    have := isP_le h'
    exact gotOk_tok (by omega) this (ht _)
theorem may_flags {m a b : Int} : TokMay m { tokZ with kind := 15, on := a, off := b } := by
  constructor <;> simp [tokZ]
theorem may_plain {m a b : Int} : TokMay m { tokZ with kind := 10, n := 2, on := a, off := b } := by
  constructor <;> simp [tokZ]
theorem gotOk_flags {x : Text} {a : Int} : ∀ (k : Nat) (i : Int) (off : Bool) (p q : Int), a < i → GotOk x a (flagsL x a k i off p q)
  | 0, i, off, p, q, h => gotOk_end
  | k + 1, i, off, p, q, h => by
    unfold flagsL
    split
    · exact gotOk_end
    split
    · exact gotOk_tok (by omega) (by omega) may_flags
    split
    · exact gotOk_tok (by omega) (by omega) may_plain
    split
    · split
      · exact gotOk_bad _ _ (by decide)
      · exact gotOk_flags k _ _ _ _ (by omega)
    split
    · exact gotOk_bad _ _ (by decide)
    split
    · exact gotOk_flags k _ _ _ _ (by omega)
    · exact gotOk_flags k _ _ _ _ (by omega)
theorem referK_kind (s : ByteArray) (i : Int) : (referK s i).1 = 11 ∨ (referK s i).1 = 12 := by
  unfold referK
  simp only
  split
  · exact .inr rfl
  split
  · exact .inr rfl
  · exact .inl rfl
theorem gotOk_refer {x : Text} {a i : Int} (ha : a < i) (hi : i ≤ x.s.size) : GotOk x a (referP x a i) := by
  have hk := referK_kind x.s i
  have hle := referK_le x.s i hi
  unfold referP
  simp only
  generalize referK x.s i = p at *
  obtain ⟨kind, cl⟩ := p
  simp only at *
  have hq := signedP_range x.s (i + cl.size) (by omega)
  have hr := nameTo_rng x.s (i + cl.size)
  split
  · exact gotOk_bad _ _ (by decide)
  rename_i hgr
  have hgr' : (signedP x.s (i + cl.size)).2.2.2 = false := by simpa using hgr
  have h255 := hq.2.2.2.2.2.2 hgr'
  split
  · split
    · exact gotOk_bad _ _ (by decide)
    rename_i h
    have h' : isP x.s (signedP x.s (i + cl.size)).2.2.1 cl = true := by simpa using h
    have := isP_le h'
    split
    · exact gotOk_bad _ _ (by decide)
    · refine gotOk_tok (by omega) this ?_
      constructor <;> simp [tokZ] <;> omega
  split
  · exact gotOk_bad _ _ (by decide)
  rename_i hcl
  have hcs := hle.2.2 hcl
  split
  · exact gotOk_bad _ _ (by decide)
  split
  · exact gotOk_bad _ _ (by decide)
  · rename_i h
    have h' : isP x.s (nameTo x.s (i + cl.size)) cl = true := by simpa using h
    have := isP_le h'
    refine gotOk_tok (by omega) (by omega) ?_
    constructor <;> simp [tokZ] <;> omega
theorem verbN_range (s : ByteArray) : 0 ≤ verbN s ∧ verbN s ≤ 7 := by
  unfold verbN
  repeat' split
  all_goals omega
theorem gotOk_verb {x : Text} {a : Int} (h1 : a + 2 ≤ x.s.size) : GotOk x a (verbP x a) := by
  have hr := stopAt_range x.s 41 (a + 2) h1
  unfold verbP
  simp only
  have hv := verbN_range (verbHead (x.s.extract (a + 2).toNat (stopAt x.s 41 (a + 2)).toNat))
  split
  · exact gotOk_end
  split
  · exact gotOk_bad _ _ (by decide)
  · rename_i h
    have h0 : verbN (verbHead (x.s.extract (a + 2).toNat (stopAt x.s 41 (a + 2)).toNat)) ≠ 0 := by
      intro q
      apply h
      unfold verbBad
      rw [if_pos q]
    refine gotOk_tok (by omega) (by omega) ?_
    constructor <;> simp [tokZ] <;> omega
theorem gotOk_condFin {x : Text} {a : Int} {t : Tok} {to : Int} {ok : Bool} (ha : a < to) (ht : ¬ (t.n = 9 ∧ t.mode = 0) → TokMay x.most t) : GotOk x a (condFin x a t to ok) := by
  unfold condFin
  split
  · exact gotOk_bad _ _ (by decide)
  split
  · exact gotOk_bad _ _ (by decide)
  split
  · exact gotOk_bad _ _ (by decide)
  · rename_i h2 h3
    have h' : isP x.s to (bs [41]) = true := by simpa using h2
    have := isP_le h'
    have hz : (bs [41]).size = 1 := rfl
    exact gotOk_tok (by omega) (by omega) (ht h3)
theorem gotOk_condition {x : Text} {a i : Int} (ha : a + 2 < i) (hi : i ≤ x.s.size) : GotOk x a (conditionP x a i) := by
  have hn := nameTo_rng x.s (i + 1)
  have hn2 := nameTo_rng x.s (i + 2)
  have hq := signedP_range x.s i hi
  have hp := numP_range x.s (i + 1)
  have m13 : TokMay x.most { tokZ with kind := 10, n := 13 } := by constructor <;> simp [tokZ]
  unfold conditionP
  split
  · exact gotOk_tok (by omega) (by omega) m13
  split
  · exact gotOk_tok (by omega) (by omega) m13
  split
  · exact gotOk_tok (by omega) (by omega) m13
  split
  · exact gotOk_tok (by omega) (by omega) m13
  unfold condRest
  split
  · refine gotOk_condFin (by omega) (fun _ => ?_)
    constructor <;> simp [tokZ]
  split
  · refine gotOk_condFin (by omega) (fun _ => ?_)
    constructor <;> simp [tokZ]
  split
  · refine gotOk_condFin (by omega) (fun _ => ?_)
    constructor <;> simp [tokZ]
  split
  · split
    · exact gotOk_bad _ _ (by decide)
    rename_i hgr
    have hgr' : (numP x.s (i + 1)).2.2 = false := by simpa using hgr
    have h255 := hp.2.2.2.2 hgr'
    split
    · refine gotOk_condFin (by omega) (fun _ => ?_)
      constructor <;> simp [tokZ]
    · refine gotOk_condFin (by omega) (fun _ => ?_)
      constructor <;> simp [tokZ] <;> omega
  split
  · exact gotOk_bad _ _ (by decide)
  rename_i hgr
  have hgr' : (signedP x.s i).2.2.2 = false := by simpa using hgr
  have h255 := hq.2.2.2.2.2.2 hgr'
  refine gotOk_condFin (by omega) (fun hh => ?_)
  simp only [true_and] at hh
  constructor <;> simp [tokZ] <;> omega
theorem gotOk_openL {x : Text} {a i : Int} {g : Got} (ha : a < i) (hg : GotOk x a g) : ∀ l : List (ByteArray × Int), (∀ p ∈ l, 1 ≤ p.2 ∧ p.2 ≤ 8) → GotOk x a (openL x a i g l)
  | [], _ => hg
  | p :: l, h => by
    unfold openL
    split
    · rename_i hb
      have := isP_le hb
      have hp := h p (List.mem_cons_self ..)
      refine gotOk_tok (by omega) this ?_
      constructor <;> simp [tokZ] <;> omega
    · exact gotOk_openL ha hg l (fun q hq => h q (List.mem_cons_of_mem _ hq))
theorem gotOk_open {x : Text} {a : Int} (h0 : 0 ≤ a) (h1 : a < x.s.size) : GotOk x a (openP x a) := by
  unfold openP
  split
  · rename_i hb
    have := isP_le hb
    have hz : (bs [42]).size = 1 := rfl
    exact gotOk_verb (by omega)
  split
  · refine gotOk_tok (by omega) (by omega) ?_
    constructor <;> simp [tokZ]
  rename_i hb0
  have hb : isP x.s (a + 1) (bs [63]) = true := by simpa using hb0
  have hle := isP_le hb
  have hz : (bs [63]).size = 1 := rfl
  split
  · exact gotOk_end
  refine gotOk_openL (by omega) ?_ _ (by decide)
  generalize hi : a + 2 = i
  have hs := stopAt_range x.s 41 i (by omega)
  have hp := numP_range x.s (i + 1)
  have hq := signedP_range x.s i (by omega)
  have c1 : ∀ nm, TokMay x.most { { tokZ with kind := 10, n := 1 } with name := nm } := fun nm => by constructor <;> simp [tokZ]
  have c2 : ∀ nm, TokMay x.most { { tokZ with kind := 11, m := 3 } with name := nm } := fun nm => by constructor <;> simp [tokZ]
  have c3 : ∀ nm, TokMay x.most { { tokZ with kind := 12, m := 3 } with name := nm } := fun nm => by constructor <;> simp [tokZ]
  unfold openRest
  refine gotOk_ite (fun hb => ?_) (fun hb => ?_)
  · refine gotOk_ite (fun hb => ?_) (fun hb => ?_)
    · exact gotOk_end
    · exact gotOk_skip (by omega) (by omega)
  refine gotOk_ite (fun hb => ?_) (fun hb => ?_)
  · exact gotOk_called (by omega) c1
  refine gotOk_ite (fun hb => ?_) (fun hb => ?_)
  · exact gotOk_called (by omega) c1
  refine gotOk_ite (fun hb => ?_) (fun hb => ?_)
  · exact gotOk_called (by omega) c1
  refine gotOk_ite (fun hb => ?_) (fun hb => ?_)
  · exact gotOk_called (by omega) c2
  refine gotOk_ite (fun hb => ?_) (fun hb => ?_)
  · exact gotOk_called (by omega) c3
  refine gotOk_ite (fun hb => ?_) (fun hb => ?_)
  · exact gotOk_called (by omega) c3
  refine gotOk_ite (fun hb => ?_) (fun hb => ?_)
  · exact gotOk_shut (by omega) (by decide) (by constructor <;> simp [tokZ])
  refine gotOk_ite (fun hb => ?_) (fun hb => ?_)
  · refine gotOk_ite (fun hb => ?_) (fun hb => ?_)
    · exact gotOk_bad _ _ (by decide)
    have hgr := hb
    have hgr' : (numP x.s (i + 1)).2.2 = false := by simpa using hgr
    have h255 := hp.2.2.2.2 hgr'
    exact gotOk_shut (by omega) (by decide) (by constructor <;> simp [tokZ] <;> omega)
  refine gotOk_ite (fun hb => ?_) (fun hb => ?_)
  · have := isP_le hb
    have hz : (bs [40]).size = 1 := rfl
    exact gotOk_condition (by omega) (by omega)
  unfold openTail
  refine gotOk_ite (fun hb => ?_) (fun hb => ?_)
  · refine gotOk_ite (fun hb => ?_) (fun hb => ?_)
    · exact gotOk_bad _ _ (by decide)
    have hgr := hb
    have hgr' : (signedP x.s i).2.2.2 = false := by simpa using hgr
    have h255 := hq.2.2.2.2.2.2 hgr'
    refine gotOk_ite (fun hb => ?_) (fun hb => ?_)
    · refine gotOk_ite (fun hb => ?_) (fun hb => ?_)
      · exact gotOk_end
      · exact gotOk_bad _ _ (by decide)
    refine gotOk_ite (fun hb => ?_) (fun hb => ?_)
    · exact gotOk_bad _ _ (by decide)
    · exact gotOk_shut (by omega) (by decide) (by constructor <;> simp [tokZ] <;> omega)
  · exact gotOk_flags _ _ _ _ _ (by omega)
theorem gotOk_quant {x : Text} {i to n m : Int} (h1 : i < to) (h2 : to ≤ x.s.size) (hn : 0 ≤ n ∧ n ≤ 255) (hm : m = -1 ∨ n ≤ m ∧ m ≤ 255) : GotOk x i (quantP x i to n m) := by
  unfold quantP
  split
  · rename_i hb
    have := isP_le hb
    have hz : (bs [63]).size = 1 := rfl
    refine gotOk_tok (by omega) (by omega) ?_
    constructor <;> simp [tokZ] <;> omega
  split
  · rename_i hb
    have := isP_le hb
    have hz : (bs [43]).size = 1 := rfl
    refine gotOk_tok (by omega) (by omega) ?_
    constructor <;> simp [tokZ] <;> omega
  · refine gotOk_tok (by omega) (by omega) ?_
    constructor <;> simp [tokZ] <;> omega
end Go.Proofs.Ytnoohgiecnmajaa.VC

/- The lexer of the document: what is known of its tokens, to the end. -/
namespace Go.Proofs.Ytnoohgiecnmajaa.VC
open Go Go.RowKit
set_option linter.unusedVariables false
set_option linter.unusedSimpArgs false
set_option maxHeartbeats 4000000

theorem assertP_range (c : Int) : 0 ≤ assertP c ∧ assertP c ≤ 8 := by
  unfold assertP
  repeat' split
  all_goals omega
theorem simpleP_range (c : Int) : -1 ≤ simpleP c ∧ simpleP c ≤ 27 := by
  unfold simpleP
  repeat' split
  all_goals omega
theorem hexChk_val (x : Text) (n i : Int) : (hexChk x n i).1 = -1 ∨ (hexChk x n i).1 ≤ x.most := by
  unfold hexChk
  split
  · exact .inl rfl
  split
  · exact .inl rfl
  · exact .inr (by simp only; omega)
theorem hexaP_val (x : Text) (i : Int) : (hexaP x i).1 = -1 ∨ (hexaP x i).1 ≤ x.most := by
  unfold hexaP
  split
  · split
    · exact .inl rfl
    · exact hexChk_val _ _ _
  · exact hexChk_val _ _ _
theorem manyP_set (x : Text) (c i : Int) : (manyP x c i).l = [] ∨ ∃ l : List (Int × Int), (manyP x c i).l = newP l x.most ∧ l.length ≤ 30000000 := by
  have hQ : ∀ to neg s, (manyQ x i to neg s).l = [] ∨ ∃ l : List (Int × Int), (manyQ x i to neg s).l = newP l x.most ∧ l.length ≤ 30000000 := by
    intro to neg s
    unfold manyQ
    split
    · exact .inl rfl
    · exact .inr ⟨_, rfl, by have := propP_len s; omega⟩
  have hB : ∀ to neg s, (manyB x neg i to s).l = [] ∨ ∃ l : List (Int × Int), (manyB x neg i to s).l = newP l x.most ∧ l.length ≤ 30000000 := by
    intro to neg s
    unfold manyB
    split
    · exact .inl rfl
    split
    · split
      · exact hQ _ _ _
      · exact hQ _ _ _
    · exact hQ _ _ _
  unfold manyP
  split
  · exact hB _ _ _
  split
  · exact hB _ _ _
  split
  · split
    · exact .inr ⟨_, rfl, by have := escP_len (c + 32); omega⟩
    · exact .inr ⟨_, rfl, by have := escP_len c; omega⟩
  · exact .inr ⟨_, rfl, by have := escP_len c; omega⟩
theorem gotOk_escL {x : Text} {i to : Int} (h1 : i < to) : ∀ l : List (ByteArray × ByteArray), (∀ p ∈ l, p.2.size = 1) → GotOk x i (escL x i to l)
  | [], _ => gotOk_bad _ _ (by decide)
  | p :: l, h => by
    have hn := nameTo_rng x.s (to + 1)
    have hp := h p (List.mem_cons_self ..)
    have ih := gotOk_escL (x := x) h1 l (fun q hq => h q (List.mem_cons_of_mem _ hq))
    unfold escL
    refine gotOk_ite (fun hb => ?_) (fun hb => ih)
    refine gotOk_ite (fun hb2 => ?_) (fun hb => ih)
    refine gotOk_ite (fun hb3 => ?_) (fun hb => ih)
    have := isP_le hb3
    refine gotOk_tok (by omega) (by omega) ?_
    constructor <;> simp [tokZ]
theorem gotOk_escape {x : Text} {i : Int} (hm : x.most ≤ 1114111) (h0 : 0 ≤ i) (h1 : i < x.s.size) : GotOk x i (escapeP x i) := by
  unfold escapeP
  refine gotOk_ite (fun hb => gotOk_end) (fun hb => ?_)
  have hg := charP_gt x (i + 1) (by omega) (by omega)
  have hr := charP_rng x (i + 1) (by omega)
  have hv := charP_val x (i + 1)
  have hv0 := hv.2.2 (by omega) (by omega)
  generalize (charP x (i + 1)).1 = c at *
  generalize (charP x (i + 1)).2 = to at *
  have hs := simpleP_range c
  have ha := assertP_range c
  have hh := hexaP_range x to (by omega)
  have hhv := hexaP_val x to
  have hn := numP_range x.s (i + 1)
  have hmt := manyP_to x c to (by omega) (by omega)
  have hms := manyP_set x c to
  have c1 : TokMay x.most { tokZ with kind := 1, c := c } := by constructor <;> simp [tokZ] <;> omega
  have hT : GotOk x i (escT x i to c (manyP x c to)) := by
    unfold escT
    refine gotOk_ite (fun hb => gotOk_bad _ _ hb) (fun hb => ?_)
    refine gotOk_ite (fun hb => ?_) (fun hb => ?_)
    · refine gotOk_tok (by omega) (by omega) ?_
      constructor <;> simp [tokZ]
      rcases hms with q | q
      · exact .inl q
      · exact .inr (.inr q)
    refine gotOk_ite (fun hb => gotOk_bad _ _ (by decide)) (fun hb => ?_)
    refine gotOk_ite (fun hb => ?_) (fun hb => ?_)
    · refine gotOk_ite (fun hb => gotOk_bad _ _ (by decide)) (fun hb => ?_)
      exact gotOk_tok (by omega) (by omega) c1
    · exact gotOk_tok (by omega) (by omega) c1
  have hR : GotOk x i (escR x i to c) := by
    unfold escR
    refine gotOk_ite (fun hb => ?_) (fun hb => ?_)
    · exact gotOk_refer (by omega) (by omega)
    refine gotOk_ite (fun hb => ?_) (fun hb => hT)
    exact gotOk_escL (by omega) _ (by intro p hp; simp at hp; rcases hp with rfl | rfl | rfl <;> rfl)
  unfold escQ
  refine gotOk_ite (fun hb => ?_) (fun hb => ?_)
  · refine gotOk_tok (by omega) (by omega) ?_
    constructor <;> simp [tokZ] <;> omega
  refine gotOk_ite (fun hb => ?_) (fun hb => ?_)
  · refine gotOk_ite (fun hb => gotOk_bad _ _ (by decide)) (fun hb => ?_)
    refine gotOk_tok (by omega) (by omega) ?_
    constructor <;> simp [tokZ] <;> omega
  refine gotOk_ite (fun hb => ?_) (fun hb => ?_)
  · refine gotOk_tok (by omega) (by omega) ?_
    constructor <;> simp [tokZ]
  refine gotOk_ite (fun hb => ?_) (fun hb => ?_)
  · refine gotOk_tok (by omega) (by omega) ?_
    constructor <;> simp [tokZ] <;> omega
  refine gotOk_ite (fun hb => ?_) (fun hb => ?_)
  · refine gotOk_tok (by omega) (by omega) ?_
    constructor <;> simp [tokZ]
  refine gotOk_ite (fun hb => ?_) (fun hb => ?_)
  · refine gotOk_tok (by omega) (by omega) ?_
    constructor <;> simp [tokZ]
  refine gotOk_ite (fun hb => ?_) (fun hb => ?_)
  · exact gotOk_skip (by omega) (by omega)
  unfold escD
  refine gotOk_ite (fun hb => ?_) (fun hb => hR)
  refine gotOk_ite (fun hb => ?_) (fun hb => hR)
  refine gotOk_ite (fun hb => gotOk_bad _ _ (by decide)) (fun hb => ?_)
  have hgr' : (numP x.s (i + 1)).2.2 = false := by simpa using hb
  have h255 := hn.2.2.2.2 hgr'
  -- a digit stands there
  have hd : i + 1 ≤ (numP x.s (i + 1)).2.1 := hn.2.2.1
  refine gotOk_tok (by omega) (hn.2.2.2.1 (by omega)) ?_
  constructor <;> simp [tokZ] <;> omega
theorem gotOk_classL {x : Text} {a first : Int} {neg : Bool} (hx : x.s.size ≤ 1000) (h0 : 0 ≤ a) : ∀ (k : Nat) (i : Int) (A : List (Int × Int)), a < i → (A.length : Int) ≤ 20002 * i → GotOk x a (classL x a first neg k i A)
  | 0, i, A, h, hA => gotOk_end
  | k + 1, i, A, h, hA => by
    unfold classL
    refine gotOk_ite (fun hb => gotOk_end) (fun hb => ?_)
    have hI := itemP_ok x i (by omega) (by omega)
    have hin : GotOk x a (classI x i (classL x a first neg k) A (itemP x i)) := by
      generalize hM : itemP x i = m at *
      have hl := hI.len
      have hg := hI.go
      unfold classI
      refine gotOk_ite (fun hb => gotOk_bad _ _ hb) (fun hb => ?_)
      have hg := hg (by simpa using hb)
      have hnext : GotOk x a (classL x a first neg k m.to (A ++ m.l)) := gotOk_classL hx h0 k _ _ (by omega) (by rw [List.length_append]; omega)
      refine gotOk_ite (fun hb => ?_) (fun hb => hnext)
      refine gotOk_ite (fun hb => ?_) (fun hb => hnext)
      refine gotOk_ite (fun hb => ?_) (fun hb => hnext)
      refine gotOk_ite (fun hb2 => ?_) (fun hb => hnext)
      have hJ := itemP_ok x (m.to + 1) (by omega) hb
      unfold classR
      refine gotOk_ite (fun hb => gotOk_bad _ _ hb) (fun hb => ?_)
      have hg2 := hJ.go (by simpa using hb)
      refine gotOk_ite (fun hb => gotOk_bad _ _ (by decide)) (fun hb => ?_)
      refine gotOk_ite (fun hb => gotOk_bad _ _ (by decide)) (fun hb => ?_)
      exact gotOk_classL hx h0 k _ _ (by omega) (by rw [List.length_append]; simp only [List.length_cons, List.length_nil]; omega)
    refine gotOk_ite (fun hb => ?_) (fun hb => hin)
    refine gotOk_ite (fun hb => ?_) (fun hb => hin)
    refine gotOk_tok (by omega) (by omega) ?_
    constructor <;> simp [tokZ]
    exact .inr (.inr ⟨A, rfl, by omega⟩)
theorem gotOk_class {x : Text} {a : Int} (hx : x.s.size ≤ 1000) (h0 : 0 ≤ a) (h1 : a < x.s.size) : GotOk x a (classP x a) := by
  unfold classP
  refine gotOk_classL hx h0 _ _ _ ?_ (by unfold classF; split <;> simp <;> omega)
  unfold classF
  split <;> omega
theorem gotOk_brK {x : Text} {i c to n a m b : Int} {great : Bool} (h1 : i < to) (h2 : to ≤ x.s.size) (hc : 0 ≤ c ∧ c ≤ 1114111) (hb0 : i < b) (hn : 0 ≤ n) (hg : great = false → n ≤ 255 ∧ m ≤ 255) (hm : -1 ≤ m) :
    GotOk x i (brK x i c to n a m b great) := by
  have hl : GotOk x i (litG i c to) := gotOk_tok h1 h2 (by constructor <;> simp [tokZ] <;> omega)
  unfold brK
  refine gotOk_ite (fun hb => hl) (fun hb => ?_)
  refine gotOk_ite (fun hb => ?_) (fun hb => hl)
  have := isP_le hb
  have hz : (bs [125]).size = 1 := rfl
  refine gotOk_ite (fun hb => gotOk_bad _ _ (by decide)) (fun hb => ?_)
  have hg := hg (by simpa using hb)
  refine gotOk_ite (fun hb => ?_) (fun hb => ?_)
  · refine gotOk_ite (fun hb => gotOk_bad _ _ (by decide)) (fun hb => ?_)
    exact gotOk_quant (by omega) (by omega) (by omega) (by omega)
  · exact gotOk_quant (by omega) (by omega) (by omega) (by omega)
theorem gotOk_tokC {x : Text} {i c to : Int} (hm : x.most ≤ 1114111) (hx : x.s.size ≤ 1000) (h0 : 0 ≤ i) (hi : i < x.s.size) (h1 : i < to) (h2 : to ≤ x.s.size) (hc : 0 ≤ c ∧ c ≤ 1114111) : GotOk x i (tokC x i c to) := by
  unfold tokC
  refine gotOk_ite (fun hb => gotOk_escape hm h0 hi) (fun hb => ?_)
  refine gotOk_ite (fun hb => gotOk_class hx h0 hi) (fun hb => ?_)
  refine gotOk_ite (fun hb => gotOk_open h0 hi) (fun hb => ?_)
  refine gotOk_ite (fun hb => gotOk_tok h1 h2 (by constructor <;> simp [tokZ])) (fun hb => ?_)
  refine gotOk_ite (fun hb => gotOk_tok h1 h2 (by constructor <;> simp [tokZ])) (fun hb => ?_)
  refine gotOk_ite (fun hb => gotOk_tok h1 h2 (by constructor <;> simp [tokZ])) (fun hb => ?_)
  refine gotOk_ite (fun hb => gotOk_tok h1 h2 (by constructor <;> simp [tokZ])) (fun hb => ?_)
  refine gotOk_ite (fun hb => gotOk_tok h1 h2 (by constructor <;> simp [tokZ])) (fun hb => ?_)
  refine gotOk_ite (fun hb => gotOk_quant h1 h2 (by omega) (by omega)) (fun hb => ?_)
  refine gotOk_ite (fun hb => gotOk_quant h1 h2 (by omega) (by omega)) (fun hb => ?_)
  refine gotOk_ite (fun hb => gotOk_quant h1 h2 (by omega) (by omega)) (fun hb => ?_)
  refine gotOk_ite (fun hb => ?_) (fun hb => gotOk_tok h1 h2 (by constructor <;> simp [tokZ] <;> omega))
  have hn := numP_range x.s (i + 1)
  have hk := numP_range x.s ((numP x.s (i + 1)).2.1 + 1)
  unfold brP
  have hbr : ∀ great : Bool, (great = false → (numP x.s (i + 1)).2.2 = false) → GotOk x i (brK x i c to (numP x.s (i + 1)).1 (numP x.s (i + 1)).2.1 (numP x.s (i + 1)).1 (numP x.s (i + 1)).2.1 great) := fun great hgr =>
    gotOk_brK h1 h2 hc (by omega) hn.1 (fun q => ⟨hn.2.2.2.2 (hgr q), hn.2.2.2.2 (hgr q)⟩) (by omega)
  refine gotOk_ite (fun hb => ?_) (fun hb => hbr _ (fun q => q))
  refine gotOk_ite (fun hb => ?_) (fun hb => hbr _ (fun q => q))
  unfold brM
  refine gotOk_ite (fun hb => ?_) (fun hb => ?_)
  · refine gotOk_ite (fun hb => ?_) (fun hb => ?_)
    · exact gotOk_brK h1 h2 hc (by omega) hn.1 (fun q => by cases q) (by omega)
    · exact gotOk_brK h1 h2 hc (by omega) hn.1 (fun q => by cases q) (by omega)
  have hgr' : (numP x.s (i + 1)).2.2 = false := by simpa using hb
  refine gotOk_ite (fun hb => ?_) (fun hb => ?_)
  · exact gotOk_brK h1 h2 hc (by omega) hn.1 (fun q => ⟨hn.2.2.2.2 hgr', by omega⟩) (by omega)
  · exact gotOk_brK h1 h2 hc (by omega) hn.1 (fun q => ⟨hn.2.2.2.2 hgr', hk.2.2.2.2 q⟩) (by omega)
theorem gotOk_token {x : Text} {i : Int} (hm : x.most ≤ 1114111) (hx : x.s.size ≤ 1000) (h0 : 0 ≤ i) (hi : i < x.s.size) : GotOk x i (tokenP x i) := by
  have hg := charP_gt x i h0 hi
  have hr := charP_rng x i (by omega)
  have hv := charP_val x i
  have hv0 := hv.2.2 h0 hi
  have hC := gotOk_tokC (c := (charP x i).1) hm hx h0 hi hg hr.2 ⟨hv0, hv.2.1⟩
  have hl := lineTo_range x.s (charP x i).2 hr.2
  have hX : GotOk x i (tokX x i (charP x i).1 (charP x i).2) := by
    unfold tokX
    refine gotOk_ite (fun hb => gotOk_skip hg hr.2) (fun hb => ?_)
    exact gotOk_ite (fun hb => gotOk_skip (by omega) hl.2) (fun hb => hC)
  unfold tokenP
  refine gotOk_ite (fun hb => ?_) (fun hb => hC)
  refine gotOk_ite (fun hb => ?_) (fun hb => hX)
  exact gotOk_ite (fun hb => gotOk_skip hg hr.2) (fun hb => hX)
end Go.Proofs.Ytnoohgiecnmajaa.VC

/- The lexer of the document. -/
namespace Go.Proofs.Ytnoohgiecnmajaa.VC
open Go Go.RowKit
set_option linter.unusedVariables false
set_option linter.unusedSimpArgs false
set_option maxHeartbeats 4000000

structure LexR where
  toks : List Tok
  e : Int
  at_ : Int
@[reducible] def toksE (l : List Tok) : SV := .sl 12 (l.map Tok.cells)
@[reducible] def lexE (r : LexR) : SV := .tuple [toksE r.toks, iv r.e, iv r.at_]
def litT (i to c : Int) : Tok := ⟨1, i, to, c, [], false, 0, 0, 0, bs [], 0, 0⟩
def lexGo (x : Text) : Nat → Int → Bool → List Tok → LexR
  | 0, _, _, out => ⟨out, 0, 0⟩
  | k + 1, i, q, out =>
    if i < x.s.size then
      (if q = true then
        (if isP x.s i (bs [92, 69]) = true then lexGo x k (i + 2) false out
         else lexGo x k (charP x i).2 q (out ++ [litT i (charP x i).2 (charP x i).1]))
       else if isP x.s i (bs [92, 81]) = true then lexGo x k (i + 2) true out
       else if (tokenP x i).e ≠ 0 then ⟨[], (tokenP x i).e, (tokenP x i).at_⟩
       else if (tokenP x i).some = true then lexGo x k (tokenP x i).to q (out ++ [(tokenP x i).t])
       else lexGo x k (tokenP x i).to q out)
    else ⟨out, 0, 0⟩
def textOf (l : List Int) (o : Int) : Text := ⟨strOfNums l, bAnd o 32 != 0, bAnd o 8 != 0, if bAnd o 32 ≠ 0 then 1114111 else 255⟩
def lexP (l : List Int) (o : Int) : LexR :=
  if o < 0 then ⟨[], 1, 0⟩ else if o > 65535 then ⟨[], 1, 0⟩
  else if (l.length : Int) > 1000 then ⟨[], 10, 1000⟩
  else if bAnd o 32 ≠ 0 then (if (validP l).2 = false then ⟨[], 13, (validP l).1⟩ else lexGo (textOf l o) ((textOf l o).s.size + 1) 0 false [])
  else lexGo (textOf l o) ((textOf l o).s.size + 1) 0 false []
attribute [local irreducible] isP numP signedP nameTo nameAt nameOk byteAt charP stopAt hexaP seqP atP nextP codeOf
attribute [local irreducible] tokenP validP bAnd
theorem strOf_size (l : List Int) : (strOfNums l).size = l.length := by
  unfold strOfNums
  simp [ByteArray.size]
@[reducible] def tcs (l : List Tok) : List (List SV) := l.map Tok.cells
theorem tcs_snoc (l : List Tok) (t : Tok) : tcs l ++ [t.cells] = tcs (l ++ [t]) := by simp [tcs]
theorem lex_c (l : List Int) (o : Int) (hb : Bytes l) : VCalls Try.prog 38 [ys l, iv o] (fun r => r = lexE (lexP l o)) := by
  have hbl := byteRows_len l
  refine VCalls.ofr tabOk Try.func38 (by decide) rfl rfl ?_
  refine RWP.seqx tabOk orders ?_
  conv => whnf
  refine RWP.seqx tabOk orders ?_
  repeat' ((conv => whnf); (first
    | (with_reducible first | refine Spl.yes ?_ | refine Spl.no ?_ | refine Spl.dec (fun h => ?_) (fun h => ?_) | refine Spl.eq (fun h => ?_) (fun h => ?_) | refine Spl.ne (fun h => ?_) (fun h => ?_) | refine Spl.seq (fun h => ?_) (fun h => ?_) | refine Spl.not ?_ | refine Spl.any (fun h => ?_) (fun h => ?_))
    | ((with_reducible apply And.intro); first | omega | rfl | (dsimp only; omega))))
  all_goals (conv => whnf)
  · unfold lexP
    (apply fn_by (f := lexE); (focus ((repeat (first | (apply ite_yes; (focus first | assumption | omega)) | (apply ite_no; (focus first | assumption | exact b_nt (by assumption) | exact b_nf (by assumption) | omega)) | (apply ite_yes; (focus (first | (simp [*]; done) | (simp [*, bs]; done)))) | (apply ite_no; (focus (first | (simp [*]; done) | (simp [*, bs]; done)))))); exact rfl)); rfl)
  · unfold lexP
    (apply fn_by (f := lexE); (focus ((repeat (first | (apply ite_yes; (focus first | assumption | omega)) | (apply ite_no; (focus first | assumption | exact b_nt (by assumption) | exact b_nf (by assumption) | omega)) | (apply ite_yes; (focus (first | (simp [*]; done) | (simp [*, bs]; done)))) | (apply ite_no; (focus (first | (simp [*]; done) | (simp [*, bs]; done)))))); exact rfl)); rfl)
  refine RWP.seqx tabOk orders ?_
  repeat' ((conv => whnf); (first
    | (with_reducible first | refine Spl.yes ?_ | refine Spl.no ?_ | refine Spl.dec (fun h => ?_) (fun h => ?_) | refine Spl.eq (fun h => ?_) (fun h => ?_) | refine Spl.ne (fun h => ?_) (fun h => ?_) | refine Spl.seq (fun h => ?_) (fun h => ?_) | refine Spl.not ?_ | refine Spl.any (fun h => ?_) (fun h => ?_))
    | ((with_reducible apply And.intro); first | omega | rfl | (dsimp only; omega))))
  all_goals (conv => whnf)
  · have h' : (l.length : Int) > 1000 := by omega
    unfold lexP
    (apply fn_by (f := lexE); (focus ((repeat (first | (apply ite_yes; (focus first | assumption | omega)) | (apply ite_no; (focus first | assumption | exact b_nt (by assumption) | exact b_nf (by assumption) | omega)) | (apply ite_yes; (focus (first | (simp [*]; done) | (simp [*, bs]; done)))) | (apply ite_no; (focus (first | (simp [*]; done) | (simp [*, bs]; done)))))); exact rfl)); rfl)
  have h' : ¬ (l.length : Int) > 1000 := by omega
  refine RWP.seqx tabOk orders ?_
  repeat' ((conv => whnf); (first
    | (with_reducible first | refine Spl.yes ?_ | refine Spl.no ?_ | refine Spl.dec (fun h => ?_) (fun h => ?_) | refine Spl.eq (fun h => ?_) (fun h => ?_) | refine Spl.ne (fun h => ?_) (fun h => ?_) | refine Spl.seq (fun h => ?_) (fun h => ?_) | refine Spl.not ?_ | refine Spl.any (fun h => ?_) (fun h => ?_))
    | refine ⟨l, rfl, ?_⟩
    | ((with_reducible apply And.intro); first | omega | rfl | (dsimp only; omega))))
  all_goals (conv => whnf)
  have hsz : (textOf l o).s.size = l.length := strOf_size l
  have hmost : (textOf l o).most ≤ 1114111 := by unfold textOf; simp only; split <;> omega
  refine RWP.cut (fun st => st = ⟨95, [(7, .ptr 7 0)], [(7, (82, (textOf l o).cells))], [], []⟩ ∧ lexP l o = lexGo (textOf l o) ((textOf l o).s.size + 1) 0 false []) tabOk orders ?_ ?_
  · repeat' ((conv => whnf); (first
    | (with_reducible first | refine Spl.yes ?_ | refine Spl.no ?_ | refine Spl.dec (fun h => ?_) (fun h => ?_) | refine Spl.eq (fun h => ?_) (fun h => ?_) | refine Spl.ne (fun h => ?_) (fun h => ?_) | refine Spl.seq (fun h => ?_) (fun h => ?_) | refine Spl.not ?_ | refine Spl.any (fun h => ?_) (fun h => ?_))
    | (refine VCalls.mono (valid_c l hb (by omega)) ?_; rintro _ rfl)
    | ((with_reducible apply And.intro); first | omega | rfl | (dsimp only; omega))))
    all_goals (conv => whnf)
    · refine ⟨_, Wk.narrow _ [7] [7] [], ?_, ?_⟩
      · unfold Text.cells textOf
        simp only
        rw [if_pos (by assumption)]
        rfl
      · symm
        unfold lexP
        (repeat (first | (apply ite_yes; (focus first | assumption | omega)) | (apply ite_no; (focus first | assumption | exact b_nt (by assumption) | exact b_nf (by assumption) | omega)) | (apply ite_yes; (focus (first | (simp [*]; done) | (simp [*, bs]; done)))) | (apply ite_no; (focus (first | (simp [*]; done) | (simp [*, bs]; done))))))
        rfl
    · unfold lexP
      (apply fn_by (f := lexE); (focus ((repeat (first | (apply ite_yes; (focus first | assumption | omega)) | (apply ite_no; (focus first | assumption | exact b_nt (by assumption) | exact b_nf (by assumption) | omega)) | (apply ite_yes; (focus (first | (simp [*]; done) | (simp [*, bs]; done)))) | (apply ite_no; (focus (first | (simp [*]; done) | (simp [*, bs]; done)))))); exact rfl)); rfl)
    · refine ⟨_, Wk.narrow _ [7] [7] [], ?_, ?_⟩
      · unfold Text.cells textOf
        simp only
        rw [if_neg (by omega)]
        rfl
      · symm
        unfold lexP
        (repeat (first | (apply ite_yes; (focus first | assumption | omega)) | (apply ite_no; (focus first | assumption | exact b_nt (by assumption) | exact b_nf (by assumption) | omega)) | (apply ite_yes; (focus (first | (simp [*]; done) | (simp [*, bs]; done)))) | (apply ite_no; (focus (first | (simp [*]; done) | (simp [*, bs]; done))))))
        rfl
  rintro _ ⟨rfl, e⟩
  rw [e]
  clear e
  generalize textOf l o = x at *
  have hx : x.s.size ≤ 1000 := by omega
  obtain ⟨G, hG⟩ : ∃ G, lexGo x (x.s.size + 1) 0 false [] = G := ⟨_, rfl⟩
  rw [hG]
  refine RWP.seqx tabOk orders ?_
  conv => whnf
  refine RWP.seqx tabOk orders ?_
  conv => whnf
  refine RWP.seqx tabOk orders ?_
  conv => whnf
  refine RWP.seq ?_
  refine RWP.block ?_
  refine RWP.loop (fun k st => ∃ (i : Int) (q : Bool) (A : List Tok) (v : Bool), st = ⟨95, [(7, .ptr 7 0), (10, .own 91), (11, .pv (iv i)), (12, .pv (bv q))], [(7, (82, x.cells))], [(91, ⟨12, 88, v, tcs A⟩)], []⟩ ∧ 0 ≤ i ∧ i ≤ x.s.size ∧ (x.s.size - i).toNat + 1 ≤ k ∧ (A.length : Int) ≤ i ∧ G = lexGo x k i q A)
    ⟨_, _, Wk.trans (Wk.ownNil (t := 10) (k := 91) (sz := 12) (e := 88) rfl) (Wk.narrow _ [7, 10, 11, 12] [7] [91]), 0, false, [], true, rfl, by omega, by omega, by omega, by simp, hG.symm⟩ ?_
  rintro k st ⟨i, q, A, v, rfl, hi0, hi1, hk, hA, hP⟩
  obtain ⟨k, rfl⟩ : ∃ m, k = m + 1 := ⟨k - 1, by omega⟩
  have hAl : (tcs A).length = A.length := by simp [tcs]
  refine RWP.seqx tabOk orders ?_
  repeat' ((conv => whnf); (first
    | (with_reducible first | refine Spl.yes ?_ | refine Spl.no ?_ | refine Spl.dec (fun h => ?_) (fun h => ?_) | refine Spl.eq (fun h => ?_) (fun h => ?_) | refine Spl.ne (fun h => ?_) (fun h => ?_) | refine Spl.seq (fun h => ?_) (fun h => ?_) | refine Spl.not ?_ | refine Spl.any (fun h => ?_) (fun h => ?_))
    | ((with_reducible apply And.intro); first | omega | rfl | (dsimp only; omega))))
  all_goals (conv => whnf)
  rotate_left
  · have e : G = ⟨A, 0, 0⟩ := by rw [hP, lexGo, if_neg (by assumption)]
    rw [e]
    refine RWP.of tabOk orders ?_
    repeat' ((conv => whnf); (first
    | (with_reducible first | refine Spl.yes ?_ | refine Spl.no ?_ | refine Spl.dec (fun h => ?_) (fun h => ?_) | refine Spl.eq (fun h => ?_) (fun h => ?_) | refine Spl.ne (fun h => ?_) (fun h => ?_) | refine Spl.seq (fun h => ?_) (fun h => ?_) | refine Spl.not ?_ | refine Spl.any (fun h => ?_) (fun h => ?_))
    | ((with_reducible apply And.intro); first | omega | rfl | (dsimp only; omega))))
    all_goals (conv => whnf)
    rfl
  have hi2 : i < x.s.size := by assumption
  have hc := charP_rng x i (by omega)
  have hg := charP_gt x i hi0 hi2
  have ht := gotOk_token hmost hx hi0 hi2
  rw [lexGo, if_pos hi2] at hP
  have hz1 : (bs [92, 69]).size = 2 := rfl
  have hz2 : (bs [92, 81]).size = 2 := rfl
  have hs1 : isP x.s i (bs [92, 69]) = true → i + 2 ≤ x.s.size := fun h => by have := isP_le h; omega
  have hs2 : isP x.s i (bs [92, 81]) = true → i + 2 ≤ x.s.size := fun h => by have := isP_le h; omega
  refine RWP.block ?_
  refine RWP.of tabOk orders ?_
  repeat' ((conv => whnf); (first
    | (with_reducible first | refine Spl.yes ?_ | refine Spl.no ?_ | refine Spl.dec (fun h => ?_) (fun h => ?_) | refine Spl.eq (fun h => ?_) (fun h => ?_) | refine Spl.ne (fun h => ?_) (fun h => ?_) | refine Spl.seq (fun h => ?_) (fun h => ?_) | refine Spl.not ?_ | refine Spl.any (fun h => ?_) (fun h => ?_))
    | (refine VCalls.mono (is_c x i (bs [92, 69]) (by omega) (by omega) (by omega) (by decide)) ?_; rintro _ rfl)
    | (refine VCalls.mono (is_c x i (bs [92, 81]) (by omega) (by omega) (by omega) (by decide)) ?_; rintro _ rfl)
    | (refine VCalls.mono (char_c x i (by omega)) ?_; rintro _ rfl)
    | (refine VCalls.mono (token_c x i hx hi0 hi2) ?_; rintro _ rfl)
    | refine drawn_text (by decide +kernel) ?_
    | refine And.intro (by show ((tcs A).length + 1) * 120 ≤ 140737488355328; omega) ?_
    | ((with_reducible apply And.intro); first | omega | rfl | (dsimp only; omega))))
  all_goals (conv => whnf)
  all_goals (try have hs1' := hs1 (by assumption))
  all_goals (try have hs2' := hs2 (by assumption))
  all_goals (try have ht' := ht (by assumption))
  all_goals first
    | exact ⟨k, _, by omega, Wk.narrow _ [7, 10, 11, 12] [7] [91], i + 2, false, A, v, rfl, by omega, by omega, by omega, by omega, (by rw [hP]; symm; (repeat (first | (apply ite_yes; (focus first | assumption | omega)) | (apply ite_no; (focus first | assumption | exact b_nt (by assumption) | exact b_nf (by assumption) | omega)) | (apply ite_yes; (focus (first | (simp [*]; done) | (simp [*, bs]; done)))) | (apply ite_no; (focus (first | (simp [*]; done) | (simp [*, bs]; done)))))); rfl)⟩
    | exact ⟨k, _, by omega, Wk.narrow _ [7, 10, 11, 12] [7] [91], i + 2, true, A, v, rfl, by omega, by omega, by omega, by omega, (by rw [hP]; symm; (repeat (first | (apply ite_yes; (focus first | assumption | omega)) | (apply ite_no; (focus first | assumption | exact b_nt (by assumption) | exact b_nf (by assumption) | omega)) | (apply ite_yes; (focus (first | (simp [*]; done) | (simp [*, bs]; done)))) | (apply ite_no; (focus (first | (simp [*]; done) | (simp [*, bs]; done)))))); rfl)⟩
    | exact ⟨k, _, by omega, Wk.trans (Wk.renOwn 10 91 (k := 68) rfl rfl rfl) (Wk.narrow _ [7, 10, 11, 12] [7] [91]), (charP x i).2, q, A ++ [litT i (charP x i).2 (charP x i).1], v, Eq.trans rfl (congrArg (fun X => (⟨95, [(7, .ptr 7 0), (10, .own 91), (11, .pv (iv (charP x i).2)), (12, .pv (bv q))], [(7, (82, x.cells))], [(91, ⟨12, 88, v, X⟩)], []⟩ : St)) (tcs_snoc A (litT i (charP x i).2 (charP x i).1))), by omega, by omega, by omega, by rw [List.length_append]; simp only [List.length_cons, List.length_nil]; omega, (by rw [hP]; symm; (repeat (first | (apply ite_yes; (focus first | assumption | omega)) | (apply ite_no; (focus first | assumption | exact b_nt (by assumption) | exact b_nf (by assumption) | omega)) | (apply ite_yes; (focus (first | (simp [*]; done) | (simp [*, bs]; done)))) | (apply ite_no; (focus (first | (simp [*]; done) | (simp [*, bs]; done)))))); rfl)⟩
    | exact ⟨k, _, by omega, Wk.narrow _ [7, 10, 11, 12] [7] [91], (tokenP x i).to, q, A ++ [(tokenP x i).t], v, Eq.trans rfl (congrArg (fun X => (⟨95, [(7, .ptr 7 0), (10, .own 91), (11, .pv (iv (tokenP x i).to)), (12, .pv (bv q))], [(7, (82, x.cells))], [(91, ⟨12, 88, v, X⟩)], []⟩ : St)) (tcs_snoc A (tokenP x i).t)), by omega, by omega, by omega, by rw [List.length_append]; simp only [List.length_cons, List.length_nil]; omega, (by rw [hP]; symm; (repeat (first | (apply ite_yes; (focus first | assumption | omega)) | (apply ite_no; (focus first | assumption | exact b_nt (by assumption) | exact b_nf (by assumption) | omega)) | (apply ite_yes; (focus (first | (simp [*]; done) | (simp [*, bs]; done)))) | (apply ite_no; (focus (first | (simp [*]; done) | (simp [*, bs]; done)))))); rfl)⟩
    | exact ⟨k, _, by omega, Wk.narrow _ [7, 10, 11, 12] [7] [91], (tokenP x i).to, q, A, v, rfl, by omega, by omega, by omega, by omega, (by rw [hP]; symm; (repeat (first | (apply ite_yes; (focus first | assumption | omega)) | (apply ite_no; (focus first | assumption | exact b_nt (by assumption) | exact b_nf (by assumption) | omega)) | (apply ite_yes; (focus (first | (simp [*]; done) | (simp [*, bs]; done)))) | (apply ite_no; (focus (first | (simp [*]; done) | (simp [*, bs]; done)))))); rfl)⟩
    | (rw [hP]
       clear hP
       (apply fn_by (f := lexE); (focus ((repeat (first | (apply ite_yes; (focus first | assumption | omega)) | (apply ite_no; (focus first | assumption | exact b_nt (by assumption) | exact b_nf (by assumption) | omega)) | (apply ite_yes; (focus (first | (simp [*]; done) | (simp [*, bs]; done)))) | (apply ite_no; (focus (first | (simp [*]; done) | (simp [*, bs]; done)))))); exact rfl)); rfl))
end Go.Proofs.Ytnoohgiecnmajaa.VC

/- The lexer of the document: what is known of its answer. -/
namespace Go.Proofs.Ytnoohgiecnmajaa.VC
open Go Go.RowKit
set_option linter.unusedVariables false
set_option linter.unusedSimpArgs false
set_option maxHeartbeats 4000000

/-- Tokens of a pattern of so many bytes. -/
structure TokIn (m : Int) (n : Int) (t : Tok) : Prop where
  may : TokMay m t
  at0 : 0 ≤ t.at_
  at1 : t.at_ < n
theorem lexGo_ok {x : Text} (hm : x.most ≤ 1114111) (hx : x.s.size ≤ 1000) : ∀ (k : Nat) (i : Int) (q : Bool) (A : List Tok), 0 ≤ i → i ≤ x.s.size → (A.length : Int) ≤ i → (∀ t ∈ A, TokIn x.most x.s.size t) →
    ((lexGo x k i q A).toks.length : Int) ≤ x.s.size ∧ ((lexGo x k i q A).e = 0 → ∀ t ∈ (lexGo x k i q A).toks, TokIn x.most x.s.size t) ∧ ((lexGo x k i q A).e ≠ 0 → (lexGo x k i q A).toks = [])
  | 0, i, q, A, h0, h1, hA, hT => ⟨by unfold lexGo; simp only; omega, fun _ => hT, fun h => absurd rfl h⟩
  | k + 1, i, q, A, h0, h1, hA, hT => by
    unfold lexGo
    split
    · rename_i hi
      have hg := charP_gt x i h0 hi
      have hr := charP_rng x i (by omega)
      have hv := charP_val x i
      have hv0 := hv.2.2 h0 hi
      have ht := gotOk_token hm hx h0 hi
      split
      · split
        · rename_i hb
          have := isP_le hb
          have hz : (bs [92, 69]).size = 2 := rfl
          exact lexGo_ok hm hx k _ _ _ (by omega) (by omega) (by omega) hT
        · refine lexGo_ok hm hx k _ _ _ (by omega) (by omega) (by rw [List.length_append]; simp only [List.length_cons, List.length_nil]; omega) ?_
          intro t h
          rcases List.mem_append.1 h with h | h
          · exact hT t h
          · simp only [List.mem_singleton] at h
            subst h
            refine ⟨?_, h0, hi⟩
            constructor <;> simp [litT] <;> omega
      split
      · rename_i hb
        have := isP_le hb
        have hz : (bs [92, 81]).size = 2 := rfl
        exact lexGo_ok hm hx k _ _ _ (by omega) (by omega) (by omega) hT
      split
      · exact ⟨by simp, fun h => absurd h (by assumption), fun _ => rfl⟩
      rename_i he
      have ht := ht (by simpa using he)
      split
      · rename_i hs
        have hs := ht.2.2 hs
        refine lexGo_ok hm hx k _ _ _ (by omega) (by omega) (by rw [List.length_append]; simp only [List.length_cons, List.length_nil]; omega) ?_
        intro t h
        rcases List.mem_append.1 h with h | h
        · exact hT t h
        · simp only [List.mem_singleton] at h
          subst h
          exact ⟨hs.1, by rw [hs.2.1]; exact h0, by rw [hs.2.1]; exact hi⟩
      · exact lexGo_ok hm hx k _ _ _ (by omega) (by omega) (by omega) hT
    · exact ⟨by simp only; omega, fun _ => hT, fun h => absurd rfl h⟩
def mostOf (o : Int) : Int := if bAnd o 32 ≠ 0 then 1114111 else 255
theorem lexP_ok (l : List Int) (o : Int) : ((lexP l o).toks.length : Int) ≤ 1000 ∧ ((lexP l o).e = 0 → (lexP l o).toks.length ≤ l.length ∧ l.length ≤ 1000 ∧ ∀ t ∈ (lexP l o).toks, TokIn (mostOf o) l.length t) ∧ ((lexP l o).e ≠ 0 → (lexP l o).toks = []) := by
  have hsz : (textOf l o).s.size = l.length := strOf_size l
  have hmost : (textOf l o).most ≤ 1114111 := by unfold textOf; simp only; split <;> omega
  have hbad : ∀ e a, e ≠ 0 → ((⟨[], e, a⟩ : LexR).toks.length : Int) ≤ 1000 ∧ ((⟨[], e, a⟩ : LexR).e = 0 → (⟨[], e, a⟩ : LexR).toks.length ≤ l.length ∧ l.length ≤ 1000 ∧ ∀ t ∈ (⟨[], e, a⟩ : LexR).toks, TokIn (mostOf o) l.length t) ∧ ((⟨[], e, a⟩ : LexR).e ≠ 0 → (⟨[], e, a⟩ : LexR).toks = []) :=
    fun e a he => ⟨by simp, fun h => absurd h he, fun _ => rfl⟩
  have hgo : ¬ (l.length : Int) > 1000 → ((lexGo (textOf l o) ((textOf l o).s.size + 1) 0 false []).toks.length : Int) ≤ 1000 ∧ ((lexGo (textOf l o) ((textOf l o).s.size + 1) 0 false []).e = 0 → (lexGo (textOf l o) ((textOf l o).s.size + 1) 0 false []).toks.length ≤ l.length ∧ l.length ≤ 1000 ∧ ∀ t ∈ (lexGo (textOf l o) ((textOf l o).s.size + 1) 0 false []).toks, TokIn (mostOf o) l.length t) ∧ ((lexGo (textOf l o) ((textOf l o).s.size + 1) 0 false []).e ≠ 0 → (lexGo (textOf l o) ((textOf l o).s.size + 1) 0 false []).toks = []) := by
    intro h
    have := lexGo_ok hmost (by omega) ((textOf l o).s.size + 1) 0 false [] (by omega) (by omega) (by simp) (by simp)
    refine ⟨by omega, fun he => ⟨by omega, by omega, ?_⟩, this.2.2⟩
    have h2 := this.2.1 he
    have e : (textOf l o).most = mostOf o := rfl
    intro t ht
    have h3 := h2 t ht
    rw [e, hsz] at h3
    exact h3
  unfold lexP
  split
  · exact hbad _ _ (by decide)
  split
  · exact hbad _ _ (by decide)
  split
  · exact hbad _ _ (by decide)
  split
  · split
    · exact hbad _ _ (by decide)
    · exact hgo (by assumption)
  · exact hgo (by assumption)
end Go.Proofs.Ytnoohgiecnmajaa.VC

/- The parser of the document: trees; what a token is; errors. -/
namespace Go.Proofs.Ytnoohgiecnmajaa.VC
open Go Go.RowKit
set_option linter.unusedVariables false
set_option linter.unusedSimpArgs false
set_option maxHeartbeats 4000000

/-- A node but for those below it. -/
structure NodeF where
  kind : Int
  at_ : Int
  c : Int
  set : List (Int × Int)
  neg : Bool
  n : Int
  m : Int
  mode : Int
  name : ByteArray
  on : Int
  off : Int
inductive Node where
  | mk (f : NodeF) (kids : List Node)
def Node.f : Node → NodeF | .mk f _ => f
def Node.kids : Node → List Node | .mk _ k => k
mutual
def Node.cells : Node → List SV
  | .mk f kids => [iv f.kind, iv f.at_, iv f.c, rs f.set, bv f.neg, iv f.n, iv f.m, iv f.mode, sv f.name, iv f.on, iv f.off, .sl 12 (rowsN kids)]
def rowsN : List Node → List (List SV)
  | [] => []
  | n :: l => n.cells :: rowsN l
end
def Node.enc (n : Node) : SV := .agg n.cells
@[reducible] def nodesE (l : List Node) : SV := .sl 12 (rowsN l)
theorem rowsN_map (l : List Node) : rowsN l = l.map Node.cells := by
  induction l with
  | nil => rfl
  | cons n l ih => rw [rowsN, ih]; rfl
theorem rowsN_len (l : List Node) : (rowsN l).length = l.length := by rw [rowsN_map]; simp
theorem rowsN_snoc (l : List Node) (n : Node) : rowsN l ++ [n.cells] = rowsN (l ++ [n]) := by rw [rowsN_map, rowsN_map]; simp
theorem rowsN_app (l m : List Node) : rowsN l ++ rowsN m = rowsN (l ++ m) := by rw [rowsN_map, rowsN_map, rowsN_map]; simp
def fZ : NodeF := ⟨0, 0, 0, [], false, 0, 0, 0, bs [], 0, 0⟩
def nodeZ : Node := .mk fZ []
def rdn (l : List Node) (j : Int) : Node := l.getD j.toNat nodeZ
theorem rowsN_get {l : List Node} {j : Int} (h : j.toNat < l.length) : (rowsN l).getD j.toNat [] = (rdn l j).cells := by
  rw [rowsN_map]
  simp [rdn, List.getD_eq_getElem?_getD, List.getElem?_eq_getElem h]
/-- Where a parser is. -/
structure Par where
  i : Int
  op : Int
  e : Int
  at_ : Int
def rdt (l : List Tok) (j : Int) : Tok := l.getD j.toNat tokZ
def tk (l : List Tok) : List (List SV) := l.map Tok.cells
theorem tk_get {l : List Tok} {j : Int} (h : j.toNat < l.length) : (tk l).getD j.toNat [] = (rdt l j).cells := by
  simp [tk, rdt, List.getD_eq_getElem?_getD, List.getElem?_eq_getElem h]
theorem tk_len (l : List Tok) : (tk l).length = l.length := by simp [tk]
theorem toksE_tk (l : List Tok) : toksE l = .sl 12 (tk l) := rfl
def parCells (L : List Tok) (p : Par) : List FE := [.pv (.sl 12 (tk L)), .pv (iv p.i), .pv (iv p.op), .pv (iv p.e), .pv (iv p.at_)]
def HP (L : List Tok) (p : Par) : St := ⟨0, [], [(1000000, (105, parCells L p))], [], []⟩
def kindP (L : List Tok) (p : Par) : Int := if p.i ≥ L.length then 0 else if p.e ≠ 0 then 0 else (rdt L p.i).kind
def failP (p : Par) (e a : Int) : Par := if p.e = 0 then { p with e := e, at_ := a } else p
attribute [local irreducible] tk
theorem kind_h (L : List Tok) (p : Par) (hL : L.length ≤ 1000000) (h0 : 0 ≤ p.i) (h1 : p.i ≤ L.length) : HCalls Try.prog 83 (HP L p) [.ptr 1000000 0] (fun fe H' => fe = .pv (iv (kindP L p)) ∧ H' = HP L p) := by
  have hl := tk_len L
  refine HCalls.ofr tabOk Try.func83 (by decide) rfl rfl ?_
  refine RWP.of tabOk orders ?_
  repeat' ((conv => whnf); (first
    | (with_reducible first | refine Spl.yes ?_ | refine Spl.no ?_ | refine Spl.dec (fun h => ?_) (fun h => ?_) | refine Spl.eq (fun h => ?_) (fun h => ?_) | refine Spl.ne (fun h => ?_) (fun h => ?_) | refine Spl.seq (fun h => ?_) (fun h => ?_) | refine Spl.not ?_ | refine Spl.any (fun h => ?_) (fun h => ?_))
    | refine drawn_text (by decide +kernel) ?_
    | (rw [tk_get (by omega)])
    | ((with_reducible apply And.intro); first | omega | rfl | (dsimp only; omega))))
  all_goals (conv => whnf)
  all_goals (refine ⟨_, Wk.narrow _ [2] [1000000] [], .inl ?_⟩)
  all_goals (conv => whnf)
  all_goals (refine ⟨?_, rfl⟩)
  all_goals (unfold kindP)
  · rw [if_pos (by omega)]
    rfl
  · rw [if_neg (by omega), if_pos (by assumption)]
    rfl
  · rw [if_neg (by omega), if_neg (by omega)]
    rfl
theorem fail_h (L : List Tok) (p : Par) (e a : Int) : HCalls Try.prog 62 (HP L p) [.ptr 1000000 0, .pv (iv e), .pv (iv a)] (fun fe H' => fe = .pv (.tuple []) ∧ H' = HP L (failP p e a)) := by
  refine HCalls.ofr tabOk Try.func62 (by decide) rfl rfl ?_
  refine RWP.of tabOk orders ?_
  repeat' ((conv => whnf); (first
    | (with_reducible first | refine Spl.yes ?_ | refine Spl.no ?_ | refine Spl.dec (fun h => ?_) (fun h => ?_) | refine Spl.eq (fun h => ?_) (fun h => ?_) | refine Spl.ne (fun h => ?_) (fun h => ?_) | refine Spl.seq (fun h => ?_) (fun h => ?_) | refine Spl.not ?_ | refine Spl.any (fun h => ?_) (fun h => ?_))
    | ((with_reducible apply And.intro); first | omega | rfl | (dsimp only; omega))))
  all_goals (conv => whnf)
  all_goals (refine ⟨_, Wk.narrow _ [] [1000000] [], .inl ?_⟩)
  all_goals (conv => whnf)
  all_goals (refine ⟨rfl, ?_⟩)
  all_goals (unfold failP)
  · rw [if_pos (by assumption)]
    rfl
  · rw [if_neg (by assumption)]
    rfl
def oneN (kind : Int) (l : List Node) : Node := if l.length = 1 then rdn l 0 else .mk { fZ with kind := kind } l
theorem Node.ex (n : Node) : ∃ f ks, n = .mk f ks := by cases n; exact ⟨_, _, rfl⟩
theorem encN_by {g g' : Node} {L : SV} (h : g = g') (h2 : L = g.enc) : L = g'.enc := by rw [← h]; exact h2
theorem one_c (kind : Int) (l : List Node) (hl : l.length ≤ 1000000) : VCalls Try.prog 63 [iv kind, nodesE l] (fun r => r = (oneN kind l).enc) := by
  have hn := rowsN_len l
  obtain ⟨f, ks, hm⟩ := (rdn l 0).ex
  refine VCalls.ofx tabOk orders Try.func63 (by decide) rfl rfl ?_
  repeat' ((conv => whnf); (first
    | (with_reducible first | refine Spl.yes ?_ | refine Spl.no ?_ | refine Spl.dec (fun h => ?_) (fun h => ?_) | refine Spl.eq (fun h => ?_) (fun h => ?_) | refine Spl.ne (fun h => ?_) (fun h => ?_) | refine Spl.seq (fun h => ?_) (fun h => ?_) | refine Spl.not ?_ | refine Spl.any (fun h => ?_) (fun h => ?_))
    | (rw [rowsN_get (by simp; omega), hm])
    | refine And.intro (Nat.le_of_ble_eq_true rfl) ?_
    | ((with_reducible apply And.intro); first | omega | rfl | (dsimp only; omega))))
  all_goals (conv => whnf)
  · have e : oneN kind l = .mk f ks := by unfold oneN; rw [if_pos (by omega), hm]
    rw [e]
    rfl
  · have e : oneN kind l = .mk { fZ with kind := kind } l := by unfold oneN; rw [if_neg (by omega)]
    rw [e]
    rfl
def repeatableP (f : NodeF) : Bool := if f.kind = 4 then false else if f.kind = 5 then false else if f.kind = 9 then false else if f.kind = 10 then false else f.kind != 11
theorem repeatable_c (n : Node) : VCalls Try.prog 114 [n.enc] (fun r => r = bv (repeatableP n.f)) := by
  obtain ⟨f, ks⟩ := n
  refine VCalls.ofx tabOk orders Try.func114 (by decide) rfl rfl ?_
  repeat' ((conv => whnf); (first
    | (with_reducible first | refine Spl.yes ?_ | refine Spl.no ?_ | refine Spl.dec (fun h => ?_) (fun h => ?_) | refine Spl.eq (fun h => ?_) (fun h => ?_) | refine Spl.ne (fun h => ?_) (fun h => ?_) | refine Spl.seq (fun h => ?_) (fun h => ?_) | refine Spl.not ?_ | refine Spl.any (fun h => ?_) (fun h => ?_))
    | ((with_reducible apply And.intro); first | omega | rfl | (dsimp only; omega))))
  all_goals (conv => whnf)
  all_goals (unfold repeatableP Node.f)
  all_goals (simp only)
  all_goals (apply fn_by (f := bv); (focus ((repeat (first | (apply ite_yes; (focus first | assumption | omega)) | (apply ite_no; (focus first | assumption | exact b_nt (by assumption) | exact b_nf (by assumption) | omega)) | (apply ite_yes; (focus (first | (simp [*]; done) | (simp [*, bs]; done)))) | (apply ite_no; (focus (first | (simp [*]; done) | (simp [*, bs]; done)))))); exact rfl)); rfl)
end Go.Proofs.Ytnoohgiecnmajaa.VC

/- The parser of the document: what it makes of tokens. -/
namespace Go.Proofs.Ytnoohgiecnmajaa.VC
open Go Go.RowKit
set_option linter.unusedVariables false
set_option linter.unusedSimpArgs false
set_option maxHeartbeats 4000000

def leafK (k : Int) : Int :=
  if k = 1 then 1 else if k = 2 then 2 else if k = 3 then 3 else if k = 4 then 4 else if k = 5 then 5 else if k = 6 then 6
  else if k = 11 then 7 else if k = 12 then 8 else if k = 13 then 9 else if k = 14 then 10 else 11
def leafN (t : Tok) : Node := .mk ⟨leafK t.kind, t.at_, t.c, t.set, t.neg, t.n, t.m, 0, t.name, t.on, t.off⟩ []
def condBad (t : Tok) (l : List Node) : Bool := if (l.length : Int) > 2 then true else if (l.length : Int) > 1 then t.n == 12 else false
def groupN (t : Tok) (look l : List Node) : Node :=
  if t.n = 1 then .mk { fZ with kind := 14, at_ := t.at_, name := t.name } [oneN 13 l]
  else if t.n = 2 then .mk { fZ with kind := 15, at_ := t.at_, on := t.on, off := t.off } [oneN 13 l]
  else if t.n = 4 then .mk { fZ with kind := 17, at_ := t.at_ } [oneN 13 l]
  else if t.n = 5 ∨ t.n = 6 ∨ t.n = 7 ∨ t.n = 8 then .mk { fZ with kind := 18, at_ := t.at_, n := t.n } [oneN 13 l]
  else if t.n = 3 then .mk { fZ with kind := 16, at_ := t.at_ } l
  else .mk { fZ with kind := 19, at_ := t.at_, n := t.n, m := t.m, mode := t.mode, name := t.name } (look ++ l)
def groupP (t : Tok) (l : List Node) (p : Par) : Par :=
  if 1 ≤ t.n ∧ t.n ≤ 8 then p else if condBad t l = true then failP p 32 t.at_ else p
def repN (t : Tok) (n : Node) : Node := .mk { fZ with kind := 20, at_ := t.at_, n := t.n, m := t.m, mode := t.mode } [n]
/-- A thing with the quantifier behind it. -/
def quantN (L : List Tok) (r : Node × Par) : Node × Par :=
  if kindP L r.2 = 9 then (if repeatableP r.1.f = true then (repN (rdt L r.2.i) r.1, { r.2 with i := r.2.i + 1 }) else r) else r
mutual
def thingF (L : List Tok) : Nat → Par → Node × Par
  | 0, p => (nodeZ, { p with e := 20 })
  | k + 1, p =>
    if (rdt L p.i).kind ≠ 10 then (leafN (rdt L p.i), { p with i := p.i + 1 })
    else if p.op = 40 then (nodeZ, failP p 11 (rdt L p.i).at_)
    else if (rdt L p.i).n = 13 ∧ kindP L { p with op := p.op + 1, i := p.i + 1 } = 10 then
      groupF L k (rdt L p.i) [(thingF L k { p with op := p.op + 1, i := p.i + 1 }).1] (thingF L k { p with op := p.op + 1, i := p.i + 1 }).2
    else groupF L k (rdt L p.i) [] { p with op := p.op + 1, i := p.i + 1 }
def groupF (L : List Tok) : Nat → Tok → List Node → Par → Node × Par
  | 0, t, look, p => (nodeZ, { p with e := 20 })
  | k + 1, t, look, p =>
    if kindP L (altF L k p).2 ≠ 8 then (nodeZ, failP (altF L k p).2 20 (-1))
    else (groupN t look (altF L k p).1, groupP t (altF L k p).1 { (altF L k p).2 with i := (altF L k p).2.i + 1, op := (altF L k p).2.op - 1 })
def altF (L : List Tok) : Nat → Par → List Node × Par
  | 0, p => ([], { p with e := 20 })
  | k + 1, p => altGo L k (seqGo L k p []).2 [(seqGo L k p []).1]
def altGo (L : List Tok) : Nat → Par → List Node → List Node × Par
  | 0, p, out => (out, { p with e := 20 })
  | k + 1, p, out => if kindP L p = 7 then altGo L k (seqGo L k { p with i := p.i + 1 } []).2 (out ++ [(seqGo L k { p with i := p.i + 1 } []).1]) else (out, p)
def seqGo (L : List Tok) : Nat → Par → List Node → Node × Par
  | 0, p, l => (nodeZ, { p with e := 20 })
  | k + 1, p, l =>
    if kindP L p = 0 ∨ kindP L p = 7 ∨ kindP L p = 8 then (oneN 12 l, p)
    else if kindP L p = 9 then (nodeZ, failP p 30 (rdt L p.i).at_)
    else seqGo L k (quantN L (thingF L k p)).2 (l ++ [(quantN L (thingF L k p)).1])
end
/-- How far there is to go. -/
def parMu (L : List Tok) (p : Par) : Nat := if p.e ≠ 0 then 0 else ((L.length : Int) - p.i).toNat
structure ParOk (L : List Tok) (p : Par) : Prop where
  i0 : 0 ≤ p.i
  i1 : p.i ≤ L.length
  o0 : 0 ≤ p.op
  o1 : p.op ≤ 40
/-- From one place to another one. -/
structure ParTo (L : List Tok) (p q : Par) : Prop where
  ok : ParOk L q
  le : p.i ≤ q.i
  og : p.op ≤ q.op
  same : q.e = 0 → q.op = p.op ∧ p.e = 0
theorem ParTo.refl {L : List Tok} {p : Par} (h : ParOk L p) : ParTo L p p := ⟨h, by omega, by omega, fun h => ⟨rfl, h⟩⟩
theorem ParTo.trans {L : List Tok} {p q r : Par} (h : ParTo L p q) (k : ParTo L q r) : ParTo L p r := ⟨k.ok, by have := h.le; have := k.le; omega, by have := h.og; have := k.og; omega, fun e => by have := k.same e; have := h.same this.2; exact ⟨by omega, this.2⟩⟩
theorem ParTo.fail {L : List Tok} {p q : Par} (h : ParTo L p q) (e a : Int) (he : e ≠ 0) : ParTo L p (failP q e a) := by
  unfold failP
  split
  · exact ⟨⟨h.ok.i0, h.ok.i1, h.ok.o0, h.ok.o1⟩, h.le, h.og, fun q => absurd q he⟩
  · exact h
theorem kindP_pos {L : List Tok} {p : Par} (h : kindP L p ≠ 0) : p.i < L.length ∧ p.e = 0 ∧ kindP L p = (rdt L p.i).kind := by
  unfold kindP at h ⊢
  by_cases h1 : p.i ≥ L.length
  · rw [if_pos h1] at h; exact absurd rfl h
  by_cases h2 : p.e ≠ 0
  · rw [if_neg h1, if_pos h2] at h; exact absurd rfl h
  · rw [if_neg h1, if_neg h2]; exact ⟨by omega, by simpa using h2, rfl⟩
theorem quant_to {L : List Tok} {p : Par} {r : Node × Par} (h : ParTo L p r.2) : ParTo L p (quantN L r).2 := by
  unfold quantN
  split
  · rename_i hk
    have hp := kindP_pos (L := L) (p := r.2) (by omega)
    split
    · exact ⟨⟨by have := h.ok.i0; simp only; omega, by simp only; omega, h.ok.o0, h.ok.o1⟩, by have := h.le; simp only; omega, h.og, h.same⟩
    · exact h
  · exact h
theorem par_ok (L : List Tok) : ∀ k : Nat,
    (∀ p, ParOk L p → p.i < L.length → p.e = 0 → ParTo L p (thingF L k p).2 ∧ ((thingF L k p).2.e = 0 → p.i < (thingF L k p).2.i)) ∧
    (∀ t look p, ParOk L p → 1 ≤ p.op → ParOk L (groupF L k t look p).2 ∧ p.i ≤ (groupF L k t look p).2.i ∧ p.op - 1 ≤ (groupF L k t look p).2.op ∧ ((groupF L k t look p).2.e = 0 → (groupF L k t look p).2.op = p.op - 1 ∧ p.e = 0)) ∧
    (∀ p, ParOk L p → ParTo L p (altF L k p).2) ∧
    (∀ p out, ParOk L p → ParTo L p (altGo L k p out).2) ∧
    (∀ p l, ParOk L p → ParTo L p (seqGo L k p l).2) := by
  intro k
  induction k with
  | zero =>
    have hz : ∀ p, ParOk L p → ParTo L p { p with e := 20 } := fun p h => ⟨⟨h.i0, h.i1, h.o0, h.o1⟩, by simp, by simp, fun e => by simp at e⟩
    refine ⟨fun p h _ _ => ⟨by rw [thingF]; exact hz p h, by rw [thingF]; intro e; simp at e⟩, fun t look p h _ => ?_, fun p h => by rw [altF]; exact hz p h, fun p out h => by rw [altGo]; exact hz p h, fun p l h => by rw [seqGo]; exact hz p h⟩
    rw [groupF]
    exact ⟨⟨h.i0, h.i1, h.o0, h.o1⟩, by simp, by simp only; omega, fun e => by simp at e⟩
  | succ k ih =>
    obtain ⟨iT, iG, iA, iAG, iS⟩ := ih
    refine ⟨?_, ?_, ?_, ?_, ?_⟩
    · intro p h hi he
      rw [thingF]
      split
      · exact ⟨⟨⟨by have := h.i0; simp only; omega, by simp only; omega, h.o0, h.o1⟩, by simp only; omega, by simp, fun _ => ⟨rfl, he⟩⟩, fun _ => by simp only; omega⟩
      split
      · refine ⟨(ParTo.refl h).fail _ _ (by decide), ?_⟩
        unfold failP
        rw [if_pos he]
        intro e
        simp at e
      rename_i hop
      have hp1 : ParOk L { p with op := p.op + 1, i := p.i + 1 } := ⟨by have := h.i0; simp only; omega, by simp only; omega, by have := h.o0; simp only; omega, by have := h.o1; simp only; omega⟩
      split
      · rename_i hl
        have hk := kindP_pos (L := L) (p := { p with op := p.op + 1, i := p.i + 1 }) (by rw [hl.2]; decide)
        have h1 := iT _ hp1 hk.1 hk.2.1
        generalize (thingF L k { p with op := p.op + 1, i := p.i + 1 }).2 = q at h1 ⊢
        generalize (thingF L k { p with op := p.op + 1, i := p.i + 1 }).1 = n
        have ho : q.e = 0 → q.op = p.op + 1 := fun e => (h1.1.same e).1
        have hg := h1.1.og
        have hle := h1.1.le
        have h0 := h.o0
        simp only at hg hle
        have h2 := iG (rdt L p.i) [n] q h1.1.ok (by omega)
        exact ⟨⟨h2.1, by omega, by omega, fun e => ⟨by have := (h2.2.2.2 e); have := ho this.2; omega, he⟩⟩, fun e => by omega⟩
      · have h2 := iG (rdt L p.i) [] _ hp1 (by have := h.o0; simp only; omega)
        simp only at h2
        exact ⟨⟨h2.1, by omega, by omega, fun e => ⟨by have := (h2.2.2.2 e).1; omega, he⟩⟩, fun e => by omega⟩
    · intro t look p h ho
      rw [groupF]
      have h1 := iA p h
      generalize altF L k p = r at h1 ⊢
      have hg := h1.og
      have hle := h1.le
      split
      · have h2 := h1.fail 20 (-1) (by decide)
        refine ⟨h2.ok, h2.le, by have := h2.og; show p.op - 1 ≤ (failP r.2 20 (-1)).op; omega, fun e => ?_⟩
        exfalso
        unfold failP at e
        split at e
        · simp at e
        · rename_i hne; exact hne e
      · rename_i hk
        have hk := kindP_pos (L := L) (p := r.2) (by omega)
        have hok : ParOk L { r.2 with i := r.2.i + 1, op := r.2.op - 1 } := ⟨by have := h1.ok.i0; simp only; omega, by simp only; omega, by simp only; omega, by have := h1.ok.o1; simp only; omega⟩
        simp only
        unfold groupP
        split
        · exact ⟨hok, by simp only; omega, by simp only; omega, fun e => ⟨by have := (h1.same hk.2.1).1; simp only; omega, (h1.same hk.2.1).2⟩⟩
        split
        · have h2 := (ParTo.refl hok).fail 32 t.at_ (by decide)
          refine ⟨h2.ok, by have := h2.le; simp only at this; omega, by have := h2.og; simp only at this; omega, fun e => ?_⟩
          exfalso
          unfold failP at e
          rw [if_pos (by exact hk.2.1)] at e
          simp at e
        · exact ⟨hok, by simp only; omega, by simp only; omega, fun e => ⟨by have := (h1.same hk.2.1).1; simp only; omega, (h1.same hk.2.1).2⟩⟩
    · intro p h
      rw [altF]
      exact (iS p [] h).trans (iAG _ _ (iS p [] h).ok)
    · intro p out h
      rw [altGo]
      split
      · rename_i hk
        have hk := kindP_pos (L := L) (p := p) (by omega)
        have hp1 : ParTo L p { p with i := p.i + 1 } := ⟨⟨by have := h.i0; simp only; omega, by simp only; omega, h.o0, h.o1⟩, by simp only; omega, by simp, fun e => ⟨rfl, e⟩⟩
        have h1 := iS _ [] hp1.ok
        exact (hp1.trans h1).trans (iAG _ _ h1.ok)
      · exact ParTo.refl h
    · intro p l h
      rw [seqGo]
      split
      · exact ParTo.refl h
      split
      · exact (ParTo.refl h).fail _ _ (by decide)
      · rename_i hk _
        have hk := kindP_pos (L := L) (p := p) (fun e => hk (.inl e))
        have h1 := quant_to (iT p h hk.1 hk.2.1).1
        exact h1.trans (iS _ _ h1.ok)
theorem thing_ok {L : List Tok} {p : Par} (k : Nat) (h : ParOk L p) (hi : p.i < L.length) (he : p.e = 0) : ParTo L p (thingF L k p).2 ∧ ((thingF L k p).2.e = 0 → p.i < (thingF L k p).2.i) := (par_ok L k).1 p h hi he
theorem alt_ok {L : List Tok} {p : Par} (k : Nat) (h : ParOk L p) : ParTo L p (altF L k p).2 := (par_ok L k).2.2.1 p h
theorem seq_ok {L : List Tok} {p : Par} (k : Nat) (l : List Node) (h : ParOk L p) : ParTo L p (seqGo L k p l).2 := (par_ok L k).2.2.2.2 p l h
/-- How far there is to go is less. -/
theorem parMu_le {L : List Tok} {p q : Par} (h : ParTo L p q) : parMu L q ≤ parMu L p := by
  unfold parMu
  have hl := h.le
  have hs := h.same
  by_cases hq : q.e = 0
  · rw [if_neg (by simp [hq]), if_neg (by simp [(hs hq).2])]; omega
  · rw [if_pos hq]; omega
theorem parMu_lt {L : List Tok} {p q : Par} (hi : p.i < L.length) (he : p.e = 0) (h : q.e = 0 → p.i < q.i) : parMu L q < parMu L p := by
  unfold parMu
  rw [if_neg (show ¬ p.e ≠ 0 by simp [he])]
  by_cases hq : q.e = 0
  · rw [if_neg (by simp [hq])]; have := h hq; omega
  · rw [if_pos hq]; omega
theorem quant_i {L : List Tok} {r : Node × Par} : r.2.i ≤ (quantN L r).2.i ∧ (quantN L r).2.e = r.2.e := by
  unfold quantN
  split
  · split
    · exact ⟨by simp only; omega, rfl⟩
    · exact ⟨by omega, rfl⟩
  · exact ⟨by omega, rfl⟩
end Go.Proofs.Ytnoohgiecnmajaa.VC

/- The parser of the document: a thing. -/
namespace Go.Proofs.Ytnoohgiecnmajaa.VC
open Go Go.RowKit
set_option linter.unusedVariables false
set_option linter.unusedSimpArgs false
set_option maxHeartbeats 4000000

def ThingH (L : List Tok) (k : Nat) : Prop := ∀ p, ParOk L p → p.i < L.length → p.e = 0 → 4 * parMu L p ≤ k → HCalls Try.prog 113 (HP L p) [.ptr 1000000 0] (fun fe H' => fe = .pv (thingF L k p).1.enc ∧ H' = HP L (thingF L k p).2)
def SeqH (L : List Tok) (k : Nat) : Prop := ∀ p, ParOk L p → 4 * parMu L p + 1 ≤ k → HCalls Try.prog 82 (HP L p) [.ptr 1000000 0] (fun fe H' => fe = .pv (seqGo L k p []).1.enc ∧ H' = HP L (seqGo L k p []).2)
def AltH (L : List Tok) (k : Nat) : Prop := ∀ p, ParOk L p → 4 * parMu L p + 2 ≤ k → HCalls Try.prog 61 (HP L p) [.ptr 1000000 0] (fun fe H' => fe = .pv (nodesE (altF L k p).1) ∧ H' = HP L (altF L k p).2)
theorem altGo_len (L : List Tok) : ∀ (k : Nat) (p : Par) (out : List Node), ParOk L p → ((altGo L k p out).1.length : Int) ≤ out.length + (L.length - p.i)
  | 0, p, out, h => by rw [altGo]; have := h.i1; simp only; omega
  | k + 1, p, out, h => by
    rw [altGo]
    have h1 := h.i1
    split
    · rename_i hk
      have hk := kindP_pos (L := L) (p := p) (by omega)
      have hp1 : ParOk L { p with i := p.i + 1 } := ⟨by have := h.i0; simp only; omega, by simp only; omega, h.o0, h.o1⟩
      have h2 := seq_ok k [] hp1
      have h3 := altGo_len L k _ (out ++ [(seqGo L k { p with i := p.i + 1 } []).1]) h2.ok
      have h4 := h2.le
      simp only at h4
      rw [List.length_append] at h3
      simp only [List.length_cons, List.length_nil] at h3
      omega
    · simp only; omega
theorem altF_len (L : List Tok) (k : Nat) (p : Par) (h : ParOk L p) : ((altF L k p).1.length : Int) ≤ L.length + 1 := by
  have h1 := h.i1
  have h0 := h.i0
  cases k with
  | zero => rw [altF]; simp; omega
  | succ k =>
    rw [altF]
    have h2 := seq_ok k [] h
    have h3 := altGo_len L k _ [(seqGo L k p []).1] h2.ok
    have h4 := h2.ok.i0
    simp only [List.length_cons, List.length_nil] at h3
    omega
theorem condBad_cases (t : Tok) (l : List Node) : (condBad t l = true ∧ ((l.length : Int) > 2 ∨ (l.length : Int) > 1 ∧ t.n = 12)) ∨ (condBad t l = false ∧ ¬ (l.length : Int) > 2 ∧ ¬ ((l.length : Int) > 1 ∧ t.n = 12)) := by
  unfold condBad
  split
  · exact .inl ⟨rfl, .inl (by assumption)⟩
  split
  · by_cases h : t.n = 12
    · exact .inl ⟨by simp [h], .inr ⟨by assumption, h⟩⟩
    · exact .inr ⟨by simp [h], by assumption, fun q => h q.2⟩
  · exact .inr ⟨rfl, by assumption, fun q => by omega⟩
theorem fnS_by {α : Type} {f : α → St} {g g' : α} {L : St} (h : g = g') (h2 : L = f g) : L = f g' := by rw [← h]; exact h2
def tokFE (t : Tok) : List FE := [.pv (iv t.kind), .pv (iv t.at_), .pv (iv t.to), .pv (iv t.c), .pv (rs t.set), .pv (bv t.neg), .pv (iv t.n), .pv (iv t.m), .pv (iv t.mode), .pv (sv t.name), .pv (iv t.on), .pv (iv t.off)]
def nzero : List FE := [.pv (iv 0), .pv (iv 0), .pv (iv 0), .pv (.val nilV), .pv (bv false), .pv (iv 0), .pv (iv 0), .pv (iv 0), .pv (sv (bs [])), .pv (iv 0), .pv (iv 0), .pv (.val nilV)]
attribute [local irreducible] tk thingF groupF altF altGo seqGo kindP failP
set_option maxHeartbeats 16000000
theorem thing_h (L : List Tok) (hL : L.length ≤ 100000) (k : Nat) (ih : ∀ j, j < k → ThingH L j ∧ AltH L j) : ThingH L k := by
  intro p hp hi he hk
  have hmu : 1 ≤ parMu L p := by unfold parMu; rw [if_neg (by simp [he])]; omega
  obtain ⟨k, rfl⟩ : ∃ m, k = m + 2 := ⟨k - 2, by omega⟩
  have hl := tk_len L
  have h0 := hp.i0
  have ho0 := hp.o0
  have ho1 := hp.o1
  obtain ⟨t, ht⟩ : ∃ t, rdt L p.i = t := ⟨_, rfl⟩
  obtain ⟨G, hG⟩ : ∃ G, thingF L (k + 2) p = G := ⟨_, rfl⟩
  rw [hG]
  rw [thingF, ht] at hG
  refine HCalls.ofr tabOk Try.func113 (by decide) rfl rfl ?_
  refine RWP.seqx tabOk orders ?_
  conv => whnf
  refine RWP.seqx tabOk orders ?_
  repeat' ((conv => whnf); (first
    | (with_reducible first | refine Spl.yes ?_ | refine Spl.no ?_ | refine Spl.dec (fun h => ?_) (fun h => ?_) | refine Spl.eq (fun h => ?_) (fun h => ?_) | refine Spl.ne (fun h => ?_) (fun h => ?_) | refine Spl.seq (fun h => ?_) (fun h => ?_) | refine Spl.not ?_ | refine Spl.any (fun h => ?_) (fun h => ?_))
    | refine drawn_text (by decide +kernel) ?_
    | (rw [tk_get (by omega), ht])
    | refine And.intro (Nat.le_of_ble_eq_true rfl) ?_
    | ((with_reducible apply And.intro); first | omega | rfl | (dsimp only; omega))))
  all_goals (conv => whnf)
  refine RWP.cut (fun st => st = ⟨218, [(0, .ptr 1000000 0), (2, .ptr 2 0), (3, .ptr 3 0)], [(1000000, (105, parCells L p)), (2, (27, nzero)), (3, (88, tokFE t))], [], []⟩ ∧ t.kind = 10) tabOk orders ?_ ?_
  · repeat' ((conv => whnf); (first
    | (with_reducible first | refine Spl.yes ?_ | refine Spl.no ?_ | refine Spl.dec (fun h => ?_) (fun h => ?_) | refine Spl.eq (fun h => ?_) (fun h => ?_) | refine Spl.ne (fun h => ?_) (fun h => ?_) | refine Spl.seq (fun h => ?_) (fun h => ?_) | refine Spl.not ?_ | refine Spl.any (fun h => ?_) (fun h => ?_))
    | ((with_reducible apply And.intro); first | omega | rfl | (dsimp only; omega))))
    all_goals (conv => whnf)
    all_goals first
      | exact ⟨_, Wk.narrow _ [0, 2, 3] [1000000, 2, 3] [], rfl, by assumption⟩
      | (refine ⟨_, Wk.narrow _ [2] [1000000, 2] [], .inl ?_⟩
         rw [if_pos (by assumption)] at hG
         subst hG
         conv => whnf
         refine ⟨?_, rfl⟩
         refine congrArg FE.pv ?_
         unfold leafN leafK
         (apply fn_by (f := fun k => (Node.mk ⟨k, t.at_, t.c, t.set, t.neg, t.n, t.m, 0, t.name, t.on, t.off⟩ []).enc); (focus ((repeat (first | (apply ite_yes; (focus first | assumption | omega)) | (apply ite_no; (focus first | assumption | exact b_nt (by assumption) | exact b_nf (by assumption) | omega)) | (apply ite_yes; (focus (first | (simp [*]; done) | (simp [*, bs]; done)))) | (apply ite_no; (focus (first | (simp [*]; done) | (simp [*, bs]; done)))))); exact rfl)); rfl))
  rintro _ ⟨rfl, hk10⟩
  rw [if_neg (by omega)] at hG
  refine RWP.seqx tabOk orders ?_
  repeat' ((conv => whnf); (first
    | (with_reducible first | refine Spl.yes ?_ | refine Spl.no ?_ | refine Spl.dec (fun h => ?_) (fun h => ?_) | refine Spl.eq (fun h => ?_) (fun h => ?_) | refine Spl.ne (fun h => ?_) (fun h => ?_) | refine Spl.seq (fun h => ?_) (fun h => ?_) | refine Spl.not ?_ | refine Spl.any (fun h => ?_) (fun h => ?_))
    | (refine HQ.use (fail_h L p 11 t.at_) ⟨id, id, id⟩ ⟨rfl, rfl⟩ rfl rfl (by first | exact ⟨⟨rfl, rfl⟩, trivial⟩ | exact ⟨⟨rfl, rfl⟩, ⟨rfl, rfl⟩, trivial⟩) (by first | exact trivial | exact ⟨⟨rfl, rfl⟩, trivial⟩ | exact ⟨⟨rfl, rfl⟩, ⟨rfl, rfl⟩, trivial⟩ | exact ⟨⟨rfl, rfl⟩, ⟨rfl, rfl⟩, ⟨rfl, rfl⟩, trivial⟩) (by first | exact trivial | exact ⟨⟨rfl, rfl⟩, trivial⟩) ?_; rintro _ _ ⟨rfl, rfl⟩; refine ⟨⟨rfl, rfl, rfl⟩, ?_⟩)
    | ((with_reducible apply And.intro); first | omega | rfl | (dsimp only; omega))))
  all_goals (conv => whnf)
  · refine ⟨_, Wk.narrow _ [2] [1000000, 2] [], .inl ?_⟩
    rw [if_pos (by assumption)] at hG
    subst hG
    conv => whnf
    exact ⟨rfl, rfl⟩
  have hop : p.op ≠ 40 := by assumption
  rw [if_neg hop] at hG
  refine RWP.seqx tabOk orders ?_
  repeat' ((conv => whnf); (first
    | (with_reducible first | refine Spl.yes ?_ | refine Spl.no ?_ | refine Spl.dec (fun h => ?_) (fun h => ?_) | refine Spl.eq (fun h => ?_) (fun h => ?_) | refine Spl.ne (fun h => ?_) (fun h => ?_) | refine Spl.seq (fun h => ?_) (fun h => ?_) | refine Spl.not ?_ | refine Spl.any (fun h => ?_) (fun h => ?_))
    | ((with_reducible apply And.intro); first | omega | rfl | (dsimp only; omega))))
  all_goals (conv => whnf)
  refine RWP.seqx tabOk orders ?_
  repeat' ((conv => whnf); (first
    | (with_reducible first | refine Spl.yes ?_ | refine Spl.no ?_ | refine Spl.dec (fun h => ?_) (fun h => ?_) | refine Spl.eq (fun h => ?_) (fun h => ?_) | refine Spl.ne (fun h => ?_) (fun h => ?_) | refine Spl.seq (fun h => ?_) (fun h => ?_) | refine Spl.not ?_ | refine Spl.any (fun h => ?_) (fun h => ?_))
    | ((with_reducible apply And.intro); first | omega | rfl | (dsimp only; omega))))
  all_goals (conv => whnf)
  refine RWP.seqx tabOk orders ?_
  conv => whnf
  obtain ⟨p1, hp1⟩ : ∃ p1 : Par, p1 = { p with op := p.op + 1, i := p.i + 1 } := ⟨_, rfl⟩
  rw [← hp1] at hG
  have hok1 : ParOk L p1 := by rw [hp1]; exact ⟨by simp only; omega, by simp only; omega, by simp only; omega, by simp only; omega⟩
  have hi1 : p1.i = p.i + 1 := by rw [hp1]
  have ho1' : p1.op = p.op + 1 := by rw [hp1]
  have he1 : p1.e = 0 := by rw [hp1]; exact he
  have hmu1 : parMu L p1 + 1 ≤ parMu L p := by have := parMu_lt (q := p1) hi he (fun _ => by omega); omega
  refine RWP.cut (fun st => ∃ look p2, st = ⟨218, [(0, .ptr 1000000 0), (2, .ptr 2 0), (3, .ptr 3 0), (5, .own 117)], [(1000000, (105, parCells L p2)), (2, (27, nzero)), (3, (88, tokFE t))], [(117, ⟨12, 27, true, rowsN look⟩)], []⟩ ∧ look.length ≤ 1 ∧ groupF L (k + 1) t look p2 = G ∧ ParTo L p1 p2) tabOk orders ?_ ?_
  · subst hp1
    have hth : kindP L ⟨p.i + 1, p.op + 1, p.e, p.at_⟩ = 10 → HCalls Try.prog 113 (HP L ⟨p.i + 1, p.op + 1, p.e, p.at_⟩) [.ptr 1000000 0] (fun fe H' => fe = .pv (thingF L (k + 1) ⟨p.i + 1, p.op + 1, p.e, p.at_⟩).1.enc ∧ H' = HP L (thingF L (k + 1) ⟨p.i + 1, p.op + 1, p.e, p.at_⟩).2) := fun h => by
      have hk' := kindP_pos (L := L) (p := ⟨p.i + 1, p.op + 1, p.e, p.at_⟩) (by omega)
      exact (ih (k + 1) (by omega)).1 ⟨p.i + 1, p.op + 1, p.e, p.at_⟩ hok1 hk'.1 hk'.2.1 (by omega)
    have hto : kindP L ⟨p.i + 1, p.op + 1, p.e, p.at_⟩ = 10 → ParTo L ⟨p.i + 1, p.op + 1, p.e, p.at_⟩ (thingF L (k + 1) ⟨p.i + 1, p.op + 1, p.e, p.at_⟩).2 := fun h => by
      have hk' := kindP_pos (L := L) (p := ⟨p.i + 1, p.op + 1, p.e, p.at_⟩) (by omega)
      exact (thing_ok _ hok1 hk'.1 hk'.2.1).1
    generalize hr : thingF L (k + 1) ⟨p.i + 1, p.op + 1, p.e, p.at_⟩ = r at *
    obtain ⟨⟨f, ks⟩, p2⟩ := r
    have hkind := kind_h L ⟨p.i + 1, p.op + 1, p.e, p.at_⟩ (by omega) hok1.i0 hok1.i1
    generalize hkd : kindP L ⟨p.i + 1, p.op + 1, p.e, p.at_⟩ = kd at *
    repeat' ((conv => whnf); (first
    | (with_reducible first | refine Spl.yes ?_ | refine Spl.no ?_ | refine Spl.dec (fun h => ?_) (fun h => ?_) | refine Spl.eq (fun h => ?_) (fun h => ?_) | refine Spl.ne (fun h => ?_) (fun h => ?_) | refine Spl.seq (fun h => ?_) (fun h => ?_) | refine Spl.not ?_ | refine Spl.any (fun h => ?_) (fun h => ?_))
    | (refine HQ.use (hkind) ⟨id, id, id⟩ ⟨rfl, rfl⟩ rfl rfl (by first | exact ⟨⟨rfl, rfl⟩, trivial⟩ | exact ⟨⟨rfl, rfl⟩, ⟨rfl, rfl⟩, trivial⟩) (by first | exact trivial | exact ⟨⟨rfl, rfl⟩, trivial⟩ | exact ⟨⟨rfl, rfl⟩, ⟨rfl, rfl⟩, trivial⟩ | exact ⟨⟨rfl, rfl⟩, ⟨rfl, rfl⟩, ⟨rfl, rfl⟩, trivial⟩) (by first | exact trivial | exact ⟨⟨rfl, rfl⟩, trivial⟩) ?_; rintro _ _ ⟨rfl, rfl⟩; refine ⟨⟨rfl, rfl, rfl⟩, ?_⟩)
    | (refine HQ.use (hth (by assumption)) ⟨id, id, id⟩ ⟨rfl, rfl⟩ rfl rfl (by first | exact ⟨⟨rfl, rfl⟩, trivial⟩ | exact ⟨⟨rfl, rfl⟩, ⟨rfl, rfl⟩, trivial⟩) (by first | exact trivial | exact ⟨⟨rfl, rfl⟩, trivial⟩ | exact ⟨⟨rfl, rfl⟩, ⟨rfl, rfl⟩, trivial⟩ | exact ⟨⟨rfl, rfl⟩, ⟨rfl, rfl⟩, ⟨rfl, rfl⟩, trivial⟩) (by first | exact trivial | exact ⟨⟨rfl, rfl⟩, trivial⟩) ?_; rintro _ _ ⟨rfl, rfl⟩; refine ⟨⟨rfl, rfl, rfl⟩, ?_⟩)
    | refine And.intro (Nat.le_of_ble_eq_true rfl) ?_
    | ((with_reducible apply And.intro); first | omega | rfl | (dsimp only; omega))))
    all_goals (conv => whnf)
    all_goals first
      | exact ⟨_, Wk.narrow _ [0, 2, 3, 5] [1000000, 2, 3] [117], [.mk f ks], p2, rfl, by simp, by rw [if_pos ⟨by assumption, by assumption⟩] at hG; exact hG, hto (by assumption)⟩
      | exact ⟨_, Wk.trans (Wk.ownNil (t := 5) (k := 117) (sz := 12) (e := 27) rfl) (Wk.narrow _ [0, 2, 3, 5] [1000000, 2, 3] [117]), [], ⟨p.i + 1, p.op + 1, p.e, p.at_⟩, rfl, by simp, by rw [if_neg (by omega)] at hG; exact hG, ParTo.refl hok1⟩
  rintro _ ⟨look, p2, rfl, hlook, hG2, hto2⟩
  clear hG
  have hok2 := hto2.ok
  have hmu2 := parMu_le hto2
  rw [groupF] at hG2
  have halt := (ih k (by omega)).2 p2 hok2 (by omega)
  have hato := alt_ok k hok2
  have hal := altF_len L k p2 hok2
  generalize altF L k p2 = r at *
  obtain ⟨l, p3⟩ := r
  simp only at halt hato hG2 hal
  have hok3 := hato.ok
  have hrl := rowsN_len l
  have hrk := rowsN_len look
  have h30 := hok3.i0
  have h31 := hok3.i1
  have h3o := hok3.o0
  have h3o1 := hok3.o1
  have hog : 1 ≤ p3.op := by have := hto2.og; have := hato.og; omega
  refine RWP.seqx tabOk orders ?_
  repeat' ((conv => whnf); (first
    | (with_reducible first | refine Spl.yes ?_ | refine Spl.no ?_ | refine Spl.dec (fun h => ?_) (fun h => ?_) | refine Spl.eq (fun h => ?_) (fun h => ?_) | refine Spl.ne (fun h => ?_) (fun h => ?_) | refine Spl.seq (fun h => ?_) (fun h => ?_) | refine Spl.not ?_ | refine Spl.any (fun h => ?_) (fun h => ?_))
    | (refine HQ.use (halt) ⟨id, id, id⟩ ⟨rfl, rfl⟩ rfl rfl (by first | exact ⟨⟨rfl, rfl⟩, trivial⟩ | exact ⟨⟨rfl, rfl⟩, ⟨rfl, rfl⟩, trivial⟩) (by first | exact trivial | exact ⟨⟨rfl, rfl⟩, trivial⟩ | exact ⟨⟨rfl, rfl⟩, ⟨rfl, rfl⟩, trivial⟩ | exact ⟨⟨rfl, rfl⟩, ⟨rfl, rfl⟩, ⟨rfl, rfl⟩, trivial⟩) (by first | exact trivial | exact ⟨⟨rfl, rfl⟩, trivial⟩) ?_; rintro _ _ ⟨rfl, rfl⟩; refine ⟨⟨rfl, rfl, rfl⟩, ?_⟩)
    | ((with_reducible apply And.intro); first | omega | rfl | (dsimp only; omega))))
  all_goals (conv => whnf)
  have hkind := kind_h L p3 (by omega) hok3.i0 hok3.i1
  refine RWP.seqx tabOk orders ?_
  repeat' ((conv => whnf); (first
    | (with_reducible first | refine Spl.yes ?_ | refine Spl.no ?_ | refine Spl.dec (fun h => ?_) (fun h => ?_) | refine Spl.eq (fun h => ?_) (fun h => ?_) | refine Spl.ne (fun h => ?_) (fun h => ?_) | refine Spl.seq (fun h => ?_) (fun h => ?_) | refine Spl.not ?_ | refine Spl.any (fun h => ?_) (fun h => ?_))
    | (refine HQ.use (hkind) ⟨id, id, id⟩ ⟨rfl, rfl⟩ rfl rfl (by first | exact ⟨⟨rfl, rfl⟩, trivial⟩ | exact ⟨⟨rfl, rfl⟩, ⟨rfl, rfl⟩, trivial⟩) (by first | exact trivial | exact ⟨⟨rfl, rfl⟩, trivial⟩ | exact ⟨⟨rfl, rfl⟩, ⟨rfl, rfl⟩, trivial⟩ | exact ⟨⟨rfl, rfl⟩, ⟨rfl, rfl⟩, ⟨rfl, rfl⟩, trivial⟩) (by first | exact trivial | exact ⟨⟨rfl, rfl⟩, trivial⟩) ?_; rintro _ _ ⟨rfl, rfl⟩; refine ⟨⟨rfl, rfl, rfl⟩, ?_⟩)
    | (refine HQ.use (fail_h L p3 20 (-1)) ⟨id, id, id⟩ ⟨rfl, rfl⟩ rfl rfl (by first | exact ⟨⟨rfl, rfl⟩, trivial⟩ | exact ⟨⟨rfl, rfl⟩, ⟨rfl, rfl⟩, trivial⟩) (by first | exact trivial | exact ⟨⟨rfl, rfl⟩, trivial⟩ | exact ⟨⟨rfl, rfl⟩, ⟨rfl, rfl⟩, trivial⟩ | exact ⟨⟨rfl, rfl⟩, ⟨rfl, rfl⟩, ⟨rfl, rfl⟩, trivial⟩) (by first | exact trivial | exact ⟨⟨rfl, rfl⟩, trivial⟩) ?_; rintro _ _ ⟨rfl, rfl⟩; refine ⟨⟨rfl, rfl, rfl⟩, ?_⟩)
    | ((with_reducible apply And.intro); first | omega | rfl | (dsimp only; omega))))
  all_goals (conv => whnf)
  · refine ⟨_, Wk.narrow _ [2] [1000000, 2] [], .inl ?_⟩
    rw [if_pos (by assumption)] at hG2
    subst hG2
    conv => whnf
    exact ⟨rfl, rfl⟩
  rw [if_neg (by omega)] at hG2
  have hk3 := kindP_pos (L := L) (p := p3) (by omega)
  refine RWP.seqx tabOk orders ?_
  repeat' ((conv => whnf); (first
    | (with_reducible first | refine Spl.yes ?_ | refine Spl.no ?_ | refine Spl.dec (fun h => ?_) (fun h => ?_) | refine Spl.eq (fun h => ?_) (fun h => ?_) | refine Spl.ne (fun h => ?_) (fun h => ?_) | refine Spl.seq (fun h => ?_) (fun h => ?_) | refine Spl.not ?_ | refine Spl.any (fun h => ?_) (fun h => ?_))
    | ((with_reducible apply And.intro); first | omega | rfl | (dsimp only; omega))))
  all_goals (conv => whnf)
  refine RWP.seqx tabOk orders ?_
  repeat' ((conv => whnf); (first
    | (with_reducible first | refine Spl.yes ?_ | refine Spl.no ?_ | refine Spl.dec (fun h => ?_) (fun h => ?_) | refine Spl.eq (fun h => ?_) (fun h => ?_) | refine Spl.ne (fun h => ?_) (fun h => ?_) | refine Spl.seq (fun h => ?_) (fun h => ?_) | refine Spl.not ?_ | refine Spl.any (fun h => ?_) (fun h => ?_))
    | ((with_reducible apply And.intro); first | omega | rfl | (dsimp only; omega))))
  all_goals (conv => whnf)
  refine RWP.seqx tabOk orders ?_
  repeat' ((conv => whnf); (first
    | (with_reducible first | refine Spl.yes ?_ | refine Spl.no ?_ | refine Spl.dec (fun h => ?_) (fun h => ?_) | refine Spl.eq (fun h => ?_) (fun h => ?_) | refine Spl.ne (fun h => ?_) (fun h => ?_) | refine Spl.seq (fun h => ?_) (fun h => ?_) | refine Spl.not ?_ | refine Spl.any (fun h => ?_) (fun h => ?_))
    | refine And.intro (Nat.le_of_ble_eq_true rfl) ?_
    | ((with_reducible apply And.intro); first | omega | rfl | (dsimp only; omega))))
  all_goals (conv => whnf)
  obtain ⟨f1, k1, h1⟩ := (oneN 13 l).ex
  have hone := one_c 13 l (by omega)
  rw [h1] at hone
  refine RWP.of tabOk orders ?_
  repeat' ((conv => whnf); (first
    | (with_reducible first | refine Spl.yes ?_ | refine Spl.no ?_ | refine Spl.dec (fun h => ?_) (fun h => ?_) | refine Spl.eq (fun h => ?_) (fun h => ?_) | refine Spl.ne (fun h => ?_) (fun h => ?_) | refine Spl.seq (fun h => ?_) (fun h => ?_) | refine Spl.not ?_ | refine Spl.any (fun h => ?_) (fun h => ?_))
    | (refine VCalls.mono (hone) ?_; rintro _ rfl)
    | refine And.intro (Nat.le_of_ble_eq_true rfl) ?_
    | refine And.intro (by show ((rowsN look).length + (rowsN l).length) * 136 ≤ 140737488355328; omega) ?_
    | (refine HQ.use (fail_h L ⟨p3.i + 1, p3.op - 1, p3.e, p3.at_⟩ 32 t.at_) ⟨id, id, id⟩ ⟨rfl, rfl⟩ rfl rfl (by first | exact ⟨⟨rfl, rfl⟩, trivial⟩ | exact ⟨⟨rfl, rfl⟩, ⟨rfl, rfl⟩, trivial⟩) (by first | exact trivial | exact ⟨⟨rfl, rfl⟩, trivial⟩ | exact ⟨⟨rfl, rfl⟩, ⟨rfl, rfl⟩, trivial⟩ | exact ⟨⟨rfl, rfl⟩, ⟨rfl, rfl⟩, ⟨rfl, rfl⟩, trivial⟩) (by first | exact trivial | exact ⟨⟨rfl, rfl⟩, trivial⟩) ?_; rintro _ _ ⟨rfl, rfl⟩; refine ⟨⟨rfl, rfl, rfl⟩, ?_⟩)
    | ((with_reducible apply And.intro); first | omega | rfl | (dsimp only; omega))))
  all_goals (conv => whnf)
  all_goals (try (exfalso; omega))
  all_goals (refine ⟨_, Wk.narrow _ [2] [1000000, 2] [], .inl ?_⟩)
  all_goals (subst hG2)
  all_goals (conv => whnf)
  all_goals (refine ⟨congrArg FE.pv ?_, ?_⟩)
  all_goals first
    | (unfold groupN
       rw [h1]
       (apply encN_by; (focus ((repeat (first | (apply ite_yes; (focus first | assumption | omega)) | (apply ite_no; (focus first | assumption | exact b_nt (by assumption) | exact b_nf (by assumption) | omega)) | (apply ite_yes; (focus (first | (simp [*]; done) | (simp [*, bs]; done)))) | (apply ite_no; (focus (first | (simp [*]; done) | (simp [*, bs]; done)))))); exact rfl)); first | rfl | (unfold Node.enc Node.cells; rw [← rowsN_app]; rfl)))
    | (unfold groupP
       (apply fnS_by (f := HP L); (focus ((repeat (first | (apply ite_yes; (focus first | assumption | omega)) | (apply ite_no; (focus first | assumption | exact b_nt (by assumption) | exact b_nf (by assumption) | omega)) | (apply ite_yes; (focus (first | (simp [*]; done) | (simp [*, bs]; done)))) | (apply ite_no; (focus (first | (simp [*]; done) | (simp [*, bs]; done)))))); exact rfl)); rfl))
    | (unfold groupP
       rcases condBad_cases t l with ⟨q, q2⟩ | ⟨q, q2⟩
       all_goals first
         | (exfalso; omega)
         | (apply fnS_by (f := HP L); (focus ((repeat (first | (apply ite_yes; (focus first | assumption | omega)) | (apply ite_no; (focus first | assumption | exact b_nt (by assumption) | exact b_nf (by assumption) | omega)) | (apply ite_yes; (focus (first | (simp [*]; done) | (simp [*, bs]; done)))) | (apply ite_no; (focus (first | (simp [*]; done) | (simp [*, bs]; done)))))); exact rfl)); rfl))
end Go.Proofs.Ytnoohgiecnmajaa.VC

/- The parser of the document: a sequence. -/
namespace Go.Proofs.Ytnoohgiecnmajaa.VC
open Go Go.RowKit
set_option linter.unusedVariables false
set_option linter.unusedSimpArgs false
set_option maxHeartbeats 4000000

attribute [local irreducible] tk thingF groupF altF altGo seqGo kindP failP
set_option maxHeartbeats 16000000
theorem seq_h (L : List Tok) (hL : L.length ≤ 100000) (k : Nat) (ih : ∀ j, j < k → ThingH L j) : SeqH L k := by
  intro p hp hk
  have hl := tk_len L
  obtain ⟨G, hG⟩ : ∃ G, seqGo L k p [] = G := ⟨_, rfl⟩
  rw [hG]
  refine HCalls.ofr tabOk Try.func82 (by decide) rfl rfl ?_
  refine RWP.seqx tabOk orders ?_
  conv => whnf
  refine RWP.seqx tabOk orders ?_
  conv => whnf
  refine RWP.block ?_
  refine RWP.loop (fun n st => ∃ p1 l, st = ⟨78, [(0, .ptr 1000000 0), (2, .ptr 2 0), (3, .own 77)], [(1000000, (105, parCells L p1)), (2, (27, nzero))], [(77, ⟨12, 27, true, rowsN l⟩)], []⟩ ∧ ParTo L p p1 ∧ seqGo L n p1 l = G ∧ 4 * parMu L p1 + 1 ≤ n ∧ n ≤ k ∧ (l.length : Int) ≤ L.length + 1 ∧ (p1.e = 0 → (l.length : Int) ≤ p1.i))
    ⟨k, _, Wk.trans (Wk.ownNil (t := 3) (k := 77) (sz := 12) (e := 27) rfl) (Wk.narrow _ [0, 2, 3] [1000000, 2] [77]), p, [], rfl, ParTo.refl hp, hG, hk, Nat.le_refl _, by simp; omega, fun _ => by simp; exact hp.i0⟩ ?_
  rintro n st ⟨p1, l, rfl, hto, hP, hn, hnk, hll, hle⟩
  obtain ⟨n, rfl⟩ : ∃ m, n = m + 1 := ⟨n - 1, by omega⟩
  have hok := hto.ok
  have h0 := hok.i0
  have h1 := hok.i1
  have hrl := rowsN_len l
  have hkind := kind_h L p1 (by omega) hok.i0 hok.i1
  rw [seqGo] at hP
  refine RWP.block ?_
  refine RWP.seqx tabOk orders ?_
  repeat' ((conv => whnf); (first
    | (with_reducible first | refine Spl.yes ?_ | refine Spl.no ?_ | refine Spl.dec (fun h => ?_) (fun h => ?_) | refine Spl.eq (fun h => ?_) (fun h => ?_) | refine Spl.ne (fun h => ?_) (fun h => ?_) | refine Spl.seq (fun h => ?_) (fun h => ?_) | refine Spl.not ?_ | refine Spl.any (fun h => ?_) (fun h => ?_))
    | (refine HQ.use (hkind) ⟨id, id, id⟩ ⟨rfl, rfl⟩ rfl rfl (by first | exact ⟨⟨rfl, rfl⟩, trivial⟩ | exact ⟨⟨rfl, rfl⟩, ⟨rfl, rfl⟩, trivial⟩) (by first | exact trivial | exact ⟨⟨rfl, rfl⟩, trivial⟩ | exact ⟨⟨rfl, rfl⟩, ⟨rfl, rfl⟩, trivial⟩ | exact ⟨⟨rfl, rfl⟩, ⟨rfl, rfl⟩, ⟨rfl, rfl⟩, trivial⟩) (by first | exact trivial | exact ⟨⟨rfl, rfl⟩, trivial⟩) ?_; rintro _ _ ⟨rfl, rfl⟩; refine ⟨⟨rfl, rfl, rfl⟩, ?_⟩)
    | ((with_reducible apply And.intro); first | omega | rfl | (dsimp only; omega))))
  all_goals (conv => whnf)
  obtain ⟨f1, k1, hone⟩ := (oneN 12 l).ex
  have hcone := one_c 12 l (by omega)
  rw [hone] at hcone hP
  refine RWP.seqx tabOk orders ?_
  repeat' ((conv => whnf); (first
    | (with_reducible first | refine Spl.yes ?_ | refine Spl.no ?_ | refine Spl.dec (fun h => ?_) (fun h => ?_) | refine Spl.eq (fun h => ?_) (fun h => ?_) | refine Spl.ne (fun h => ?_) (fun h => ?_) | refine Spl.seq (fun h => ?_) (fun h => ?_) | refine Spl.not ?_ | refine Spl.any (fun h => ?_) (fun h => ?_))
    | (refine VCalls.mono (hcone) ?_; rintro _ rfl)
    | refine And.intro (Nat.le_of_ble_eq_true rfl) ?_
    | ((with_reducible apply And.intro); first | omega | rfl | (dsimp only; omega))))
  all_goals (conv => whnf)
  all_goals (try (
    refine ⟨_, Wk.narrow _ [2] [1000000, 2] [], .inl ?_⟩
    rw [if_pos (by omega)] at hP
    subst hP
    conv => whnf
    exact ⟨rfl, rfl⟩))
  rw [if_neg (by omega)] at hP
  have hpos := kindP_pos (L := L) (p := p1) (by omega)
  refine RWP.seqx tabOk orders ?_
  repeat' ((conv => whnf); (first
    | (with_reducible first | refine Spl.yes ?_ | refine Spl.no ?_ | refine Spl.dec (fun h => ?_) (fun h => ?_) | refine Spl.eq (fun h => ?_) (fun h => ?_) | refine Spl.ne (fun h => ?_) (fun h => ?_) | refine Spl.seq (fun h => ?_) (fun h => ?_) | refine Spl.not ?_ | refine Spl.any (fun h => ?_) (fun h => ?_))
    | refine drawn_text (by decide +kernel) ?_
    | (rw [tk_get (by omega)])
    | (refine HQ.use (fail_h L p1 30 (rdt L p1.i).at_) ⟨id, id, id⟩ ⟨rfl, rfl⟩ rfl rfl (by first | exact ⟨⟨rfl, rfl⟩, trivial⟩ | exact ⟨⟨rfl, rfl⟩, ⟨rfl, rfl⟩, trivial⟩) (by first | exact trivial | exact ⟨⟨rfl, rfl⟩, trivial⟩ | exact ⟨⟨rfl, rfl⟩, ⟨rfl, rfl⟩, trivial⟩ | exact ⟨⟨rfl, rfl⟩, ⟨rfl, rfl⟩, ⟨rfl, rfl⟩, trivial⟩) (by first | exact trivial | exact ⟨⟨rfl, rfl⟩, trivial⟩) ?_; rintro _ _ ⟨rfl, rfl⟩; refine ⟨⟨rfl, rfl, rfl⟩, ?_⟩)
    | ((with_reducible apply And.intro); first | omega | rfl | (dsimp only; omega))))
  all_goals (conv => whnf)
  · refine ⟨_, Wk.narrow _ [2] [1000000, 2] [], .inl ?_⟩
    rw [if_pos (by assumption)] at hP
    subst hP
    conv => whnf
    exact ⟨rfl, rfl⟩
  rw [if_neg (by assumption)] at hP
  have hth := ih n (by omega) p1 hok hpos.1 hpos.2.1 (by omega)
  have hth2 := thing_ok n hok hpos.1 hpos.2.1
  generalize thingF L n p1 = r at *
  obtain ⟨⟨f, ks⟩, p2⟩ := r
  simp only at hth2 hP
  have hok2 := hth2.1.ok
  have h20 := hok2.i0
  have h21 := hok2.i1
  have hmu2 := parMu_lt (q := p2) hpos.1 hpos.2.1 hth2.2
  have hqt := quant_to (p := p1) (r := (Node.mk f ks, p2)) hth2.1
  have hqi := quant_i (L := L) (r := (Node.mk f ks, p2))
  have hmu3 := parMu_lt (q := (quantN L (Node.mk f ks, p2)).2) hpos.1 hpos.2.1 (fun e => by have := hth2.2 (by rw [hqi.2] at e; exact e); have := hqi.1; simp only at this; omega)
  have hlen : (((quantN L (Node.mk f ks, p2)).2.e = 0 → ((l ++ [(quantN L (Node.mk f ks, p2)).1]).length : Int) ≤ (quantN L (Node.mk f ks, p2)).2.i)) := by
    intro e
    rw [hqi.2] at e
    have h4 := hth2.2 e
    have h5 := hqi.1
    have h6 := hle hpos.2.1
    simp only at h5 e h4
    rw [List.length_append]
    simp only [List.length_cons, List.length_nil]
    omega
  have hlen2 : ((l ++ [(quantN L (Node.mk f ks, p2)).1]).length : Int) ≤ L.length + 1 := by
    have h6 := hle hpos.2.1
    rw [List.length_append]
    simp only [List.length_cons, List.length_nil]
    omega
  refine RWP.seqx tabOk orders ?_
  repeat' ((conv => whnf); (first
    | (with_reducible first | refine Spl.yes ?_ | refine Spl.no ?_ | refine Spl.dec (fun h => ?_) (fun h => ?_) | refine Spl.eq (fun h => ?_) (fun h => ?_) | refine Spl.ne (fun h => ?_) (fun h => ?_) | refine Spl.seq (fun h => ?_) (fun h => ?_) | refine Spl.not ?_ | refine Spl.any (fun h => ?_) (fun h => ?_))
    | (refine HQ.use (hth) ⟨id, id, id⟩ ⟨rfl, rfl⟩ rfl rfl (by first | exact ⟨⟨rfl, rfl⟩, trivial⟩ | exact ⟨⟨rfl, rfl⟩, ⟨rfl, rfl⟩, trivial⟩) (by first | exact trivial | exact ⟨⟨rfl, rfl⟩, trivial⟩ | exact ⟨⟨rfl, rfl⟩, ⟨rfl, rfl⟩, trivial⟩ | exact ⟨⟨rfl, rfl⟩, ⟨rfl, rfl⟩, ⟨rfl, rfl⟩, trivial⟩) (by first | exact trivial | exact ⟨⟨rfl, rfl⟩, trivial⟩) ?_; rintro _ _ ⟨rfl, rfl⟩; refine ⟨⟨rfl, rfl, rfl⟩, ?_⟩)
    | refine And.intro (Nat.le_of_ble_eq_true rfl) ?_
    | ((with_reducible apply And.intro); first | omega | rfl | (dsimp only; omega))))
  all_goals (conv => whnf)
  have hkind2 := kind_h L p2 (by omega) hok2.i0 hok2.i1
  have hrep := repeatable_c (Node.mk f ks)
  refine RWP.seqx tabOk orders ?_
  conv => whnf
  (refine HQ.use (hkind2) ⟨id, id, id⟩ ⟨rfl, rfl⟩ rfl rfl (by first | exact ⟨⟨rfl, rfl⟩, trivial⟩ | exact ⟨⟨rfl, rfl⟩, ⟨rfl, rfl⟩, trivial⟩) (by first | exact trivial | exact ⟨⟨rfl, rfl⟩, trivial⟩ | exact ⟨⟨rfl, rfl⟩, ⟨rfl, rfl⟩, trivial⟩ | exact ⟨⟨rfl, rfl⟩, ⟨rfl, rfl⟩, ⟨rfl, rfl⟩, trivial⟩) (by first | exact trivial | exact ⟨⟨rfl, rfl⟩, trivial⟩) ?_; rintro _ _ ⟨rfl, rfl⟩; refine ⟨⟨rfl, rfl, rfl⟩, ?_⟩)
  repeat' ((conv => whnf); (with_reducible first | refine Spl.yes ?_ | refine Spl.no ?_ | refine Spl.dec (fun h => ?_) (fun h => ?_) | refine Spl.eq (fun h => ?_) (fun h => ?_) | refine Spl.ne (fun h => ?_) (fun h => ?_) | refine Spl.seq (fun h => ?_) (fun h => ?_) | refine Spl.not ?_ | refine Spl.any (fun h => ?_) (fun h => ?_)))
  all_goals (conv => whnf)
  · refine VCalls.mono hrep ?_; rintro _ rfl
    repeat' ((conv => whnf); (with_reducible first | refine Spl.yes ?_ | refine Spl.no ?_ | refine Spl.dec (fun h => ?_) (fun h => ?_) | refine Spl.eq (fun h => ?_) (fun h => ?_) | refine Spl.ne (fun h => ?_) (fun h => ?_) | refine Spl.seq (fun h => ?_) (fun h => ?_) | refine Spl.not ?_ | refine Spl.any (fun h => ?_) (fun h => ?_)))
    all_goals (conv => whnf)
    have hk9 := kindP_pos (L := L) (p := p2) (by omega)
    refine drawn_text (by decide +kernel) ?_
    repeat' ((conv => whnf); (first | (rw [tk_get (by omega)]) | ((with_reducible apply And.intro); first | omega | rfl | (dsimp only; omega)) | refine And.intro (Nat.le_of_ble_eq_true rfl) ?_))
    all_goals (conv => whnf)
    · have hq : quantN L (Node.mk f ks, p2) = (repN (rdt L p2.i) (.mk f ks), ⟨p2.i + 1, p2.op, p2.e, p2.at_⟩) := by unfold quantN; rw [if_pos (by assumption), if_pos (by assumption)]
      rw [hq] at hP hqt hmu3 hlen hlen2
      simp only at hP hqt hmu3 hlen hlen2
      refine RWP.of tabOk orders ?_
      repeat' ((conv => whnf); (first | refine And.intro (by show ((rowsN l).length + 1) * 136 ≤ 140737488355328; omega) ?_ | ((with_reducible apply And.intro); first | omega | rfl | (dsimp only; omega))))
      conv => whnf
      exact ⟨n, _, by omega, Wk.narrow _ [0, 2, 3] [1000000, 2] [77], ⟨p2.i + 1, p2.op, p2.e, p2.at_⟩, l ++ [(repN (rdt L p2.i) (.mk f ks))], Eq.trans rfl (congrArg (fun X => (⟨78, [(0, .ptr 1000000 0), (2, .ptr 2 0), (3, .own 77)], [(1000000, (105, parCells L ⟨p2.i + 1, p2.op, p2.e, p2.at_⟩)), (2, (27, nzero))], [(77, ⟨12, 27, true, X⟩)], []⟩ : St)) (rowsN_snoc l (repN (rdt L p2.i) (.mk f ks)))), hto.trans hqt, hP, by omega, by omega, hlen2, hlen⟩
    · have hq : quantN L (Node.mk f ks, p2) = (Node.mk f ks, p2) := by unfold quantN; rw [if_pos (by assumption), if_neg (b_nt (by assumption))]
      rw [hq] at hP hqt hmu3 hlen hlen2
      simp only at hP hqt hmu3 hlen hlen2
      refine RWP.of tabOk orders ?_
      repeat' ((conv => whnf); (first | refine And.intro (by show ((rowsN l).length + 1) * 136 ≤ 140737488355328; omega) ?_ | ((with_reducible apply And.intro); first | omega | rfl | (dsimp only; omega))))
      conv => whnf
      exact ⟨n, _, by omega, Wk.narrow _ [0, 2, 3] [1000000, 2] [77], p2, l ++ [Node.mk f ks], Eq.trans rfl (congrArg (fun X => (⟨78, [(0, .ptr 1000000 0), (2, .ptr 2 0), (3, .own 77)], [(1000000, (105, parCells L p2)), (2, (27, nzero))], [(77, ⟨12, 27, true, X⟩)], []⟩ : St)) (rowsN_snoc l (Node.mk f ks))), hto.trans hqt, hP, by omega, by omega, hlen2, hlen⟩
  · have hq : quantN L (Node.mk f ks, p2) = (Node.mk f ks, p2) := by unfold quantN; rw [if_neg (by assumption)]
    rw [hq] at hP hqt hmu3 hlen hlen2
    simp only at hP hqt hmu3 hlen hlen2
    refine RWP.of tabOk orders ?_
    repeat' ((conv => whnf); (first | refine And.intro (by show ((rowsN l).length + 1) * 136 ≤ 140737488355328; omega) ?_ | ((with_reducible apply And.intro); first | omega | rfl | (dsimp only; omega))))
    conv => whnf
    exact ⟨n, _, by omega, Wk.narrow _ [0, 2, 3] [1000000, 2] [77], p2, l ++ [Node.mk f ks], Eq.trans rfl (congrArg (fun X => (⟨78, [(0, .ptr 1000000 0), (2, .ptr 2 0), (3, .own 77)], [(1000000, (105, parCells L p2)), (2, (27, nzero))], [(77, ⟨12, 27, true, X⟩)], []⟩ : St)) (rowsN_snoc l (Node.mk f ks))), hto.trans hqt, hP, by omega, by omega, hlen2, hlen⟩
end Go.Proofs.Ytnoohgiecnmajaa.VC

/- The parser of the document: alternatives; the whole. -/
namespace Go.Proofs.Ytnoohgiecnmajaa.VC
open Go Go.RowKit
set_option linter.unusedVariables false
set_option linter.unusedSimpArgs false
set_option maxHeartbeats 4000000

attribute [local irreducible] tk thingF groupF altF altGo seqGo kindP failP
set_option maxHeartbeats 16000000
theorem alt_h (L : List Tok) (hL : L.length ≤ 100000) (k : Nat) (ih : ∀ j, j < k → SeqH L j) : AltH L k := by
  intro p hp hk
  have hl := tk_len L
  obtain ⟨k, rfl⟩ : ∃ m, k = m + 1 := ⟨k - 1, by omega⟩
  obtain ⟨G, hG⟩ : ∃ G, altF L (k + 1) p = G := ⟨_, rfl⟩
  rw [hG]
  rw [altF] at hG
  have hsq := ih k (by omega) p hp (by omega)
  have hsq2 := seq_ok k [] hp
  generalize seqGo L k p [] = r at *
  obtain ⟨⟨f, ks⟩, p2⟩ := r
  simp only at hsq2 hG
  have hmu2 := parMu_le hsq2
  refine HCalls.ofr tabOk Try.func61 (by decide) rfl rfl ?_
  refine RWP.seqx tabOk orders ?_
  conv => whnf
  refine RWP.seqx tabOk orders ?_
  conv => whnf
  (refine HQ.use (hsq) ⟨id, id, id⟩ ⟨rfl, rfl⟩ rfl rfl (by first | exact ⟨⟨rfl, rfl⟩, trivial⟩ | exact ⟨⟨rfl, rfl⟩, ⟨rfl, rfl⟩, trivial⟩) (by first | exact trivial | exact ⟨⟨rfl, rfl⟩, trivial⟩ | exact ⟨⟨rfl, rfl⟩, ⟨rfl, rfl⟩, trivial⟩ | exact ⟨⟨rfl, rfl⟩, ⟨rfl, rfl⟩, ⟨rfl, rfl⟩, trivial⟩) (by first | exact trivial | exact ⟨⟨rfl, rfl⟩, trivial⟩) ?_; rintro _ _ ⟨rfl, rfl⟩; refine ⟨⟨rfl, rfl, rfl⟩, ?_⟩)
  conv => whnf
  refine RWP.seq (RWP.block ?_)
  refine RWP.loop (fun n st => ∃ p1 out v, st = ⟨23, [(0, .ptr 1000000 0), (3, .own 21)], [(1000000, (105, parCells L p1))], [(21, ⟨12, 27, v, rowsN out⟩)], []⟩ ∧ ParTo L p p1 ∧ altGo L n p1 out = G ∧ 4 * parMu L p1 + 1 ≤ n ∧ n ≤ k ∧ (out.length : Int) ≤ p1.i + 1)
    ⟨k, _, Wk.trans (Wk.renOwn 3 21 (k := 6) rfl rfl rfl) (Wk.narrow _ [0, 3] [1000000] [21]), p2, [Node.mk f ks], true, rfl, hsq2, hG, by omega, Nat.le_refl _, by have := hsq2.ok.i0; simp; omega⟩ ?_
  rintro n st ⟨p1, out, v, rfl, hto, hP, hn, hnk, hol⟩
  obtain ⟨n, rfl⟩ : ∃ m, n = m + 1 := ⟨n - 1, by omega⟩
  have hok := hto.ok
  have h0 := hok.i0
  have h1 := hok.i1
  have hrl := rowsN_len out
  have hkind := kind_h L p1 (by omega) hok.i0 hok.i1
  rw [altGo] at hP
  refine RWP.seqx tabOk orders ?_
  conv => whnf
  (refine HQ.use (hkind) ⟨id, id, id⟩ ⟨rfl, rfl⟩ rfl rfl (by first | exact ⟨⟨rfl, rfl⟩, trivial⟩ | exact ⟨⟨rfl, rfl⟩, ⟨rfl, rfl⟩, trivial⟩) (by first | exact trivial | exact ⟨⟨rfl, rfl⟩, trivial⟩ | exact ⟨⟨rfl, rfl⟩, ⟨rfl, rfl⟩, trivial⟩ | exact ⟨⟨rfl, rfl⟩, ⟨rfl, rfl⟩, ⟨rfl, rfl⟩, trivial⟩) (by first | exact trivial | exact ⟨⟨rfl, rfl⟩, trivial⟩) ?_; rintro _ _ ⟨rfl, rfl⟩; refine ⟨⟨rfl, rfl, rfl⟩, ?_⟩)
  repeat' ((conv => whnf); (with_reducible first | refine Spl.yes ?_ | refine Spl.no ?_ | refine Spl.dec (fun h => ?_) (fun h => ?_) | refine Spl.eq (fun h => ?_) (fun h => ?_) | refine Spl.ne (fun h => ?_) (fun h => ?_) | refine Spl.seq (fun h => ?_) (fun h => ?_) | refine Spl.not ?_ | refine Spl.any (fun h => ?_) (fun h => ?_)))
  all_goals (conv => whnf)
  rotate_left
  · rw [if_neg (by assumption)] at hP
    subst hP
    refine RWP.of tabOk orders ?_
    conv => whnf
    refine ⟨_, Wk.narrow _ [2] [1000000] [21], .inl ?_⟩
    conv => whnf
    exact ⟨rfl, rfl⟩
  rw [if_pos (by assumption)] at hP
  have hpos := kindP_pos (L := L) (p := p1) (by omega)
  have hp3 : ParTo L p1 ⟨p1.i + 1, p1.op, p1.e, p1.at_⟩ := ⟨⟨by simp only; omega, by simp only; omega, hok.o0, hok.o1⟩, by simp only; omega, by simp, fun e => ⟨rfl, e⟩⟩
  have hmu3 := parMu_lt (q := ⟨p1.i + 1, p1.op, p1.e, p1.at_⟩) hpos.1 hpos.2.1 (fun _ => by simp only; omega)
  have hsq3 := ih n (by omega) ⟨p1.i + 1, p1.op, p1.e, p1.at_⟩ hp3.ok (by omega)
  have hsq4 := seq_ok n [] hp3.ok
  generalize seqGo L n ⟨p1.i + 1, p1.op, p1.e, p1.at_⟩ [] = r at *
  obtain ⟨⟨f2, ks2⟩, p4⟩ := r
  simp only at hsq4 hP
  have hmu4 := parMu_le hsq4
  have h4 := hsq4.le
  simp only at h4
  refine RWP.block ?_
  refine RWP.seqx tabOk orders ?_
  repeat' ((conv => whnf); ((with_reducible apply And.intro); first | omega | rfl | (dsimp only; omega)))
  conv => whnf
  refine RWP.of tabOk orders ?_
  conv => whnf
  (refine HQ.use (hsq3) ⟨id, id, id⟩ ⟨rfl, rfl⟩ rfl rfl (by first | exact ⟨⟨rfl, rfl⟩, trivial⟩ | exact ⟨⟨rfl, rfl⟩, ⟨rfl, rfl⟩, trivial⟩) (by first | exact trivial | exact ⟨⟨rfl, rfl⟩, trivial⟩ | exact ⟨⟨rfl, rfl⟩, ⟨rfl, rfl⟩, trivial⟩ | exact ⟨⟨rfl, rfl⟩, ⟨rfl, rfl⟩, ⟨rfl, rfl⟩, trivial⟩) (by first | exact trivial | exact ⟨⟨rfl, rfl⟩, trivial⟩) ?_; rintro _ _ ⟨rfl, rfl⟩; refine ⟨⟨rfl, rfl, rfl⟩, ?_⟩)
  repeat' ((conv => whnf); (first | refine And.intro (Nat.le_of_ble_eq_true rfl) ?_ | refine And.intro (by show ((rowsN out).length + 1) * 136 ≤ 140737488355328; omega) ?_))
  conv => whnf
  exact ⟨n, _, by omega, Wk.narrow _ [0, 3] [1000000] [21], p4, out ++ [Node.mk f2 ks2], v, Eq.trans rfl (congrArg (fun X => (⟨23, [(0, .ptr 1000000 0), (3, .own 21)], [(1000000, (105, parCells L p4))], [(21, ⟨12, 27, v, X⟩)], []⟩ : St)) (rowsN_snoc out (Node.mk f2 ks2))), (hto.trans hp3).trans hsq4, hP, by omega, by omega, by rw [List.length_append]; simp only [List.length_cons, List.length_nil]; omega⟩
/-- All, whatever the fuel. -/
theorem par_h (L : List Tok) (hL : L.length ≤ 100000) : ∀ k, ThingH L k ∧ SeqH L k ∧ AltH L k := by
  intro k
  induction k using Nat.strongRecOn with
  | _ k ih =>
    exact ⟨thing_h L hL k (fun j hj => ⟨(ih j hj).1, (ih j hj).2.2⟩), seq_h L hL k (fun j hj => (ih j hj).1), alt_h L hL k (fun j hj => (ih j hj).2.1)⟩
structure ParR where
  n : Node
  e : Int
  at_ : Int
@[reducible] def parE (r : ParR) : SV := .tuple [r.n.enc, iv r.e, iv r.at_]
def par0 : Par := ⟨0, 0, 0, 0⟩
def parFuel (L : List Tok) : Nat := 4 * L.length + 2
def parDone (L : List Tok) (p : Par) : Par := if p.e = 0 ∧ p.i < L.length then failP p 31 (rdt L p.i).at_ else p
def parseP (L : List Tok) (end_ : Int) : ParR :=
  if (parDone L (altF L (parFuel L) par0).2).e = 20 then ⟨nodeZ, (parDone L (altF L (parFuel L) par0).2).e, end_⟩
  else if (parDone L (altF L (parFuel L) par0).2).e ≠ 0 then ⟨nodeZ, (parDone L (altF L (parFuel L) par0).2).e, (parDone L (altF L (parFuel L) par0).2).at_⟩
  else ⟨oneN 13 (altF L (parFuel L) par0).1, 0, 0⟩
theorem parse_c (L : List Tok) (end_ : Int) (hL : L.length ≤ 100000) : VCalls Try.prog 40 [toksE L, iv end_] (fun r => r = parE (parseP L end_)) := by
  have hl := tk_len L
  have hok0 : ParOk L par0 := ⟨by decide, by show (0 : Int) ≤ _; omega, by decide, by decide⟩
  have hA := (par_h L hL (parFuel L)).2.2 par0 hok0 (by unfold parMu parFuel par0; simp)
  have hto := alt_ok (parFuel L) hok0
  have hal := altF_len L (parFuel L) par0 hok0
  obtain ⟨G, hG⟩ : ∃ G, parseP L end_ = G := ⟨_, rfl⟩
  rw [hG]
  unfold parseP at hG
  generalize altF L (parFuel L) par0 = r at *
  obtain ⟨l, p⟩ := r
  simp only at hto hal hG hA
  have hok := hto.ok
  have h0 := hok.i0
  have h1 := hok.i1
  rw [toksE_tk]
  refine VCalls.ofr tabOk Try.func40 (by decide) rfl rfl ?_
  refine RWP.seqx tabOk orders ?_
  conv => whnf
  refine RWP.seqx tabOk orders ?_
  conv => whnf
  refine RWP.seqx tabOk orders ?_
  conv => whnf
  (refine HQ.use (hA) ⟨fun _ => 11, id, id⟩ ⟨rfl, rfl⟩ rfl rfl (by first | exact ⟨⟨rfl, rfl⟩, trivial⟩ | exact ⟨⟨rfl, rfl⟩, ⟨rfl, rfl⟩, trivial⟩) (by first | exact trivial | exact ⟨⟨rfl, rfl⟩, trivial⟩ | exact ⟨⟨rfl, rfl⟩, ⟨rfl, rfl⟩, trivial⟩ | exact ⟨⟨rfl, rfl⟩, ⟨rfl, rfl⟩, ⟨rfl, rfl⟩, trivial⟩) (by first | exact trivial | exact ⟨⟨rfl, rfl⟩, trivial⟩) ?_; rintro _ _ ⟨rfl, rfl⟩; refine ⟨⟨rfl, rfl, rfl⟩, ?_⟩)
  conv => whnf
  refine RWP.cut (fun st => st = ⟨65, [(1, .pv (iv end_)), (4, .ptr 4 0), (7, .ptr 11 0), (8, .pv (nodesE l))], [(4, (27, nzero)), (11, (105, parCells L (parDone L p)))], [], []⟩) tabOk orders ?_ ?_
  · repeat' ((conv => whnf); (first
    | (with_reducible first | refine Spl.yes ?_ | refine Spl.no ?_ | refine Spl.dec (fun h => ?_) (fun h => ?_) | refine Spl.eq (fun h => ?_) (fun h => ?_) | refine Spl.ne (fun h => ?_) (fun h => ?_) | refine Spl.seq (fun h => ?_) (fun h => ?_) | refine Spl.not ?_ | refine Spl.any (fun h => ?_) (fun h => ?_))
    | (refine HQ.use (fail_h L p 31 (rdt L p.i).at_) ⟨fun _ => 11, id, id⟩ ⟨rfl, rfl⟩ rfl rfl (by first | exact ⟨⟨rfl, rfl⟩, trivial⟩ | exact ⟨⟨rfl, rfl⟩, ⟨rfl, rfl⟩, trivial⟩) (by first | exact trivial | exact ⟨⟨rfl, rfl⟩, trivial⟩ | exact ⟨⟨rfl, rfl⟩, ⟨rfl, rfl⟩, trivial⟩ | exact ⟨⟨rfl, rfl⟩, ⟨rfl, rfl⟩, ⟨rfl, rfl⟩, trivial⟩) (by first | exact trivial | exact ⟨⟨rfl, rfl⟩, trivial⟩) ?_; rintro _ _ ⟨rfl, rfl⟩; refine ⟨⟨rfl, rfl, rfl⟩, ?_⟩)
    | (rw [tk_get (by omega)])
    | ((with_reducible apply And.intro); first | omega | rfl | (dsimp only; omega))))
    all_goals (conv => whnf)
    all_goals (unfold parDone)
    all_goals first
      | exact ⟨_, Wk.narrow _ [1, 4, 7, 8] [4, 11] [], by rw [if_pos ⟨by assumption, by omega⟩]; rfl⟩
      | exact ⟨_, Wk.narrow _ [1, 4, 7, 8] [4, 11] [], by rw [if_neg (by omega)]; rfl⟩

  rintro _ rfl
  generalize parDone L p = q at *
  obtain ⟨f1, k1, hone⟩ := (oneN 13 l).ex
  have hcone := one_c 13 l (by omega)
  rw [hone] at hcone hG
  refine RWP.of tabOk orders ?_
  repeat' ((conv => whnf); (first
    | (with_reducible first | refine Spl.yes ?_ | refine Spl.no ?_ | refine Spl.dec (fun h => ?_) (fun h => ?_) | refine Spl.eq (fun h => ?_) (fun h => ?_) | refine Spl.ne (fun h => ?_) (fun h => ?_) | refine Spl.seq (fun h => ?_) (fun h => ?_) | refine Spl.not ?_ | refine Spl.any (fun h => ?_) (fun h => ?_))
    | (refine VCalls.mono (hcone) ?_; rintro _ rfl)
    | refine drawn_text (by decide +kernel) ?_
    | refine drawn_plan (.one 0 (.one 1 (.one 2 (.one 3 (.one 5 (.two 4 (.ofList [6, 7, 8]) 6 (.ofList [4, 7, 8]))))))) (by decide +kernel) ?_
    | refine drawn_plan (.one 0 (.one 1 (.one 2 (.one 3 (.one 5 (.one 6 (.one 7 (.three 4 (.two 8 (.ofList [9, 10, 11]) 9 (.ofList [8, 10, 11])) 8 (.two 4 (.ofList [9, 10, 11]) 9 (.ofList [4, 10, 11])) 9 (.ofList [4, 8, 10, 11]))))))))) (by decide +kernel) ?_
    | refine Fork.mk ?_ ?_
    | refine And.intro (Nat.le_of_ble_eq_true rfl) ?_
    | ((with_reducible apply And.intro); first | omega | rfl | (dsimp only; omega))))
  all_goals (conv => whnf)
  all_goals (subst hG)
  all_goals first
    | (apply fn_by (f := parE); (focus ((repeat (first | (apply ite_yes; (focus first | assumption | omega)) | (apply ite_no; (focus first | assumption | exact b_nt (by assumption) | exact b_nf (by assumption) | omega)) | (apply ite_yes; (focus (first | (simp [*]; done) | (simp [*, bs]; done)))) | (apply ite_no; (focus (first | (simp [*]; done) | (simp [*, bs]; done)))))); exact rfl)); rfl)

end Go.Proofs.Ytnoohgiecnmajaa.VC

/- Flags by definition: what a node becomes; rows. -/
namespace Go.Proofs.Ytnoohgiecnmajaa.VC
open Go Go.RowKit
set_option linter.unusedVariables false
set_option linter.unusedSimpArgs false
set_option maxHeartbeats 4000000

def seqN (l : List Node) : Node := if l.length = 1 then rdn l 0 else .mk { fZ with kind := 12 } l
def listN (n : Node) : List Node := if n.f.kind = 12 then n.kids else [n]
def turnP (f on off : Int) : Int := bAndNot (bOr f on) off
def setN (at_ : Int) (l : List (Int × Int)) : Node := .mk { fZ with kind := 2, at_ := at_, set := l } []
def lineN (c : Ctx) (at_ : Int) : Node :=
  .mk { fZ with kind := 17, at_ := at_ } [.mk { fZ with kind := 13, at_ := at_ } [seqN [setN at_ [(13, 13)], setN at_ [(10, 10)]], setN at_ (newP [(10, 13), (133, 133), (8232, 8233)] c.most)]]
def assertN (f : NodeF) (g : Int) : NodeF := if bAnd g 2 ≠ 0 ∧ f.n = 1 then { f with n := 9 } else if bAnd g 2 ≠ 0 ∧ f.n = 2 then { f with n := 10 } else f
def greedN (f : NodeF) (g : Int) : NodeF := if f.kind = 20 then (if bAnd g 16 ≠ 0 ∧ f.mode = 0 then { f with mode := 1 } else if bAnd g 16 ≠ 0 ∧ f.mode = 1 then { f with mode := 0 } else f) else f
def nodeS (c : Ctx) (f : NodeF) (ks : List Node) (g : Int) (R : Int → List Node × Int) : Node × Int :=
  if f.kind = 1 then (setN f.at_ (setP c [(f.c, f.c)] (bAnd g 1 != 0) false), g)
  else if f.kind = 2 then (setN f.at_ (setP c f.set (bAnd g 1 != 0) f.neg), g)
  else if f.kind = 3 then (if bAnd g 4 = 0 then (setN f.at_ (setP c [(10, 10)] false true), g) else (setN f.at_ (setP c [] false true), g))
  else if f.kind = 4 then (.mk (assertN f g) ks, g)
  else if f.kind = 6 then (lineN c f.at_, g)
  else if f.kind = 7 then (.mk { f with on := bAnd g 1 } ks, g)
  else if f.kind = 11 then (.mk { fZ with kind := 12 } [], turnP g f.on f.off)
  else if f.kind = 12 then (seqN ((R g).1.flatMap listN), (R g).2)
  else if f.kind = 13 then (.mk f (R g).1, (R g).2)
  else if f.kind = 15 then (rdn (R (turnP g f.on f.off)).1 0, g)
  else (.mk (greedN f g) (R g).1, g)
mutual
def nodeR (c : Ctx) : Node → Int → Node × Int
  | .mk f ks, g => nodeS c f ks g (fun h => rowR c ks h)
def rowR (c : Ctx) : List Node → Int → List Node × Int
  | [], g => ([], g)
  | k :: l, g => ((nodeR c k g).1 :: (rowR c l (nodeR c k g).2).1, (rowR c l (nodeR c k g).2).2)
end
theorem rowR_nil (c : Ctx) (g : Int) : rowR c [] g = ([], g) := by simp [rowR]
theorem rowR_len (c : Ctx) : ∀ (l : List Node) (g : Int), (rowR c l g).1.length = l.length
  | [], g => by simp [rowR]
  | k :: l, g => by simp [rowR, rowR_len c l]
theorem rowR_snoc (c : Ctx) (k : Node) : ∀ (l : List Node) (g : Int), rowR c (l ++ [k]) g = ((rowR c l g).1 ++ [(nodeR c k (rowR c l g).2).1], (nodeR c k (rowR c l g).2).2)
  | [], g => by simp [rowR]
  | x :: l, g => by simp [rowR, rowR_snoc c k l]
theorem take_stepN {l : List Node} {j : Int} (h0 : 0 ≤ j) (h : j < l.length) : l.take (j + 1).toNat = l.take j.toNat ++ [rdn l j] := by
  have e : (j + 1).toNat = j.toNat + 1 := by omega
  rw [e, List.take_add_one]
  simp [rdn, List.getD_eq_getElem?_getD, List.getElem?_eq_getElem (show j.toNat < l.length by omega)]
theorem seqN_c (l : List Node) (hl : l.length ≤ 100000000) : VCalls Try.prog 90 [nodesE l] (fun r => r = (seqN l).enc) := by
  have hn := rowsN_len l
  unfold seqN
  refine VCalls.ofr tabOk Try.func90 (by decide) rfl rfl ?_
  refine RWP.of tabOk orders ?_
  obtain ⟨f0, k0, h0⟩ := (rdn l 0).ex
  repeat' ((conv => whnf); (first
    | (with_reducible first | refine Spl.yes ?_ | refine Spl.no ?_ | refine Spl.dec (fun h => ?_) (fun h => ?_) | refine Spl.eq (fun h => ?_) (fun h => ?_) | refine Spl.ne (fun h => ?_) (fun h => ?_) | refine Spl.seq (fun h => ?_) (fun h => ?_) | refine Spl.not ?_ | refine Spl.any (fun h => ?_) (fun h => ?_))
    | (rw [rowsN_get (by omega)])
    | (rw [h0])
    | refine And.intro (Nat.le_of_ble_eq_true rfl) ?_
    | ((with_reducible apply And.intro); first | omega | rfl | (dsimp only; omega))))
  all_goals (conv => whnf)
  · rw [if_pos (by omega)]; rfl
  · rw [if_neg (by omega)]; rfl
theorem listN_c (n : Node) : VCalls Try.prog 92 [n.enc] (fun r => r = nodesE (listN n)) := by
  obtain ⟨f, ks⟩ := n
  unfold listN
  refine VCalls.ofr tabOk Try.func92 (by decide) rfl rfl ?_
  refine RWP.of tabOk orders ?_
  repeat' ((conv => whnf); (first
    | (with_reducible first | refine Spl.yes ?_ | refine Spl.no ?_ | refine Spl.dec (fun h => ?_) (fun h => ?_) | refine Spl.eq (fun h => ?_) (fun h => ?_) | refine Spl.ne (fun h => ?_) (fun h => ?_) | refine Spl.seq (fun h => ?_) (fun h => ?_) | refine Spl.not ?_ | refine Spl.any (fun h => ?_) (fun h => ?_))
    | refine And.intro (Nat.le_of_ble_eq_true rfl) ?_
    | ((with_reducible apply And.intro); first | omega | rfl | (dsimp only; omega))))
  all_goals (conv => whnf)
  · rw [if_pos (show (Node.mk f ks).f.kind = 12 by assumption)]; rfl
  · rw [if_neg (show ¬ (Node.mk f ks).f.kind = 12 by assumption)]; rfl
def Ty2 (r : Node × Int) : SV := .tuple [r.1.enc, iv r.2]
def NodeC (c : Ctx) (n : Node) : Prop := ∀ g, VCalls Try.prog 67 [c.enc, n.enc, iv g] (fun r => r = Ty2 (nodeR c n g))
attribute [local irreducible] nodeR rowR
theorem row_c (c : Ctx) (l : List Node) (hl : l.length ≤ 1000000) (ih : ∀ n ∈ l, NodeC c n) (g : Int) : VCalls Try.prog 93 [c.enc, nodesE l, iv g] (fun r => r = .tuple [nodesE (rowR c l g).1, iv (rowR c l g).2]) := by
  have hn := rowsN_len l
  obtain ⟨utf, most⟩ := c
  refine VCalls.ofr tabOk Try.func93 (by decide) rfl rfl ?_
  refine RWP.seqx tabOk orders ?_
  conv => whnf
  refine RWP.seqx tabOk orders ?_
  conv => whnf
  refine RWP.seq ?_
  refine RWP.seqx tabOk orders ?_
  conv => whnf
  refine RWP.block ?_
  refine RWP.loop (fun k st => ∃ (j : Int) (v : Bool), st = ⟨35, [(1, .pv (nodesE l)), (2, .pv (iv (rowR ⟨utf, most⟩ (l.take j.toNat) g).2)), (3, .ptr 3 0), (8, .own 32), (9, .pv (iv j))], [(3, (110, [.pv (bv utf), .pv (iv most)]))], [(32, ⟨12, 27, v, rowsN (rowR ⟨utf, most⟩ (l.take j.toNat) g).1⟩)], []⟩ ∧ 0 ≤ j ∧ j ≤ l.length ∧ k = (l.length - j).toNat)
    ⟨_, _, Wk.trans (Wk.ownNil (t := 8) (k := 32) (sz := 12) (e := 27) rfl) (Wk.narrow _ [1, 2, 3, 8, 9] [3] [32]), 0, true, Eq.trans rfl (congrArg (fun (X : List Node × Int) => (⟨35, [(1, .pv (nodesE l)), (2, .pv (iv X.2)), (3, .ptr 3 0), (8, .own 32), (9, .pv (iv 0))], [(3, (110, [.pv (bv utf), .pv (iv most)]))], [(32, ⟨12, 27, true, rowsN X.1⟩)], []⟩ : St)) (rowR_nil ⟨utf, most⟩ g).symm), by omega, by omega, rfl⟩ ?_
  rintro k st ⟨j, v, rfl, hj0, hj1, hk⟩
  have hlj := rowR_len ⟨utf, most⟩ (l.take j.toNat) g
  have hll := rowsN_len (rowR ⟨utf, most⟩ (l.take j.toNat) g).1
  rw [List.length_take] at hlj
  refine RWP.seqx tabOk orders ?_
  repeat' ((conv => whnf); (first
    | (with_reducible first | refine Spl.yes ?_ | refine Spl.no ?_ | refine Spl.dec (fun h => ?_) (fun h => ?_) | refine Spl.eq (fun h => ?_) (fun h => ?_) | refine Spl.ne (fun h => ?_) (fun h => ?_) | refine Spl.seq (fun h => ?_) (fun h => ?_) | refine Spl.not ?_ | refine Spl.any (fun h => ?_) (fun h => ?_))
    | ((with_reducible apply And.intro); first | omega | rfl | (dsimp only; omega))))
  all_goals (conv => whnf)
  rotate_left
  · have e : j = l.length := by omega
    subst e
    rw [Int.toNat_natCast, List.take_length]
    refine RWP.of tabOk orders ?_
    conv => whnf
    rfl
  have hsn := rowR_snoc ⟨utf, most⟩ (rdn l j) (l.take j.toNat) g
  rw [← take_stepN hj0 (by omega)] at hsn
  have hc := ih (rdn l j) (by unfold rdn; rw [List.getD_eq_getElem?_getD, List.getElem?_eq_getElem (show j.toNat < l.length by omega)]; exact List.getElem_mem _) (rowR ⟨utf, most⟩ (l.take j.toNat) g).2
  generalize rowR ⟨utf, most⟩ (l.take j.toNat) g = r at *
  obtain ⟨o, h⟩ := r
  unfold Ty2 at hc
  simp only at hsn hc hll hlj
  generalize nodeR ⟨utf, most⟩ (rdn l j) h = r2 at *
  obtain ⟨⟨f2, k2⟩, g2⟩ := r2
  obtain ⟨f3, k3, h3⟩ := (rdn l j).ex
  rw [h3] at hc
  simp only at hsn hc
  refine RWP.of tabOk orders ?_
  repeat' ((conv => whnf); (first
    | (with_reducible first | refine Spl.yes ?_ | refine Spl.no ?_ | refine Spl.dec (fun h => ?_) (fun h => ?_) | refine Spl.eq (fun h => ?_) (fun h => ?_) | refine Spl.ne (fun h => ?_) (fun h => ?_) | refine Spl.seq (fun h => ?_) (fun h => ?_) | refine Spl.not ?_ | refine Spl.any (fun h => ?_) (fun h => ?_))
    | (rw [rowsN_get (by omega)])
    | (rw [h3])
    | (refine VCalls.mono (hc) ?_; rintro _ rfl)
    | refine drawn_plan (.one 0 (.one 1 (.one 2 (.one 3 (.one 4 (.one 5 (.two 6 (.ofList [7, 8, 9, 10, 11, 12]) 10 (.ofList [6, 7, 8, 9, 11, 12])))))))) (by decide +kernel) ?_
    | refine Fork.mk ?_ ?_
    | refine And.intro (Nat.le_of_ble_eq_true rfl) ?_
    | refine And.intro (by show ((rowsN o).length + 1) * 136 ≤ 140737488355328; omega) ?_
    | ((with_reducible apply And.intro); first | omega | rfl | (dsimp only; omega))))
  all_goals (conv => whnf)
  all_goals exact ⟨(l.length - (j + 1)).toNat, _, by omega, Wk.narrow _ [1, 2, 3, 8, 9] [3] [32], j + 1, v, Eq.trans rfl (congrArg (fun (X : List (List SV) × Int) => (⟨35, [(1, .pv (nodesE l)), (2, .pv (iv X.2)), (3, .ptr 3 0), (8, .own 32), (9, .pv (iv (j + 1)))], [(3, (110, [.pv (bv utf), .pv (iv most)]))], [(32, ⟨12, 27, v, X.1⟩)], []⟩ : St)) (show (rowsN o ++ [(Node.mk f2 k2).cells], g2) = (rowsN (rowR ⟨utf, most⟩ (l.take (j + 1).toNat) g).1, (rowR ⟨utf, most⟩ (l.take (j + 1).toNat) g).2) by rw [hsn, rowsN_snoc])), by omega, by omega, rfl⟩
end Go.Proofs.Ytnoohgiecnmajaa.VC

/- Flags by definition: a node. -/
namespace Go.Proofs.Ytnoohgiecnmajaa.VC
open Go Go.RowKit
set_option linter.unusedVariables false
set_option linter.unusedSimpArgs false
set_option maxHeartbeats 4000000

@[reducible] def nfe (f : NodeF) (ks : List Node) : List FE := [.pv (iv f.kind), .pv (iv f.at_), .pv (iv f.c), .pv (rs f.set), .pv (bv f.neg), .pv (iv f.n), .pv (iv f.m), .pv (iv f.mode), .pv (sv f.name), .pv (iv f.on), .pv (iv f.off), .pv (nodesE ks)]
def nfs (at_ : Int) (l : List (Int × Int)) : List FE := [.pv (iv 2), .pv (iv at_), .pv (iv 0), .pv (rs l), .pv (bv false), .pv (iv 0), .pv (iv 0), .pv (iv 0), .pv (sv (bs [])), .pv (iv 0), .pv (iv 0), .pv (.val (.slice none 0 0))]
def nfa (at_ : Int) (ks : List Node) : List FE := [.pv (iv 13), .pv (iv at_), .pv (iv 0), .pv (.val (.slice none 0 0)), .pv (bv false), .pv (iv 0), .pv (iv 0), .pv (iv 0), .pv (sv (bs [])), .pv (iv 0), .pv (iv 0), .pv (nodesE ks)]
theorem rowR_take_le (c : Ctx) : ∀ (l : List Node) (n : Nat) (g : Int), ((rowR c (l.take n) g).1.flatMap listN).length ≤ ((rowR c l g).1.flatMap listN).length
  | [], n, g => by simp
  | k :: l, 0, g => by simp [rowR]
  | k :: l, n + 1, g => by
    have := rowR_take_le c l n (nodeR c k g).2
    rw [List.take_succ_cons, rowR, rowR]
    simp only [List.flatMap_cons, List.length_append]
    omega
attribute [local irreducible] nodeR rowR setP newP bAnd bOr bAndNot
set_option maxHeartbeats 16000000
theorem nodeS_c (c : Ctx) (f : NodeF) (ks : List Node) (hs : f.set.length ≤ 100000000) (hk : ks.length ≤ 1000000) (h15 : f.kind = 15 → ks ≠ []) (ih : ∀ n ∈ ks, NodeC c n)
    (hq : f.kind = 12 → ∀ g, ((rowR c ks g).1.flatMap listN).length ≤ 10000000) (g : Int) : VCalls Try.prog 67 [c.enc, (Node.mk f ks).enc, iv g] (fun r => r = Ty2 (nodeS c f ks g (fun h => rowR c ks h))) := by
  have hn := rowsN_len ks
  have hrow := fun h => row_c c ks hk ih h
  have hset := fun l cl neg hl => set_c c l cl neg hl
  obtain ⟨utf, most⟩ := c
  obtain ⟨G, hG⟩ : ∃ G, nodeS ⟨utf, most⟩ f ks g (fun h => rowR ⟨utf, most⟩ ks h) = G := ⟨_, rfl⟩
  rw [hG]
  unfold nodeS at hG
  dsimp only at hG
  refine VCalls.ofr tabOk Try.func67 (by decide) rfl rfl ?_
  refine RWP.seqx tabOk orders ?_
  conv => whnf
  refine RWP.seqx tabOk orders ?_
  conv => whnf
  refine RWP.cutr (fun st => (Node.mk (greedN f g) (rowR ⟨utf, most⟩ ks g).1, g) = G ∧ st = ⟨227, [(2, .pv (iv g)), (3, .ptr 3 0), (4, .ptr 4 0), (6, .ptr 6 0)], [(3, (110, [.pv (bv utf), .pv (iv most)])), (4, (27, nfe (greedN f g) ks)), (6, (27, nzero))], [], []⟩) ?_ ?_
  rotate_left
  · rintro _ ⟨hG, rfl⟩
    subst hG
    have hrow := hrow g
    generalize rowR ⟨utf, most⟩ ks g = r at *
    generalize greedN f g = f2 at *
    obtain ⟨o, h⟩ := r
    simp only at hrow
    refine RWP.of tabOk orders ?_
    repeat' ((conv => whnf); (first
    | (with_reducible first | refine Spl.yes ?_ | refine Spl.no ?_ | refine Spl.dec (fun h => ?_) (fun h => ?_) | refine Spl.eq (fun h => ?_) (fun h => ?_) | refine Spl.ne (fun h => ?_) (fun h => ?_) | refine Spl.seq (fun h => ?_) (fun h => ?_) | refine Spl.not ?_ | refine Spl.any (fun h => ?_) (fun h => ?_))
    | (refine VCalls.mono (hrow) ?_; rintro _ rfl)
    | refine And.intro (Nat.le_of_ble_eq_true rfl) ?_
    | ((with_reducible apply And.intro); first | omega | rfl | (dsimp only; omega))))
    all_goals (conv => whnf)
    rfl
  refine RWP.seqx tabOk orders ?_
  conv => whnf
  refine RWP.weak (Wk.narrow _ [2, 3, 4, 6, 8, 24] [3, 4, 6] []) ?_
  refine RWP.block ?_
  refine RWP.seqx tabOk orders ?_
  conv => whnf
  refine RWP.cond ?_
  conv => whnf
  (with_reducible first | refine Spl.yes ?_ | refine Spl.no ?_ | refine Spl.dec (fun h => ?_) (fun h => ?_) | refine Spl.eq (fun h => ?_) (fun h => ?_) | refine Spl.ne (fun h => ?_) (fun h => ?_) | refine Spl.seq (fun h => ?_) (fun h => ?_) | refine Spl.not ?_ | refine Spl.any (fun h => ?_) (fun h => ?_))
  · have h1 : f.kind = 1 := by assumption
    rw [if_pos h1] at hG
    subst hG
    refine RWP.of tabOk orders ?_
    repeat' ((conv => whnf); (first
    | (with_reducible first | refine Spl.yes ?_ | refine Spl.no ?_ | refine Spl.dec (fun h => ?_) (fun h => ?_) | refine Spl.eq (fun h => ?_) (fun h => ?_) | refine Spl.ne (fun h => ?_) (fun h => ?_) | refine Spl.seq (fun h => ?_) (fun h => ?_) | refine Spl.not ?_ | refine Spl.any (fun h => ?_) (fun h => ?_))
    | (refine VCalls.mono (one8_c f.c) ?_; rintro _ rfl)
    | (refine VCalls.mono (hset [(f.c, f.c)] (bAnd g 1 != 0) false (by simp)) ?_; rintro _ rfl)
    | refine drawn_ord [0, 1, 2, 3, 4, 6, 9, 5, 7, 8, 10, 11] (by decide +kernel) ?_
    | refine And.intro (Nat.le_of_ble_eq_true rfl) ?_
    | ((with_reducible apply And.intro); first | omega | rfl | (dsimp only; omega))))
    all_goals (conv => whnf)
    rfl
  have h1 : ¬ f.kind = 1 := by assumption
  rw [if_neg h1] at hG
  refine RWP.seqx tabOk orders ?_
  conv => whnf
  refine RWP.cond ?_
  conv => whnf
  (with_reducible first | refine Spl.yes ?_ | refine Spl.no ?_ | refine Spl.dec (fun h => ?_) (fun h => ?_) | refine Spl.eq (fun h => ?_) (fun h => ?_) | refine Spl.ne (fun h => ?_) (fun h => ?_) | refine Spl.seq (fun h => ?_) (fun h => ?_) | refine Spl.not ?_ | refine Spl.any (fun h => ?_) (fun h => ?_))
  · have h1 : f.kind = 2 := by assumption
    rw [if_pos h1] at hG
    subst hG
    refine RWP.of tabOk orders ?_
    repeat' ((conv => whnf); (first
    | (with_reducible first | refine Spl.yes ?_ | refine Spl.no ?_ | refine Spl.dec (fun h => ?_) (fun h => ?_) | refine Spl.eq (fun h => ?_) (fun h => ?_) | refine Spl.ne (fun h => ?_) (fun h => ?_) | refine Spl.seq (fun h => ?_) (fun h => ?_) | refine Spl.not ?_ | refine Spl.any (fun h => ?_) (fun h => ?_))
    | (refine VCalls.mono (hset f.set (bAnd g 1 != 0) f.neg hs) ?_; rintro _ rfl)
    | refine drawn_ord [0, 1, 2, 3, 4, 5, 6, 7, 10, 8, 9, 11, 12] (by decide +kernel) ?_
    | refine And.intro (Nat.le_of_ble_eq_true rfl) ?_
    | ((with_reducible apply And.intro); first | omega | rfl | (dsimp only; omega))))
    all_goals (conv => whnf)
    rfl
  have h2 : ¬ f.kind = 2 := by assumption
  rw [if_neg h2] at hG
  refine RWP.seqx tabOk orders ?_
  conv => whnf
  refine RWP.cond ?_
  conv => whnf
  (with_reducible first | refine Spl.yes ?_ | refine Spl.no ?_ | refine Spl.dec (fun h => ?_) (fun h => ?_) | refine Spl.eq (fun h => ?_) (fun h => ?_) | refine Spl.ne (fun h => ?_) (fun h => ?_) | refine Spl.seq (fun h => ?_) (fun h => ?_) | refine Spl.not ?_ | refine Spl.any (fun h => ?_) (fun h => ?_))
  · have h1 : f.kind = 3 := by assumption
    rw [if_pos h1] at hG
    refine RWP.of tabOk orders ?_
    repeat' ((conv => whnf); (first
    | (with_reducible first | refine Spl.yes ?_ | refine Spl.no ?_ | refine Spl.dec (fun h => ?_) (fun h => ?_) | refine Spl.eq (fun h => ?_) (fun h => ?_) | refine Spl.ne (fun h => ?_) (fun h => ?_) | refine Spl.seq (fun h => ?_) (fun h => ?_) | refine Spl.not ?_ | refine Spl.any (fun h => ?_) (fun h => ?_))
    | (refine VCalls.mono (one8_c 10) ?_; rintro _ rfl)
    | (refine VCalls.mono (hset [(10, 10)] false true (by simp)) ?_; rintro _ rfl)
    | (refine VCalls.mono (hset [] false true (by simp)) ?_; rintro _ rfl)
    | refine drawn_ord [0, 1, 2, 3, 6, 4, 5, 7, 8] (by decide +kernel) ?_
    | refine And.intro (Nat.le_of_ble_eq_true rfl) ?_
    | ((with_reducible apply And.intro); first | omega | rfl | (dsimp only; omega))))
    all_goals (conv => whnf)
    · rw [if_pos (by assumption)] at hG; subst hG; rfl
    · rw [if_neg (by assumption)] at hG; subst hG; rfl
  have h3 : ¬ f.kind = 3 := by assumption
  rw [if_neg h3] at hG
  refine RWP.seqx tabOk orders ?_
  conv => whnf
  refine RWP.cond ?_
  conv => whnf
  (with_reducible first | refine Spl.yes ?_ | refine Spl.no ?_ | refine Spl.dec (fun h => ?_) (fun h => ?_) | refine Spl.eq (fun h => ?_) (fun h => ?_) | refine Spl.ne (fun h => ?_) (fun h => ?_) | refine Spl.seq (fun h => ?_) (fun h => ?_) | refine Spl.not ?_ | refine Spl.any (fun h => ?_) (fun h => ?_))
  · have h1 : f.kind = 4 := by assumption
    rw [if_pos h1] at hG
    unfold assertN at hG
    refine RWP.of tabOk orders ?_
    repeat' ((conv => whnf); (first
    | (with_reducible first | refine Spl.yes ?_ | refine Spl.no ?_ | refine Spl.dec (fun h => ?_) (fun h => ?_) | refine Spl.eq (fun h => ?_) (fun h => ?_) | refine Spl.ne (fun h => ?_) (fun h => ?_) | refine Spl.seq (fun h => ?_) (fun h => ?_) | refine Spl.not ?_ | refine Spl.any (fun h => ?_) (fun h => ?_))
    | refine And.intro (Nat.le_of_ble_eq_true rfl) ?_
    | ((with_reducible apply And.intro); first | omega | rfl | (dsimp only; omega))))
    all_goals (conv => whnf)
    all_goals first
      | (exfalso; omega)
      | (rw [if_pos (show bAnd g 2 ≠ 0 ∧ f.n = 1 from ⟨by assumption, by assumption⟩)] at hG; subst hG; rfl)
      | (rw [if_neg (show ¬ (bAnd g 2 ≠ 0 ∧ f.n = 1) by omega), if_pos (show bAnd g 2 ≠ 0 ∧ f.n = 2 from ⟨by assumption, by assumption⟩)] at hG; subst hG; rfl)
      | (rw [if_neg (show ¬ (bAnd g 2 ≠ 0 ∧ f.n = 1) by omega), if_neg (show ¬ (bAnd g 2 ≠ 0 ∧ f.n = 2) by omega)] at hG; subst hG; rfl)
  have h4 : ¬ f.kind = 4 := by assumption
  rw [if_neg h4] at hG
  refine RWP.seqx tabOk orders ?_
  conv => whnf
  refine RWP.cond ?_
  conv => whnf
  (with_reducible first | refine Spl.yes ?_ | refine Spl.no ?_ | refine Spl.dec (fun h => ?_) (fun h => ?_) | refine Spl.eq (fun h => ?_) (fun h => ?_) | refine Spl.ne (fun h => ?_) (fun h => ?_) | refine Spl.seq (fun h => ?_) (fun h => ?_) | refine Spl.not ?_ | refine Spl.any (fun h => ?_) (fun h => ?_))
  · have h1 : f.kind = 6 := by assumption
    rw [if_pos h1] at hG
    subst hG
    have hnew := new_c [(10, 13), (133, 133), (8232, 8233)] most (by simp)
    have hsq := seqN_c [setN f.at_ [(13, 13)], setN f.at_ [(10, 10)]] (by simp)
    unfold lineN
    refine RWP.cut (fun st => st = ⟨227, [(2, .pv (iv g)), (3, .ptr 3 0), (4, .ptr 4 0), (6, .ptr 6 0), (10, .ptr 10 0)], [(3, (110, [.pv (bv utf), .pv (iv most)])), (4, (27, nfe f ks)), (6, (27, nzero)), (10, (27, nfs f.at_ ([(13, 13)])))], [], []⟩) tabOk orders ?_ ?_
    · repeat' ((conv => whnf); (first
    | (with_reducible first | refine Spl.yes ?_ | refine Spl.no ?_ | refine Spl.dec (fun h => ?_) (fun h => ?_) | refine Spl.eq (fun h => ?_) (fun h => ?_) | refine Spl.ne (fun h => ?_) (fun h => ?_) | refine Spl.seq (fun h => ?_) (fun h => ?_) | refine Spl.not ?_ | refine Spl.any (fun h => ?_) (fun h => ?_))
    | (refine VCalls.mono (one8_c 13) ?_; rintro _ rfl)
    | refine drawn_plan (.one 0 (.one 1 (.two 2 (.ofList [3, 4, 5]) 4 (.ofList [2, 3, 5])))) (by decide +kernel) ?_
    | refine Fork.mk ?_ ?_
    | refine And.intro (Nat.le_of_ble_eq_true rfl) ?_
    | ((with_reducible apply And.intro); first | omega | rfl | (dsimp only; omega))))
      all_goals (conv => whnf)
      all_goals exact ⟨_, Wk.narrow _ [2, 3, 4, 6, 10] [3, 4, 6, 10] [], rfl⟩
    rintro _ rfl
    refine RWP.cut (fun st => st = ⟨227, [(2, .pv (iv g)), (3, .ptr 3 0), (4, .ptr 4 0), (6, .ptr 6 0), (10, .ptr 10 0), (11, .ptr 11 0)], [(3, (110, [.pv (bv utf), .pv (iv most)])), (4, (27, nfe f ks)), (6, (27, nzero)), (10, (27, nfs f.at_ ([(13, 13)]))), (11, (27, nfs f.at_ ([(10, 10)])))], [], []⟩) tabOk orders ?_ ?_
    · repeat' ((conv => whnf); (first
    | (with_reducible first | refine Spl.yes ?_ | refine Spl.no ?_ | refine Spl.dec (fun h => ?_) (fun h => ?_) | refine Spl.eq (fun h => ?_) (fun h => ?_) | refine Spl.ne (fun h => ?_) (fun h => ?_) | refine Spl.seq (fun h => ?_) (fun h => ?_) | refine Spl.not ?_ | refine Spl.any (fun h => ?_) (fun h => ?_))
    | (refine VCalls.mono (one8_c 10) ?_; rintro _ rfl)
    | refine drawn_plan (.one 0 (.one 1 (.two 2 (.ofList [3, 4, 5]) 4 (.ofList [2, 3, 5])))) (by decide +kernel) ?_
    | refine Fork.mk ?_ ?_
    | refine And.intro (Nat.le_of_ble_eq_true rfl) ?_
    | ((with_reducible apply And.intro); first | omega | rfl | (dsimp only; omega))))
      all_goals (conv => whnf)
      all_goals exact ⟨_, Wk.narrow _ [2, 3, 4, 6, 10, 11] [3, 4, 6, 10, 11] [], rfl⟩
    rintro _ rfl
    refine RWP.cut (fun st => st = ⟨227, [(2, .pv (iv g)), (3, .ptr 3 0), (4, .ptr 4 0), (6, .ptr 6 0), (10, .ptr 10 0), (11, .ptr 11 0), (12, .ptr 12 0)], [(3, (110, [.pv (bv utf), .pv (iv most)])), (4, (27, nfe f ks)), (6, (27, nzero)), (10, (27, nfs f.at_ ([(13, 13)]))), (11, (27, nfs f.at_ ([(10, 10)]))), (12, (27, nfs f.at_ (newP [(10, 13), (133, 133), (8232, 8233)] most)))], [], []⟩) tabOk orders ?_ ?_
    · repeat' ((conv => whnf); (first
    | (with_reducible first | refine Spl.yes ?_ | refine Spl.no ?_ | refine Spl.dec (fun h => ?_) (fun h => ?_) | refine Spl.eq (fun h => ?_) (fun h => ?_) | refine Spl.ne (fun h => ?_) (fun h => ?_) | refine Spl.seq (fun h => ?_) (fun h => ?_) | refine Spl.not ?_ | refine Spl.any (fun h => ?_) (fun h => ?_))
    | (refine VCalls.mono (hnew) ?_; rintro _ rfl)
    | refine drawn_plan (.one 0 (.one 1 (.one 2 (.one 3 (.one 4 (.one 6 (.one 7 (.two 5 (.two 8 (.ofList [9, 10, 11]) 10 (.ofList [8, 9, 11])) 10 (.ofList [5, 8, 9, 11]))))))))) (by decide +kernel) ?_
    | refine Fork.mk ?_ ?_
    | refine And.intro (Nat.le_of_ble_eq_true rfl) ?_
    | ((with_reducible apply And.intro); first | omega | rfl | (dsimp only; omega))))
      all_goals (conv => whnf)
      all_goals exact ⟨_, Wk.narrow _ [2, 3, 4, 6, 10, 11, 12] [3, 4, 6, 10, 11, 12] [], rfl⟩
    rintro _ rfl
    refine RWP.cut (fun st => st = ⟨227, [(2, .pv (iv g)), (3, .ptr 3 0), (4, .ptr 4 0), (6, .ptr 6 0), (13, .ptr 13 0)], [(3, (110, [.pv (bv utf), .pv (iv most)])), (4, (27, nfe f ks)), (6, (27, nzero)), (13, (27, nfa f.at_ [seqN [setN f.at_ [(13, 13)], setN f.at_ [(10, 10)]], setN f.at_ (newP [(10, 13), (133, 133), (8232, 8233)] most)]))], [], []⟩) tabOk orders ?_ ?_
    · repeat' ((conv => whnf); (first
    | (with_reducible first | refine Spl.yes ?_ | refine Spl.no ?_ | refine Spl.dec (fun h => ?_) (fun h => ?_) | refine Spl.eq (fun h => ?_) (fun h => ?_) | refine Spl.ne (fun h => ?_) (fun h => ?_) | refine Spl.seq (fun h => ?_) (fun h => ?_) | refine Spl.not ?_ | refine Spl.any (fun h => ?_) (fun h => ?_))
    | (refine VCalls.mono (hsq) ?_; rintro _ rfl)
    | refine drawn_plan (.one 0 (.one 1 (.one 2 (.one 3 (.one 6 (.two 4 (.two 5 (.two 7 (.ofList [8, 9, 10]) 9 (.ofList [7, 8, 10])) 9 (.ofList [5, 7, 8, 10])) 9 (.ofList [4, 5, 7, 8, 10]))))))) (by decide +kernel) ?_
    | refine Fork.mk ?_ ?_
    | refine And.intro (Nat.le_of_ble_eq_true rfl) ?_
    | ((with_reducible apply And.intro); first | omega | rfl | (dsimp only; omega))))
      all_goals (conv => whnf)
      all_goals exact ⟨_, Wk.narrow _ [2, 3, 4, 6, 13] [3, 4, 6, 13] [], rfl⟩
    rintro _ rfl
    refine RWP.of tabOk orders ?_
    repeat' ((conv => whnf); (first
    | (with_reducible first | refine Spl.yes ?_ | refine Spl.no ?_ | refine Spl.dec (fun h => ?_) (fun h => ?_) | refine Spl.eq (fun h => ?_) (fun h => ?_) | refine Spl.ne (fun h => ?_) (fun h => ?_) | refine Spl.seq (fun h => ?_) (fun h => ?_) | refine Spl.not ?_ | refine Spl.any (fun h => ?_) (fun h => ?_))
    | refine And.intro (Nat.le_of_ble_eq_true rfl) ?_
    | ((with_reducible apply And.intro); first | omega | rfl | (dsimp only; omega))))
    all_goals (conv => whnf)
    rfl
  have h6 : ¬ f.kind = 6 := by assumption
  rw [if_neg h6] at hG
  refine RWP.seqx tabOk orders ?_
  conv => whnf
  refine RWP.cond ?_
  conv => whnf
  (with_reducible first | refine Spl.yes ?_ | refine Spl.no ?_ | refine Spl.dec (fun h => ?_) (fun h => ?_) | refine Spl.eq (fun h => ?_) (fun h => ?_) | refine Spl.ne (fun h => ?_) (fun h => ?_) | refine Spl.seq (fun h => ?_) (fun h => ?_) | refine Spl.not ?_ | refine Spl.any (fun h => ?_) (fun h => ?_))
  · have h1 : f.kind = 7 := by assumption
    rw [if_pos h1] at hG
    subst hG
    refine RWP.of tabOk orders ?_
    repeat' ((conv => whnf); (first
    | (with_reducible first | refine Spl.yes ?_ | refine Spl.no ?_ | refine Spl.dec (fun h => ?_) (fun h => ?_) | refine Spl.eq (fun h => ?_) (fun h => ?_) | refine Spl.ne (fun h => ?_) (fun h => ?_) | refine Spl.seq (fun h => ?_) (fun h => ?_) | refine Spl.not ?_ | refine Spl.any (fun h => ?_) (fun h => ?_))
    | refine And.intro (Nat.le_of_ble_eq_true rfl) ?_
    | ((with_reducible apply And.intro); first | omega | rfl | (dsimp only; omega))))
    all_goals (conv => whnf)
    rfl
  have h7 : ¬ f.kind = 7 := by assumption
  rw [if_neg h7] at hG
  refine RWP.seqx tabOk orders ?_
  conv => whnf
  refine RWP.cond ?_
  conv => whnf
  (with_reducible first | refine Spl.yes ?_ | refine Spl.no ?_ | refine Spl.dec (fun h => ?_) (fun h => ?_) | refine Spl.eq (fun h => ?_) (fun h => ?_) | refine Spl.ne (fun h => ?_) (fun h => ?_) | refine Spl.seq (fun h => ?_) (fun h => ?_) | refine Spl.not ?_ | refine Spl.any (fun h => ?_) (fun h => ?_))
  · have h1 : f.kind = 11 := by assumption
    rw [if_pos h1] at hG
    subst hG
    refine RWP.of tabOk orders ?_
    repeat' ((conv => whnf); (first
    | (with_reducible first | refine Spl.yes ?_ | refine Spl.no ?_ | refine Spl.dec (fun h => ?_) (fun h => ?_) | refine Spl.eq (fun h => ?_) (fun h => ?_) | refine Spl.ne (fun h => ?_) (fun h => ?_) | refine Spl.seq (fun h => ?_) (fun h => ?_) | refine Spl.not ?_ | refine Spl.any (fun h => ?_) (fun h => ?_))
    | (refine VCalls.mono (turn_c _ _ _) ?_; rintro _ rfl)
    | refine And.intro (Nat.le_of_ble_eq_true rfl) ?_
    | ((with_reducible apply And.intro); first | omega | rfl | (dsimp only; omega))))
    all_goals (conv => whnf)
    rfl
  have h11 : ¬ f.kind = 11 := by assumption
  rw [if_neg h11] at hG
  refine RWP.seqx tabOk orders ?_
  conv => whnf
  refine RWP.cond ?_
  conv => whnf
  (with_reducible first | refine Spl.yes ?_ | refine Spl.no ?_ | refine Spl.dec (fun h => ?_) (fun h => ?_) | refine Spl.eq (fun h => ?_) (fun h => ?_) | refine Spl.ne (fun h => ?_) (fun h => ?_) | refine Spl.seq (fun h => ?_) (fun h => ?_) | refine Spl.not ?_ | refine Spl.any (fun h => ?_) (fun h => ?_))
  · have h1 : f.kind = 12 := by assumption
    rw [if_pos h1] at hG
    refine RWP.seqx tabOk orders ?_
    conv => whnf
    refine RWP.seq ?_
    refine RWP.seqx tabOk orders ?_
    conv => whnf
    refine RWP.block ?_
    refine RWP.loop (fun k st => ∃ (j : Int) (v : Bool), st = (⟨227, [(2, .pv (iv (rowR ⟨utf, most⟩ (ks.take j.toNat) g).2)), (3, .ptr 3 0), (4, .ptr 4 0), (6, .ptr 6 0), (14, .own 160), (15, .pv (iv j))], [(3, (110, [.pv (bv utf), .pv (iv most)])), (4, (27, nfe f ks)), (6, (27, nzero))], [(160, ⟨12, 27, v, rowsN ((rowR ⟨utf, most⟩ (ks.take j.toNat) g).1.flatMap listN)⟩)], []⟩ : St) ∧ 0 ≤ j ∧ j ≤ ks.length ∧ k = (ks.length - j).toNat)
      ⟨_, _, Wk.trans (Wk.ownNil (t := 14) (k := 160) (sz := 12) (e := 27) rfl) (Wk.narrow _ [2, 3, 4, 6, 14, 15] [3, 4, 6] [160]), 0, true, Eq.trans rfl (congrArg (fun (X : List Node × Int) => (⟨227, [(2, .pv (iv X.2)), (3, .ptr 3 0), (4, .ptr 4 0), (6, .ptr 6 0), (14, .own 160), (15, .pv (iv 0))], [(3, (110, [.pv (bv utf), .pv (iv most)])), (4, (27, nfe f ks)), (6, (27, nzero))], [(160, ⟨12, 27, true, rowsN (X.1.flatMap listN)⟩)], []⟩ : St)) (rowR_nil ⟨utf, most⟩ g).symm), by omega, by omega, rfl⟩ ?_
    rintro k st ⟨j, v, rfl, hj0, hj1, hk⟩
    refine RWP.seqx tabOk orders ?_
    repeat' ((conv => whnf); (first
    | (with_reducible first | refine Spl.yes ?_ | refine Spl.no ?_ | refine Spl.dec (fun h => ?_) (fun h => ?_) | refine Spl.eq (fun h => ?_) (fun h => ?_) | refine Spl.ne (fun h => ?_) (fun h => ?_) | refine Spl.seq (fun h => ?_) (fun h => ?_) | refine Spl.not ?_ | refine Spl.any (fun h => ?_) (fun h => ?_))
    | ((with_reducible apply And.intro); first | omega | rfl | (dsimp only; omega))))
    all_goals (conv => whnf)
    rotate_left
    · have e : j = ks.length := by omega
      subst e
      have hq2 := hq h1 g
      rw [Int.toNat_natCast, List.take_length]
      generalize rowR ⟨utf, most⟩ ks g = r at *
      obtain ⟨o, h⟩ := r
      simp only at hG hq2
      have hsq := seqN_c (o.flatMap listN) (by omega)
      obtain ⟨f5, k5, h5⟩ := (seqN (o.flatMap listN)).ex
      rw [h5] at hsq hG
      refine RWP.of tabOk orders ?_
      repeat' ((conv => whnf); (first
    | (with_reducible first | refine Spl.yes ?_ | refine Spl.no ?_ | refine Spl.dec (fun h => ?_) (fun h => ?_) | refine Spl.eq (fun h => ?_) (fun h => ?_) | refine Spl.ne (fun h => ?_) (fun h => ?_) | refine Spl.seq (fun h => ?_) (fun h => ?_) | refine Spl.not ?_ | refine Spl.any (fun h => ?_) (fun h => ?_))
    | (refine VCalls.mono (hsq) ?_; rintro _ rfl)
    | refine And.intro (Nat.le_of_ble_eq_true rfl) ?_
    | ((with_reducible apply And.intro); first | omega | rfl | (dsimp only; omega))))
      all_goals (conv => whnf)
      all_goals (subst hG; rfl)
    have hsn := rowR_snoc ⟨utf, most⟩ (rdn ks j) (ks.take j.toNat) g
    rw [← take_stepN hj0 (by omega)] at hsn
    have hc := ih (rdn ks j) (by unfold rdn; rw [List.getD_eq_getElem?_getD, List.getElem?_eq_getElem (show j.toNat < ks.length by omega)]; exact List.getElem_mem _) (rowR ⟨utf, most⟩ (ks.take j.toNat) g).2
    have hle := rowR_take_le ⟨utf, most⟩ ks (j + 1).toNat g
    have hq2 := hq h1 g
    rw [hsn] at hle
    simp only [List.flatMap_append, List.flatMap_cons, List.flatMap_nil, List.append_nil, List.length_append] at hle
    generalize rowR ⟨utf, most⟩ (ks.take j.toNat) g = r at *
    obtain ⟨o, h⟩ := r
    unfold Ty2 at hc
    simp only at hsn hc hle
    generalize nodeR ⟨utf, most⟩ (rdn ks j) h = r2 at *
    obtain ⟨⟨f2, k2⟩, g2⟩ := r2
    have hli := listN_c (.mk f2 k2)
    obtain ⟨f3, k3, h3⟩ := (rdn ks j).ex
    rw [h3] at hc
    simp only at hsn hc hle
    have hr1 := rowsN_len (o.flatMap listN)
    have hr2 := rowsN_len (listN (.mk f2 k2))
    refine RWP.of tabOk orders ?_
    repeat' ((conv => whnf); (first
    | (with_reducible first | refine Spl.yes ?_ | refine Spl.no ?_ | refine Spl.dec (fun h => ?_) (fun h => ?_) | refine Spl.eq (fun h => ?_) (fun h => ?_) | refine Spl.ne (fun h => ?_) (fun h => ?_) | refine Spl.seq (fun h => ?_) (fun h => ?_) | refine Spl.not ?_ | refine Spl.any (fun h => ?_) (fun h => ?_))
    | (rw [rowsN_get (by omega)])
    | (rw [h3])
    | (refine VCalls.mono (hc) ?_; rintro _ rfl)
    | (refine VCalls.mono (hli) ?_; rintro _ rfl)
    | refine drawn_plan (.one 0 (.one 1 (.one 2 (.one 3 (.one 4 (.one 5 (.one 6 (.two 7 (.ofList [8, 9, 10, 11, 12, 13]) 11 (.ofList [7, 8, 9, 10, 12, 13]))))))))) (by decide +kernel) ?_
    | refine Fork.mk ?_ ?_
    | refine And.intro (Nat.le_of_ble_eq_true rfl) ?_
    | refine And.intro (by show ((rowsN (o.flatMap listN)).length + (rowsN (listN (Node.mk f2 k2))).length) * 136 ≤ 140737488355328; omega) ?_
    | ((with_reducible apply And.intro); first | omega | rfl | (dsimp only; omega))))
    all_goals (conv => whnf)
    all_goals exact ⟨(ks.length - (j + 1)).toNat, _, by omega, Wk.narrow _ [2, 3, 4, 6, 14, 15] [3, 4, 6] [160], j + 1, v, Eq.trans rfl (congrArg (fun (X : List (List SV) × Int) => (⟨227, [(2, .pv (iv X.2)), (3, .ptr 3 0), (4, .ptr 4 0), (6, .ptr 6 0), (14, .own 160), (15, .pv (iv (j + 1)))], [(3, (110, [.pv (bv utf), .pv (iv most)])), (4, (27, nfe f ks)), (6, (27, nzero))], [(160, ⟨12, 27, v, X.1⟩)], []⟩ : St)) (show (rowsN (o.flatMap listN) ++ rowsN (listN (Node.mk f2 k2)), g2) = (rowsN ((rowR ⟨utf, most⟩ (ks.take (j + 1).toNat) g).1.flatMap listN), (rowR ⟨utf, most⟩ (ks.take (j + 1).toNat) g).2) by rw [hsn, rowsN_app, List.flatMap_append]; simp)), by omega, by omega, rfl⟩
  have h12 : ¬ f.kind = 12 := by assumption
  rw [if_neg h12] at hG
  refine RWP.seqx tabOk orders ?_
  conv => whnf
  refine RWP.cond ?_
  conv => whnf
  (with_reducible first | refine Spl.yes ?_ | refine Spl.no ?_ | refine Spl.dec (fun h => ?_) (fun h => ?_) | refine Spl.eq (fun h => ?_) (fun h => ?_) | refine Spl.ne (fun h => ?_) (fun h => ?_) | refine Spl.seq (fun h => ?_) (fun h => ?_) | refine Spl.not ?_ | refine Spl.any (fun h => ?_) (fun h => ?_))
  · have h1 : f.kind = 13 := by assumption
    rw [if_pos h1] at hG
    subst hG
    have hrow := hrow g
    generalize rowR ⟨utf, most⟩ ks g = r at *
    obtain ⟨o, h⟩ := r
    simp only at hrow
    refine RWP.of tabOk orders ?_
    repeat' ((conv => whnf); (first
    | (with_reducible first | refine Spl.yes ?_ | refine Spl.no ?_ | refine Spl.dec (fun h => ?_) (fun h => ?_) | refine Spl.eq (fun h => ?_) (fun h => ?_) | refine Spl.ne (fun h => ?_) (fun h => ?_) | refine Spl.seq (fun h => ?_) (fun h => ?_) | refine Spl.not ?_ | refine Spl.any (fun h => ?_) (fun h => ?_))
    | (refine VCalls.mono (hrow) ?_; rintro _ rfl)
    | refine And.intro (Nat.le_of_ble_eq_true rfl) ?_
    | ((with_reducible apply And.intro); first | omega | rfl | (dsimp only; omega))))
    all_goals (conv => whnf)
    rfl
  have h13 : ¬ f.kind = 13 := by assumption
  rw [if_neg h13] at hG
  refine RWP.seqx tabOk orders ?_
  conv => whnf
  refine RWP.cond ?_
  conv => whnf
  (with_reducible first | refine Spl.yes ?_ | refine Spl.no ?_ | refine Spl.dec (fun h => ?_) (fun h => ?_) | refine Spl.eq (fun h => ?_) (fun h => ?_) | refine Spl.ne (fun h => ?_) (fun h => ?_) | refine Spl.seq (fun h => ?_) (fun h => ?_) | refine Spl.not ?_ | refine Spl.any (fun h => ?_) (fun h => ?_))
  · have h1 : f.kind = 15 := by assumption
    rw [if_pos h1] at hG
    have hne := h15 h1
    have hlen : 0 < ks.length := List.length_pos_iff.2 hne
    have hkid := ih (rdn ks 0) (by unfold rdn; rw [List.getD_eq_getElem?_getD, List.getElem?_eq_getElem (show (0 : Int).toNat < ks.length by simpa using hlen)]; exact List.getElem_mem _) (turnP g f.on f.off)
    have hfst : rdn (rowR ⟨utf, most⟩ ks (turnP g f.on f.off)).1 0 = (nodeR ⟨utf, most⟩ (rdn ks 0) (turnP g f.on f.off)).1 := by
      cases ks with
      | nil => exact absurd rfl hne
      | cons k l => rw [rowR]; rfl
    simp only [hfst] at hG
    unfold Ty2 turnP at hkid
    unfold turnP at hG
    generalize nodeR ⟨utf, most⟩ (rdn ks 0) (bAndNot (bOr g f.on) f.off) = r2 at *
    obtain ⟨⟨f2, k2⟩, g2⟩ := r2
    obtain ⟨f3, k3, h3⟩ := (rdn ks 0).ex
    rw [h3] at hkid
    simp only at hG hkid
    refine RWP.of tabOk orders ?_
    repeat' ((conv => whnf); (first
    | (with_reducible first | refine Spl.yes ?_ | refine Spl.no ?_ | refine Spl.dec (fun h => ?_) (fun h => ?_) | refine Spl.eq (fun h => ?_) (fun h => ?_) | refine Spl.ne (fun h => ?_) (fun h => ?_) | refine Spl.seq (fun h => ?_) (fun h => ?_) | refine Spl.not ?_ | refine Spl.any (fun h => ?_) (fun h => ?_))
    | (refine VCalls.mono (turn_c _ _ _) ?_; rintro _ rfl)
    | (refine VCalls.mono (hkid) ?_; rintro _ rfl)
    | refine drawn_plan (.one 0 (.one 1 (.one 2 (.one 3 (.one 4 (.one 5 (.one 6 (.one 7 (.one 8 (.one 9 (.two 10 (.two 11 (.ofList [12, 13, 14, 15, 16, 17]) 15 (.ofList [11, 12, 13, 14, 16, 17])) 15 (.ofList [10, 11, 12, 13, 14, 16, 17])))))))))))) (by decide +kernel) ?_
    | refine Fork.mk ?_ ?_
    | (rw [rowsN_get (by simpa using hlen)])
    | (rw [h3])
    | refine And.intro (Nat.le_of_ble_eq_true rfl) ?_
    | ((with_reducible apply And.intro); first | omega | rfl | (dsimp only; omega))))
    all_goals (conv => whnf)
    all_goals (subst hG; rfl)
  have h15 : ¬ f.kind = 15 := by assumption
  rw [if_neg h15] at hG
  refine RWP.seqx tabOk orders ?_
  conv => whnf
  refine RWP.cond ?_
  conv => whnf
  (with_reducible first | refine Spl.yes ?_ | refine Spl.no ?_ | refine Spl.dec (fun h => ?_) (fun h => ?_) | refine Spl.eq (fun h => ?_) (fun h => ?_) | refine Spl.ne (fun h => ?_) (fun h => ?_) | refine Spl.seq (fun h => ?_) (fun h => ?_) | refine Spl.not ?_ | refine Spl.any (fun h => ?_) (fun h => ?_))
  · have h1 : f.kind = 20 := by assumption
    unfold greedN
    rw [if_pos h1]
    unfold greedN at hG
    rw [if_pos h1] at hG
    refine RWP.of tabOk orders ?_
    repeat' ((conv => whnf); (first
    | (with_reducible first | refine Spl.yes ?_ | refine Spl.no ?_ | refine Spl.dec (fun h => ?_) (fun h => ?_) | refine Spl.eq (fun h => ?_) (fun h => ?_) | refine Spl.ne (fun h => ?_) (fun h => ?_) | refine Spl.seq (fun h => ?_) (fun h => ?_) | refine Spl.not ?_ | refine Spl.any (fun h => ?_) (fun h => ?_))
    | refine And.intro (Nat.le_of_ble_eq_true rfl) ?_
    | ((with_reducible apply And.intro); first | omega | rfl | (dsimp only; omega))))
    all_goals (conv => whnf)
    all_goals first
      | (exfalso; omega)
      | (rw [if_pos (show bAnd g 16 ≠ 0 ∧ f.mode = 0 from ⟨by assumption, by assumption⟩)] at hG ⊢; exact ⟨_, Wk.narrow _ [2, 3, 4, 6] [3, 4, 6] [], hG, rfl⟩)
      | (rw [if_neg (show ¬ (bAnd g 16 ≠ 0 ∧ f.mode = 0) by omega), if_pos (show bAnd g 16 ≠ 0 ∧ f.mode = 1 from ⟨by assumption, by assumption⟩)] at hG ⊢; exact ⟨_, Wk.narrow _ [2, 3, 4, 6] [3, 4, 6] [], hG, rfl⟩)
      | (rw [if_neg (show ¬ (bAnd g 16 ≠ 0 ∧ f.mode = 0) by omega), if_neg (show ¬ (bAnd g 16 ≠ 0 ∧ f.mode = 1) by omega)] at hG ⊢; exact ⟨_, Wk.narrow _ [2, 3, 4, 6] [3, 4, 6] [], hG, rfl⟩)
  have h20 : ¬ f.kind = 20 := by assumption
  unfold greedN
  rw [if_neg h20]
  unfold greedN at hG
  rw [if_neg h20] at hG
  refine RWP.of tabOk orders ?_
  conv => whnf
  exact ⟨_, Wk.narrow _ [2, 3, 4, 6] [3, 4, 6] [], hG, rfl⟩
end Go.Proofs.Ytnoohgiecnmajaa.VC

/- The parser's tree: its size, and what is told of each of its nodes. -/
namespace Go.Proofs.Ytnoohgiecnmajaa.VC
open Go Go.RowKit
set_option linter.unusedVariables false
set_option linter.unusedSimpArgs false
set_option maxHeartbeats 4000000

mutual
def Node.w : Node → Nat
  | .mk _ ks => 1 + wN ks
def wN : List Node → Nat
  | [] => 0
  | k :: l => k.w + wN l
end
mutual
def Node.all (P : Node → Prop) : Node → Prop
  | .mk f ks => P (.mk f ks) ∧ allN P ks
def allN (P : Node → Prop) : List Node → Prop
  | [] => True
  | k :: l => k.all P ∧ allN P l
end
theorem wN_app : ∀ (l m : List Node), wN (l ++ m) = wN l + wN m
  | [], m => by simp [wN]
  | k :: l, m => by simp [wN, wN_app l m]; omega
theorem allN_app {P : Node → Prop} : ∀ {l m : List Node}, allN P l → allN P m → allN P (l ++ m)
  | [], m, h1, h2 => h2
  | k :: l, m, h1, h2 => by rw [allN] at h1; rw [List.cons_append, allN]; exact ⟨h1.1, allN_app h1.2 h2⟩
theorem allN_mem {P : Node → Prop} : ∀ {l : List Node}, allN P l → ∀ {n}, n ∈ l → n.all P
  | [], h, n, hn => by simp at hn
  | k :: l, h, n, hn => by
    rw [allN] at h
    rcases List.mem_cons.1 hn with rfl | hn
    · exact h.1
    · exact allN_mem h.2 hn
theorem Node.all_top {P : Node → Prop} {n : Node} (h : n.all P) : P n := by cases n; rw [Node.all] at h; exact h.1
theorem Node.all_kids {P : Node → Prop} {n : Node} (h : n.all P) : allN P n.kids := by cases n; rw [Node.all] at h; exact h.2
theorem w_pos (n : Node) : 1 ≤ n.w := by cases n; rw [Node.w]; omega
theorem wN_len : ∀ l : List Node, l.length ≤ wN l
  | [] => by simp
  | k :: l => by have := w_pos k; have := wN_len l; simp [wN]; omega
theorem wN_mem : ∀ {l : List Node} {n : Node}, n ∈ l → n.w ≤ wN l
  | [], n, h => by simp at h
  | k :: l, n, h => by
    rw [wN]
    rcases List.mem_cons.1 h with rfl | h
    · omega
    · have := wN_mem h; omega
theorem rdn_mem {l : List Node} {j : Int} (h : j.toNat < l.length) : rdn l j ∈ l := by
  unfold rdn; rw [List.getD_eq_getElem?_getD, List.getElem?_eq_getElem h]; exact List.getElem_mem _
theorem rdt_mem {L : List Tok} {j : Int} (h : j.toNat < L.length) : rdt L j ∈ L := by
  unfold rdt; rw [List.getD_eq_getElem?_getD, List.getElem?_eq_getElem h]; exact List.getElem_mem _
/-- What is told of a node holds of those that a parser makes. -/
structure PH (L : List Tok) (P : Node → Prop) : Prop where
  leaf : ∀ t ∈ L, t.kind ≠ 10 → P (leafN t)
  grp : ∀ t ∈ L, t.kind = 10 → ∀ look l, look.length ≤ 1 → l ≠ [] → allN P look → allN P l → (¬ (1 ≤ t.n ∧ t.n ≤ 8) → condBad t l = false) → P (groupN t look l)
  rep : ∀ t ∈ L, t.kind = 9 → ∀ n, n.all P → repeatableP n.f = true → P (repN t n)
  seq : ∀ l, l.length ≠ 1 → allN P l → P (.mk { fZ with kind := 12 } l)
  alt : ∀ l, l.length ≠ 1 → l ≠ [] → allN P l → P (.mk { fZ with kind := 13 } l)
theorem one_all {P : Node → Prop} {k : Int} {l : List Node} (h : l.length ≠ 1 → P (.mk { fZ with kind := k } l)) (ha : allN P l) : (oneN k l).all P ∧ (oneN k l).w ≤ 1 + wN l := by
  unfold oneN
  split
  · rename_i h1
    have hm : rdn l 0 ∈ l := rdn_mem (by simp [h1])
    exact ⟨allN_mem ha hm, by have := wN_mem hm; omega⟩
  · rename_i h1
    rw [Node.all, Node.w]
    exact ⟨⟨h h1, ha⟩, by omega⟩
theorem failP_e {p : Par} {e a : Int} (he : e ≠ 0) : (failP p e a).e ≠ 0 := by
  unfold failP
  split
  · exact he
  · assumption
theorem grp_all {P : Node → Prop} {t : Tok} {look l : List Node} (h1 : allN P look) (h2 : allN P l) (h3 : P (groupN t look l)) (h4 : l.length ≠ 1 → P (.mk { fZ with kind := 13 } l)) :
    (groupN t look l).all P ∧ (groupN t look l).w ≤ 2 + wN look + wN l := by
  have ho := one_all h4 h2
  have key : ∀ f ks, (groupN t look l) = .mk f ks → allN P ks → wN ks ≤ 1 + wN look + wN l → (groupN t look l).all P ∧ (groupN t look l).w ≤ 2 + wN look + wN l := by
    intro f ks e ha hw
    rw [e] at h3 ⊢
    rw [Node.all, Node.w]
    exact ⟨⟨h3, ha⟩, by omega⟩
  have k1 : allN P [oneN 13 l] := by rw [allN, allN]; exact ⟨ho.1, trivial⟩
  have k2 : wN [oneN 13 l] ≤ 1 + wN look + wN l := by rw [wN, wN]; omega
  by_cases q1 : t.n = 1
  · exact key _ _ (by rw [groupN, if_pos q1]) k1 k2
  by_cases q2 : t.n = 2
  · exact key _ _ (by rw [groupN, if_neg q1, if_pos q2]) k1 k2
  by_cases q3 : t.n = 4
  · exact key _ _ (by rw [groupN, if_neg q1, if_neg q2, if_pos q3]) k1 k2
  by_cases q4 : t.n = 5 ∨ t.n = 6 ∨ t.n = 7 ∨ t.n = 8
  · exact key _ _ (by rw [groupN, if_neg q1, if_neg q2, if_neg q3, if_pos q4]) k1 k2
  by_cases q5 : t.n = 3
  · exact key _ _ (by rw [groupN, if_neg q1, if_neg q2, if_neg q3, if_neg q4, if_pos q5]) h2 (by omega)
  · exact key _ _ (by rw [groupN, if_neg q1, if_neg q2, if_neg q3, if_neg q4, if_neg q5]) (allN_app h1 h2) (by rw [wN_app]; omega)
theorem quant_all {L : List Tok} {P : Node → Prop} (H : PH L P) {r : Node × Par} (ha : r.1.all P) (h0 : 0 ≤ r.2.i) : (quantN L r).1.all P ∧ ((quantN L r).1.w : Int) ≤ r.1.w + ((quantN L r).2.i - r.2.i) := by
  unfold quantN
  split
  · rename_i hk
    have hp := kindP_pos (L := L) (p := r.2) (by omega)
    split
    · rename_i hr
      have h3 := H.rep _ (rdt_mem (L := L) (j := r.2.i) (by omega)) (by omega) r.1 ha hr
      unfold repN at h3 ⊢
      simp only [Node.all, Node.w, allN, wN]
      exact ⟨⟨h3, ha, trivial⟩, by omega⟩
    · exact ⟨ha, by omega⟩
  · exact ⟨ha, by omega⟩
theorem par_all {L : List Tok} {P : Node → Prop} (H : PH L P) : ∀ k : Nat,
    (∀ p, ParOk L p → p.i < L.length → p.e = 0 → (thingF L k p).2.e = 0 → (thingF L k p).1.all P ∧ ((thingF L k p).1.w : Int) ≤ 3 * ((thingF L k p).2.i - p.i)) ∧
    (∀ t look p, t ∈ L → t.kind = 10 → look.length ≤ 1 → allN P look → ParOk L p → 1 ≤ p.op → (groupF L k t look p).2.e = 0 → (groupF L k t look p).1.all P ∧ ((groupF L k t look p).1.w : Int) ≤ wN look + 3 * ((groupF L k t look p).2.i - p.i)) ∧
    (∀ p, ParOk L p → (altF L k p).2.e = 0 → (altF L k p).1 ≠ [] ∧ allN P (altF L k p).1 ∧ (wN (altF L k p).1 : Int) ≤ 1 + 3 * ((altF L k p).2.i - p.i)) ∧
    (∀ p out, ParOk L p → allN P out → out ≠ [] → (altGo L k p out).2.e = 0 → (altGo L k p out).1 ≠ [] ∧ allN P (altGo L k p out).1 ∧ (wN (altGo L k p out).1 : Int) ≤ wN out + 3 * ((altGo L k p out).2.i - p.i)) ∧
    (∀ p l, ParOk L p → allN P l → (seqGo L k p l).2.e = 0 → (seqGo L k p l).1.all P ∧ ((seqGo L k p l).1.w : Int) ≤ 1 + wN l + 3 * ((seqGo L k p l).2.i - p.i)) := by
  intro k
  induction k with
  | zero =>
    refine ⟨fun p _ _ _ h => ?_, fun t look p _ _ _ _ _ _ h => ?_, fun p _ h => ?_, fun p out _ _ _ h => ?_, fun p l _ _ h => ?_⟩
    · rw [thingF] at h; simp at h
    · rw [groupF] at h; simp at h
    · rw [altF] at h; simp at h
    · rw [altGo] at h; simp at h
    · rw [seqGo] at h; simp at h
  | succ k ih =>
    obtain ⟨iT, iG, iA, iAG, iS⟩ := ih
    obtain ⟨oT, oG, oA, oAG, oS⟩ := par_ok L k
    refine ⟨?_, ?_, ?_, ?_, ?_⟩
    · intro p h hi he
      have hi0 := h.i0
      have hm := rdt_mem (L := L) (j := p.i) (by omega)
      rw [thingF]
      split
      · rename_i hk
        intro _
        refine ⟨?_, ?_⟩
        · have h1 := H.leaf _ hm hk
          unfold leafN at h1 ⊢
          rw [Node.all]
          exact ⟨h1, by rw [allN]; trivial⟩
        · unfold leafN
          rw [Node.w, wN]
          simp only
          omega
      split
      · intro e; exact absurd e (failP_e (by decide))
      rename_i hk hop
      have hk : (rdt L p.i).kind = 10 := by omega
      have hp1 : ParOk L { p with op := p.op + 1, i := p.i + 1 } := ⟨by have := h.i0; simp only; omega, by simp only; omega, by have := h.o0; simp only; omega, by have := h.o1; simp only; omega⟩
      split
      · rename_i hl
        have hk2 := kindP_pos (L := L) (p := { p with op := p.op + 1, i := p.i + 1 }) (by rw [hl.2]; decide)
        have h1 := oT _ hp1 hk2.1 hk2.2.1
        have h2 := iT _ hp1 hk2.1 hk2.2.1
        generalize thingF L k { p with op := p.op + 1, i := p.i + 1 } = r at h1 h2 ⊢
        obtain ⟨n, q⟩ := r
        have hg := h1.1.og
        have hle := h1.1.le
        have h0 := h.o0
        simp only at hg hle h1 h2 ⊢
        intro e
        have h3 := oG (rdt L p.i) [n] q h1.1.ok (by omega)
        have h4 := h2 (h3.2.2.2 e).2
        have h5 := iG (rdt L p.i) [n] q hm hk (by simp) (by rw [allN, allN]; exact ⟨h4.1, trivial⟩) h1.1.ok (by omega) e
        refine ⟨h5.1, ?_⟩
        have h6 := h5.2
        rw [wN, wN] at h6
        omega
      · intro e
        have h5 := iG (rdt L p.i) [] _ hm hk (by simp) (by rw [allN]; trivial) hp1 (by have := h.o0; simp only; omega) e
        refine ⟨h5.1, ?_⟩
        have h6 := h5.2
        rw [wN] at h6
        simp only at h6
        omega
    · intro t look p ht hk hlk hla h ho
      rw [groupF]
      have h1 := oA p h
      have h2 := iA p h
      generalize altF L k p = r at h1 h2 ⊢
      obtain ⟨l, q⟩ := r
      have hg := h1.og
      have hle := h1.le
      simp only at h2 hg hle ⊢
      split
      · intro e; exact absurd e (failP_e (by decide))
      · rename_i hk8
        have hk3 := kindP_pos (L := L) (p := q) (by omega)
        have h3 := h2 hk3.2.1
        simp only
        intro e
        have hcb : ¬ (1 ≤ t.n ∧ t.n ≤ 8) → condBad t l = false := by
          intro hn
          unfold groupP at e
          rw [if_neg hn] at e
          split at e
          · exact absurd e (failP_e (by decide))
          · rename_i hb
            simpa using hb
        have hgp := H.grp t ht hk look l hlk h3.1 hla h3.2.1 hcb
        have h4 := grp_all (look := look) hla h3.2.1 hgp (fun hl => H.alt l hl h3.1 h3.2.1)
        have hi : (groupP t l { q with i := q.i + 1, op := q.op - 1 }).i = q.i + 1 := by
          unfold groupP failP
          repeat' split
          all_goals rfl
        rw [hi]
        exact ⟨h4.1, by have := h4.2; have := h3.2.2; omega⟩
    · intro p h
      rw [altF]
      have h1 := oS p [] h
      have h2 := iS p [] h (by rw [allN]; trivial)
      generalize seqGo L k p [] = r at h1 h2 ⊢
      obtain ⟨n, q⟩ := r
      simp only at h1 h2 ⊢
      intro e
      have h3 := oAG q [n] h1.ok
      have h4 := h2 (h3.same e).2
      rw [wN] at h4
      have h5 := iAG q [n] h1.ok (by rw [allN, allN]; exact ⟨h4.1, trivial⟩) (by simp) e
      rw [wN, wN] at h5
      exact ⟨h5.1, h5.2.1, by have := h5.2.2; have := h4.2; omega⟩
    · intro p out h ha hne
      rw [altGo]
      split
      · rename_i hk
        have hk := kindP_pos (L := L) (p := p) (by omega)
        have hp1 : ParTo L p { p with i := p.i + 1 } := ⟨⟨by have := h.i0; simp only; omega, by simp only; omega, h.o0, h.o1⟩, by simp only; omega, by simp, fun e => ⟨rfl, e⟩⟩
        have h1 := oS _ [] hp1.ok
        have h2 := iS _ [] hp1.ok (by rw [allN]; trivial)
        generalize seqGo L k { p with i := p.i + 1 } [] = r at h1 h2 ⊢
        obtain ⟨n, q⟩ := r
        simp only at h1 h2 ⊢
        intro e
        have h3 := oAG q (out ++ [n]) h1.ok
        have h4 := h2 (h3.same e).2
        rw [wN] at h4
        have h5 := iAG q (out ++ [n]) h1.ok (allN_app ha (by rw [allN, allN]; exact ⟨h4.1, trivial⟩)) (by simp) e
        rw [wN_app, wN, wN] at h5
        exact ⟨h5.1, h5.2.1, by have := h5.2.2; have := h4.2; omega⟩
      · intro e
        exact ⟨hne, ha, by simp only; omega⟩
    · intro p l h ha
      rw [seqGo]
      split
      · intro e
        have h1 := one_all (k := 12) (fun hl => H.seq l hl ha) ha
        exact ⟨h1.1, by have := h1.2; simp only; omega⟩
      split
      · intro e; exact absurd e (failP_e (by decide))
      · rename_i hk _
        have hk := kindP_pos (L := L) (p := p) (fun e => hk (.inl e))
        have h1 := oT p h hk.1 hk.2.1
        have h2 := iT p h hk.1 hk.2.1
        have hqi := quant_i (L := L) (r := thingF L k p)
        have hqt := quant_to (p := p) (r := thingF L k p) h1.1
        generalize thingF L k p = r at h1 h2 hqi hqt ⊢
        intro e
        have h3 := oS _ (l ++ [(quantN L r).1]) hqt.ok
        have h4 := (h3.same e).2
        rw [hqi.2] at h4
        have h5 := h2 h4
        have h6 := quant_all H h5.1 h1.1.ok.i0
        have h7 := iS _ (l ++ [(quantN L r).1]) hqt.ok (allN_app ha (by rw [allN, allN]; exact ⟨h6.1, trivial⟩)) e
        rw [wN_app, wN, wN] at h7
        refine ⟨h7.1, ?_⟩
        have h8 := h7.2
        have h9 := h6.2
        have h10 := h5.2
        have h11 := hqi.1
        omega
end Go.Proofs.Ytnoohgiecnmajaa.VC

/- Flags by definition: sizes; the whole; the tree of a pattern without flags. -/
namespace Go.Proofs.Ytnoohgiecnmajaa.VC
open Go Go.RowKit
set_option linter.unusedVariables false
set_option linter.unusedSimpArgs false
set_option maxHeartbeats 4000000

theorem seqN_w (l : List Node) : (seqN l).w ≤ 1 + wN l := by
  unfold seqN
  split
  · rename_i h
    have := wN_mem (rdn_mem (l := l) (j := 0) (by simp [h]))
    omega
  · rw [Node.w]; omega
theorem listN_w (n : Node) : wN (listN n) ≤ n.w := by
  cases n with
  | mk f ks =>
    unfold listN
    split
    · rw [Node.w]; simp only [Node.kids]; omega
    · rw [wN, wN]; omega
theorem flat_wN : ∀ l : List Node, wN (l.flatMap listN) ≤ wN l
  | [] => by simp [wN]
  | k :: l => by have := listN_w k; have := flat_wN l; rw [List.flatMap_cons, wN_app, wN]; omega
theorem lineN_w (c : Ctx) (a : Int) : (lineN c a).w = 6 := by
  unfold lineN seqN setN
  simp [Node.w, wN]
mutual
theorem nodeR_w (c : Ctx) : ∀ (n : Node) (g : Int), (nodeR c n g).1.w ≤ 6 * n.w
  | .mk f ks, g => by
    have h := rowR_w c ks
    rw [nodeR, Node.w]
    unfold nodeS
    have hk : wN ks ≤ 6 * wN ks := by omega
    by_cases q : f.kind = 1
    · rw [if_pos q]; unfold setN; simp only [Node.w, wN]; omega
    rw [if_neg q]; clear q
    by_cases q : f.kind = 2
    · rw [if_pos q]; unfold setN; simp only [Node.w, wN]; omega
    rw [if_neg q]; clear q
    by_cases q : f.kind = 3
    · rw [if_pos q]; unfold setN; split <;> simp only [Node.w, wN] <;> omega
    rw [if_neg q]; clear q
    by_cases q : f.kind = 4
    · rw [if_pos q]; simp only [Node.w]; omega
    rw [if_neg q]; clear q
    by_cases q : f.kind = 6
    · rw [if_pos q]; simp only [lineN_w]; omega
    rw [if_neg q]; clear q
    by_cases q : f.kind = 7
    · rw [if_pos q]; simp only [Node.w]; omega
    rw [if_neg q]; clear q
    by_cases q : f.kind = 11
    · rw [if_pos q]; simp only [Node.w, wN]; omega
    rw [if_neg q]; clear q
    by_cases q : f.kind = 12
    · rw [if_pos q]
      have h1 := seqN_w ((rowR c ks g).1.flatMap listN)
      have h2 := flat_wN (rowR c ks g).1
      have h3 := h g
      simp only
      omega
    rw [if_neg q]; clear q
    by_cases q : f.kind = 13
    · rw [if_pos q]; have h3 := h g; simp only [Node.w]; omega
    rw [if_neg q]; clear q
    by_cases q : f.kind = 15
    · rw [if_pos q]
      have h3 := h (turnP g f.on f.off)
      simp only
      by_cases q : (0 : Int).toNat < (rowR c ks (turnP g f.on f.off)).1.length
      · have := wN_mem (rdn_mem q); omega
      · have : rdn (rowR c ks (turnP g f.on f.off)).1 0 = nodeZ := by
          unfold rdn; rw [List.getD_eq_getElem?_getD, List.getElem?_eq_none (by omega)]; rfl
        rw [this]; unfold nodeZ; simp only [Node.w, wN]; omega
    rw [if_neg q]; clear q
    have h3 := h g
    simp only [Node.w]; omega
theorem rowR_w (c : Ctx) : ∀ (l : List Node) (g : Int), wN (rowR c l g).1 ≤ 6 * wN l
  | [], g => by rw [rowR]; simp [wN]
  | k :: l, g => by
    have h1 := nodeR_w c k g
    have h2 := rowR_w c l (nodeR c k g).2
    rw [rowR]
    simp only [wN]
    omega
end
/-- What resolving asks of a node. -/
def Fit (n : Node) : Prop := n.f.set.length ≤ 100000000 ∧ (n.f.kind = 15 → n.kids ≠ [])
theorem nodeR_c (c : Ctx) : ∀ (k : Nat) (n : Node), n.w ≤ k → n.w ≤ 1000000 → n.all Fit → NodeC c n := by
  intro k
  induction k with
  | zero => intro n h; have := w_pos n; omega
  | succ k ih =>
    intro n hk hw ha
    cases n with
    | mk f ks =>
      rw [Node.all] at ha
      rw [Node.w] at hk hw
      intro g
      have hl := wN_len ks
      rw [nodeR]
      refine nodeS_c c f ks ha.1.1 (by omega) ha.1.2 (fun n hn => ih n (by have := wN_mem hn; omega) (by have := wN_mem hn; omega) (allN_mem ha.2 hn)) (fun _ g => ?_) g
      have h1 := wN_len ((rowR c ks g).1.flatMap listN)
      have h2 := flat_wN (rowR c ks g).1
      have h3 := rowR_w c ks g
      omega
def ctxOf (o : Int) : Ctx := ⟨bAnd o 32 != 0, if bAnd o 32 ≠ 0 then 1114111 else 255⟩
def resolveP (n : Node) (o : Int) : Node := (nodeR (ctxOf o) n (bAnd o 23)).1
attribute [local irreducible] nodeR rowR bAnd
theorem resolve_c (n : Node) (o : Int) (hw : n.w ≤ 1000000) (ha : n.all Fit) : VCalls Try.prog 44 [n.enc, iv o] (fun r => r = (resolveP n o).enc) := by
  have hc := nodeR_c (ctxOf o) n.w n (Nat.le_refl _) hw ha (bAnd o 23)
  unfold resolveP
  obtain ⟨f0, k0, h0⟩ := n.ex
  generalize hr : nodeR (ctxOf o) n (bAnd o 23) = r at *
  obtain ⟨⟨f2, k2⟩, g2⟩ := r
  unfold Ty2 ctxOf at hc
  rw [h0] at hc ⊢
  simp only at hc ⊢
  refine VCalls.ofr tabOk Try.func44 (by decide) rfl rfl ?_
  refine RWP.of tabOk orders ?_
  by_cases q : bAnd o 32 ≠ 0
  · rw [if_pos q] at hc
    repeat' ((conv => whnf); (first
    | (with_reducible first | refine Spl.yes ?_ | refine Spl.no ?_ | refine Spl.dec (fun h => ?_) (fun h => ?_) | refine Spl.eq (fun h => ?_) (fun h => ?_) | refine Spl.ne (fun h => ?_) (fun h => ?_) | refine Spl.seq (fun h => ?_) (fun h => ?_) | refine Spl.not ?_ | refine Spl.any (fun h => ?_) (fun h => ?_))
    | (refine VCalls.mono (hc) ?_; rintro _ rfl)
    | refine And.intro (Nat.le_of_ble_eq_true rfl) ?_
    | ((with_reducible apply And.intro); first | omega | rfl | (dsimp only; omega))))
    all_goals (conv => whnf)
    all_goals first | (exfalso; omega) | rfl
  · rw [if_neg q] at hc
    repeat' ((conv => whnf); (first
    | (with_reducible first | refine Spl.yes ?_ | refine Spl.no ?_ | refine Spl.dec (fun h => ?_) (fun h => ?_) | refine Spl.eq (fun h => ?_) (fun h => ?_) | refine Spl.ne (fun h => ?_) (fun h => ?_) | refine Spl.seq (fun h => ?_) (fun h => ?_) | refine Spl.not ?_ | refine Spl.any (fun h => ?_) (fun h => ?_))
    | (refine VCalls.mono (hc) ?_; rintro _ rfl)
    | refine And.intro (Nat.le_of_ble_eq_true rfl) ?_
    | ((with_reducible apply And.intro); first | omega | rfl | (dsimp only; omega))))
    all_goals (conv => whnf)
    all_goals first | (exfalso; omega) | rfl
theorem parse_all {L : List Tok} {P : Node → Prop} (H : PH L P) (end_ : Int) (h : (parseP L end_).e = 0) : (parseP L end_).n.all P ∧ (parseP L end_).n.w ≤ 2 + 3 * L.length := by
  have hok0 : ParOk L par0 := ⟨by decide, by show (0 : Int) ≤ _; omega, by decide, by decide⟩
  have h1 := alt_ok (parFuel L) hok0
  have h2 := (par_all H (parFuel L)).2.2.1 par0 hok0
  unfold parseP at h ⊢
  generalize altF L (parFuel L) par0 = r at h h1 h2 ⊢
  obtain ⟨l, q⟩ := r
  simp only at h h1 h2 ⊢
  by_cases e0 : (parDone L q).e = 0
  · rw [if_neg (by omega), if_neg (by simpa using e0)]
    have hq : q.e = 0 := by
      unfold parDone at e0
      split at e0
      · rename_i hc
        exact hc.1
      · exact e0
    have h3 := h2 hq
    have h4 := one_all (k := 13) (fun hl => H.alt l hl h3.1 h3.2.1) h3.2.1
    have h5 := h1.ok.i1
    refine ⟨h4.1, ?_⟩
    have h6 := h4.2
    have h7 := h3.2.2
    have : par0.i = 0 := rfl
    simp only
    omega
  · exfalso
    by_cases e1 : (parDone L q).e = 20
    · rw [if_pos e1] at h; exact e0 h
    · rw [if_neg e1, if_pos e0] at h; exact e0 h
theorem leafK_le (k : Int) : 1 ≤ leafK k ∧ leafK k ≤ 11 := by
  unfold leafK
  repeat' (first | (refine ⟨?_, ?_⟩ <;> decide) | split)
  all_goals omega
theorem fit_ph {m n : Int} {L : List Tok} (hL : ∀ t ∈ L, TokIn m n t) : PH L Fit := by
  refine ⟨fun t ht hk => ⟨?_, fun h => ?_⟩, fun t ht hk look l h1 h2 h3 h4 h5 => ?_, fun t ht hk n hn hr => ⟨Nat.zero_le _, fun h => absurd h (by show ¬ (20 : Int) = 15; decide)⟩, fun l h1 h2 => ⟨Nat.zero_le _, fun h => absurd h (by show ¬ (12 : Int) = 15; decide)⟩, fun l h1 h2 h3 => ⟨Nat.zero_le _, fun h => absurd h (by show ¬ (13 : Int) = 15; decide)⟩⟩
  · show t.set.length ≤ 100000000
    rcases (hL t ht).may.set with h | h | ⟨l, h, hl⟩
    · rw [h]; simp
    · rw [h]; simp
    · rw [h]; have := newP_len l m; omega
  · exfalso
    have := leafK_le t.kind
    have : leafK t.kind = 15 := h
    omega
  · unfold groupN
    by_cases q1 : t.n = 1
    · rw [if_pos q1]; exact ⟨Nat.zero_le _, fun _ => by simp [Node.kids]⟩
    by_cases q2 : t.n = 2
    · rw [if_neg q1, if_pos q2]; exact ⟨Nat.zero_le _, fun _ => by simp [Node.kids]⟩
    by_cases q3 : t.n = 4
    · rw [if_neg q1, if_neg q2, if_pos q3]; exact ⟨Nat.zero_le _, fun _ => by simp [Node.kids]⟩
    by_cases q4 : t.n = 5 ∨ t.n = 6 ∨ t.n = 7 ∨ t.n = 8
    · rw [if_neg q1, if_neg q2, if_neg q3, if_pos q4]; exact ⟨Nat.zero_le _, fun _ => by simp [Node.kids]⟩
    by_cases q5 : t.n = 3
    · rw [if_neg q1, if_neg q2, if_neg q3, if_neg q4, if_pos q5]; exact ⟨Nat.zero_le _, fun h => absurd h (by show ¬ (16 : Int) = 15; decide)⟩
    · rw [if_neg q1, if_neg q2, if_neg q3, if_neg q4, if_neg q5]; exact ⟨Nat.zero_le _, fun h => absurd h (by show ¬ (19 : Int) = 15; decide)⟩
def flatP (l : List Int) (o : Int) : Node × Bool :=
  if (lexP l o).e ≠ 0 then (nodeZ, false)
  else if (parseP (lexP l o).toks l.length).e ≠ 0 then (nodeZ, false)
  else (resolveP (parseP (lexP l o).toks l.length).n o, true)
theorem flatP_w (l : List Int) (o : Int) : (flatP l o).1.w ≤ 20000 := by
  have h1 := lexP_ok l o
  unfold flatP
  split
  · decide
  split
  · decide
  · rename_i e1 e2
    have h2 := parse_all (fit_ph (h1.2.1 (by simpa using e1)).2.2) l.length (by simpa using e2)
    have h3 := nodeR_w (ctxOf o) (parseP (lexP l o).toks l.length).n (bAnd o 23)
    have h4 := h1.1
    have h5 := h2.2
    unfold resolveP
    simp only
    omega
@[reducible] def flatE (r : Node × Bool) : SV := .tuple [r.1.enc, bv r.2]
attribute [local irreducible] lexP parseP resolveP
theorem flat_c (l : List Int) (o : Int) (hb : Bytes l) : VCalls Try.prog 20 [ys l, iv o] (fun r => r = flatE (flatP l o)) := by
  have h1 := lexP_ok l o
  have hlex := lex_c l o hb
  have hbl : (byteRows l).length = l.length := by simp [byteRows]
  have hpar := parse_c (lexP l o).toks l.length (by omega)
  have hall : (lexP l o).e = 0 → (parseP (lexP l o).toks l.length).e = 0 → VCalls Try.prog 44 [(parseP (lexP l o).toks l.length).n.enc, iv o] (fun r => r = (resolveP (parseP (lexP l o).toks l.length).n o).enc) := by
    intro e1 e2
    have h2 := parse_all (fit_ph (h1.2.1 e1).2.2) l.length e2
    have h4 := h1.1
    exact resolve_c _ o (by omega) h2.1
  obtain ⟨G, hG⟩ : ∃ G, flatP l o = G := ⟨_, rfl⟩
  rw [hG]
  unfold flatP at hG
  generalize lexP l o = x at *
  obtain ⟨toks, e, at_⟩ := x
  simp only at *
  generalize parseP toks l.length = y at *
  obtain ⟨⟨f1, k1⟩, e2, at2⟩ := y
  simp only at *
  generalize resolveP (Node.mk f1 k1) o = z at *
  obtain ⟨f2, k2⟩ := z
  refine VCalls.ofr tabOk Try.func20 (by decide) rfl rfl ?_
  refine RWP.of tabOk orders ?_
  repeat' ((conv => whnf); (first
    | (with_reducible first | refine Spl.yes ?_ | refine Spl.no ?_ | refine Spl.dec (fun h => ?_) (fun h => ?_) | refine Spl.eq (fun h => ?_) (fun h => ?_) | refine Spl.ne (fun h => ?_) (fun h => ?_) | refine Spl.seq (fun h => ?_) (fun h => ?_) | refine Spl.not ?_ | refine Spl.any (fun h => ?_) (fun h => ?_))
    | (refine VCalls.mono (hlex) ?_; rintro _ rfl)
    | (refine VCalls.mono (hpar) ?_; rintro _ rfl)
    | (refine VCalls.mono (hall (by assumption) (by assumption)) ?_; rintro _ rfl)
    | (rw [hbl])
    | (dsimp only)
    | refine And.intro (Nat.le_of_ble_eq_true rfl) ?_
    | ((with_reducible apply And.intro); first | omega | rfl | (dsimp only; omega))))
  all_goals (conv => whnf)
  all_goals (try dsimp only at *)
  all_goals (subst hG)
  all_goals first | (exfalso; omega) | (apply fn_by (f := flatE); (focus ((repeat (first | (apply ite_yes; (focus first | assumption | omega)) | (apply ite_no; (focus first | assumption | exact b_nt (by assumption) | exact b_nf (by assumption) | omega)) | (apply ite_yes; (focus (first | (simp [*]; done) | (simp [*, bs]; done)))) | (apply ite_no; (focus (first | (simp [*]; done) | (simp [*, bs]; done)))))); exact rfl)); rfl)
end Go.Proofs.Ytnoohgiecnmajaa.VC

/- Groups by definition: numbers one by one; the groups in order. -/
namespace Go.Proofs.Ytnoohgiecnmajaa.VC
open Go Go.RowKit
set_option linter.unusedVariables false
set_option linter.unusedSimpArgs false
set_option maxHeartbeats 4000000

def nbF (f : NodeF) (last : Int) : NodeF := if f.kind = 14 then { f with n := last + 1 } else f
def nbT (f : NodeF) (last : Int) : Int := if f.kind = 14 then last + 1 else last
def mxP (a b : Int) : Int := if a > b then a else b
mutual
def nbN : Node → Int → Node × Int
  | .mk f ks, last => (.mk (nbF f last) (nbL ks (decide (f.kind = 16)) (nbT f last) (nbT f last)).1, (nbL ks (decide (f.kind = 16)) (nbT f last) (nbT f last)).2)
def nbL : List Node → Bool → Int → Int → List Node × Int
  | [], _, _, most => ([], most)
  | k :: l, rs, last, most =>
    ((nbN k (if rs = true then last else most)).1 :: (nbL l rs last (mxP (nbN k (if rs = true then last else most)).2 most)).1,
     (nbL l rs last (mxP (nbN k (if rs = true then last else most)).2 most)).2)
end
theorem nbL_nil (rs : Bool) (a b : Int) : nbL [] rs a b = ([], b) := by rw [nbL]
theorem nbL_snoc (k : Node) : ∀ (l : List Node) (rs : Bool) (last most : Int), nbL (l ++ [k]) rs last most =
    ((nbL l rs last most).1 ++ [(nbN k (if rs = true then last else (nbL l rs last most).2)).1], mxP (nbN k (if rs = true then last else (nbL l rs last most).2)).2 (nbL l rs last most).2)
  | [], rs, a, b => by rw [List.nil_append, nbL, nbL, nbL]; rfl
  | x :: l, rs, a, b => by
    rw [List.cons_append, nbL, nbL, nbL_snoc k l]
    rfl
theorem nbL_len : ∀ (l : List Node) (rs : Bool) (a b : Int), (nbL l rs a b).1.length = l.length
  | [], rs, a, b => by rw [nbL]
  | k :: l, rs, a, b => by rw [nbL]; simp [nbL_len l]
mutual
theorem nbN_le : ∀ (n : Node) (a : Int), a ≤ (nbN n a).2 ∧ (nbN n a).2 ≤ a + n.w ∧ (nbN n a).1.w = n.w
  | .mk f ks, a => by
    have h := nbL_le ks (decide (f.kind = 16)) (nbT f a) (nbT f a) (by omega)
    have ht : a ≤ nbT f a ∧ nbT f a ≤ a + 1 := by unfold nbT; split <;> omega
    rw [nbN, Node.w, Node.w]
    simp only
    omega
theorem nbL_le : ∀ (l : List Node) (rs : Bool) (a b : Int), a ≤ b → b ≤ (nbL l rs a b).2 ∧ (nbL l rs a b).2 ≤ b + wN l ∧ wN (nbL l rs a b).1 = wN l
  | [], rs, a, b, h => by rw [nbL, wN]; simp [wN]
  | k :: l, rs, a, b, h => by
    have h1 := nbN_le k (if rs = true then a else b)
    have hs : a ≤ (if rs = true then a else b) ∧ (if rs = true then a else b) ≤ b := by split <;> omega
    rw [nbL, wN, wN]
    generalize nbN k (if rs = true then a else b) = r at *
    have hm : b ≤ mxP r.2 b ∧ mxP r.2 b ≤ b + k.w := by unfold mxP; split <;> omega
    have h2 := nbL_le l rs a (mxP r.2 b) (by omega)
    simp only
    omega
end
attribute [local irreducible] nbN nbL
def NumC (n : Node) : Prop := ∀ a : Int, 0 ≤ a → a + n.w ≤ 2000000000 → VCalls Try.prog 46 [n.enc, iv a] (fun r => r = Ty2 (nbN n a))
set_option maxHeartbeats 8000000
theorem num_step (f : NodeF) (ks : List Node) (hw : wN ks ≤ 1000000) (ih : ∀ n ∈ ks, NumC n) (a : Int) (h0 : 0 ≤ a) (h1 : a + 1 + wN ks ≤ 2000000000) : VCalls Try.prog 46 [(Node.mk f ks).enc, iv a] (fun r => r = Ty2 (nbN (.mk f ks) a)) := by
  have hn := rowsN_len ks
  have hl := wN_len ks
  obtain ⟨G, hG⟩ : ∃ G, nbN (.mk f ks) a = G := ⟨_, rfl⟩
  rw [hG]
  rw [nbN] at hG
  refine VCalls.ofr tabOk Try.func46 (by decide) rfl rfl ?_
  refine RWP.seqx tabOk orders ?_
  conv => whnf
  refine RWP.cut (fun st => st = ⟨54, [(1, .pv (iv (nbT f a))), (2, .ptr 2 0), (4, .ptr 4 0)], [(2, (27, nfe (nbF f a) ks)), (4, (27, nzero))], [], []⟩) tabOk orders ?_ ?_
  · repeat' ((conv => whnf); (first
    | (with_reducible first | refine Spl.yes ?_ | refine Spl.no ?_ | refine Spl.dec (fun h => ?_) (fun h => ?_) | refine Spl.eq (fun h => ?_) (fun h => ?_) | refine Spl.ne (fun h => ?_) (fun h => ?_) | refine Spl.seq (fun h => ?_) (fun h => ?_) | refine Spl.not ?_ | refine Spl.any (fun h => ?_) (fun h => ?_))
    | refine And.intro (Nat.le_of_ble_eq_true rfl) ?_
    | ((with_reducible apply And.intro); first | omega | rfl | (dsimp only; omega))))
    all_goals (conv => whnf)
    all_goals (unfold nbT nbF)
    · rw [if_pos (by assumption), if_pos (by assumption)]
      exact ⟨_, Wk.narrow _ [1, 2, 4] [2, 4] [], rfl⟩
    · rw [if_neg (by assumption), if_neg (by assumption)]
      exact ⟨_, Wk.narrow _ [1, 2, 4] [2, 4] [], rfl⟩
  rintro _ rfl
  have ht : a ≤ nbT f a ∧ nbT f a ≤ a + 1 := by unfold nbT; split <;> omega
  have hkind : (nbF f a).kind = f.kind := by unfold nbF; split <;> rfl
  generalize nbT f a = b at *
  generalize nbF f a = f2 at *
  refine RWP.seqx tabOk orders ?_
  conv => whnf
  refine RWP.seqx tabOk orders ?_
  conv => whnf
  refine RWP.seq ?_
  refine RWP.seqx tabOk orders ?_
  conv => whnf
  refine RWP.block ?_
  refine RWP.loop (fun k st => ∃ (j : Int) (v : Bool), st = ⟨54, [(1, .pv (iv b)), (2, .ptr 2 0), (4, .ptr 4 0), (6, .pv (iv (nbL (ks.take j.toNat) (decide (f.kind = 16)) b b).2)), (7, .own 45), (8, .pv (iv j))], [(2, (27, nfe f2 ks)), (4, (27, nzero))], [(45, ⟨12, 27, v, rowsN (nbL (ks.take j.toNat) (decide (f.kind = 16)) b b).1⟩)], []⟩ ∧ 0 ≤ j ∧ j ≤ ks.length ∧ k = (ks.length - j).toNat)
    ⟨_, _, Wk.trans (Wk.ownNil (t := 7) (k := 45) (sz := 12) (e := 27) rfl) (Wk.narrow _ [1, 2, 4, 6, 7, 8] [2, 4] [45]), 0, true, Eq.trans rfl (congrArg (fun (X : List Node × Int) => (⟨54, [(1, .pv (iv b)), (2, .ptr 2 0), (4, .ptr 4 0), (6, .pv (iv X.2)), (7, .own 45), (8, .pv (iv 0))], [(2, (27, nfe f2 ks)), (4, (27, nzero))], [(45, ⟨12, 27, true, rowsN X.1⟩)], []⟩ : St)) (nbL_nil (decide (f.kind = 16)) b b).symm), by omega, by omega, rfl⟩ ?_
  rintro k st ⟨j, v, rfl, hj0, hj1, hk⟩
  have hlj := nbL_len (ks.take j.toNat) (decide (f.kind = 16)) b b
  have hle := nbL_le (ks.take j.toNat) (decide (f.kind = 16)) b b (by omega)
  have hll := rowsN_len (nbL (ks.take j.toNat) (decide (f.kind = 16)) b b).1
  have hwt : wN (ks.take j.toNat) ≤ wN ks := by
    have := wN_app (ks.take j.toNat) (ks.drop j.toNat)
    rw [List.take_append_drop] at this
    omega
  rw [List.length_take] at hlj
  refine RWP.seqx tabOk orders ?_
  repeat' ((conv => whnf); (first
    | (with_reducible first | refine Spl.yes ?_ | refine Spl.no ?_ | refine Spl.dec (fun h => ?_) (fun h => ?_) | refine Spl.eq (fun h => ?_) (fun h => ?_) | refine Spl.ne (fun h => ?_) (fun h => ?_) | refine Spl.seq (fun h => ?_) (fun h => ?_) | refine Spl.not ?_ | refine Spl.any (fun h => ?_) (fun h => ?_))
    | ((with_reducible apply And.intro); first | omega | rfl | (dsimp only; omega))))
  all_goals (conv => whnf)
  rotate_left
  · have e : j = ks.length := by omega
    subst e
    rw [Int.toNat_natCast, List.take_length]
    refine RWP.of tabOk orders ?_
    repeat' ((conv => whnf); (first
    | (with_reducible first | refine Spl.yes ?_ | refine Spl.no ?_ | refine Spl.dec (fun h => ?_) (fun h => ?_) | refine Spl.eq (fun h => ?_) (fun h => ?_) | refine Spl.ne (fun h => ?_) (fun h => ?_) | refine Spl.seq (fun h => ?_) (fun h => ?_) | refine Spl.not ?_ | refine Spl.any (fun h => ?_) (fun h => ?_))
    | refine And.intro (Nat.le_of_ble_eq_true rfl) ?_
    | ((with_reducible apply And.intro); first | omega | rfl | (dsimp only; omega))))
    all_goals (conv => whnf)
    subst hG
    rfl
  have hsn := nbL_snoc (rdn ks j) (ks.take j.toNat) (decide (f.kind = 16)) b b
  rw [← take_stepN hj0 (by omega)] at hsn
  have hm := rdn_mem (l := ks) (j := j) (by omega)
  have hwk : wN (ks.take j.toNat) + (rdn ks j).w ≤ wN ks := by
    have h1 := wN_app (ks.take (j + 1).toNat) (ks.drop (j + 1).toNat)
    have h2 := wN_app (ks.take j.toNat) [rdn ks j]
    rw [List.take_append_drop] at h1
    rw [← take_stepN hj0 (by omega), wN, wN] at h2
    omega
  have hc := ih (rdn ks j) hm (if decide (f.kind = 16) = true then b else (nbL (ks.take j.toNat) (decide (f.kind = 16)) b b).2) (by split <;> omega) (by split <;> omega)
  generalize nbL (ks.take j.toNat) (decide (f.kind = 16)) b b = r at *
  obtain ⟨o, h⟩ := r
  unfold Ty2 at hc
  obtain ⟨f3, k3, h3⟩ := (rdn ks j).ex
  rw [h3] at hc hsn
  simp only at hsn hc hll hlj hle
  have hsn2 : (nbL (ks.take (j + 1).toNat) (decide (f.kind = 16)) b b) = (o ++ [(nbN (.mk f3 k3) (if decide (f.kind = 16) = true then b else h)).1], if (nbN (.mk f3 k3) (if decide (f.kind = 16) = true then b else h)).2 > h then (nbN (.mk f3 k3) (if decide (f.kind = 16) = true then b else h)).2 else h) := hsn
  clear hsn
  have fin : ∀ (f2' : NodeF) (k2 : List Node) (m : Int), nbN (.mk f3 k3) (if decide (f.kind = 16) = true then b else h) = (.mk f2' k2, m) → (rowsN o ++ [(Node.mk f2' k2).cells], if m > h then m else h) = (rowsN (nbL (ks.take (j + 1).toNat) (decide (f.kind = 16)) b b).1, (nbL (ks.take (j + 1).toNat) (decide (f.kind = 16)) b b).2) := by
    intro f2' k2 m e
    rw [hsn2, e, rowsN_snoc]
  by_cases q : f.kind = 16
  · have e : (if decide (f.kind = 16) = true then b else h) = b := by simp [q]
    rw [e] at hc fin
    generalize nbN (.mk f3 k3) b = r2 at *
    obtain ⟨⟨f4, k4⟩, m⟩ := r2
    have fin := fin f4 k4 m rfl
    simp only at hc
    refine RWP.of tabOk orders ?_
    repeat' ((conv => whnf); (first
    | (with_reducible first | refine Spl.yes ?_ | refine Spl.no ?_ | refine Spl.dec (fun h => ?_) (fun h => ?_) | refine Spl.eq (fun h => ?_) (fun h => ?_) | refine Spl.ne (fun h => ?_) (fun h => ?_) | refine Spl.seq (fun h => ?_) (fun h => ?_) | refine Spl.not ?_ | refine Spl.any (fun h => ?_) (fun h => ?_))
    | (rw [rowsN_get (by omega)])
    | (rw [h3])
    | (refine VCalls.mono (hc) ?_; rintro _ rfl)
    | refine And.intro (Nat.le_of_ble_eq_true rfl) ?_
    | refine And.intro (by show ((rowsN o).length + 1) * 136 ≤ 140737488355328; omega) ?_
    | ((with_reducible apply And.intro); first | omega | rfl | (dsimp only; omega))))
    all_goals (conv => whnf)
    all_goals first
      | (exfalso; omega)
      | (rw [if_pos (by assumption)] at fin; exact ⟨(ks.length - (j + 1)).toNat, _, by omega, Wk.narrow _ [1, 2, 4, 6, 7, 8] [2, 4] [45], j + 1, v, Eq.trans rfl (congrArg (fun (X : List (List SV) × Int) => (⟨54, [(1, .pv (iv b)), (2, .ptr 2 0), (4, .ptr 4 0), (6, .pv (iv X.2)), (7, .own 45), (8, .pv (iv (j + 1)))], [(2, (27, nfe f2 ks)), (4, (27, nzero))], [(45, ⟨12, 27, v, X.1⟩)], []⟩ : St)) fin), by omega, by omega, rfl⟩)
      | (rw [if_neg (by assumption)] at fin; exact ⟨(ks.length - (j + 1)).toNat, _, by omega, Wk.narrow _ [1, 2, 4, 6, 7, 8] [2, 4] [45], j + 1, v, Eq.trans rfl (congrArg (fun (X : List (List SV) × Int) => (⟨54, [(1, .pv (iv b)), (2, .ptr 2 0), (4, .ptr 4 0), (6, .pv (iv X.2)), (7, .own 45), (8, .pv (iv (j + 1)))], [(2, (27, nfe f2 ks)), (4, (27, nzero))], [(45, ⟨12, 27, v, X.1⟩)], []⟩ : St)) fin), by omega, by omega, rfl⟩)
  · have e : (if decide (f.kind = 16) = true then b else h) = h := by simp [q]
    rw [e] at hc fin
    generalize nbN (.mk f3 k3) h = r2 at *
    obtain ⟨⟨f4, k4⟩, m⟩ := r2
    have fin := fin f4 k4 m rfl
    simp only at hc
    refine RWP.of tabOk orders ?_
    repeat' ((conv => whnf); (first
    | (with_reducible first | refine Spl.yes ?_ | refine Spl.no ?_ | refine Spl.dec (fun h => ?_) (fun h => ?_) | refine Spl.eq (fun h => ?_) (fun h => ?_) | refine Spl.ne (fun h => ?_) (fun h => ?_) | refine Spl.seq (fun h => ?_) (fun h => ?_) | refine Spl.not ?_ | refine Spl.any (fun h => ?_) (fun h => ?_))
    | (rw [rowsN_get (by omega)])
    | (rw [h3])
    | (refine VCalls.mono (hc) ?_; rintro _ rfl)
    | refine And.intro (Nat.le_of_ble_eq_true rfl) ?_
    | refine And.intro (by show ((rowsN o).length + 1) * 136 ≤ 140737488355328; omega) ?_
    | ((with_reducible apply And.intro); first | omega | rfl | (dsimp only; omega))))
    all_goals (conv => whnf)
    all_goals first
      | (exfalso; omega)
      | (rw [if_pos (by assumption)] at fin; exact ⟨(ks.length - (j + 1)).toNat, _, by omega, Wk.narrow _ [1, 2, 4, 6, 7, 8] [2, 4] [45], j + 1, v, Eq.trans rfl (congrArg (fun (X : List (List SV) × Int) => (⟨54, [(1, .pv (iv b)), (2, .ptr 2 0), (4, .ptr 4 0), (6, .pv (iv X.2)), (7, .own 45), (8, .pv (iv (j + 1)))], [(2, (27, nfe f2 ks)), (4, (27, nzero))], [(45, ⟨12, 27, v, X.1⟩)], []⟩ : St)) fin), by omega, by omega, rfl⟩)
      | (rw [if_neg (by assumption)] at fin; exact ⟨(ks.length - (j + 1)).toNat, _, by omega, Wk.narrow _ [1, 2, 4, 6, 7, 8] [2, 4] [45], j + 1, v, Eq.trans rfl (congrArg (fun (X : List (List SV) × Int) => (⟨54, [(1, .pv (iv b)), (2, .ptr 2 0), (4, .ptr 4 0), (6, .pv (iv X.2)), (7, .own 45), (8, .pv (iv (j + 1)))], [(2, (27, nfe f2 ks)), (4, (27, nzero))], [(45, ⟨12, 27, v, X.1⟩)], []⟩ : St)) fin), by omega, by omega, rfl⟩)
theorem num_c : ∀ (k : Nat) (n : Node), n.w ≤ k → n.w ≤ 1000000 → NumC n := by
  intro k
  induction k with
  | zero => intro n h; have := w_pos n; omega
  | succ k ih =>
    intro n hk hw
    cases n with
    | mk f ks =>
      rw [Node.w] at hk hw
      intro a h0 h1
      exact num_step f ks (by omega) (fun n hn => ih n (by have := wN_mem hn; omega) (by have := wN_mem hn; omega)) a h0 (by rw [Node.w] at h1; omega)
mutual
def capsN : Node → List Node
  | .mk f ks => if f.kind = 14 then .mk f ks :: capsL ks else capsL ks
def capsL : List Node → List Node
  | [] => []
  | k :: l => capsN k ++ capsL l
end
theorem capsL_snoc (k : Node) : ∀ l : List Node, capsL (l ++ [k]) = capsL l ++ capsN k
  | [] => by simp [capsL]
  | x :: l => by rw [List.cons_append, capsL, capsL, capsL_snoc k l, List.append_assoc]
mutual
theorem capsN_len : ∀ n : Node, (capsN n).length ≤ n.w
  | .mk f ks => by
    have := capsL_len ks
    rw [capsN, Node.w]
    split
    · simp; omega
    · omega
theorem capsL_len : ∀ l : List Node, (capsL l).length ≤ wN l
  | [] => by simp [capsL]
  | k :: l => by
    have := capsN_len k
    have := capsL_len l
    rw [capsL, wN, List.length_append]
    omega
end
def CapC (n : Node) : Prop := VCalls Try.prog 47 [n.enc] (fun r => r = nodesE (capsN n))
def capH (f : NodeF) (ks : List Node) : List Node := if f.kind = 14 then [.mk f ks] else []
attribute [local irreducible] capsN capsL
theorem cap_step (f : NodeF) (ks : List Node) (hw : wN ks ≤ 1000000) (ih : ∀ n ∈ ks, CapC n) : VCalls Try.prog 47 [(Node.mk f ks).enc] (fun r => r = nodesE (capsN (.mk f ks))) := by
  have hn := rowsN_len ks
  have hl := wN_len ks
  have hcl := capsL_len ks
  have hG : capsN (.mk f ks) = capH f ks ++ capsL ks := by rw [capsN, capH]; split <;> rfl
  rw [hG]
  refine VCalls.ofr tabOk Try.func47 (by decide) rfl rfl ?_
  refine RWP.seqx tabOk orders ?_
  conv => whnf
  refine RWP.seqx tabOk orders ?_
  conv => whnf
  refine RWP.cut (fun st => ∃ v, st = ⟨28, [(1, .ptr 1 0), (3, .own 26)], [(1, (27, nfe f ks))], [(26, ⟨12, 27, v, rowsN (capH f ks)⟩)], []⟩) tabOk orders ?_ ?_
  · repeat' ((conv => whnf); (first
    | (with_reducible first | refine Spl.yes ?_ | refine Spl.no ?_ | refine Spl.dec (fun h => ?_) (fun h => ?_) | refine Spl.eq (fun h => ?_) (fun h => ?_) | refine Spl.ne (fun h => ?_) (fun h => ?_) | refine Spl.seq (fun h => ?_) (fun h => ?_) | refine Spl.not ?_ | refine Spl.any (fun h => ?_) (fun h => ?_))
    | refine And.intro (Nat.le_of_ble_eq_true rfl) ?_
    | ((with_reducible apply And.intro); first | omega | rfl | (dsimp only; omega))))
    all_goals (conv => whnf)
    all_goals (unfold capH)
    · rw [if_pos (by assumption)]
      exact ⟨_, Wk.trans (Wk.renOwn 3 26 (k := 11) rfl rfl rfl) (Wk.narrow _ [1, 3] [1] [26]), true, rfl⟩
    · rw [if_neg (by assumption)]
      exact ⟨_, Wk.trans (Wk.ownNil (t := 3) (k := 26) (sz := 12) (e := 27) rfl) (Wk.narrow _ [1, 3] [1] [26]), true, rfl⟩
  rintro _ ⟨v, rfl⟩
  have hh : (capH f ks).length ≤ 1 := by unfold capH; split <;> simp
  generalize capH f ks = H at *
  refine RWP.seq ?_
  refine RWP.seqx tabOk orders ?_
  conv => whnf
  refine RWP.block ?_
  refine RWP.loop (fun k st => ∃ (j : Int) (v : Bool), st = ⟨28, [(1, .ptr 1 0), (3, .own 26), (4, .pv (iv j))], [(1, (27, nfe f ks))], [(26, ⟨12, 27, v, rowsN (H ++ capsL (ks.take j.toNat))⟩)], []⟩ ∧ 0 ≤ j ∧ j ≤ ks.length ∧ k = (ks.length - j).toNat)
    ⟨_, _, Wk.narrow _ [1, 3, 4] [1] [26], 0, v, Eq.trans rfl (congrArg (fun (X : List Node) => (⟨28, [(1, .ptr 1 0), (3, .own 26), (4, .pv (iv 0))], [(1, (27, nfe f ks))], [(26, ⟨12, 27, v, rowsN X⟩)], []⟩ : St)) (by show H = H ++ capsL []; rw [capsL]; simp)), by omega, by omega, rfl⟩ ?_
  rintro k st ⟨j, v, rfl, hj0, hj1, hk⟩
  have hwt : wN (ks.take j.toNat) ≤ wN ks := by
    have := wN_app (ks.take j.toNat) (ks.drop j.toNat)
    rw [List.take_append_drop] at this
    omega
  have hct := capsL_len (ks.take j.toNat)
  refine RWP.seqx tabOk orders ?_
  repeat' ((conv => whnf); (first
    | (with_reducible first | refine Spl.yes ?_ | refine Spl.no ?_ | refine Spl.dec (fun h => ?_) (fun h => ?_) | refine Spl.eq (fun h => ?_) (fun h => ?_) | refine Spl.ne (fun h => ?_) (fun h => ?_) | refine Spl.seq (fun h => ?_) (fun h => ?_) | refine Spl.not ?_ | refine Spl.any (fun h => ?_) (fun h => ?_))
    | ((with_reducible apply And.intro); first | omega | rfl | (dsimp only; omega))))
  all_goals (conv => whnf)
  rotate_left
  · have e : j = ks.length := by omega
    subst e
    rw [Int.toNat_natCast, List.take_length]
    refine RWP.of tabOk orders ?_
    conv => whnf
    rfl
  have hsn := capsL_snoc (rdn ks j) (ks.take j.toNat)
  rw [← take_stepN hj0 (by omega)] at hsn
  have hm := rdn_mem (l := ks) (j := j) (by omega)
  have hc := ih (rdn ks j) hm
  have hcn := capsN_len (rdn ks j)
  have hwm := wN_mem hm
  have hr1 := rowsN_len (H ++ capsL (ks.take j.toNat))
  have hr2 := rowsN_len (capsN (rdn ks j))
  rw [List.length_append] at hr1
  unfold CapC at hc
  generalize capsN (rdn ks j) = C at *
  obtain ⟨f3, k3, h3⟩ := (rdn ks j).ex
  rw [h3] at hc
  refine RWP.of tabOk orders ?_
  repeat' ((conv => whnf); (first
    | (with_reducible first | refine Spl.yes ?_ | refine Spl.no ?_ | refine Spl.dec (fun h => ?_) (fun h => ?_) | refine Spl.eq (fun h => ?_) (fun h => ?_) | refine Spl.ne (fun h => ?_) (fun h => ?_) | refine Spl.seq (fun h => ?_) (fun h => ?_) | refine Spl.not ?_ | refine Spl.any (fun h => ?_) (fun h => ?_))
    | (rw [rowsN_get (by omega)])
    | (rw [h3])
    | (refine VCalls.mono (hc) ?_; rintro _ rfl)
    | refine And.intro (Nat.le_of_ble_eq_true rfl) ?_
    | refine And.intro (by show ((rowsN (H ++ capsL (ks.take j.toNat))).length + (rowsN C).length) * 136 ≤ 140737488355328; omega) ?_
    | ((with_reducible apply And.intro); first | omega | rfl | (dsimp only; omega))))
  all_goals (conv => whnf)
  exact ⟨(ks.length - (j + 1)).toNat, _, by omega, Wk.narrow _ [1, 3, 4] [1] [26], j + 1, v, Eq.trans rfl (congrArg (fun (X : List (List SV)) => (⟨28, [(1, .ptr 1 0), (3, .own 26), (4, .pv (iv (j + 1)))], [(1, (27, nfe f ks))], [(26, ⟨12, 27, v, X⟩)], []⟩ : St)) (show rowsN (H ++ capsL (ks.take j.toNat)) ++ rowsN C = rowsN (H ++ capsL (ks.take (j + 1).toNat)) by rw [hsn, rowsN_app, List.append_assoc])), by omega, by omega, rfl⟩
theorem cap_c : ∀ (k : Nat) (n : Node), n.w ≤ k → n.w ≤ 1000000 → CapC n := by
  intro k
  induction k with
  | zero => intro n h; have := w_pos n; omega
  | succ k ih =>
    intro n hk hw
    cases n with
    | mk f ks =>
      rw [Node.w] at hk hw
      exact cap_step f ks (by omega) (fun n hn => ih n (by have := wN_mem hn; omega) (by have := wN_mem hn; omega))
end Go.Proofs.Ytnoohgiecnmajaa.VC

/- Groups by definition: the names; the whole; rows of names. -/
namespace Go.Proofs.Ytnoohgiecnmajaa.VC
open Go Go.RowKit
set_option linter.unusedVariables false
set_option linter.unusedSimpArgs false
set_option maxHeartbeats 4000000

@[reducible] def rowsM (l : List (ByteArray × Int)) : List (List SV) := l.map fun p => [sv p.1, iv p.2]
@[reducible] def ms (l : List (ByteArray × Int)) : SV := .sl 2 (rowsM l)
def rdm (l : List (ByteArray × Int)) (j : Int) : ByteArray × Int := l.getD j.toNat (bs [], 0)
theorem rowsM_len (l : List (ByteArray × Int)) : (rowsM l).length = l.length := by simp [rowsM]
theorem rowsM_get {l : List (ByteArray × Int)} {j : Int} (h : j.toNat < l.length) : (rowsM l).getD j.toNat [] = [sv (rdm l j).1, iv (rdm l j).2] := by
  simp [rowsM, rdm, List.getD_eq_getElem?_getD, List.getElem?_eq_getElem h]
theorem rowsM_snoc (o : List (ByteArray × Int)) (p : ByteArray × Int) : rowsM o ++ [[sv p.1, iv p.2]] = rowsM (o ++ [p]) := by simp [rowsM]
theorem drop_stepM {l : List (ByteArray × Int)} {j : Int} (h0 : 0 ≤ j) (h : j < l.length) : l.drop j.toNat = rdm l j :: l.drop (j + 1).toNat := by
  have e : (j + 1).toNat = j.toNat + 1 := by omega
  rw [e, List.drop_eq_getElem_cons (by omega)]
  simp [rdm, List.getD_eq_getElem?_getD, List.getElem?_eq_getElem (show j.toNat < l.length by omega)]
theorem drop_stepN {l : List Node} {j : Int} (h0 : 0 ≤ j) (h : j < l.length) : l.drop j.toNat = rdn l j :: l.drop (j + 1).toNat := by
  have e : (j + 1).toNat = j.toNat + 1 := by omega
  rw [e, List.drop_eq_getElem_cons (by omega)]
  simp [rdn, List.getD_eq_getElem?_getD, List.getElem?_eq_getElem (show j.toNat < l.length by omega)]
/-- Is a name there with another number; is it there? -/
def clashP (s : ByteArray) (n : Int) (A : List (ByteArray × Int)) : Bool := A.any fun p => decide (p.1 = s ∧ p.2 ≠ n)
def thereP (s : ByteArray) (A : List (ByteArray × Int)) : Bool := A.any fun p => decide (p.1 = s)
theorem beqS (a b : ByteArray) : (a.toList == b.toList) = decide (a = b) := by
  by_cases h : a = b
  · subst h; simp
  · rw [decide_eq_false h]
    simp only [beq_eq_false_iff_ne, ne_eq]
    exact fun e => h (toList_inj e)
structure NamR where
  l : List (ByteArray × Int)
  e : Int
  at_ : Int
def namL : List Node → List (ByteArray × Int) → NamR
  | [], A => ⟨A, 0, 0⟩
  | c :: l, A =>
    if c.f.n > 60 then ⟨[], 12, c.f.at_⟩
    else if c.f.name = bs [] then namL l A
    else if clashP c.f.name c.f.n A = true then ⟨[], 33, c.f.at_⟩
    else if thereP c.f.name A = true then namL l A
    else namL l (A ++ [(c.f.name, c.f.n)])
theorem namL_cons (f : NodeF) (ks l : List Node) (A : List (ByteArray × Int)) : namL (.mk f ks :: l) A =
    if f.n > 60 then ⟨[], 12, f.at_⟩
    else if f.name = bs [] then namL l A
    else if clashP f.name f.n A = true then ⟨[], 33, f.at_⟩
    else if thereP f.name A = true then namL l A
    else namL l (A ++ [(f.name, f.n)]) := by rw [namL]; rfl
structure NumR where
  n : Node
  most : Int
  names : List (ByteArray × Int)
  e : Int
  at_ : Int
def numR9 (n : Node) : NumR :=
  if (namL (capsN (nbN n 0).1) []).e ≠ 0 then ⟨nodeZ, 0, [], (namL (capsN (nbN n 0).1) []).e, (namL (capsN (nbN n 0).1) []).at_⟩
  else ⟨(nbN n 0).1, (nbN n 0).2, (namL (capsN (nbN n 0).1) []).l, 0, 0⟩
@[reducible] def numE (r : NumR) : SV := .tuple [r.n.enc, iv r.most, ms r.names, iv r.e, iv r.at_]
attribute [local irreducible] nbN capsN clashP thereP
set_option maxHeartbeats 16000000
theorem number9_c (n : Node) (hw : n.w ≤ 1000000) : VCalls Try.prog 22 [n.enc] (fun r => r = numE (numR9 n)) := by
  have hnum := num_c n.w n (Nat.le_refl _) hw 0 (by omega) (by omega)
  have hle := nbN_le n 0
  have hcap := cap_c (nbN n 0).1.w (nbN n 0).1 (Nat.le_refl _) (by omega)
  have hcl := capsN_len (nbN n 0).1
  obtain ⟨G, hG⟩ : ∃ G, numR9 n = G := ⟨_, rfl⟩
  rw [hG]
  unfold numR9 at hG
  unfold Ty2 at hnum
  unfold CapC at hcap
  obtain ⟨f0, k0, h0⟩ := n.ex
  generalize nbN n 0 = r at *
  obtain ⟨⟨f, ks⟩, most⟩ := r
  simp only at hnum hle hcap hcl hG
  generalize capsN (.mk f ks) = C at *
  rw [h0] at hnum ⊢
  have hnC := rowsN_len C
  refine VCalls.ofr tabOk Try.func22 (by decide) rfl rfl ?_
  refine RWP.seqx tabOk orders ?_
  conv => whnf
  refine RWP.seqx tabOk orders ?_
  repeat' ((conv => whnf); (first
    | (with_reducible first | refine Spl.yes ?_ | refine Spl.no ?_ | refine Spl.dec (fun h => ?_) (fun h => ?_) | refine Spl.eq (fun h => ?_) (fun h => ?_) | refine Spl.ne (fun h => ?_) (fun h => ?_) | refine Spl.seq (fun h => ?_) (fun h => ?_) | refine Spl.not ?_ | refine Spl.any (fun h => ?_) (fun h => ?_))
    | (refine VCalls.mono (hnum) ?_; rintro _ rfl)
    | refine And.intro (Nat.le_of_ble_eq_true rfl) ?_
    | ((with_reducible apply And.intro); first | omega | rfl | (dsimp only; omega))))
  all_goals (conv => whnf)
  refine RWP.seqx tabOk orders ?_
  repeat' ((conv => whnf); (first
    | (with_reducible first | refine Spl.yes ?_ | refine Spl.no ?_ | refine Spl.dec (fun h => ?_) (fun h => ?_) | refine Spl.eq (fun h => ?_) (fun h => ?_) | refine Spl.ne (fun h => ?_) (fun h => ?_) | refine Spl.seq (fun h => ?_) (fun h => ?_) | refine Spl.not ?_ | refine Spl.any (fun h => ?_) (fun h => ?_))
    | (refine VCalls.mono (hcap) ?_; rintro _ rfl)
    | refine And.intro (Nat.le_of_ble_eq_true rfl) ?_
    | ((with_reducible apply And.intro); first | omega | rfl | (dsimp only; omega))))
  all_goals (conv => whnf)
  refine RWP.seqx tabOk orders ?_
  conv => whnf
  refine RWP.seq ?_
  refine RWP.seqx tabOk orders ?_
  conv => whnf
  refine RWP.block ?_
  refine RWP.loop (fun k st => ∃ (j : Int) (A : List (ByteArray × Int)) (v : Bool), st = ⟨114, [(2, .ptr 2 0), (7, .ptr 7 0), (8, .pv (iv most)), (9, .pv (nodesE C)), (10, .own 110), (11, .pv (iv j))], [(2, (27, nzero)), (7, (27, nfe f ks))], [(110, ⟨2, 45, v, rowsM A⟩)], []⟩ ∧ 0 ≤ j ∧ j ≤ C.length ∧ k = (C.length - j).toNat ∧ A.length ≤ j ∧ namL C [] = namL (C.drop j.toNat) A)
    ⟨_, _, Wk.trans (Wk.ownNil (t := 10) (k := 110) (sz := 2) (e := 45) rfl) (Wk.narrow _ [2, 7, 8, 9, 10, 11] [2, 7] [110]), 0, [], true, rfl, by omega, by omega, rfl, by simp, rfl⟩ ?_
  rintro k st ⟨j, A, v, rfl, hj0, hj1, hk, hA, hP⟩
  have hlA := rowsM_len A
  rw [hP] at hG
  refine RWP.seqx tabOk orders ?_
  repeat' ((conv => whnf); (first
    | (with_reducible first | refine Spl.yes ?_ | refine Spl.no ?_ | refine Spl.dec (fun h => ?_) (fun h => ?_) | refine Spl.eq (fun h => ?_) (fun h => ?_) | refine Spl.ne (fun h => ?_) (fun h => ?_) | refine Spl.seq (fun h => ?_) (fun h => ?_) | refine Spl.not ?_ | refine Spl.any (fun h => ?_) (fun h => ?_))
    | ((with_reducible apply And.intro); first | omega | rfl | (dsimp only; omega))))
  all_goals (conv => whnf)
  rotate_left
  · have e : C.drop j.toNat = [] := List.drop_eq_nil_of_le (by omega)
    rw [e, namL] at hG
    simp only [ne_eq, not_true_eq_false, if_false] at hG
    subst hG
    refine RWP.of tabOk orders ?_
    repeat' ((conv => whnf); (first
    | (with_reducible first | refine Spl.yes ?_ | refine Spl.no ?_ | refine Spl.dec (fun h => ?_) (fun h => ?_) | refine Spl.eq (fun h => ?_) (fun h => ?_) | refine Spl.ne (fun h => ?_) (fun h => ?_) | refine Spl.seq (fun h => ?_) (fun h => ?_) | refine Spl.not ?_ | refine Spl.any (fun h => ?_) (fun h => ?_))
    | refine And.intro (Nat.le_of_ble_eq_true rfl) ?_
    | ((with_reducible apply And.intro); first | omega | rfl | (dsimp only; omega))))
    all_goals (conv => whnf)
    rfl
  have hdr := drop_stepN (l := C) hj0 (by omega)
  obtain ⟨fc, kc, hc⟩ := (rdn C j).ex
  rw [hdr, hc, namL_cons] at hG hP
  refine RWP.cutr (fun st => ∃ (A' : List (ByteArray × Int)) (v : Bool), st = ⟨114, [(2, .ptr 2 0), (7, .ptr 7 0), (8, .pv (iv most)), (9, .pv (nodesE C)), (10, .own 110), (11, .pv (iv j))], [(2, (27, nzero)), (7, (27, nfe f ks))], [(110, ⟨2, 45, v, rowsM A'⟩)], []⟩ ∧ A'.length ≤ j + 1 ∧ namL C [] = namL (C.drop (j + 1).toNat) A') (RWP.block ?_) ?_
  rotate_left
  · rintro _ ⟨A', v', rfl, hA', hP'⟩
    refine RWP.of tabOk orders ?_
    repeat' ((conv => whnf); (first
    | (with_reducible first | refine Spl.yes ?_ | refine Spl.no ?_ | refine Spl.dec (fun h => ?_) (fun h => ?_) | refine Spl.eq (fun h => ?_) (fun h => ?_) | refine Spl.ne (fun h => ?_) (fun h => ?_) | refine Spl.seq (fun h => ?_) (fun h => ?_) | refine Spl.not ?_ | refine Spl.any (fun h => ?_) (fun h => ?_))
    | ((with_reducible apply And.intro); first | omega | rfl | (dsimp only; omega))))
    all_goals (conv => whnf)
    exact ⟨(C.length - (j + 1)).toNat, _, by omega, Wk.narrow _ [2, 7, 8, 9, 10, 11] [2, 7] [110], j + 1, A', v', rfl, by omega, by omega, rfl, hA', hP'⟩
  refine RWP.seqx tabOk orders ?_
  repeat' ((conv => whnf); (first
    | (with_reducible first | refine Spl.yes ?_ | refine Spl.no ?_ | refine Spl.dec (fun h => ?_) (fun h => ?_) | refine Spl.eq (fun h => ?_) (fun h => ?_) | refine Spl.ne (fun h => ?_) (fun h => ?_) | refine Spl.seq (fun h => ?_) (fun h => ?_) | refine Spl.not ?_ | refine Spl.any (fun h => ?_) (fun h => ?_))
    | (rw [rowsN_get (by omega)])
    | (rw [hc])
    | refine drawn_plan (.one 0 (.one 1 (.one 2 (.one 3 (.one 4 (.two 5 (.ofList [6, 7, 8, 9, 10]) 6 (.ofList [5, 7, 8, 9, 10]))))))) (by decide +kernel) ?_
    | refine Fork.mk ?_ ?_
    | refine And.intro (Nat.le_of_ble_eq_true rfl) ?_
    | ((with_reducible apply And.intro); first | omega | rfl | (dsimp only; omega))))
  all_goals (conv => whnf)
  all_goals (try (
    rw [if_pos (show fc.n > 60 by assumption)] at hG
    rw [if_pos (show (NamR.mk [] 12 fc.at_).e ≠ 0 by show (12 : Int) ≠ 0; decide)] at hG
    subst hG
    rfl))
  rw [if_neg (show ¬ fc.n > 60 by assumption)] at hG hP
  refine RWP.seqx tabOk orders ?_
  repeat' ((conv => whnf); (first
    | (with_reducible first | refine Spl.yes ?_ | refine Spl.no ?_ | refine Spl.dec (fun h => ?_) (fun h => ?_) | refine Spl.eq (fun h => ?_) (fun h => ?_) | refine Spl.ne (fun h => ?_) (fun h => ?_) | refine Spl.seq (fun h => ?_) (fun h => ?_) | refine Spl.not ?_ | refine Spl.any (fun h => ?_) (fun h => ?_))
    | (rw [rowsN_get (by omega)])
    | (rw [hc])
    | ((with_reducible apply And.intro); first | omega | rfl | (dsimp only; omega))))
  all_goals (conv => whnf)
  · rw [if_pos (by assumption)] at hP
    exact ⟨_, Wk.narrow _ [2, 7, 8, 9, 10, 11] [2, 7] [110], A, v, rfl, by omega, hP⟩
  have hname : ¬ fc.name = bs [] := by assumption
  rw [if_neg hname] at hG hP
  refine RWP.seqx tabOk orders ?_
  conv => whnf
  refine RWP.cutr (fun st => clashP fc.name fc.n A = false ∧ st = ⟨114, [(2, .ptr 2 0), (7, .ptr 7 0), (8, .pv (iv most)), (9, .pv (nodesE C)), (10, .own 110), (11, .pv (iv j)), (12, .pv (bv (thereP fc.name A)))], [(2, (27, nzero)), (7, (27, nfe f ks))], [(110, ⟨2, 45, v, rowsM A⟩)], []⟩) ?_ ?_
  · refine RWP.seqx tabOk orders ?_
    conv => whnf
    refine RWP.block ?_
    refine RWP.loop (fun k st => ∃ (i : Int) (b : Bool), st = ⟨114, [(2, .ptr 2 0), (7, .ptr 7 0), (8, .pv (iv most)), (9, .pv (nodesE C)), (10, .own 110), (11, .pv (iv j)), (12, .pv (bv b)), (13, .pv (iv i))], [(2, (27, nzero)), (7, (27, nfe f ks))], [(110, ⟨2, 45, v, rowsM A⟩)], []⟩ ∧ 0 ≤ i ∧ i ≤ A.length ∧ k = (A.length - i).toNat ∧ clashP fc.name fc.n A = clashP fc.name fc.n (A.drop i.toNat) ∧ thereP fc.name A = (b || thereP fc.name (A.drop i.toNat)))
      ⟨_, _, Wk.narrow _ [2, 7, 8, 9, 10, 11, 12, 13] [2, 7] [110], 0, false, rfl, by omega, by omega, rfl, rfl, by simp⟩ ?_
    rintro k st ⟨i, b, rfl, hi0, hi1, hk, hcl2, hth⟩
    refine RWP.seqx tabOk orders ?_
    repeat' ((conv => whnf); (first
    | (with_reducible first | refine Spl.yes ?_ | refine Spl.no ?_ | refine Spl.dec (fun h => ?_) (fun h => ?_) | refine Spl.eq (fun h => ?_) (fun h => ?_) | refine Spl.ne (fun h => ?_) (fun h => ?_) | refine Spl.seq (fun h => ?_) (fun h => ?_) | refine Spl.not ?_ | refine Spl.any (fun h => ?_) (fun h => ?_))
    | ((with_reducible apply And.intro); first | omega | rfl | (dsimp only; omega))))
    all_goals (conv => whnf)
    rotate_left
    · have hi2 : ¬ i < ((rowsM A).length : Int) := by assumption
      have e : A.drop i.toNat = [] := List.drop_eq_nil_of_le (by omega)
      rw [e] at hcl2 hth
      refine ⟨_, Wk.narrow _ [2, 7, 8, 9, 10, 11, 12] [2, 7] [110], by rw [hcl2, clashP]; rfl, Eq.trans rfl (congrArg (fun (X : Bool) => (⟨114, [(2, .ptr 2 0), (7, .ptr 7 0), (8, .pv (iv most)), (9, .pv (nodesE C)), (10, .own 110), (11, .pv (iv j)), (12, .pv (bv X))], [(2, (27, nzero)), (7, (27, nfe f ks))], [(110, ⟨2, 45, v, rowsM A⟩)], []⟩ : St)) (show b = thereP fc.name A by rw [hth, thereP]; simp))⟩
    have hi2 : i < ((rowsM A).length : Int) := by assumption
    have hdm := drop_stepM (l := A) hi0 (by omega)
    rw [hdm] at hcl2 hth
    have k1 : clashP fc.name fc.n (rdm A i :: A.drop (i + 1).toNat) = (decide ((rdm A i).1 = fc.name ∧ (rdm A i).2 ≠ fc.n) || clashP fc.name fc.n (A.drop (i + 1).toNat)) := by rw [clashP, clashP, List.any_cons]
    have k2 : thereP fc.name (rdm A i :: A.drop (i + 1).toNat) = (decide ((rdm A i).1 = fc.name) || thereP fc.name (A.drop (i + 1).toNat)) := by rw [thereP, thereP, List.any_cons]
    rw [k1] at hcl2
    rw [k2] at hth
    refine RWP.of tabOk orders ?_
    repeat' ((conv => whnf); (first
    | (with_reducible first | refine Spl.yes ?_ | refine Spl.no ?_ | refine Spl.dec (fun h => ?_) (fun h => ?_) | refine Spl.eq (fun h => ?_) (fun h => ?_) | refine Spl.ne (fun h => ?_) (fun h => ?_) | refine Spl.seq (fun h => ?_) (fun h => ?_) | refine Spl.not ?_ | refine Spl.any (fun h => ?_) (fun h => ?_))
    | refine drawn_text (by decide +kernel) ?_
    | refine drawn_plan (.one 0 (.one 1 (.one 2 (.one 3 (.one 4 (.two 5 (.ofList [6, 7, 8, 9, 10]) 6 (.ofList [5, 7, 8, 9, 10]))))))) (by decide +kernel) ?_
    | refine Fork.mk ?_ ?_
    | (rw [rowsN_get (by omega)])
    | (rw [rowsM_get (by omega)])
    | (rw [hc])
    | refine And.intro (Nat.le_of_ble_eq_true rfl) ?_
    | ((with_reducible apply And.intro); first | omega | rfl | (dsimp only; omega))))
    all_goals (conv => whnf)
    all_goals first
      | (
        have hcl3 : clashP fc.name fc.n A = true := by rw [hcl2, decide_eq_true ⟨by assumption, by assumption⟩]; rfl
        rw [if_pos hcl3] at hG
        rw [if_pos (show (NamR.mk [] 33 fc.at_).e ≠ 0 by show (33 : Int) ≠ 0; decide)] at hG
        subst hG
        rfl)
      | (have hb : b = true := by assumption
         have hne : (rdm A i).1 ≠ fc.name := by assumption
         subst hb
         exact ⟨(A.length - (i + 1)).toNat, _, by omega, Wk.narrow _ [2, 7, 8, 9, 10, 11, 12, 13] [2, 7] [110], i + 1, _, rfl, by omega, by omega, rfl, by rw [hcl2, decide_eq_false (fun q => hne q.1)]; rfl, by rw [hth]; simp⟩)
      | (have hb : b = true := by assumption
         have heq : (rdm A i).2 = fc.n := by assumption
         subst hb
         exact ⟨(A.length - (i + 1)).toNat, _, by omega, Wk.narrow _ [2, 7, 8, 9, 10, 11, 12, 13] [2, 7] [110], i + 1, _, rfl, by omega, by omega, rfl, by rw [hcl2, decide_eq_false (fun q => q.2 heq)]; rfl, by rw [hth]; simp⟩)
      | (have hb : b = false := by assumption
         have hne : (rdm A i).1 ≠ fc.name := by assumption
         subst hb
         exact ⟨(A.length - (i + 1)).toNat, _, by omega, Wk.narrow _ [2, 7, 8, 9, 10, 11, 12, 13] [2, 7] [110], i + 1, _, rfl, by omega, by omega, rfl, by rw [hcl2, decide_eq_false (fun q => hne q.1)]; rfl, by rw [hth, beqS]; simp⟩)
      | (have hb : b = false := by assumption
         have heq : (rdm A i).2 = fc.n := by assumption
         subst hb
         exact ⟨(A.length - (i + 1)).toNat, _, by omega, Wk.narrow _ [2, 7, 8, 9, 10, 11, 12, 13] [2, 7] [110], i + 1, _, rfl, by omega, by omega, rfl, by rw [hcl2, decide_eq_false (fun q => q.2 heq)]; rfl, by rw [hth, beqS]; simp⟩)
  rintro _ ⟨hncl, rfl⟩
  rw [if_neg (by rw [hncl]; decide)] at hP
  refine RWP.of tabOk orders ?_
  repeat' ((conv => whnf); (first
    | (with_reducible first | refine Spl.yes ?_ | refine Spl.no ?_ | refine Spl.dec (fun h => ?_) (fun h => ?_) | refine Spl.eq (fun h => ?_) (fun h => ?_) | refine Spl.ne (fun h => ?_) (fun h => ?_) | refine Spl.seq (fun h => ?_) (fun h => ?_) | refine Spl.not ?_ | refine Spl.any (fun h => ?_) (fun h => ?_))
    | refine drawn_text (by decide +kernel) ?_
    | (rw [rowsN_get (by omega)])
    | (rw [hc])
    | refine And.intro (Nat.le_of_ble_eq_true rfl) ?_
    | refine And.intro (by show ((rowsM A).length + 1) * 24 ≤ 140737488355328; omega) ?_
    | ((with_reducible apply And.intro); first | omega | rfl | (dsimp only; omega))))
  all_goals (conv => whnf)
  · rw [if_pos (by assumption)] at hP
    exact ⟨_, Wk.narrow _ [2, 7, 8, 9, 10, 11] [2, 7] [110], A, v, rfl, by omega, hP⟩
  · rw [if_neg (by simp [*])] at hP
    exact ⟨_, Wk.narrow _ [2, 7, 8, 9, 10, 11] [2, 7] [110], A ++ [(fc.name, fc.n)], v, Eq.trans rfl (congrArg (fun X => (⟨114, [(2, .ptr 2 0), (7, .ptr 7 0), (8, .pv (iv most)), (9, .pv (nodesE C)), (10, .own 110), (11, .pv (iv j))], [(2, (27, nzero)), (7, (27, nfe f ks))], [(110, ⟨2, 45, v, X⟩)], []⟩ : St)) (rowsM_snoc A (fc.name, fc.n))), by simp; omega, hP⟩
theorem eqM {a b : List (ByteArray × Int)} (h : a.length = b.length) (k : ∀ i, i < a.length → a.getD i (bs [], 0) = b.getD i (bs [], 0)) : a = b := by
  apply List.ext_getElem h
  intro i h1 h2
  have := k i h1
  simpa [List.getD_eq_getElem?_getD, List.getElem?_eq_getElem h1, List.getElem?_eq_getElem h2] using this
theorem same9_c (a b : List (ByteArray × Int)) (ha : a.length ≤ 1000000000) : VCalls Try.prog 25 [ms a, ms b] (fun r => r = bv (decide (a = b))) := by
  have hla := rowsM_len a
  have hlb := rowsM_len b
  refine VCalls.ofr tabOk Try.func25 (by decide) rfl rfl ?_
  refine RWP.seqx tabOk orders ?_
  conv => whnf
  refine RWP.seqx tabOk orders ?_
  repeat' ((conv => whnf); (first
    | (with_reducible first | refine Spl.yes ?_ | refine Spl.no ?_ | refine Spl.dec (fun h => ?_) (fun h => ?_) | refine Spl.eq (fun h => ?_) (fun h => ?_) | refine Spl.ne (fun h => ?_) (fun h => ?_) | refine Spl.seq (fun h => ?_) (fun h => ?_) | refine Spl.not ?_ | refine Spl.any (fun h => ?_) (fun h => ?_))
    | ((with_reducible apply And.intro); first | omega | rfl | (dsimp only; omega))))
  all_goals (conv => whnf)
  · have e : decide (a = b) = false := decide_eq_false (fun e => by subst e; omega)
    rw [e]; rfl
  refine RWP.seq ?_
  refine RWP.seqx tabOk orders ?_
  conv => whnf
  refine RWP.block ?_
  refine RWP.loop (fun k st => ∃ (j : Int), st = ⟨26, [(0, .pv (ms a)), (1, .pv (ms b)), (5, .pv (iv j))], [], [], []⟩ ∧ 0 ≤ j ∧ j ≤ a.length ∧ k = (a.length - j).toNat ∧ ∀ i : Nat, i < j → a.getD i (bs [], 0) = b.getD i (bs [], 0))
    ⟨_, _, Wk.narrow _ [0, 1, 5] [] [], 0, rfl, by omega, by omega, rfl, by intro i h; omega⟩ ?_
  rintro k st ⟨j, rfl, hj0, hj1, hk, hP⟩
  refine RWP.seqx tabOk orders ?_
  repeat' ((conv => whnf); (first
    | (with_reducible first | refine Spl.yes ?_ | refine Spl.no ?_ | refine Spl.dec (fun h => ?_) (fun h => ?_) | refine Spl.eq (fun h => ?_) (fun h => ?_) | refine Spl.ne (fun h => ?_) (fun h => ?_) | refine Spl.seq (fun h => ?_) (fun h => ?_) | refine Spl.not ?_ | refine Spl.any (fun h => ?_) (fun h => ?_))
    | ((with_reducible apply And.intro); first | omega | rfl | (dsimp only; omega))))
  all_goals (conv => whnf)
  rotate_left
  · have e : decide (a = b) = true := decide_eq_true (eqM (by omega) (fun i hi => hP i (by omega)))
    rw [e]
    refine RWP.of tabOk orders ?_
    conv => whnf
    rfl
  refine RWP.of tabOk orders ?_
  repeat' ((conv => whnf); (first
    | (with_reducible first | refine Spl.yes ?_ | refine Spl.no ?_ | refine Spl.dec (fun h => ?_) (fun h => ?_) | refine Spl.eq (fun h => ?_) (fun h => ?_) | refine Spl.ne (fun h => ?_) (fun h => ?_) | refine Spl.seq (fun h => ?_) (fun h => ?_) | refine Spl.not ?_ | refine Spl.any (fun h => ?_) (fun h => ?_))
    | refine drawn_text (by decide +kernel) ?_
    | (rw [rowsM_get (l := a) (by omega)])
    | (rw [rowsM_get (l := b) (by omega)])
    | refine And.intro (Nat.le_of_ble_eq_true rfl) ?_
    | refine ⟨_, eqS45 _ _ _ _, ?_⟩
    | ((with_reducible apply And.intro); first | omega | rfl | (dsimp only; omega))))
  all_goals (conv => whnf)
  · have h : ((rdm a j).fst.toList == (rdm b j).fst.toList && ((rdm a j).snd == (rdm b j).snd && true)) = true := by assumption
    have he : rdm a j = rdm b j := by
      simp only [beqS, Bool.and_eq_true, decide_eq_true_eq, beq_iff_eq, and_true] at h
      exact Prod.ext h.1 h.2
    refine ⟨(a.length - (j + 1)).toNat, _, by omega, Wk.narrow _ [0, 1, 5] [] [], j + 1, rfl, by omega, by omega, rfl, fun i hi => ?_⟩
    by_cases q : (i : Int) < j
    · exact hP i q
    · have : i = j.toNat := by omega
      subst this
      exact he
  · have h : ((rdm a j).fst.toList == (rdm b j).fst.toList && ((rdm a j).snd == (rdm b j).snd && true)) = false := by assumption
    have e : decide (a = b) = false := decide_eq_false (fun e => by subst e; simp at h)
    rw [e]; rfl
end Go.Proofs.Ytnoohgiecnmajaa.VC

/- groups: a name is noted. -/
namespace Go.Proofs.Ytnoohgiecnmajaa.VC
open Go Go.RowKit
set_option linter.unusedVariables false
set_option linter.unusedSimpArgs false
set_option maxHeartbeats 4000000

/-- How far the numbers are. -/
structure Cn where
  last : Int
  names : List (ByteArray × Int)
  e : Int
  at_ : Int
def findS (s : ByteArray) : List (ByteArray × Int) → Option Int
  | [] => none
  | p :: l => if p.1 = s then some p.2 else findS s l
def nameS (c : Cn) (f : NodeF) : Cn :=
  if f.name = bs [] then c
  else if (findS f.name c.names).isSome = true then (if (findS f.name c.names).getD 0 ≠ f.n then { c with e := 33, at_ := f.at_ } else c)
  else { c with names := c.names ++ [(f.name, f.n)] }
def mps (l : List (ByteArray × Int)) : Mp := l.map fun p => (.string p.1, .int .i64 p.2)
def cnFs (c : Cn) : List FE := [.pv (iv c.last), .own 1000001, .map 1000002, .pv (iv c.e), .pv (iv c.at_)]
def HC (c : Cn) : St := ⟨0, [], [(1000000, (69, cnFs c))], [(1000001, ⟨2, 45, true, rowsM c.names⟩)], [(1000002, mps c.names)]⟩
theorem mps_key (l : List (ByteArray × Int)) : ∀ x ∈ mps l, MapKept.IsKey .string x.1 := by
  intro x hx
  obtain ⟨p, _, rfl⟩ := List.mem_map.1 hx
  trivial
theorem findS_none {s : ByteArray} : ∀ {l : List (ByteArray × Int)}, findS s l = none → ∀ x ∈ mps l, x.1 ≠ .string s
  | [], _, x, hx => by simp [mps] at hx
  | p :: l, h, x, hx => by
    unfold findS at h
    split at h
    · cases h
    · rename_i hne
      simp only [mps, List.map_cons, List.mem_cons] at hx
      rcases hx with rfl | hx
      · simp only [ne_eq, Value.string.injEq]; exact hne
      · exact findS_none h x hx
theorem findS_some {s : ByteArray} {v : Int} : ∀ {l : List (ByteArray × Int)}, findS s l = some v → ∃ i, Nth (mps l) (.string s) i (.int .i64 v)
  | [], h => by cases h
  | p :: l, h => by
    unfold findS at h
    split at h
    · rename_i he
      refine ⟨0, ?_, fun j x hj => by omega⟩
      cases h
      simp [mps, he]
    · rename_i hne
      obtain ⟨i, h1, h2⟩ := findS_some h
      refine ⟨i + 1, by simpa [mps] using h1, fun j x hj hx => ?_⟩
      cases j with
      | zero =>
        simp [mps] at hx
        subst hx
        simp only [ne_eq, Value.string.injEq]; exact hne
      | succ j => exact h2 j x (by omega) (by simpa [mps] using hx)
theorem look67 (s : ByteArray) (l : List (ByteArray × Int)) : MLook Try.prog 67 (mps l) (.string s) (.int .i64 ((findS s l).getD 0)) (findS s l).isSome := by
  refine ⟨_, _, mapTy67, trivial, mps_key l, ?_⟩
  cases h : findS s l with
  | none => exact .inl ⟨rfl, rfl, findS_none h⟩
  | some v => exact .inr ⟨rfl, findS_some h⟩
theorem upd67 (s : ByteArray) (v : Int) (l : List (ByteArray × Int)) (h : findS s l = none) : MUpd Try.prog 67 (mps l) (.string s) (.int .i64 v) (mps (l ++ [(s, v)])) := by
  refine ⟨_, _, mapTy67, trivial, mps_key l, .inl ⟨findS_none h, by simp [mps]⟩⟩
attribute [local irreducible] findS mps
set_option maxHeartbeats 16000000
theorem name_h (c : Cn) (n : Node) (hl : c.names.length ≤ 2000000000) : HCalls Try.prog 68 (HC c) [.ptr 1000000 0, .pv n.enc] (fun fe H' => fe = .pv (.tuple []) ∧ H' = HC (nameS c n.f)) := by
  obtain ⟨f, ks⟩ := n
  have hln := rowsM_len c.names
  obtain ⟨last, names, e, at_⟩ := c
  simp only at hl hln
  refine HCalls.ofr tabOk Try.func68 (by decide) rfl rfl ?_
  refine RWP.seqx tabOk orders ?_
  conv => whnf
  refine RWP.seqx tabOk orders ?_
  repeat' ((conv => whnf); (first
    | (with_reducible first | refine Spl.yes ?_ | refine Spl.no ?_ | refine Spl.dec (fun h => ?_) (fun h => ?_) | refine Spl.eq (fun h => ?_) (fun h => ?_) | refine Spl.ne (fun h => ?_) (fun h => ?_) | refine Spl.seq (fun h => ?_) (fun h => ?_) | refine Spl.not ?_ | refine Spl.any (fun h => ?_) (fun h => ?_))
    | ((with_reducible apply And.intro); first | omega | rfl | (dsimp only; omega))))
  all_goals (conv => whnf)
  · refine ⟨_, Wk.narrow _ [0] [1000000] [1000001], .inl ?_⟩
    conv => whnf
    refine ⟨rfl, ?_⟩
    rw [nameS, if_pos (show (Node.mk f ks).f.name = bs [] by assumption)]
    rfl
  have hname : ¬ f.name = bs [] := by assumption
  have hS : nameS ⟨last, names, e, at_⟩ (Node.mk f ks).f = if (findS f.name names).isSome = true then (if (findS f.name names).getD 0 ≠ f.n then ⟨last, names, 33, f.at_⟩ else ⟨last, names, e, at_⟩) else ⟨last, names ++ [(f.name, f.n)], e, at_⟩ := by
    rw [nameS, if_neg (show ¬ (Node.mk f ks).f.name = bs [] by assumption)]; rfl
  rw [hS]
  have hlk := look67 f.name names
  have hup := upd67 f.name f.n names
  cases hfd : findS f.name names with
  | none =>
    rw [hfd] at hlk
    simp only [Option.isSome_none, Option.getD_none] at hlk
    simp only [Option.isSome_none, Bool.false_eq_true, if_false]
    refine RWP.of tabOk orders ?_
    repeat' ((conv => whnf); (first
    | (with_reducible first | refine Spl.yes ?_ | refine Spl.no ?_ | refine Spl.dec (fun h => ?_) (fun h => ?_) | refine Spl.eq (fun h => ?_) (fun h => ?_) | refine Spl.ne (fun h => ?_) (fun h => ?_) | refine Spl.seq (fun h => ?_) (fun h => ?_) | refine Spl.not ?_ | refine Spl.any (fun h => ?_) (fun h => ?_))
    | refine drawn_text (by decide +kernel) ?_
    | refine ⟨_, _, hlk, ?_⟩
    | refine ⟨_, hup hfd, ?_⟩
    | refine And.intro (by show ((rowsM names).length + 1) * 24 ≤ 140737488355328; omega) ?_
    | ((with_reducible apply And.intro); first | omega | rfl | (dsimp only; omega))))
    all_goals (conv => whnf)
    refine ⟨_, Wk.trans (Wk.rn 57 1000001 rfl rfl) (Wk.trans (Wk.narrow _ [0] [1000000] [1000001]) (Wk.maps _ [1000002])), .inl ?_⟩
    conv => whnf
    refine ⟨rfl, Eq.trans rfl (congrArg (fun (X : List (List SV)) => (⟨0, [], [(1000000, (69, cnFs (Cn.mk last (names ++ [(f.name, f.n)]) e at_)))], [(1000001, ⟨2, 45, true, X⟩)], [(1000002, mps (names ++ [(f.name, f.n)]))]⟩ : St)) (rowsM_snoc names (f.name, f.n)))⟩
  | some v =>
    rw [hfd] at hlk
    simp only [Option.isSome_some, Option.getD_some] at hlk
    simp only [Option.isSome_some, if_true, Option.getD_some]
    refine RWP.of tabOk orders ?_
    repeat' ((conv => whnf); (first
    | (with_reducible first | refine Spl.yes ?_ | refine Spl.no ?_ | refine Spl.dec (fun h => ?_) (fun h => ?_) | refine Spl.eq (fun h => ?_) (fun h => ?_) | refine Spl.ne (fun h => ?_) (fun h => ?_) | refine Spl.seq (fun h => ?_) (fun h => ?_) | refine Spl.not ?_ | refine Spl.any (fun h => ?_) (fun h => ?_))
    | refine drawn_text (by decide +kernel) ?_
    | refine drawn_plan (.one 0 (.one 1 (.one 2 (.one 4 (.one 5 (.two 3 (.ofList [6, 7, 8, 9]) 6 (.ofList [3, 7, 8, 9]))))))) (by decide +kernel) ?_
    | refine Fork.mk ?_ ?_
    | refine ⟨_, _, hlk, ?_⟩
    | ((with_reducible apply And.intro); first | omega | rfl | (dsimp only; omega))))
    all_goals (conv => whnf)
    all_goals (refine ⟨_, Wk.narrow _ [0] [1000000] [1000001], .inl ?_⟩)
    all_goals (conv => whnf)
    all_goals (refine ⟨rfl, ?_⟩)
    all_goals first
      | (rw [if_pos (by assumption)]; rfl)
      | (rw [if_neg (by simpa using (show v = f.n by assumption))]; rfl)
end Go.Proofs.Ytnoohgiecnmajaa.VC

/- groups: a node with numbers. -/
namespace Go.Proofs.Ytnoohgiecnmajaa.VC
open Go Go.RowKit
set_option linter.unusedVariables false
set_option linter.unusedSimpArgs false
set_option maxHeartbeats 4000000

def capF (f : NodeF) (c : Cn) : NodeF := if f.kind = 14 then { f with n := c.last + 1 } else f
def capC (f : NodeF) (c : Cn) : Cn := if f.kind = 14 then nameS { c with last := c.last + 1 } { f with n := c.last + 1 } else c
mutual
def nodeG : Node → Cn → Node × Cn
  | .mk f ks, c =>
    if c.e ≠ 0 then (.mk f ks, c)
    else if f.kind = 14 ∧ c.last + 1 > 60 then (.mk { f with n := c.last + 1 } ks, ⟨c.last + 1, c.names, 12, f.at_⟩)
    else (.mk (capF f c) (kidsG ks (decide (f.kind = 16)) (capC f c).last (capC f c).last (capC f c)).1,
      { (kidsG ks (decide (f.kind = 16)) (capC f c).last (capC f c).last (capC f c)).2.2 with last := (kidsG ks (decide (f.kind = 16)) (capC f c).last (capC f c).last (capC f c)).2.1 })
def kidsG : List Node → Bool → Int → Int → Cn → List Node × Int × Cn
  | [], _, _, most, c => ([], most, c)
  | k :: l, rs, first, most, c =>
    ((nodeG k (if rs = true then { c with last := first } else c)).1 ::
      (kidsG l rs first (mxP (nodeG k (if rs = true then { c with last := first } else c)).2.last most) (nodeG k (if rs = true then { c with last := first } else c)).2).1,
     (kidsG l rs first (mxP (nodeG k (if rs = true then { c with last := first } else c)).2.last most) (nodeG k (if rs = true then { c with last := first } else c)).2).2)
end
theorem kidsG_nil (rs : Bool) (a b : Int) (c : Cn) : kidsG [] rs a b c = ([], b, c) := by rw [kidsG]
theorem kidsG_snoc (k : Node) : ∀ (l : List Node) (rs : Bool) (a b : Int) (c : Cn), kidsG (l ++ [k]) rs a b c =
    ((kidsG l rs a b c).1 ++ [(nodeG k (if rs = true then { (kidsG l rs a b c).2.2 with last := a } else (kidsG l rs a b c).2.2)).1],
     mxP (nodeG k (if rs = true then { (kidsG l rs a b c).2.2 with last := a } else (kidsG l rs a b c).2.2)).2.last (kidsG l rs a b c).2.1,
     (nodeG k (if rs = true then { (kidsG l rs a b c).2.2 with last := a } else (kidsG l rs a b c).2.2)).2)
  | [], rs, a, b, c => by rw [List.nil_append, kidsG, kidsG, kidsG]; rfl
  | x :: l, rs, a, b, c => by
    rw [List.cons_append, kidsG, kidsG, kidsG_snoc k l]
    rfl
theorem kidsG_len : ∀ (l : List Node) (rs : Bool) (a b : Int) (c : Cn), (kidsG l rs a b c).1.length = l.length
  | [], rs, a, b, c => by rw [kidsG]
  | k :: l, rs, a, b, c => by rw [kidsG]; simp [kidsG_len l]
theorem nameS_le (c : Cn) (f : NodeF) : (nameS c f).last = c.last ∧ (nameS c f).names.length ≤ c.names.length + 1 := by
  unfold nameS
  repeat' split
  all_goals simp
theorem capC_le (f : NodeF) (c : Cn) : c.last ≤ (capC f c).last ∧ (capC f c).last ≤ c.last + 1 ∧ (capC f c).names.length ≤ c.names.length + 1 := by
  unfold capC
  split
  · have := nameS_le { c with last := c.last + 1 } { f with n := c.last + 1 }
    simp only at this
    omega
  · omega
mutual
theorem nodeG_le : ∀ (n : Node) (c : Cn), 0 ≤ c.last → 0 ≤ (nodeG n c).2.last ∧ (nodeG n c).2.last ≤ c.last + n.w ∧ (nodeG n c).2.names.length ≤ c.names.length + n.w
  | .mk f ks, c, h0 => by
    rw [nodeG, Node.w]
    split
    · simp only; omega
    split
    · simp only; omega
    · have h1 := capC_le f c
      have h2 := kidsG_le ks (decide (f.kind = 16)) (capC f c).last (capC f c).last (capC f c) (by omega) (by omega) (by omega) (by omega)
      simp only
      omega
theorem kidsG_le : ∀ (l : List Node) (rs : Bool) (a b : Int) (c : Cn), 0 ≤ a → a ≤ b → 0 ≤ c.last → c.last ≤ b →
    b ≤ (kidsG l rs a b c).2.1 ∧ (kidsG l rs a b c).2.1 ≤ b + wN l ∧ 0 ≤ (kidsG l rs a b c).2.2.last ∧ (kidsG l rs a b c).2.2.last ≤ (kidsG l rs a b c).2.1 ∧ (kidsG l rs a b c).2.2.names.length ≤ c.names.length + wN l
  | [], rs, a, b, c, h1, h2, h3, h4 => by rw [kidsG, wN]; simp only; omega
  | k :: l, rs, a, b, c, h1, h2, h3, h4 => by
    rw [kidsG, wN]
    have hc : ∃ c1, (if rs = true then { c with last := a } else c) = c1 ∧ 0 ≤ c1.last ∧ c1.last ≤ b ∧ c1.names = c.names := by
      split
      · exact ⟨_, rfl, h1, h2, rfl⟩
      · exact ⟨_, rfl, h3, h4, rfl⟩
    obtain ⟨c1, e, q1, q2, q3⟩ := hc
    rw [e]
    have h5 := nodeG_le k c1 q1
    generalize nodeG k c1 = r at *
    have hm : b ≤ mxP r.2.last b ∧ r.2.last ≤ mxP r.2.last b ∧ mxP r.2.last b ≤ b + k.w := by unfold mxP; split <;> omega
    have h6 := kidsG_le l rs a (mxP r.2.last b) r.2 h1 (by omega) h5.1 hm.2.1
    rw [q3] at h5
    simp only
    omega
end
attribute [local irreducible] nodeG kidsG mps findS
def NgC (n : Node) : Prop := ∀ c : Cn, 0 ≤ c.last → c.last + n.w ≤ 2000000000 → c.names.length + n.w ≤ 1000000000 →
  HCalls Try.prog 45 (HC c) [.ptr 1000000 0, .pv n.enc] (fun fe H' => fe = .pv (nodeG n c).1.enc ∧ H' = HC (nodeG n c).2)
end Go.Proofs.Ytnoohgiecnmajaa.VC

/- groups: the numbers and names are those of the definition (plain). -/
namespace Go.Proofs.Ytnoohgiecnmajaa.VC
open Go Go.RowKit
set_option linter.unusedVariables false
set_option linter.unusedSimpArgs false
set_option maxHeartbeats 4000000

def Uq (A : List (ByteArray × Int)) : Prop := ∀ p ∈ A, findS p.1 A = some p.2
theorem findS_nil (s : ByteArray) : findS s [] = none := by rw [findS]
theorem findS_cons (s : ByteArray) (p : ByteArray × Int) (l : List (ByteArray × Int)) : findS s (p :: l) = if p.1 = s then some p.2 else findS s l := by rw [findS]
theorem findS_snoc (s : ByteArray) (x : ByteArray × Int) : ∀ A : List (ByteArray × Int), findS s (A ++ [x]) = (match findS s A with | some v => some v | none => if x.1 = s then some x.2 else none)
  | [] => by rw [List.nil_append, findS_cons, findS_nil]
  | p :: l => by
    rw [List.cons_append, findS_cons, findS_cons]
    by_cases h : p.1 = s
    · rw [if_pos h, if_pos h]
    · rw [if_neg h, if_neg h, findS_snoc s x l]
theorem there_find (s : ByteArray) : ∀ A : List (ByteArray × Int), thereP s A = (findS s A).isSome
  | [] => by rw [findS_nil]; rfl
  | p :: l => by
    have ih := there_find s l
    unfold thereP at ih ⊢
    rw [findS_cons, List.any_cons, ih]
    by_cases h : p.1 = s
    · rw [if_pos h, decide_eq_true h]; rfl
    · rw [if_neg h, decide_eq_false h]; rfl
theorem findS_mem {s : ByteArray} {v : Int} : ∀ {A : List (ByteArray × Int)}, findS s A = some v → (s, v) ∈ A
  | [], h => by rw [findS_nil] at h; cases h
  | p :: l, h => by
    rw [findS_cons] at h
    by_cases e : p.1 = s
    · rw [if_pos e] at h
      cases h
      subst e
      exact List.mem_cons_self ..
    · rw [if_neg e] at h
      exact List.mem_cons_of_mem _ (findS_mem h)
theorem clash_find {A : List (ByteArray × Int)} (h : Uq A) (s : ByteArray) (n : Int) : clashP s n A = (match findS s A with | some v => decide (v ≠ n) | none => false) := by
  have key : clashP s n A = true ↔ ∃ v, findS s A = some v ∧ v ≠ n := by
    unfold clashP
    rw [List.any_eq_true]
    constructor
    · rintro ⟨p, hp, hd⟩
      have hd := of_decide_eq_true hd
      have := h p hp
      rw [hd.1] at this
      exact ⟨_, this, hd.2⟩
    · rintro ⟨v, hv, hn⟩
      exact ⟨(s, v), findS_mem hv, decide_eq_true ⟨rfl, hn⟩⟩
  cases hf : findS s A with
  | none =>
    simp only
    cases hc : clashP s n A with
    | false => rfl
    | true => obtain ⟨v, hv, _⟩ := key.1 hc; rw [hf] at hv; cases hv
  | some v =>
    simp only
    by_cases hn : v ≠ n
    · rw [decide_eq_true hn]; exact key.2 ⟨v, hf, hn⟩
    · rw [decide_eq_false hn]
      cases hc : clashP s n A with
      | false => rfl
      | true => obtain ⟨u, hu, hun⟩ := key.1 hc; rw [hf] at hu; cases hu; exact absurd hun hn
theorem Uq.snoc {A : List (ByteArray × Int)} (h : Uq A) {s : ByteArray} {n : Int} (hs : findS s A = none) : Uq (A ++ [(s, n)]) := by
  intro p hp
  rw [findS_snoc]
  rcases List.mem_append.1 hp with hp | hp
  · rw [h p hp]
  · have : p = (s, n) := by simpa using hp
    subst this
    rw [hs]
    simp
/-- One group, by its name. -/
def stepN (f : NodeF) (A : List (ByteArray × Int)) : NamR :=
  if f.n > 60 then ⟨[], 12, f.at_⟩ else if f.name = bs [] then ⟨A, 0, 0⟩ else if clashP f.name f.n A = true then ⟨[], 33, f.at_⟩ else if thereP f.name A = true then ⟨A, 0, 0⟩ else ⟨A ++ [(f.name, f.n)], 0, 0⟩
theorem namL_step (f : NodeF) (ks l : List Node) (A : List (ByteArray × Int)) : namL (.mk f ks :: l) A = if (stepN f A).e ≠ 0 then stepN f A else namL l (stepN f A).l := by
  rw [namL_cons]
  unfold stepN
  by_cases q : f.n > 60
  · rw [if_pos q, if_pos q, if_pos (by show (12 : Int) ≠ 0; decide)]
  rw [if_neg q, if_neg q]
  by_cases q : f.name = bs []
  · rw [if_pos q, if_pos q, if_neg (by simp)]
  rw [if_neg q, if_neg q]
  by_cases q : clashP f.name f.n A = true
  · rw [if_pos q, if_pos q, if_pos (by show (33 : Int) ≠ 0; decide)]
  rw [if_neg q, if_neg q]
  by_cases q : thereP f.name A = true
  · rw [if_pos q, if_pos q, if_neg (by simp)]
  · rw [if_neg q, if_neg q, if_neg (by simp)]
theorem namL_nil (A : List (ByteArray × Int)) : namL [] A = ⟨A, 0, 0⟩ := by rw [namL]
theorem namL_app : ∀ (C D : List Node) (A : List (ByteArray × Int)), namL (C ++ D) A = if (namL C A).e ≠ 0 then namL C A else namL D (namL C A).l
  | [], D, A => by rw [List.nil_append, namL_nil, if_neg (by simp)]
  | .mk f ks :: C, D, A => by
    rw [List.cons_append, namL_step, namL_step]
    by_cases q : (stepN f A).e ≠ 0
    · rw [if_pos q, if_pos q, if_pos q]
    · rw [if_neg q, if_neg q, namL_app C D]
theorem stepN_uq {f : NodeF} {A : List (ByteArray × Int)} (h : Uq A) (he : (stepN f A).e = 0) : Uq (stepN f A).l := by
  unfold stepN at he ⊢
  by_cases q : f.n > 60
  · rw [if_pos q] at he; exact absurd he (by show ¬ (12 : Int) = 0; decide)
  rw [if_neg q] at he ⊢
  by_cases q : f.name = bs []
  · rw [if_pos q]; exact h
  rw [if_neg q] at he ⊢
  by_cases q : clashP f.name f.n A = true
  · rw [if_pos q] at he; exact absurd he (by show ¬ (33 : Int) = 0; decide)
  rw [if_neg q] at he ⊢
  by_cases q : thereP f.name A = true
  · rw [if_pos q]; exact h
  · rw [if_neg q]
    rw [there_find] at q
    exact h.snoc (by simpa using q)
theorem namL_uq : ∀ {C : List Node} {A : List (ByteArray × Int)}, Uq A → (namL C A).e = 0 → Uq (namL C A).l
  | [], A, h, he => by rw [namL_nil]; exact h
  | .mk f ks :: C, A, h, he => by
    rw [namL_step] at he ⊢
    by_cases q : (stepN f A).e ≠ 0
    · rw [if_pos q] at he; exact absurd he q
    · rw [if_neg q] at he ⊢
      exact namL_uq (stepN_uq h (by simpa using q)) he
/-- What noting a name tells. -/
theorem nameS_is {c : Cn} {f : NodeF} (h0 : c.e = 0) (hn : ¬ f.n > 60) (hu : Uq c.names) :
    ((stepN f c.names).e = 0 → nameS c f = ⟨c.last, (stepN f c.names).l, 0, c.at_⟩) ∧ ((stepN f c.names).e ≠ 0 → (nameS c f).e = (stepN f c.names).e ∧ (nameS c f).at_ = (stepN f c.names).at_) := by
  obtain ⟨last, names, e, at_⟩ := c
  simp only at h0 hu ⊢
  subst h0
  have hcl := clash_find hu f.name f.n
  have hth := there_find f.name names
  unfold stepN nameS
  simp only
  rw [if_neg hn]
  by_cases q : f.name = bs []
  · rw [if_pos q, if_pos q]
    exact ⟨fun _ => rfl, fun h => absurd rfl h⟩
  rw [if_neg q, if_neg q, hcl, hth]
  cases hf : findS f.name names with
  | none =>
    simp
  | some v =>
    by_cases hv : v ≠ f.n
    · simp [hv]
    · simp [hv]
theorem nodeG_err {n : Node} {c : Cn} (h : c.e ≠ 0) : nodeG n c = (n, c) := by
  cases n with
  | mk f ks => rw [nodeG, if_pos h]
theorem kidsG_err : ∀ {l : List Node} {rs : Bool} {a b : Int} {c : Cn}, c.e ≠ 0 → (kidsG l rs a b c).2.2.e = c.e ∧ (kidsG l rs a b c).2.2.at_ = c.at_
  | [], rs, a, b, c, h => by rw [kidsG]; exact ⟨rfl, rfl⟩
  | k :: l, rs, a, b, c, h => by
    have h1 : (if rs = true then { c with last := a } else c).e = c.e ∧ (if rs = true then { c with last := a } else c).at_ = c.at_ := by split <;> exact ⟨rfl, rfl⟩
    rw [kidsG, nodeG_err (by rw [h1.1]; exact h)]
    have h2 := kidsG_err (l := l) (rs := rs) (a := a) (b := mxP (if rs = true then { c with last := a } else c).last b) (c := (if rs = true then { c with last := a } else c)) (by rw [h1.1]; exact h)
    simp only
    rw [h2.1, h2.2, h1.1, h1.2]
    exact ⟨rfl, rfl⟩
mutual
theorem nodeG_is : ∀ (n : Node) (c : Cn), c.e = 0 → Uq c.names →
    ((namL (capsN (nbN n c.last).1) c.names).e = 0 → nodeG n c = ((nbN n c.last).1, ⟨(nbN n c.last).2, (namL (capsN (nbN n c.last).1) c.names).l, 0, c.at_⟩)) ∧
    ((namL (capsN (nbN n c.last).1) c.names).e ≠ 0 → (nodeG n c).2.e = (namL (capsN (nbN n c.last).1) c.names).e ∧ (nodeG n c).2.at_ = (namL (capsN (nbN n c.last).1) c.names).at_)
  | .mk f ks, c, h0, hu => by
    rw [nbN, nodeG, if_neg (by simp [h0])]
    simp only
    rw [capsN]
    by_cases hk : f.kind = 14
    · have hF : nbF f c.last = { f with n := c.last + 1 } := by rw [nbF, if_pos hk]
      have hT : nbT f c.last = c.last + 1 := by rw [nbT, if_pos hk]
      have hC : capC f c = nameS { c with last := c.last + 1 } { f with n := c.last + 1 } := by rw [capC, if_pos hk]
      have hCF : capF f c = { f with n := c.last + 1 } := by rw [capF, if_pos hk]
      rw [hF, hT, hC, hCF]
      dsimp only
      rw [if_pos hk, namL_step]
      by_cases h60 : c.last + 1 > 60
      · have hs : stepN { f with n := c.last + 1 } c.names = ⟨[], 12, f.at_⟩ := by rw [stepN, if_pos (by exact h60)]
        have hs' : (stepN { f with n := c.last + 1 } c.names).e ≠ 0 := by rw [hs]; show (12 : Int) ≠ 0; decide
        rw [if_pos (show f.kind = 14 ∧ c.last + 1 > 60 from ⟨hk, h60⟩), if_pos hs', hs]
        exact ⟨fun h => absurd h (by show ¬ (12 : Int) = 0; decide), fun _ => ⟨rfl, rfl⟩⟩
      · rw [if_neg (show ¬ (f.kind = 14 ∧ c.last + 1 > 60) from fun q => h60 q.2)]
        have hN := nameS_is (c := { c with last := c.last + 1 }) (f := { f with n := c.last + 1 }) h0 h60 hu
        have hsu := stepN_uq (f := { f with n := c.last + 1 }) hu
        simp only at hN
        generalize stepN { f with n := c.last + 1 } c.names = s at *
        by_cases hs : s.e ≠ 0
        · rw [if_pos hs]
          obtain ⟨h1, h2⟩ := hN.2 hs
          have h3 := kidsG_err (l := ks) (rs := decide (f.kind = 16)) (a := (nameS { c with last := c.last + 1 } { f with n := c.last + 1 }).last) (b := (nameS { c with last := c.last + 1 } { f with n := c.last + 1 }).last) (c := nameS { c with last := c.last + 1 } { f with n := c.last + 1 }) (by rw [h1]; exact hs)
          exact ⟨fun h => absurd h hs, fun _ => ⟨by simp only; rw [h3.1, h1], by simp only; rw [h3.2, h2]⟩⟩
        · have hs : s.e = 0 := Decidable.not_not.1 hs
          rw [if_neg (show ¬ s.e ≠ 0 by simp [hs])]
          rw [hN.1 hs]
          simp only
          have hK := kidsG_is ks (decide (f.kind = 16)) (c.last + 1) (c.last + 1) ⟨c.last + 1, s.l, 0, c.at_⟩ rfl (hsu hs) (Int.le_refl _) (fun _ => rfl)
          simp only at hK
          refine ⟨fun h => ?_, fun h => hK.2 h⟩
          obtain ⟨h1, h2, h3, h4, h5⟩ := hK.1 h
          rw [h1, h2]
          refine Prod.ext rfl ?_
          simp only
          rw [h3, h4, h5]
    · have hF : nbF f c.last = f := by rw [nbF, if_neg hk]
      have hT : nbT f c.last = c.last := by rw [nbT, if_neg hk]
      have hC : capC f c = c := by rw [capC, if_neg hk]
      have hCF : capF f c = f := by rw [capF, if_neg hk]
      rw [hF, hT, hC, hCF, if_neg (show ¬ f.kind = 14 from hk), if_neg (show ¬ (f.kind = 14 ∧ c.last + 1 > 60) from fun q => hk q.1)]
      have hK := kidsG_is ks (decide (f.kind = 16)) c.last c.last c h0 hu (Int.le_refl _) (fun _ => rfl)
      refine ⟨fun h => ?_, fun h => hK.2 h⟩
      obtain ⟨h1, h2, h3, h4, h5⟩ := hK.1 h
      rw [h1, h2]
      refine Prod.ext rfl ?_
      simp only
      rw [h3, h4, h5]
theorem kidsG_is : ∀ (l : List Node) (rs : Bool) (a b : Int) (c : Cn), c.e = 0 → Uq c.names → a ≤ b → (rs = false → c.last = b) →
    ((namL (capsL (nbL l rs a b).1) c.names).e = 0 → (kidsG l rs a b c).1 = (nbL l rs a b).1 ∧ (kidsG l rs a b c).2.1 = (nbL l rs a b).2 ∧ (kidsG l rs a b c).2.2.e = 0 ∧ (kidsG l rs a b c).2.2.names = (namL (capsL (nbL l rs a b).1) c.names).l ∧ (kidsG l rs a b c).2.2.at_ = c.at_) ∧
    ((namL (capsL (nbL l rs a b).1) c.names).e ≠ 0 → (kidsG l rs a b c).2.2.e = (namL (capsL (nbL l rs a b).1) c.names).e ∧ (kidsG l rs a b c).2.2.at_ = (namL (capsL (nbL l rs a b).1) c.names).at_)
  | [], rs, a, b, c, h0, hu, hab, hl => by
    rw [nbL, kidsG]
    simp only
    rw [capsL, namL_nil]
    exact ⟨fun _ => by simp [h0], fun h => absurd rfl h⟩
  | k :: l, rs, a, b, c, h0, hu, hab, hl => by
    rw [nbL, kidsG]
    simp only
    rw [capsL, namL_app]
    have hc : ∃ c1, (if rs = true then { c with last := a } else c) = c1 ∧ c1.last = (if rs = true then a else b) ∧ c1.e = 0 ∧ c1.names = c.names ∧ c1.at_ = c.at_ := by
      cases rs with
      | true => exact ⟨{ c with last := a }, rfl, rfl, h0, rfl, rfl⟩
      | false => exact ⟨c, rfl, hl rfl, h0, rfl, rfl⟩
    obtain ⟨c1, e1, e2, e3, e4, e5⟩ := hc
    rw [e1, ← e2]
    have hN := nodeG_is k c1 e3 (by rw [e4]; exact hu)
    have hle := nbN_le k c1.last
    have hqu : (namL (capsN (nbN k c1.last).1) c1.names).e = 0 → Uq (namL (capsN (nbN k c1.last).1) c1.names).l := namL_uq (by rw [e4]; exact hu)
    rw [← e4]
    generalize hr : nbN k c1.last = r at *
    generalize hq : namL (capsN r.1) c1.names = q at *
    by_cases hqe : q.e ≠ 0
    · rw [if_pos hqe]
      obtain ⟨h1, h2⟩ := hN.2 hqe
      refine ⟨fun h => absurd h hqe, fun _ => ?_⟩
      have h3 := kidsG_err (l := l) (rs := rs) (a := a) (b := mxP (nodeG k c1).2.last b) (c := (nodeG k c1).2) (by rw [h1]; exact hqe)
      rw [h3.1, h3.2, h1, h2]
      exact ⟨rfl, rfl⟩
    · have hqe : q.e = 0 := Decidable.not_not.1 hqe
      rw [if_neg (show ¬ q.e ≠ 0 by simp [hqe])]
      rw [hN.1 hqe]
      simp only
      have hK := kidsG_is l rs a (mxP r.2 b) ⟨r.2, q.l, 0, c1.at_⟩ rfl (hqu hqe) (by unfold mxP; split <;> omega) (fun hrs => by
        have : c1.last = b := by rw [e2, hrs]; rfl
        show r.2 = mxP r.2 b
        unfold mxP
        split <;> omega)
      simp only at hK
      refine ⟨fun h => ?_, fun h => hK.2 h⟩
      obtain ⟨h1, h2, h3, h4, h5⟩ := hK.1 h
      exact ⟨by rw [h1], h2, h3, h4, by rw [h5, e5]⟩
end
/-- What groups.Number answers. -/
def numG (n : Node) : NumR :=
  if (nodeG n ⟨0, [], 0, 0⟩).2.e ≠ 0 then ⟨nodeZ, 0, [], (nodeG n ⟨0, [], 0, 0⟩).2.e, (nodeG n ⟨0, [], 0, 0⟩).2.at_⟩
  else ⟨(nodeG n ⟨0, [], 0, 0⟩).1, (nodeG n ⟨0, [], 0, 0⟩).2.last, (nodeG n ⟨0, [], 0, 0⟩).2.names, 0, 0⟩
theorem numG_is (n : Node) : numG n = numR9 n := by
  have h := nodeG_is n ⟨0, [], 0, 0⟩ rfl (by intro p hp; simp at hp)
  unfold numG numR9
  simp only at h
  by_cases q : (namL (capsN (nbN n 0).1) []).e ≠ 0
  · obtain ⟨h1, h2⟩ := h.2 q
    rw [if_pos q, if_pos (by rw [h1]; exact q), h1, h2]
  · have q : (namL (capsN (nbN n 0).1) []).e = 0 := Decidable.not_not.1 q
    rw [h.1 q, if_neg (show ¬ (0 : Int) ≠ 0 by decide), if_neg (show ¬ (namL (capsN (nbN n 0).1) []).e ≠ 0 from fun h => h q)]
end Go.Proofs.Ytnoohgiecnmajaa.VC

/- parse: one node of many; a level's alternative ends. -/
namespace Go.Proofs.Ytnoohgiecnmajaa.VC
open Go Go.RowKit
set_option linter.unusedVariables false
set_option linter.unusedSimpArgs false
set_option maxHeartbeats 4000000

/-- A group that is open. -/
structure Lev where
  op : Tok
  look : Option Node
  alts : List Node
  items : List Node
  fixed : Bool
def lookFE : Option Node → FE
  | none => .pv (.val nilV)
  | some _ => .own 1000001
def lookOwn : Option Node → List (Nat × Own)
  | none => []
  | some n => [(1000001, ⟨12, 27, true, [n.cells]⟩)]
def levFs (v : Lev) : List FE :=
  [.pv (iv v.op.kind), .pv (iv v.op.at_), .pv (iv v.op.to), .pv (iv v.op.c), .pv (rs v.op.set), .pv (bv v.op.neg), .pv (iv v.op.n), .pv (iv v.op.m), .pv (iv v.op.mode), .pv (sv v.op.name), .pv (iv v.op.on), .pv (iv v.op.off),
   lookFE v.look, .own 1000002, .own 1000003, .pv (bv v.fixed)]
def HLv (v : Lev) : St := ⟨0, [], [(1000000, (96, levFs v))], lookOwn v.look ++ [(1000002, ⟨12, 27, true, rowsN v.alts⟩), (1000003, ⟨12, 27, true, rowsN v.items⟩)], []⟩
set_option maxHeartbeats 16000000
theorem joined_c (kind : Int) (l : List Node) (hl : l.length ≤ 1000000) : VCalls Try.prog 60 [iv kind, nodesE l] (fun r => r = (oneN kind l).enc) := by
  have hn := rowsN_len l
  unfold oneN
  obtain ⟨f0, k0, h0⟩ := (rdn l 0).ex
  refine VCalls.ofr tabOk Try.func60 (by decide) rfl rfl ?_
  refine RWP.of tabOk orders ?_
  repeat' ((conv => whnf); (first
    | (with_reducible first | refine Spl.yes ?_ | refine Spl.no ?_ | refine Spl.dec (fun h => ?_) (fun h => ?_) | refine Spl.eq (fun h => ?_) (fun h => ?_) | refine Spl.ne (fun h => ?_) (fun h => ?_) | refine Spl.seq (fun h => ?_) (fun h => ?_) | refine Spl.not ?_ | refine Spl.any (fun h => ?_) (fun h => ?_))
    | (rw [rowsN_get (by omega)])
    | (rw [h0])
    | refine And.intro (Nat.le_of_ble_eq_true rfl) ?_
    | ((with_reducible apply And.intro); first | omega | rfl | (dsimp only; omega))))
  all_goals (conv => whnf)
  all_goals first
    | (rw [if_pos (show l.length = 1 by omega)]; rfl)
    | (rw [if_neg (show ¬ l.length = 1 by omega)]; rfl)
def nzC : List SV := nodeZ.cells
def endL (v : Lev) : Lev := { v with alts := v.alts ++ [oneN 12 v.items], items := [], fixed := false }
theorem set_last (A : List (List SV)) (z y : List SV) (hz : z.length ≤ 12) : (A ++ [z]).set ((A.length : Int)).toNat ((((A ++ [z]).getD (A.length : Int).toNat []).take 0 ++ y) ++ ((A ++ [z]).getD (A.length : Int).toNat []).drop (0 + 12)) = A ++ [y] := by
  rw [Int.toNat_natCast]
  have h1 : (A ++ [z]).getD A.length [] = z := by simp
  rw [h1, List.drop_eq_nil_of_le (by omega)]
  simp
theorem end_none (v : Lev) (h1 : v.alts.length ≤ 1000000) (h2 : v.items.length ≤ 1000000) (hlk : v.look = none) : HCalls Try.prog 56 (HLv v) [.ptr 1000000 0] (fun fe H' => fe = .pv (.tuple []) ∧ H' = HLv (endL v)) := by
  have hj := joined_c 12 v.items h2
  obtain ⟨op, look, alts, items, fixed⟩ := v
  simp only at h1 h2 hj hlk
  subst hlk
  have hn1 := rowsN_len alts
  have hn2 := rowsN_len items
  unfold endL
  simp only
  generalize oneN 12 items = j at *
  obtain ⟨fj, kj⟩ := j
  have hset : (rowsN alts ++ [nzC]).set ((rowsN alts).length : Int).toNat ((((rowsN alts ++ [nzC]).getD ((rowsN alts).length : Int).toNat []).take 0 ++ (Node.mk fj kj).cells) ++ ((rowsN alts ++ [nzC]).getD ((rowsN alts).length : Int).toNat []).drop (0 + 12)) = rowsN (alts ++ [Node.mk fj kj]) := by
    rw [set_last _ _ _ (by show nzC.length ≤ 12; decide), rowsN_snoc]
  refine HCalls.ofr tabOk Try.func56 (by decide) rfl rfl ?_
  refine RWP.seqx tabOk orders ?_
  repeat' ((conv => whnf); (first
    | (with_reducible first | refine Spl.yes ?_ | refine Spl.no ?_ | refine Spl.dec (fun h => ?_) (fun h => ?_) | refine Spl.eq (fun h => ?_) (fun h => ?_) | refine Spl.ne (fun h => ?_) (fun h => ?_) | refine Spl.seq (fun h => ?_) (fun h => ?_) | refine Spl.not ?_ | refine Spl.any (fun h => ?_) (fun h => ?_))
    | (refine VCalls.mono (hj) ?_; rintro _ rfl)
    | refine drawn_plan (.one 0 (.one 1 (.one 2 (.one 3 (.one 4 (.one 5 (.one 6 (.one 7 (.one 9 (.two 8 (.one 10 (.one 11 (.one 12 (.one 14 (.one 15 (.two 13 (.ofList [16]) 16 (.ofList [13]))))))) 10 (.one 8 (.one 11 (.one 12 (.one 14 (.one 15 (.two 13 (.ofList [16]) 16 (.ofList [13]))))))))))))))))) (by decide +kernel) ?_
    | refine Fork.mk ?_ ?_
    | refine And.intro (Nat.le_of_ble_eq_true rfl) ?_
    | refine And.intro (by show ((rowsN alts).length + 1) * 136 ≤ 140737488355328; omega) ?_
    | refine And.intro (by show 0 ≤ ((rowsN alts).length : Int) ∧ ((rowsN alts).length : Int) < ((rowsN alts ++ [_]).length : Int); rw [List.length_append, List.length_singleton]; omega) ?_
    | refine And.intro (by show ((rowsN alts).length : Int).toNat < (rowsN alts ++ [_]).length; rw [List.length_append, List.length_singleton]; omega) ?_
    | ((with_reducible apply And.intro); first | omega | rfl | (dsimp only; omega))))
  all_goals (conv => whnf)
  all_goals (refine RWP.of tabOk orders ?_)
  all_goals (conv => whnf)
  all_goals (refine ⟨_, Wk.trans (Wk.rn 13 1000002 rfl rfl) (Wk.trans (Wk.boxNil (s := 1000000) (i := 14) (k := 1000003) (sz := 12) (e := 27) (T := 96) (cs := [.pv (iv op.kind), .pv (iv op.at_), .pv (iv op.to), .pv (iv op.c), .pv (rs op.set), .pv (bv op.neg), .pv (iv op.n), .pv (iv op.m), .pv (iv op.mode), .pv (sv op.name), .pv (iv op.on), .pv (iv op.off), .pv (.val nilV), .own 1000002, .pv (.val nilV), .pv (bv false)]) rfl rfl) (Wk.narrow _ [0] [1000000] [1000002, 1000003])), .inl ?_⟩)
  all_goals (conv => whnf)
  all_goals (refine ⟨rfl, Eq.trans rfl (congrArg (fun (X : List (List SV)) => (⟨0, [], [(1000000, (96, [.pv (iv op.kind), .pv (iv op.at_), .pv (iv op.to), .pv (iv op.c), .pv (rs op.set), .pv (bv op.neg), .pv (iv op.n), .pv (iv op.m), .pv (iv op.mode), .pv (sv op.name), .pv (iv op.on), .pv (iv op.off), .pv (.val nilV), .own 1000002, .own 1000003, .pv (bv false)]))], [(1000002, ⟨12, 27, true, X⟩), (1000003, ⟨12, 27, true, []⟩)], []⟩ : St)) hset)⟩)
theorem end_some (v : Lev) (h1 : v.alts.length ≤ 1000000) (h2 : v.items.length ≤ 1000000) (nl : Node) (hlk : v.look = some nl) : HCalls Try.prog 56 (HLv v) [.ptr 1000000 0] (fun fe H' => fe = .pv (.tuple []) ∧ H' = HLv (endL v)) := by
  have hj := joined_c 12 v.items h2
  obtain ⟨op, look, alts, items, fixed⟩ := v
  simp only at h1 h2 hj hlk
  subst hlk
  have hn1 := rowsN_len alts
  have hn2 := rowsN_len items
  unfold endL
  simp only
  generalize oneN 12 items = j at *
  obtain ⟨fj, kj⟩ := j
  have hset : (rowsN alts ++ [nzC]).set ((rowsN alts).length : Int).toNat ((((rowsN alts ++ [nzC]).getD ((rowsN alts).length : Int).toNat []).take 0 ++ (Node.mk fj kj).cells) ++ ((rowsN alts ++ [nzC]).getD ((rowsN alts).length : Int).toNat []).drop (0 + 12)) = rowsN (alts ++ [Node.mk fj kj]) := by
    rw [set_last _ _ _ (by show nzC.length ≤ 12; decide), rowsN_snoc]
  refine HCalls.ofr tabOk Try.func56 (by decide) rfl rfl ?_
  refine RWP.seqx tabOk orders ?_
  repeat' ((conv => whnf); (first
    | (with_reducible first | refine Spl.yes ?_ | refine Spl.no ?_ | refine Spl.dec (fun h => ?_) (fun h => ?_) | refine Spl.eq (fun h => ?_) (fun h => ?_) | refine Spl.ne (fun h => ?_) (fun h => ?_) | refine Spl.seq (fun h => ?_) (fun h => ?_) | refine Spl.not ?_ | refine Spl.any (fun h => ?_) (fun h => ?_))
    | (refine VCalls.mono (hj) ?_; rintro _ rfl)
    | refine drawn_plan (.one 0 (.one 1 (.one 2 (.one 3 (.one 4 (.one 5 (.one 6 (.one 7 (.one 9 (.two 8 (.one 10 (.one 11 (.one 12 (.one 14 (.one 15 (.two 13 (.ofList [16]) 16 (.ofList [13]))))))) 10 (.one 8 (.one 11 (.one 12 (.one 14 (.one 15 (.two 13 (.ofList [16]) 16 (.ofList [13]))))))))))))))))) (by decide +kernel) ?_
    | refine Fork.mk ?_ ?_
    | refine And.intro (Nat.le_of_ble_eq_true rfl) ?_
    | refine And.intro (by show ((rowsN alts).length + 1) * 136 ≤ 140737488355328; omega) ?_
    | refine And.intro (by show 0 ≤ ((rowsN alts).length : Int) ∧ ((rowsN alts).length : Int) < ((rowsN alts ++ [_]).length : Int); rw [List.length_append, List.length_singleton]; omega) ?_
    | refine And.intro (by show ((rowsN alts).length : Int).toNat < (rowsN alts ++ [_]).length; rw [List.length_append, List.length_singleton]; omega) ?_
    | ((with_reducible apply And.intro); first | omega | rfl | (dsimp only; omega))))
  all_goals (conv => whnf)
  all_goals (refine RWP.of tabOk orders ?_)
  all_goals (conv => whnf)
  all_goals (refine ⟨_, Wk.trans (Wk.rn 13 1000002 rfl rfl) (Wk.trans (Wk.boxNil (s := 1000000) (i := 14) (k := 1000003) (sz := 12) (e := 27) (T := 96) (cs := [.pv (iv op.kind), .pv (iv op.at_), .pv (iv op.to), .pv (iv op.c), .pv (rs op.set), .pv (bv op.neg), .pv (iv op.n), .pv (iv op.m), .pv (iv op.mode), .pv (sv op.name), .pv (iv op.on), .pv (iv op.off), .own 1000001, .own 1000002, .pv (.val nilV), .pv (bv false)]) rfl rfl) (Wk.narrow _ [0] [1000000] [1000001, 1000002, 1000003])), .inl ?_⟩)
  all_goals (conv => whnf)
  all_goals (refine ⟨rfl, Eq.trans rfl (congrArg (fun (X : List (List SV)) => (⟨0, [], [(1000000, (96, [.pv (iv op.kind), .pv (iv op.at_), .pv (iv op.to), .pv (iv op.c), .pv (rs op.set), .pv (bv op.neg), .pv (iv op.n), .pv (iv op.m), .pv (iv op.mode), .pv (sv op.name), .pv (iv op.on), .pv (iv op.off), .own 1000001, .own 1000002, .own 1000003, .pv (bv false)]))], [(1000001, ⟨12, 27, true, [nl.cells]⟩), (1000002, ⟨12, 27, true, X⟩), (1000003, ⟨12, 27, true, []⟩)], []⟩ : St)) hset)⟩)
theorem end_h (v : Lev) (h1 : v.alts.length ≤ 1000000) (h2 : v.items.length ≤ 1000000) : HCalls Try.prog 56 (HLv v) [.ptr 1000000 0] (fun fe H' => fe = .pv (.tuple []) ∧ H' = HLv (endL v)) := by
  cases h : v.look with
  | none => exact end_none v h1 h2 h
  | some nl => exact end_some v h1 h2 nl h
end Go.Proofs.Ytnoohgiecnmajaa.VC

