/- A part of the ground of the proof. No condition. -/
import Derived.Test.YtnoohgiecnmajaaGE38

/- The lexer of the document: bytes, numbers, names. -/
namespace Go.Proofs.Ytnoohgiecnmajaa.VC
open Go Go.RowKit
set_option linter.unusedVariables false
set_option linter.unusedSimpArgs false

@[reducible] def iv (n : Int) : SV := .val (.int .i64 n)
@[reducible] def yv (n : Int) : SV := .val (.int .u8 n)
@[reducible] def bv (b : Bool) : SV := .val (.bool b)
@[reducible] def sv (s : ByteArray) : SV := .val (.string s)
structure Text where
  s : ByteArray
  utf : Bool
  x : Bool
  most : Int
def Text.enc (t : Text) : SV := .agg [sv t.s, bv t.utf, bv t.x, iv t.most]
def Text.cells (t : Text) : List FE := [.pv (sv t.s), .pv (bv t.utf), .pv (bv t.x), .pv (iv t.most)]

def isP (s : ByteArray) (i : Int) (t : ByteArray) : Bool := if i + t.size ≤ s.size then (s.extract i.toNat (i + t.size).toNat).toList == t.toList else false
theorem is_c (x : Text) (i : Int) (t : ByteArray) (h0 : 0 ≤ i) (h1 : i ≤ 1000000) (hx : x.s.size ≤ 1000000) (ht : t.size ≤ 1000) : VCalls Try.prog 51 [x.enc, iv i, sv t] (fun r => r = bv (isP x.s i t)) := by
  refine VCalls.ofx tabOk orders Try.func51 (by decide) rfl rfl ?_
  repeat' ((conv => whnf); (first | (with_reducible first | refine Spl.yes ?_ | refine Spl.no ?_ | refine Spl.dec (fun h => ?_) (fun h => ?_)) | ((with_reducible apply And.intro); omega)))
  all_goals (conv => whnf)
  · unfold isP; rw [if_pos h]; rfl
  · unfold isP; rw [if_neg h]; rfl
def digitP (c : Int) : Bool := decide (48 ≤ c) && decide (c ≤ 57)
theorem digit_c (c : Int) : VCalls Try.prog 110 [yv c] (fun r => r = bv (digitP c)) := by
  refine VCalls.ofx tabOk orders Try.func110 (by decide) rfl rfl ?_
  repeat' ((conv => whnf); (with_reducible first | refine Spl.yes ?_ | refine Spl.no ?_ | refine Spl.dec (fun h => ?_) (fun h => ?_)))
  all_goals (conv => whnf)
  · unfold digitP; rw [decide_eq_true (show 48 ≤ c from h), Bool.true_and]; rfl
  · unfold digitP; rw [decide_eq_false (show ¬ 48 ≤ c from h), Bool.false_and]; rfl
/-- The number at an offset: of at most so many bytes. -/
def numL (s : ByteArray) : Nat → Int → Bool → Int → Int × Int × Bool
  | 0, n, g, i => (n, i, g)
  | k + 1, n, g, i => if i < s.size ∧ digitP (byteAt s i) = true then
      (if n * 10 + byteAt s i - 48 > 255 then numL s k 1000 true (i + 1) else numL s k (n * 10 + byteAt s i - 48) g (i + 1)) else (n, i, g)
def numP (s : ByteArray) (i : Int) : Int × Int × Bool := numL s (s.size - i).toNat 0 false i
theorem byteAt_range (s : ByteArray) (i : Int) : 0 ≤ byteAt s i ∧ byteAt s i ≤ 255 := by
  unfold byteAt
  have := (s.data.toList.getD i.toNat 0).toNat_lt
  omega
theorem digitP_ge {c : Int} (h : digitP c = true) : 48 ≤ c ∧ c ≤ 57 := by
  unfold digitP at h
  simpa using h
theorem number_c (x : Text) (i : Int) (h0 : 0 ≤ i) (h1 : i ≤ 1000000) (hx : x.s.size ≤ 1000000) :
    VCalls Try.prog 80 [x.enc, iv i] (fun r => r = .tuple [iv (numP x.s i).1, iv (numP x.s i).2.1, bv (numP x.s i).2.2]) := by
  refine VCalls.ofx tabOk orders Try.func80 (by decide) rfl rfl ?_
  conv => whnf
  refine ⟨fun k st => ∃ n g j, st = ⟨37, [(1, .pv (iv j)), (2, .ptr 2 0), (7, .pv (iv n)), (8, .pv (bv g))], [(2, (82, x.cells))], [], []⟩ ∧ 0 ≤ j ∧ j ≤ 1000000 ∧ 0 ≤ n ∧ n ≤ 1000 ∧ k = (x.s.size - j).toNat ∧ numP x.s i = numL x.s k n g j,
    ⟨_, _, Wk.narrow _ [1, 2, 7, 8] [2] [], 0, false, i, rfl, h0, h1, by omega, by omega, rfl, rfl⟩, ?_⟩
  rintro k st ⟨n, g, j, rfl, hj0, hj1, hn0, hn1, hk, hP⟩
  have hb := byteAt_range x.s j
  repeat' ((conv => whnf); (first
    | (with_reducible first | refine Spl.yes ?_ | refine Spl.no ?_ | refine Spl.dec (fun h => ?_) (fun h => ?_) | refine Spl.any (fun h => ?_) (fun h => ?_))
    | (refine VCalls.mono (digit_c _) ?_; rintro _ rfl)
    | ((with_reducible apply And.intro); omega)))
  all_goals (conv => whnf)
  · obtain ⟨k, rfl⟩ : ∃ m, k = m + 1 := ⟨k - 1, by omega⟩
    refine ⟨k, _, by omega, Wk.narrow _ [1, 2, 7, 8] [2] [], 1000, true, j + 1, rfl, by omega, by omega, by omega, by omega, by omega, ?_⟩
    rw [hP, numL, if_pos ⟨by assumption, by assumption⟩, if_pos h]
  · obtain ⟨k, rfl⟩ : ∃ m, k = m + 1 := ⟨k - 1, by omega⟩
    have hd := digitP_ge (by assumption)
    refine ⟨k, _, by omega, Wk.narrow _ [1, 2, 7, 8] [2] [], _, g, j + 1, rfl, by omega, by omega, by omega, by omega, by omega, ?_⟩
    rw [hP, numL, if_pos ⟨by assumption, by assumption⟩, if_neg h]
  · obtain ⟨k, rfl⟩ : ∃ m, k = m + 1 := ⟨k - 1, by omega⟩
    rw [hP, numL, if_neg (by simp [h])]
    rfl
  · have : k = 0 := by omega
    subst this
    rw [hP]
    rfl
end Go.Proofs.Ytnoohgiecnmajaa.VC

/- The lexer of the document: characters. -/
namespace Go.Proofs.Ytnoohgiecnmajaa.VC
open Go Go.RowKit
set_option linter.unusedVariables false
set_option linter.unusedSimpArgs false

@[reducible] def ys (l : List Int) : SV := .sl 1 (byteRows l)
def Bytes (l : List Int) : Prop := ∀ x ∈ l, 0 ≤ x ∧ x ≤ 255
def seqP (c : Int) : List Int :=
  if c < 0 ∨ c > 1114111 ∨ (55296 ≤ c ∧ c ≤ 57343) then []
  else if c < 128 then [c]
  else if c < 2048 then [192 + c / 64, 128 + c % 64]
  else if c < 65536 then [224 + c / 4096, 128 + c / 64 % 64, 128 + c % 64]
  else [240 + c / 262144, 128 + c / 4096 % 64, 128 + c / 64 % 64, 128 + c % 64]
theorem u8w {n : Int} (h0 : 0 ≤ n) (h1 : n ≤ 255) : IntKind.u8.wrap n = n := IntWalk.u8_in n ⟨h0, h1⟩
theorem sequence_c (c : Int) : VCalls Try.prog 118 [iv c] (fun r => r = ys (seqP c)) := by
  refine VCalls.ofx tabOk orders Try.func118 (by decide) rfl rfl ?_
  repeat' ((conv => whnf); (first
    | (with_reducible first | refine Spl.yes ?_ | refine Spl.no ?_ | refine Spl.dec (fun h => ?_) (fun h => ?_))
    | ((with_reducible apply And.intro); omega)))
  all_goals (conv => whnf)
  all_goals unfold seqP
  all_goals first
    | (exfalso; omega)
    | ((repeat (first | rw [if_pos (by omega)] | rw [if_neg (by omega)])); rfl)
def codeOf : List Int → Int
  | [a] => a
  | [a, b] => (a - 192) * 64 + b - 128
  | [a, b, c] => (a - 224) * 4096 + (b - 128) * 64 + c - 128
  | [a, b, c, d] => (a - 240) * 262144 + (b - 128) * 4096 + (c - 128) * 64 + d - 128
  | _ => -1
def ofP (l : List Int) : Int := if seqP (codeOf l) = l ∧ l ≠ [] then codeOf l else -1
theorem Bytes.mem {l : List Int} (h : Bytes l) {x : Int} (hx : x ∈ l) : 0 ≤ x ∧ x ≤ 255 := h x hx
theorem seqP_bytes (c : Int) : Bytes (seqP c) := by
  intro x hx
  unfold seqP at hx
  split at hx
  · simp at hx
  split at hx
  · simp at hx; omega
  split at hx
  · simp at hx; omega
  split at hx
  · simp at hx; omega
  · simp at hx; omega
theorem strOf_inj : ∀ {s t : List Int}, Bytes s → Bytes t → strOfNums s = strOfNums t → s = t := by
  have key : ∀ (s t : List Int), Bytes s → Bytes t → (s.map fun n => UInt8.ofNat n.toNat) = (t.map fun n => UInt8.ofNat n.toNat) → s = t := by
    intro s
    induction s with
    | nil => intro t _ _ h; cases t with
      | nil => rfl
      | cons y t => simp at h
    | cons x s ih => intro t hs ht h; cases t with
      | nil => simp at h
      | cons y t =>
        simp only [List.map_cons, List.cons.injEq] at h
        have hx := hs x (List.mem_cons_self ..)
        have hy := ht y (List.mem_cons_self ..)
        have e1 : x.toNat % 256 = y.toNat % 256 := by simpa using congrArg UInt8.toNat h.1
        have e2 : x = y := by omega
        rw [e2, ih t (fun z hz => hs z (List.mem_cons_of_mem _ hz)) (fun z hz => ht z (List.mem_cons_of_mem _ hz)) h.2]
  intro s t hs ht h
  refine key s t hs ht ?_
  have := congrArg (fun b : ByteArray => b.data.toList) h
  simpa [strOfNums] using this
theorem of_c (l : List Int) (hb : Bytes l) : VCalls Try.prog 95 [ys l] (fun r => r = iv (ofP l)) := by
  have fin : ∀ c, c = codeOf l → (Spl (!((strOfNums (seqP c)).toList == (strOfNums l).toList)) (-1 = ofP l) (l ≠ [] → c = ofP l) ∧ (l = [] → -1 = ofP l)) := by
    rintro c rfl
    refine ⟨Spl.not (Spl.seq (fun e => ?_) (fun e => ?_)), ?_⟩
    · have := strOf_inj (seqP_bytes _) hb e
      intro hl
      unfold ofP; rw [if_pos ⟨this, hl⟩]
    · unfold ofP; rw [if_neg (fun hh => e (by rw [hh.1]))]
    · rintro rfl; rfl
  rcases l with _ | ⟨a, _ | ⟨b, _ | ⟨c, _ | ⟨d, _ | ⟨e, l⟩⟩⟩⟩⟩
  all_goals
    have hb' := hb
    simp only [Bytes, List.mem_cons, List.not_mem_nil, or_false, forall_eq_or_imp, forall_eq] at hb'
    refine VCalls.ofx tabOk orders Try.func95 (by decide) rfl rfl ?_
    repeat' ((conv => whnf); (first
      | (with_reducible first | refine Spl.yes ?_ | refine Spl.no ?_ | refine Spl.dec (fun h => ?_) (fun h => ?_))
      | ((refine Spl.eq (fun h => ?_) (fun h => ?_)) <;> (try (simp only [byteRows, List.map_cons, List.map_nil, List.length_cons, List.length_nil] at h; omega)))
      | refine drawn_text (by decide +kernel) ?_
      | refine drawn_ord [0, 3, 4, 1, 2, 5, 6, 7, 8, 9, 10] (by decide +kernel) ?_
      | (refine VCalls.mono (sequence_c _) ?_; rintro _ rfl)
      | refine ⟨_, rfl, ?_⟩
      | refine (fin _ rfl).1.mono (fun h => ?_) (fun h => ?_)
      | ((with_reducible apply And.intro); first | omega | rfl)))
    all_goals first
      | exact rfl
      | exact congrArg iv h
      | (rename_i h1; exact congrArg iv (h1 (by simp)))
/-- The code point of the sequence at an offset, of so many lengths from n on, and its length. -/
def atL (l : List Int) (a : Int) : Nat → Int → Int × Int
  | 0, _ => (-1, 0)
  | k + 1, n => if a + n ≤ l.length then (if 0 ≤ ofP ((l.take (a + n).toNat).drop a.toNat) then (ofP ((l.take (a + n).toNat).drop a.toNat), n) else atL l a k (n + 1)) else (-1, 0)
def atP (l : List Int) (a : Int) : Int × Int := atL l a 4 1
theorem byteRows_slice (l : List Int) (a b : Nat) : ((byteRows l).take b).drop a = byteRows ((l.take b).drop a) := by
  simp [byteRows, List.map_take, List.map_drop]
theorem byteRows_len (l : List Int) : (byteRows l).length = l.length := by simp [byteRows]
theorem Bytes.sub {l : List Int} (h : Bytes l) (a b : Nat) : Bytes ((l.take b).drop a) := fun x hx => h x (List.mem_of_mem_take (List.mem_of_mem_drop hx))
theorem at_c (l : List Int) (a : Int) (hb : Bytes l) (h0 : 0 ≤ a) (h1 : a ≤ 1000000) (hl : l.length ≤ 1000000) : VCalls Try.prog 73 [ys l, iv a] (fun r => r = .tuple [iv (atP l a).1, iv (atP l a).2]) := by
  refine VCalls.ofx tabOk orders Try.func73 (by decide) rfl rfl ?_
  conv => whnf
  refine ⟨fun k st => ∃ n : Int, st = ⟨31, [(0, .pv (ys l)), (1, .pv (iv a)), (6, .pv (iv n))], [], [], []⟩ ∧ 1 ≤ n ∧ n ≤ 5 ∧ k = (5 - n).toNat ∧ atP l a = atL l a k n,
    ⟨_, _, Wk.narrow _ [0, 1, 6] [] [], 1, rfl, by omega, by omega, rfl, rfl⟩, ?_⟩
  rintro k st ⟨n, rfl, hn1, hn5, hk, hP⟩
  have hlen := byteRows_len l
  repeat' ((conv => whnf); (first
    | (with_reducible first | refine Spl.yes ?_ | refine Spl.no ?_ | refine Spl.dec (fun h => ?_) (fun h => ?_))
    | (rw [byteRows_slice]; refine VCalls.mono (of_c _ (hb.sub _ _)) ?_; rintro _ rfl)
    | ((with_reducible apply And.intro); first | omega | rfl)))
  all_goals (conv => whnf)
  · obtain ⟨k, rfl⟩ : ∃ m, k = m + 1 := ⟨k - 1, by omega⟩
    rw [hP, atL, if_pos (by omega), if_pos h]; rfl
  · obtain ⟨k, rfl⟩ : ∃ m, k = m + 1 := ⟨k - 1, by omega⟩
    refine ⟨k, _, by omega, Wk.narrow _ [0, 1, 6] [] [], n + 1, rfl, by omega, by omega, by omega, ?_⟩
    rw [hP, atL, if_pos (by omega), if_neg (by omega)]
  · obtain ⟨k, rfl⟩ : ∃ m, k = m + 1 := ⟨k - 1, by omega⟩
    rw [hP, atL, if_neg (by omega)]; rfl
  · have : k = 0 := by omega
    subst this
    rw [hP]; rfl
theorem atL_range (l : List Int) (a : Int) : ∀ (k : Nat) (n : Int), 1 ≤ n → (atL l a k n).1 ≥ -1 ∧ (atL l a k n).1 ≤ 1114111 ∧ ((atL l a k n).2 = 0 ∨ n ≤ (atL l a k n).2 ∧ (atL l a k n).2 < n + k ∧ a + (atL l a k n).2 ≤ l.length)
  | 0, n, h => by simp [atL]
  | k + 1, n, h => by
    have hr : ofP ((l.take (a + n).toNat).drop a.toNat) ≤ 1114111 := by
      unfold ofP
      split
      · rename_i hh
        rcases Int.lt_or_le 1114111 (codeOf ((l.take (a + n).toNat).drop a.toNat)) with q | q
        · have : seqP (codeOf ((l.take (a + n).toNat).drop a.toNat)) = [] := by unfold seqP; rw [if_pos (by omega)]
          rw [this] at hh; exact absurd hh.1.symm hh.2
        · exact q
      · omega
    unfold atL
    split
    · split
      · rename_i h1 h2; exact ⟨by omega, hr, .inr ⟨by omega, by omega, h1⟩⟩
      · obtain ⟨h1, h2, h3⟩ := atL_range l a k (n + 1) (by omega)
        exact ⟨h1, h2, h3.imp id (fun q => ⟨by omega, by omega, q.2.2⟩)⟩
    · simp
theorem atP_range (l : List Int) (a : Int) : -1 ≤ (atP l a).1 ∧ (atP l a).1 ≤ 1114111 ∧ ((atP l a).2 = 0 ∨ 1 ≤ (atP l a).2 ∧ (atP l a).2 ≤ 4 ∧ a + (atP l a).2 ≤ l.length) := by
  obtain ⟨h1, h2, h3⟩ := atL_range l a 4 1 (by omega)
  exact ⟨h1, h2, h3.imp id (fun q => ⟨q.1, by have := q.2.1; unfold atP; omega, q.2.2⟩)⟩
/-- Where the first sequence begins that is none; and whether there is none such. -/
def validL (l : List Int) : Nat → Int → Int × Bool
  | 0, a => (a, true)
  | k + 1, a => if a < l.length then (if (atP l a).2 = 0 then (a, false) else validL l k (a + (atP l a).2)) else (a, true)
def validP (l : List Int) : Int × Bool := validL l l.length 0
theorem valid_c (l : List Int) (hb : Bytes l) (hl : l.length ≤ 1000000) : VCalls Try.prog 50 [ys l] (fun r => r = .tuple [iv (validP l).1, bv (validP l).2]) := by
  refine VCalls.ofx tabOk orders Try.func50 (by decide) rfl rfl ?_
  conv => whnf
  refine ⟨fun k st => ∃ a : Int, st = ⟨24, [(0, .pv (ys l)), (4, .pv (iv a))], [], [], []⟩ ∧ 0 ≤ a ∧ a ≤ l.length ∧ l.length - a ≤ k ∧ validP l = validL l k a,
    ⟨_, _, Wk.narrow _ [0, 4] [] [], 0, rfl, by omega, by omega, by omega, rfl⟩, ?_⟩
  rintro k st ⟨a, rfl, ha0, ha1, hk, hP⟩
  have hlen := byteRows_len l
  have hr := atP_range l a
  repeat' ((conv => whnf); (first
    | (with_reducible first | refine Spl.yes ?_ | refine Spl.no ?_ | refine Spl.dec (fun h => ?_) (fun h => ?_) | refine Spl.eq (fun h => ?_) (fun h => ?_))
    | (refine VCalls.mono (at_c l a hb (by omega) (by omega) hl) ?_; rintro _ rfl)
    | ((with_reducible apply And.intro); first | omega | rfl)))
  all_goals (conv => whnf)
  · obtain ⟨k, rfl⟩ : ∃ m, k = m + 1 := ⟨k - 1, by omega⟩
    rw [hP, validL, if_pos (by omega), if_pos h]; rfl
  · obtain ⟨k, rfl⟩ : ∃ m, k = m + 1 := ⟨k - 1, by omega⟩
    refine ⟨k, _, by omega, Wk.narrow _ [0, 4] [] [], a + (atP l a).2, rfl, by omega, by omega, by omega, ?_⟩
    rw [hP, validL, if_pos (by omega), if_neg h]
  · have : validL l k a = (a, true) := by cases k <;> simp only [validL]; rw [if_neg (by omega)]
    rw [hP, this]; rfl
def rdI (l : List Int) (a : Int) : Int := l.getD a.toNat 0
theorem byteRows_get {l : List Int} {a : Int} (h : a.toNat < l.length) : (byteRows l).getD a.toNat [] = [yv (rdI l a)] := by
  simp [byteRows, rdI, List.getD_eq_getElem?_getD, List.getElem?_eq_getElem h]
theorem rdI_range {l : List Int} (hb : Bytes l) (a : Int) : 0 ≤ rdI l a ∧ rdI l a ≤ 255 := by
  unfold rdI
  by_cases h : a.toNat < l.length
  · rw [List.getD_eq_getElem?_getD, List.getElem?_eq_getElem h]
    exact hb _ (List.getElem_mem h)
  · rw [List.getD_eq_getElem?_getD, List.getElem?_eq_none (by omega)]; simp
def nextP (l : List Int) (a : Int) (utf : Bool) : Int × Int :=
  if a < 0 ∨ a ≥ l.length then (-1, a) else if utf = true ∧ (atP l a).2 > 0 then ((atP l a).1, a + (atP l a).2) else (rdI l a, a + 1)
theorem next_c (l : List Int) (a : Int) (utf : Bool) (hb : Bytes l) (hl : l.length ≤ 1000000) : VCalls Try.prog 74 [ys l, iv a, bv utf] (fun r => r = .tuple [iv (nextP l a utf).1, iv (nextP l a utf).2]) := by
  refine VCalls.ofx tabOk orders Try.func74 (by decide) rfl rfl ?_
  have hlen := byteRows_len l
  have hr := atP_range l a
  have hd := rdI_range hb a
  repeat' ((conv => whnf); (first
    | (with_reducible first | refine Spl.yes ?_ | refine Spl.no ?_ | refine Spl.dec (fun h => ?_) (fun h => ?_) | refine Spl.any (fun hu => ?_) (fun hu => ?_))
    | (refine VCalls.mono (at_c l a hb (by omega) (by omega) hl) ?_; rintro _ rfl)
    | (rw [byteRows_get (by omega)])
    | ((with_reducible apply And.intro); first | omega | rfl)))
  all_goals (conv => whnf)
  all_goals unfold nextP
  · rw [if_pos (by omega)]; rfl
  · rw [if_pos (by omega)]; rfl
  · rw [if_neg (by omega), if_pos ⟨hu, h⟩]; rfl
  · rw [if_neg (by omega), if_neg (fun q => by omega)]; rfl
  · rw [if_neg (by omega), if_neg (fun q => by rw [hu] at q; cases q.1)]; rfl
theorem numsOf_bytes (s : ByteArray) : Bytes (numsOf s) := by
  intro x hx
  simp only [numsOf, List.mem_map] at hx
  obtain ⟨b, _, rfl⟩ := hx
  have := b.toNat_lt
  omega
theorem numsOf_len (s : ByteArray) : (numsOf s).length = s.size := by simp [numsOf]
def charP (x : Text) (i : Int) : Int × Int := nextP (numsOf x.s) i x.utf
theorem char_c (x : Text) (i : Int) (hx : x.s.size ≤ 1000000) : VCalls Try.prog 52 [x.enc, iv i] (fun r => r = .tuple [iv (charP x i).1, iv (charP x i).2]) := by
  refine VCalls.ofx tabOk orders Try.func52 (by decide) rfl rfl ?_
  repeat' ((conv => whnf); (first
    | (refine VCalls.mono (next_c _ i x.utf (numsOf_bytes x.s) (by rw [numsOf_len]; exact hx)) ?_; rintro _ rfl)))
  all_goals (conv => whnf)
  rfl
end Go.Proofs.Ytnoohgiecnmajaa.VC

/- The lexer of the document: what is found at an offset; small functions. -/
namespace Go.Proofs.Ytnoohgiecnmajaa.VC
open Go Go.RowKit
set_option linter.unusedVariables false
set_option linter.unusedSimpArgs false

structure Tok where
  kind : Int
  at_ : Int
  to : Int
  c : Int
  set : List (Int × Int)
  neg : Bool
  n : Int
  m : Int
  mode : Int
  name : ByteArray
  on : Int
  off : Int
  deriving DecidableEq
structure Got where
  t : Tok
  some : Bool
  to : Int
  e : Int
  at_ : Int
  deriving DecidableEq
@[reducible] def rows2 (l : List (Int × Int)) : List (List SV) := l.map fun p => [iv p.1, iv p.2]
@[reducible] def rs (l : List (Int × Int)) : SV := .sl 2 (rows2 l)
def Tok.cells (t : Tok) : List SV := [iv t.kind, iv t.at_, iv t.to, iv t.c, rs t.set, bv t.neg, iv t.n, iv t.m, iv t.mode, sv t.name, iv t.on, iv t.off]
def Tok.enc (t : Tok) : SV := .agg t.cells
def Got.enc (g : Got) : SV := .agg [iv g.t.kind, iv g.t.at_, iv g.t.to, iv g.t.c, rs g.t.set, bv g.t.neg, iv g.t.n, iv g.t.m, iv g.t.mode, sv g.t.name, iv g.t.on, iv g.t.off, bv g.some, iv g.to, iv g.e, iv g.at_]
def bs (l : List UInt8) : ByteArray := ⟨l.toArray⟩
def tokZ : Tok := ⟨0, 0, 0, 0, [], false, 0, 0, 0, bs [], 0, 0⟩
def badG (e a : Int) : Got := ⟨tokZ, false, 0, e, a⟩
def endG (x : Text) : Got := badG 20 x.s.size
def tokG (t : Tok) (a b : Int) : Got := ⟨{ t with at_ := a, to := b }, true, b, 0, 0⟩
def skipG (b : Int) : Got := ⟨tokZ, false, b, 0, 0⟩
theorem bad_c (e a : Int) : VCalls Try.prog 81 [iv e, iv a] (fun r => r = (badG e a).enc) := by
  refine VCalls.ofx tabOk orders Try.func81 (by decide) rfl rfl ?_
  conv => whnf
  rfl
theorem end_c (x : Text) : VCalls Try.prog 96 [x.enc] (fun r => r = (endG x).enc) := by
  refine VCalls.ofx tabOk orders Try.func96 (by decide) rfl rfl ?_
  repeat' ((conv => whnf); (refine VCalls.mono (bad_c _ _) ?_; rintro _ rfl))
  conv => whnf
  rfl
theorem tok_c (t : Tok) (a b : Int) : VCalls Try.prog 78 [t.enc, iv a, iv b] (fun r => r = (tokG t a b).enc) := by
  refine VCalls.ofx tabOk orders Try.func78 (by decide) rfl rfl ?_
  conv => whnf
  rfl
def simpleP (c : Int) : Int := if c = 97 then 7 else if c = 101 then 27 else if c = 102 then 12 else if c = 110 then 10 else if c = 114 then 13 else if c = 116 then 9 else -1
theorem simple_c (c : Int) : VCalls Try.prog 97 [iv c] (fun r => r = iv (simpleP c)) := by
  refine VCalls.ofx tabOk orders Try.func97 (by decide) rfl rfl ?_
  repeat' ((conv => whnf); (with_reducible refine Spl.eq (fun h => ?_) (fun h => ?_)))
  all_goals (conv => whnf)
  all_goals (unfold simpleP; (repeat (first | rw [if_pos (by assumption)] | rw [if_neg (by assumption)])); rfl)
def assertP (c : Int) : Int := if c = 98 then 3 else if c = 66 then 4 else if c = 65 then 5 else if c = 122 then 6 else if c = 90 then 7 else if c = 71 then 8 else 0
theorem assert_c (c : Int) : VCalls Try.prog 99 [iv c] (fun r => r = iv (assertP c)) := by
  refine VCalls.ofx tabOk orders Try.func99 (by decide) rfl rfl ?_
  repeat' ((conv => whnf); (with_reducible refine Spl.eq (fun h => ?_) (fun h => ?_)))
  all_goals (conv => whnf)
  all_goals (unfold assertP; (repeat (first | rw [if_pos (by assumption)] | rw [if_neg (by assumption)])); rfl)
def letterP (c : Int) : Bool := (decide (97 ≤ c) && decide (c ≤ 122)) || (decide (65 ≤ c) && decide (c ≤ 90))
theorem letter_c (c : Int) : VCalls Try.prog 103 [yv c] (fun r => r = bv (letterP c)) := by
  refine VCalls.ofx tabOk orders Try.func103 (by decide) rfl rfl ?_
  repeat' ((conv => whnf); (with_reducible first | refine Spl.yes ?_ | refine Spl.no ?_ | refine Spl.dec (fun h => ?_) (fun h => ?_)))
  all_goals (conv => whnf)
  all_goals (first
    | exact congrArg bv (show true = letterP c by unfold letterP; rw [Bool.eq_iff_iff]; simp; omega)
    | exact congrArg bv (show false = letterP c by unfold letterP; rw [Bool.eq_iff_iff]; simp; omega)
    | exact congrArg bv (show decide (c ≤ 90) = letterP c by unfold letterP; rw [Bool.eq_iff_iff]; simp; omega)
    | trace_state)
def hexP (c : Int) : Int := if digitP c = true then c - 48 else if 97 ≤ c ∧ c ≤ 102 then c - 97 + 10 else if 65 ≤ c ∧ c ≤ 70 then c - 65 + 10 else -1
theorem hex_c (c : Int) (h0 : 0 ≤ c) (h1 : c ≤ 255) : VCalls Try.prog 119 [yv c] (fun r => r = iv (hexP c)) := by
  refine VCalls.ofx tabOk orders Try.func119 (by decide) rfl rfl ?_
  repeat' ((conv => whnf); (first
    | (with_reducible first | refine Spl.yes ?_ | refine Spl.no ?_ | refine Spl.dec (fun h => ?_) (fun h => ?_) | refine Spl.any (fun hd => ?_) (fun hd => ?_))
    | (refine VCalls.mono (digit_c _) ?_; rintro _ rfl)
    | ((with_reducible apply And.intro); first | omega | rfl)))
  all_goals (conv => whnf)
  all_goals unfold hexP
  · rw [if_pos hd]; rfl
  all_goals rw [if_neg (by simp [hd])]
  all_goals (first
    | (rw [if_pos (by omega)]; rfl)
    | (rw [if_neg (by omega), if_pos (by omega)]; rfl)
    | (rw [if_neg (by omega), if_neg (by omega)]; rfl))
def quantP (x : Text) (i to n m : Int) : Got :=
  if isP x.s to (bs [63]) = true then tokG { tokZ with kind := 9, n := n, m := m, mode := 1 } i (to + 1)
  else if isP x.s to (bs [43]) = true then tokG { tokZ with kind := 9, n := n, m := m, mode := 2 } i (to + 1)
  else tokG { tokZ with kind := 9, n := n, m := m } i to
theorem quant_c (x : Text) (i to n m : Int) (hx : x.s.size ≤ 1000000) (h0 : 0 ≤ to) (h1 : to ≤ 1000000) : VCalls Try.prog 79 [x.enc, iv i, iv to, iv n, iv m] (fun r => r = (quantP x i to n m).enc) := by
  refine VCalls.ofx tabOk orders Try.func79 (by decide) rfl rfl ?_
  repeat' ((conv => whnf); (first
    | (with_reducible first | refine Spl.yes ?_ | refine Spl.no ?_ | refine Spl.any (fun h => ?_) (fun h => ?_))
    | (refine VCalls.mono (is_c x to (bs [63]) h0 h1 hx (by decide)) ?_; rintro _ rfl)
    | (refine VCalls.mono (is_c x to (bs [43]) h0 h1 hx (by decide)) ?_; rintro _ rfl)
    | (refine VCalls.mono (tok_c { tokZ with kind := 9, n := n, m := m, mode := 1 } i (to + 1)) ?_; rintro _ rfl)
    | (refine VCalls.mono (tok_c { tokZ with kind := 9, n := n, m := m, mode := 2 } i (to + 1)) ?_; rintro _ rfl)
    | (refine VCalls.mono (tok_c { tokZ with kind := 9, n := n, m := m } i to) ?_; rintro _ rfl)
    | ((with_reducible apply And.intro); first | omega | rfl)))
  all_goals (conv => whnf)
  all_goals unfold quantP
  · rw [if_pos (by assumption)]; rfl
  all_goals rw [if_neg (Bool.eq_false_iff.1 (by assumption))]
  · rw [if_pos (by assumption)]; rfl
  · rw [if_neg (Bool.eq_false_iff.1 (by assumption))]; rfl
end Go.Proofs.Ytnoohgiecnmajaa.VC

/- The lexer of the document: names, signed numbers, hexadecimal ones. -/
namespace Go.Proofs.Ytnoohgiecnmajaa.VC
open Go Go.RowKit
set_option linter.unusedVariables false
set_option linter.unusedSimpArgs false

def nameCh (c : Int) : Bool := letterP c || digitP c || c == 95
def nameEnd (s : ByteArray) : Nat → Int → Int
  | 0, i => i
  | k + 1, i => if i < s.size ∧ nameCh (byteAt s i) = true then nameEnd s k (i + 1) else i
def nameTo (s : ByteArray) (i : Int) : Int := nameEnd s (s.size - i).toNat i
def nameOk (s : ByteArray) : Bool := if (s.size : Int) > 0 then (if (s.size : Int) ≤ 32 then !digitP (byteAt s 0) else false) else false
def nameAt (s : ByteArray) (i : Int) : ByteArray := s.extract i.toNat (nameTo s i).toNat
theorem nameEnd_range (s : ByteArray) : ∀ (k : Nat) (i : Int), i ≤ s.size → i ≤ nameEnd s k i ∧ nameEnd s k i ≤ s.size
  | 0, i, h => by simp [nameEnd]; omega
  | k + 1, i, h => by
    unfold nameEnd
    split
    · rename_i hh
      have := nameEnd_range s k (i + 1) (by omega)
      omega
    · omega
theorem nameTo_range (s : ByteArray) (i : Int) (h : i ≤ s.size) : i ≤ nameTo s i ∧ nameTo s i ≤ s.size := nameEnd_range s _ i h
theorem name_c (x : Text) (i : Int) (hx : x.s.size ≤ 1000000) (h0 : 0 ≤ i) (h1 : i ≤ x.s.size) :
    VCalls Try.prog 101 [x.enc, iv i] (fun r => r = .tuple [sv (nameAt x.s i), iv (nameTo x.s i), bv (nameOk (nameAt x.s i))]) := by
  refine VCalls.ofx tabOk orders Try.func101 (by decide) rfl rfl ?_
  conv => whnf
  refine ⟨fun k st => ∃ j, st = ⟨59, [(1, .pv (iv j)), (2, .ptr 2 0), (7, .pv (iv i))], [(2, (82, x.cells))], [], []⟩ ∧ i ≤ j ∧ j ≤ x.s.size ∧ k = (x.s.size - j).toNat ∧ nameTo x.s i = nameEnd x.s k j,
    ⟨_, _, Wk.narrow _ [1, 2, 7] [2] [], i, rfl, by omega, h1, rfl, rfl⟩, ?_⟩
  rintro k st ⟨j, rfl, hj0, hj1, hk, hP⟩
  have hb := byteAt_range x.s j
  have out : nameCh (byteAt x.s j) = false ∨ ¬ j < x.s.size → nameTo x.s i = j := by
    intro hh
    rw [hP]
    cases k with
    | zero => rfl
    | succ k => rw [nameEnd, if_neg (by rcases hh with q | q; · simp [q]
                                        · omega)]
  repeat' ((conv => whnf); (first
    | (with_reducible first | refine Spl.yes ?_ | refine Spl.no ?_ | refine Spl.dec (fun h => ?_) (fun h => ?_) | refine Spl.eq (fun h => ?_) (fun h => ?_) | refine Spl.any (fun h => ?_) (fun h => ?_))
    | (refine VCalls.mono (digit_c _) ?_; rintro _ rfl)
    | (refine VCalls.mono (letter_c _) ?_; rintro _ rfl)
    | ((with_reducible apply And.intro); first | omega | rfl)))
  all_goals (conv => whnf)
  all_goals first
    | (have hc : nameCh (byteAt x.s j) = true := by
         unfold nameCh
         simp only [Bool.or_eq_true, beq_iff_eq]
         first | exact .inl (.inl (by assumption)) | exact .inl (.inr (by assumption)) | exact .inr (by assumption)
       obtain ⟨k, rfl⟩ : ∃ m, k = m + 1 := ⟨k - 1, by omega⟩
       refine ⟨k, _, by omega, Wk.narrow _ [1, 2, 7] [2] [], j + 1, rfl, by omega, by omega, by omega, ?_⟩
       rw [hP, nameEnd, if_pos ⟨by assumption, hc⟩])
    | (have e : nameTo x.s i = j := out (by
         first
           | exact .inr (by assumption)
           | (left; unfold nameCh; simp only [Bool.or_eq_false_iff, beq_eq_false_iff_ne]; exact ⟨⟨by assumption, by assumption⟩, by assumption⟩))
       unfold nameAt
       rw [e]
       unfold nameOk
       first
         | (rw [if_pos (by assumption), if_pos (by assumption)]; rfl)
         | (rw [if_pos (by assumption), if_neg (by assumption)]; rfl)
         | (rw [if_neg (by assumption)]; rfl))
theorem numL_range (s : ByteArray) : ∀ (k : Nat) (n : Int) (g : Bool) (i : Int), 0 ≤ n → n ≤ 1000 → 0 ≤ (numL s k n g i).1 ∧ (numL s k n g i).1 ≤ 1000 ∧ i ≤ (numL s k n g i).2.1 ∧ (i ≤ s.size → (numL s k n g i).2.1 ≤ s.size) ∧ ((numL s k n g i).2.2 = false → n ≤ 255 → (numL s k n g i).1 ≤ 255)
  | 0, n, g, i, h0, h1 => by simp [numL]; omega
  | k + 1, n, g, i, h0, h1 => by
    unfold numL
    split
    · rename_i hh
      have hd := digitP_ge hh.2
      split
      · have := numL_range s k 1000 true (i + 1) (by omega) (by omega)
        have ht : ∀ (k : Nat) (n i : Int), (numL s k n true i).2.2 = true := by
          intro k
          induction k with
          | zero => intro n i; rfl
          | succ k ih => intro n i; unfold numL; split <;> (try split) <;> first | exact ih _ _ | rfl
        refine ⟨this.1, this.2.1, by omega, fun q => this.2.2.2.1 (by omega), fun q => ?_⟩
        rw [ht] at q; cases q
      · have := numL_range s k (n * 10 + byteAt s i - 48) g (i + 1) (by omega) (by omega)
        exact ⟨this.1, this.2.1, by omega, fun q => this.2.2.2.1 (by omega), fun q _ => this.2.2.2.2 q (by omega)⟩
    · simp; omega
theorem numP_range (s : ByteArray) (i : Int) : 0 ≤ (numP s i).1 ∧ (numP s i).1 ≤ 1000 ∧ i ≤ (numP s i).2.1 ∧ (i ≤ s.size → (numP s i).2.1 ≤ s.size) ∧ ((numP s i).2.2 = false → (numP s i).1 ≤ 255) := by
  have := numL_range s (s.size - i).toNat 0 false i (by omega) (by omega)
  exact ⟨this.1, this.2.1, this.2.2.1, this.2.2.2.1, fun q => this.2.2.2.2 q (by omega)⟩
/-- What 'is' finds lies in the text. -/
theorem isP_le {s : ByteArray} {i : Int} {t : ByteArray} (h : isP s i t = true) : i + t.size ≤ s.size := by
  unfold isP at h
  split at h
  · assumption
  · cases h
def signedP (s : ByteArray) (i : Int) : Int × Int × Int × Bool :=
  let q : Int × Int := if isP s i (bs [45]) = true then (1, i + 1) else if isP s i (bs [43]) = true then (2, i + 1) else (0, i)
  if (numP s q.2).2.1 = q.2 then (0, q.1, i, false) else ((numP s q.2).1, q.1, (numP s q.2).2.1, (numP s q.2).2.2)
theorem signed_c (x : Text) (i : Int) (hx : x.s.size ≤ 1000000) (h0 : 0 ≤ i) (h1 : i ≤ 100000) :
    VCalls Try.prog 111 [x.enc, iv i] (fun r => r = .tuple [iv (signedP x.s i).1, iv (signedP x.s i).2.1, iv (signedP x.s i).2.2.1, bv (signedP x.s i).2.2.2]) := by
  refine VCalls.ofx tabOk orders Try.func111 (by decide) rfl rfl ?_
  repeat' ((conv => whnf); (first
    | (with_reducible first | refine Spl.yes ?_ | refine Spl.no ?_ | refine Spl.eq (fun h => ?_) (fun h => ?_) | refine Spl.any (fun h => ?_) (fun h => ?_))
    | (refine VCalls.mono (is_c x i (bs [45]) h0 (by omega) hx (by decide)) ?_; rintro _ rfl)
    | (refine VCalls.mono (is_c x i (bs [43]) h0 (by omega) hx (by decide)) ?_; rintro _ rfl)
    | (refine VCalls.mono (number_c x i h0 (by omega) hx) ?_; rintro _ rfl)
    | (refine VCalls.mono (number_c x (i + 1) (by omega) (by omega) hx) ?_; rintro _ rfl)
    | ((with_reducible apply And.intro); first | omega | rfl)))
  all_goals (conv => whnf)
  · have e : signedP x.s i = (0, 1, i, false) := by simp [signedP, *]
    rw [e]; rfl
  · have e : signedP x.s i = ((numP x.s (i + 1)).1, 1, (numP x.s (i + 1)).2.1, (numP x.s (i + 1)).2.2) := by simp [signedP, *]
    rw [e]; rfl
  · have e : signedP x.s i = (0, 2, i, false) := by simp [signedP, *]
    rw [e]; rfl
  · have e : signedP x.s i = ((numP x.s (i + 1)).1, 2, (numP x.s (i + 1)).2.1, (numP x.s (i + 1)).2.2) := by simp [signedP, *]
    rw [e]; rfl
  · have e : signedP x.s i = (0, 0, i, false) := by simp [signedP, *]
    rw [e]; rfl
  · have e : signedP x.s i = ((numP x.s i).1, 0, (numP x.s i).2.1, (numP x.s i).2.2) := by simp [signedP, *]
    rw [e]; rfl
end Go.Proofs.Ytnoohgiecnmajaa.VC

/- The lexer of the document: hexadecimal numbers; how groups are shut. -/
namespace Go.Proofs.Ytnoohgiecnmajaa.VC
open Go Go.RowKit
set_option linter.unusedVariables false
set_option linter.unusedSimpArgs false

def hexRun (s : ByteArray) (lim : Int) : Nat → Int → Int → Int × Int
  | 0, n, j => (n, j)
  | f + 1, n, j => if j < s.size ∧ 0 ≤ hexP (byteAt s j) ∧ j < lim then hexRun s lim f (n * 16 + hexP (byteAt s j)) (j + 1) else (n, j)
def hexChk (x : Text) (n i : Int) : Int × Int := if n > x.most then (-1, i) else if x.utf = true ∧ 55296 ≤ n ∧ n ≤ 57343 then (-1, i) else (n, i)
def hexaP (x : Text) (i : Int) : Int × Int :=
  if isP x.s i (bs [123]) = true then
    (if (hexRun x.s (i + 8) 7 0 (i + 1)).2 = i + 1 ∨ (hexRun x.s (i + 8) 7 0 (i + 1)).2 > i + 7 ∨ isP x.s (hexRun x.s (i + 8) 7 0 (i + 1)).2 (bs [125]) = false then (-1, i)
     else hexChk x (hexRun x.s (i + 8) 7 0 (i + 1)).1 ((hexRun x.s (i + 8) 7 0 (i + 1)).2 + 1))
  else hexChk x (hexRun x.s (i + 2) 2 0 i).1 (hexRun x.s (i + 2) 2 0 i).2
def pw : Nat → Int
  | 0 => 1
  | k + 1 => 16 * pw k
theorem pw_le {m : Nat} (h : m ≤ 7) : 1 ≤ pw m ∧ pw m ≤ 268435456 := by
  have : m = 0 ∨ m = 1 ∨ m = 2 ∨ m = 3 ∨ m = 4 ∨ m = 5 ∨ m = 6 ∨ m = 7 := by omega
  rcases this with rfl | rfl | rfl | rfl | rfl | rfl | rfl | rfl <;> decide
theorem hexP_range {c : Int} (h0 : 0 ≤ c) (h1 : c ≤ 255) : -1 ≤ hexP c ∧ hexP c ≤ 15 := by
  unfold hexP
  split
  · rename_i h; have := digitP_ge h; omega
  split
  · omega
  split
  · omega
  · omega
theorem hexa_c (x : Text) (i : Int) (hx : x.s.size ≤ 1000000) (h0 : 0 ≤ i) (h1 : i ≤ 100000) :
    VCalls Try.prog 98 [x.enc, iv i] (fun r => r = .tuple [iv (hexaP x i).1, iv (hexaP x i).2]) := by
  refine VCalls.ofr tabOk Try.func98 (by decide) rfl rfl ?_
  refine RWP.seqx tabOk orders ?_
  conv => whnf
  refine RWP.seqx tabOk orders ?_
  conv => whnf
  refine RWP.cut (fun st => (∃ n j, st = ⟨110, [(1, .pv (iv j)), (2, .ptr 2 0), (6, .pv (iv n))], [(2, (82, x.cells))], [], []⟩ ∧ hexaP x i = hexChk x n j)) tabOk orders ?_ ?_
  case refine_2 =>
    rintro st ⟨n, j, rfl, e⟩
    rw [e]
    refine RWP.of tabOk orders ?_
    repeat' ((conv => whnf); (first
      | (with_reducible first | refine Spl.yes ?_ | refine Spl.no ?_ | refine Spl.dec (fun h => ?_) (fun h => ?_) | refine Spl.any (fun h => ?_) (fun h => ?_))
      | ((with_reducible apply And.intro); first | omega | rfl)))
    all_goals (conv => whnf)
    all_goals unfold hexChk
    all_goals first
      | (rw [if_pos (by assumption)]; rfl)
      | (rw [if_neg (by assumption), if_pos ⟨by assumption, by assumption, by assumption⟩]; rfl)
      | (rw [if_neg (by assumption), if_neg (by rintro ⟨_, q1, q2⟩; contradiction)]; rfl)
      | (rw [if_neg (by assumption), if_neg (by rintro ⟨q1, q2⟩; simp_all)]; rfl)
  conv => whnf
  refine VCalls.mono (is_c x i (bs [123]) h0 (by omega) hx (by decide)) ?_; rintro _ rfl
  conv => whnf
  refine Spl.any (fun hbr => ?_) (fun hbr => ?_)
  · conv => whnf
    (with_reducible apply And.intro); omega
    conv => whnf
    refine ⟨fun k st => ∃ n j m, st = ⟨110, [(1, .pv (iv i)), (2, .ptr 2 0), (6, .pv (iv n)), (7, .pv (iv j))], [(2, (82, x.cells))], [], []⟩ ∧ i + 1 ≤ j ∧ k + m = 7 ∧ j = i + 1 + m ∧ 0 ≤ n ∧ n < pw m ∧ hexRun x.s (i + 8) 7 0 (i + 1) = hexRun x.s (i + 8) k n j,
      ⟨7, _, Wk.narrow _ [1, 2, 6, 7] [2] [], 0, i + 1, 0, rfl, by omega, by omega, by omega, by omega, by decide, rfl⟩, ?_⟩
    rintro k st ⟨n, j, m, rfl, hj0, hkm, hjm, hn0, hn1, hP⟩
    have hb := byteAt_range x.s j
    have hh := hexP_range hb.1 hb.2
    have hp := pw_le (m := m) (by omega)
    have out : ¬ (j < x.s.size ∧ 0 ≤ hexP (byteAt x.s j) ∧ j < i + 8) → hexRun x.s (i + 8) 7 0 (i + 1) = (n, j) := by
      intro hno
      rw [hP]
      cases k with
      | zero => rfl
      | succ k => rw [hexRun, if_neg hno]
    repeat' ((conv => whnf); (first
      | (with_reducible first | refine Spl.yes ?_ | refine Spl.no ?_)
      | (with_reducible first | refine Spl.dec (fun h => ?_) (fun h => ?_) | refine Spl.eq (fun h => ?_) (fun h => ?_) | refine Spl.not ?_ | refine Spl.any (fun h => ?_) (fun h => ?_))
      | (refine VCalls.mono (hex_c _ hb.1 hb.2) ?_; rintro _ rfl)
      | (refine VCalls.mono (is_c x j (bs [125]) (by omega) (by omega) hx (by decide)) ?_; rintro _ rfl)
      | ((with_reducible apply And.intro); first | omega | rfl)))
    all_goals (conv => whnf)
    case refine_1.right.refine_1.right.refine_1.right.right.right.right =>
      obtain ⟨k, rfl⟩ : ∃ m, k = m + 1 := ⟨k - 1, by omega⟩
      refine ⟨k, _, by omega, Wk.narrow _ [1, 2, 6, 7] [2] [], _, j + 1, m + 1, rfl, by omega, by omega, by omega, by omega, ?_, ?_⟩
      · show n * 16 + hexP (byteAt x.s j) < 16 * pw m
        omega
      · rw [hP, hexRun, if_pos ⟨by assumption, by assumption, by assumption⟩]
    all_goals
      have e := out (by omega)
      first
        | (have e2 : hexaP x i = (-1, i) := by
             unfold hexaP
             rw [if_pos hbr, e]
             simp only
             first
               | (rw [if_pos (.inl (by assumption))])
               | (rw [if_pos (.inr (.inl (by assumption)))])
               | (rw [if_pos (.inr (.inr (by assumption)))])
           rw [e2]; rfl)
        | (refine ⟨_, Wk.narrow _ [1, 2, 6] [2] [], n, j + 1, rfl, ?_⟩
           unfold hexaP
           rw [if_pos hbr, e]
           simp only
           rw [if_neg (by rintro (q | q | q) <;> first | omega | (have h9 := ‹isP x.s j (bs [125]) = true›; rw [h9] at q; cases q))])
  · conv => whnf
    refine ⟨fun k st => ∃ n j m, st = ⟨110, [(1, .pv (iv j)), (2, .ptr 2 0), (6, .pv (iv n)), (8, .pv (iv m))], [(2, (82, x.cells))], [], []⟩ ∧ k + m = 2 ∧ j = i + m ∧ 0 ≤ m ∧ 0 ≤ n ∧ n < 16 ^ m.toNat ∧ hexRun x.s (i + 2) 2 0 i = hexRun x.s (i + 2) k n j,
      ⟨2, _, Wk.narrow _ [1, 2, 6, 8] [2] [], 0, i, 0, rfl, by omega, by omega, by omega, by omega, by decide, rfl⟩, ?_⟩
    rintro k st ⟨n, j, m, rfl, hkm, hjm, hm0, hn0, hn1, hP⟩
    have hb := byteAt_range x.s j
    have hh := hexP_range hb.1 hb.2
    have hn2 : n < 256 ∧ (m = 0 → n < 1) ∧ (m = 1 → n < 16) := by
      have : m = 0 ∨ m = 1 ∨ m = 2 := by omega
      rcases this with rfl | rfl | rfl <;> simp at hn1 ⊢ <;> omega
    have out : ¬ (j < x.s.size ∧ 0 ≤ hexP (byteAt x.s j) ∧ j < i + 2) → hexRun x.s (i + 2) 2 0 i = (n, j) := by
      intro hno
      rw [hP]
      cases k with
      | zero => rfl
      | succ k => rw [hexRun, if_neg hno]
    repeat' ((conv => whnf); (first
      | (with_reducible first | refine Spl.yes ?_ | refine Spl.no ?_ | refine Spl.dec (fun h => ?_) (fun h => ?_))
      | (refine VCalls.mono (hex_c _ hb.1 hb.2) ?_; rintro _ rfl)
      | ((with_reducible apply And.intro); first | omega | rfl)))
    all_goals (conv => whnf)
    all_goals first
      | (have e := out (by omega)
         refine ⟨_, Wk.narrow _ [1, 2, 6] [2] [], n, j, rfl, ?_⟩
         unfold hexaP
         rw [if_neg (by simp [hbr]), e])
      | (obtain ⟨k, rfl⟩ : ∃ m, k = m + 1 := ⟨k - 1, by omega⟩
         refine ⟨k, _, by omega, Wk.narrow _ [1, 2, 6, 8] [2] [], _, j + 1, m + 1, rfl, by omega, by omega, by omega, by omega, ?_, ?_⟩
         · have : m = 0 ∨ m = 1 := by omega
           rcases this with rfl | rfl
           · show _ < (16 : Int) ^ 1; omega
           · show _ < (16 : Int) ^ 2; omega
         · rw [hP, hexRun, if_pos ⟨by assumption, by assumption, by omega⟩])
end Go.Proofs.Ytnoohgiecnmajaa.VC

/- The lexer of the document: names in groups, flags. -/
namespace Go.Proofs.Ytnoohgiecnmajaa.VC
open Go Go.RowKit
set_option linter.unusedVariables false
set_option linter.unusedSimpArgs false

def shutP (x : Text) (t : Tok) (a i : Int) (s : ByteArray) (e : Int) : Got :=
  if isP x.s i s = true then tokG t a (i + s.size) else if i ≥ x.s.size then endG x else badG e a
theorem shut_c (x : Text) (t : Tok) (a i : Int) (s : ByteArray) (e : Int) (hx : x.s.size ≤ 1000000) (h0 : 0 ≤ i) (h1 : i ≤ 1000000) (hs : s.size ≤ 1000) :
    VCalls Try.prog 108 [x.enc, t.enc, iv a, iv i, sv s, iv e] (fun r => r = (shutP x t a i s e).enc) := by
  refine VCalls.ofx tabOk orders Try.func108 (by decide) rfl rfl ?_
  repeat' ((conv => whnf); (first
    | (with_reducible first | refine Spl.yes ?_ | refine Spl.no ?_ | refine Spl.dec (fun h => ?_) (fun h => ?_) | refine Spl.any (fun h => ?_) (fun h => ?_))
    | (refine VCalls.mono (is_c x i s h0 h1 hx hs) ?_; rintro _ rfl)
    | (refine VCalls.mono (tok_c t a (i + s.size)) ?_; rintro _ rfl)
    | (refine VCalls.mono (end_c x) ?_; rintro _ rfl)
    | (refine VCalls.mono (bad_c _ _) ?_; rintro _ rfl)
    | ((with_reducible apply And.intro); first | omega | rfl)))
  all_goals (conv => whnf)
  all_goals unfold shutP
  · rw [if_pos (by assumption)]; rfl
  all_goals rw [if_neg (Bool.eq_false_iff.1 (by assumption))]
  · rw [if_pos (by assumption)]; rfl
  · rw [if_neg (by assumption)]; rfl
def calledP (x : Text) (t : Tok) (a i : Int) (s : ByteArray) : Got :=
  if nameTo x.s i ≥ x.s.size then endG x
  else if nameOk (nameAt x.s i) = false then badG 27 a
  else if isP x.s (nameTo x.s i) s = false then badG 27 a
  else tokG { t with name := nameAt x.s i } a (nameTo x.s i + s.size)
theorem called_c (x : Text) (t : Tok) (a i : Int) (s : ByteArray) (hx : x.s.size ≤ 1000000) (h0 : 0 ≤ i) (h1 : i ≤ x.s.size) (hs : s.size ≤ 1000) :
    VCalls Try.prog 107 [x.enc, t.enc, iv a, iv i, sv s] (fun r => r = (calledP x t a i s).enc) := by
  have hr := nameTo_range x.s i h1
  refine VCalls.ofx tabOk orders Try.func107 (by decide) rfl rfl ?_
  repeat' ((conv => whnf); (first
    | (with_reducible first | refine Spl.yes ?_ | refine Spl.no ?_ | refine Spl.dec (fun h => ?_) (fun h => ?_) | refine Spl.not ?_ | refine Spl.any (fun h => ?_) (fun h => ?_))
    | (refine VCalls.mono (name_c x i hx h0 h1) ?_; rintro _ rfl)
    | (refine VCalls.mono (is_c x (nameTo x.s i) s (by omega) (by omega) hx hs) ?_; rintro _ rfl)
    | (refine VCalls.mono (tok_c { t with name := nameAt x.s i } a (nameTo x.s i + s.size)) ?_; rintro _ rfl)
    | (refine VCalls.mono (end_c x) ?_; rintro _ rfl)
    | (refine VCalls.mono (bad_c _ _) ?_; rintro _ rfl)
    | ((with_reducible apply And.intro); first | omega | rfl)))
  all_goals (conv => whnf)
  all_goals unfold calledP
  all_goals first
    | (rw [if_pos (by assumption)]; rfl)
    | (rw [if_neg (by assumption), if_pos (by assumption)]; rfl)
    | (rw [if_neg (by assumption), if_neg (Bool.not_eq_false _ ▸ by assumption), if_pos (by assumption)]; rfl)
    | (rw [if_neg (by assumption), if_neg (by simp [*]), if_pos (by assumption)]; rfl)
    | (rw [if_neg (by assumption), if_neg (by simp [*]), if_neg (by simp [*])]; rfl)
def flagN (c : Int) : Int := if c = 105 then 1 else if c = 109 then 2 else if c = 115 then 4 else if c = 85 then 16 else 0
def flagsL (x : Text) (at_ : Int) : Nat → Int → Bool → Int → Int → Got
  | 0, _, _, _, _ => endG x
  | k + 1, i, off, a, b =>
    if i ≥ x.s.size then endG x
    else if byteAt x.s i = 41 then tokG { tokZ with kind := 15, on := a, off := b } at_ (i + 1)
    else if byteAt x.s i = 58 then tokG { tokZ with kind := 10, n := 2, on := a, off := b } at_ (i + 1)
    else if byteAt x.s i = 45 then (if off = true then badG 26 at_ else flagsL x at_ k (i + 1) true a (bOr b 0))
    else if flagN (byteAt x.s i) = 0 then badG 26 at_
    else if off = true then flagsL x at_ k (i + 1) off a (bOr b (flagN (byteAt x.s i))) else flagsL x at_ k (i + 1) off (bOr a (flagN (byteAt x.s i))) b
def flagsP (x : Text) (at_ i : Int) : Got := flagsL x at_ (x.s.size - i + 1).toNat i false 0 0
def tcells (k on off : Int) : List FE := [.pv (iv k), .pv (iv 0), .pv (iv 0), .pv (iv 0), .pv (.val nilV), .pv (bv false), .pv (iv 0), .pv (iv 0), .pv (iv 0), .pv (sv (bs [])), .pv (iv on), .pv (iv off)]
def gzero : List FE := [.pv (iv 0), .pv (iv 0), .pv (iv 0), .pv (iv 0), .pv (.val nilV), .pv (bv false), .pv (iv 0), .pv (iv 0), .pv (iv 0), .pv (sv (bs [])), .pv (iv 0), .pv (iv 0), .pv (bv false), .pv (iv 0), .pv (iv 0), .pv (iv 0)]
theorem flags_c (x : Text) (a i : Int) (hx : x.s.size ≤ 1000000) (h0 : 0 ≤ i) (h1 : i ≤ x.s.size) :
    VCalls Try.prog 112 [x.enc, iv a, iv i] (fun r => r = (flagsP x a i).enc) := by
  refine VCalls.ofx tabOk orders Try.func112 (by decide) rfl rfl ?_
  conv => whnf
  refine ⟨fun k st => ∃ j off p q, st = ⟨66, [(1, .pv (iv a)), (2, .pv (iv j)), (3, .ptr 3 0), (6, .ptr 6 0), (7, .ptr 7 0), (8, .pv (bv off))], [(3, (82, x.cells)), (6, (90, gzero)), (7, (88, tcells 15 p q))], [], []⟩ ∧ i ≤ j ∧ j ≤ x.s.size ∧ k = (x.s.size - j + 1).toNat ∧ flagsP x a i = flagsL x a k j off p q,
    ⟨_, _, Wk.narrow _ [1, 2, 3, 6, 7, 8] [3, 6, 7] [], i, false, 0, 0, rfl, by omega, h1, rfl, rfl⟩, ?_⟩
  rintro k st ⟨j, off, p, q, rfl, hj0, hj1, hk, hP⟩
  obtain ⟨k, rfl⟩ : ∃ m, k = m + 1 := ⟨k - 1, by omega⟩
  repeat' ((conv => whnf); (first
    | (with_reducible first | refine Spl.yes ?_ | refine Spl.no ?_ | refine Spl.dec (fun h => ?_) (fun h => ?_) | refine Spl.eq (fun h => ?_) (fun h => ?_) | refine Spl.any (fun h => ?_) (fun h => ?_))
    | (refine VCalls.mono (tok_c { tokZ with kind := 15, on := p, off := q } a (j + 1)) ?_; rintro _ rfl)
    | (refine VCalls.mono (tok_c { tokZ with kind := 10, n := 2, on := p, off := q } a (j + 1)) ?_; rintro _ rfl)
    | (refine VCalls.mono (end_c x) ?_; rintro _ rfl)
    | (refine VCalls.mono (bad_c _ _) ?_; rintro _ rfl)
    | ((with_reducible apply And.intro); first | omega | rfl)))
  all_goals (conv => whnf)
  all_goals first
    | (refine ⟨k, _, by omega, Wk.narrow _ [1, 2, 3, 6, 7, 8] [3, 6, 7] [], j + 1, _, _, _, rfl, by omega, by omega, by omega, ?_⟩
       rw [hP]
       clear hP
       simp [flagsL, flagN, *])
    | (have e : flagsP x a i = endG x := by rw [hP]; clear hP; simp [flagsL, *]
       rw [e]; rfl)
    | (have e : flagsP x a i = tokG { tokZ with kind := 15, on := p, off := q } a (j + 1) := by rw [hP]; clear hP; simp [flagsL, *]
       rw [e]; rfl)
    | (have e : flagsP x a i = tokG { tokZ with kind := 10, n := 2, on := p, off := q } a (j + 1) := by rw [hP]; clear hP; simp [flagsL, *]
       rw [e]; rfl)
    | (have e : flagsP x a i = badG 26 a := by rw [hP]; clear hP; simp [flagsL, flagN, *]
       rw [e]; rfl)
end Go.Proofs.Ytnoohgiecnmajaa.VC

/- The lexer of the document: references. -/
namespace Go.Proofs.Ytnoohgiecnmajaa.VC
open Go Go.RowKit
set_option linter.unusedVariables false
set_option linter.unusedSimpArgs false
set_option maxHeartbeats 4000000

theorem enc_by {g g' : Got} {L : SV} (h : g = g') (h2 : L = g.enc) : L = g'.enc := by rw [← h]; exact h2
theorem b_nt {b : Bool} (h : b = false) : ¬ b = true := by rw [h]; decide
theorem b_nf {b : Bool} (h : b = true) : ¬ b = false := by rw [h]; decide
theorem ite_yes {α : Sort _} {c : Prop} [Decidable c] {g a b : α} (h : c) (h2 : g = a) : g = ite c a b := by rw [if_pos h]; exact h2
theorem ite_no {α : Sort _} {c : Prop} [Decidable c] {g a b : α} (h : ¬ c) (h2 : g = b) : g = ite c a b := by rw [if_neg h]; exact h2

def referK (s : ByteArray) (i : Int) : Int × ByteArray :=
  let c1 := if isP s i (bs [123]) = true then bs [125] else bs []
  let p2 : Int × ByteArray := if isP s i (bs [60]) = true then (12, bs [62]) else (11, c1)
  if isP s i (bs [39]) = true then (12, bs [39]) else p2
def referP (x : Text) (a i0 : Int) : Got :=
  let kind := (referK x.s i0).1
  let cl := (referK x.s i0).2
  let i := i0 + cl.size
  let q := signedP x.s i
  if q.2.2.2 = true then badG 25 a
  else if q.2.2.1 > i then
    (if isP x.s q.2.2.1 cl = false then badG 21 a
     else if q.1 = 0 ∧ (kind = 11 ∨ q.2.1 ≠ 0) then badG 25 a
     else tokG { tokZ with kind := kind, n := q.1, m := q.2.1 } a (q.2.2.1 + cl.size))
  else if cl = bs [] then badG 21 a
  else if nameOk (nameAt x.s i) = false then badG 21 a
  else if isP x.s (nameTo x.s i) cl = false then badG 21 a
  else tokG { tokZ with kind := kind, name := nameAt x.s i, m := 3 } a (nameTo x.s i + 1)
theorem signedP_range (s : ByteArray) (i : Int) (h1 : i ≤ s.size) : 0 ≤ (signedP s i).1 ∧ (signedP s i).1 ≤ 1000 ∧ 0 ≤ (signedP s i).2.1 ∧ (signedP s i).2.1 ≤ 2 ∧ i ≤ (signedP s i).2.2.1 ∧ (signedP s i).2.2.1 ≤ s.size ∧ ((signedP s i).2.2.2 = false → (signedP s i).1 ≤ 255) := by
  have key : ∀ (m j : Int), 0 ≤ m → m ≤ 2 → i ≤ j → j ≤ s.size → 0 ≤ (if (numP s j).2.1 = j then (0, m, i, false) else ((numP s j).1, m, (numP s j).2.1, (numP s j).2.2) : Int × Int × Int × Bool).1 ∧ (if (numP s j).2.1 = j then (0, m, i, false) else ((numP s j).1, m, (numP s j).2.1, (numP s j).2.2) : Int × Int × Int × Bool).1 ≤ 1000 ∧ 0 ≤ (if (numP s j).2.1 = j then (0, m, i, false) else ((numP s j).1, m, (numP s j).2.1, (numP s j).2.2) : Int × Int × Int × Bool).2.1 ∧ (if (numP s j).2.1 = j then (0, m, i, false) else ((numP s j).1, m, (numP s j).2.1, (numP s j).2.2) : Int × Int × Int × Bool).2.1 ≤ 2 ∧ i ≤ (if (numP s j).2.1 = j then (0, m, i, false) else ((numP s j).1, m, (numP s j).2.1, (numP s j).2.2) : Int × Int × Int × Bool).2.2.1 ∧ (if (numP s j).2.1 = j then (0, m, i, false) else ((numP s j).1, m, (numP s j).2.1, (numP s j).2.2) : Int × Int × Int × Bool).2.2.1 ≤ s.size ∧ ((if (numP s j).2.1 = j then (0, m, i, false) else ((numP s j).1, m, (numP s j).2.1, (numP s j).2.2) : Int × Int × Int × Bool).2.2.2 = false → (if (numP s j).2.1 = j then (0, m, i, false) else ((numP s j).1, m, (numP s j).2.1, (numP s j).2.2) : Int × Int × Int × Bool).1 ≤ 255) := by
    intro m j h0 h2 h3 h4
    have hn := numP_range s j
    split
    · exact ⟨by simp, by simp, h0, h2, by simp, by simp; omega, by simp⟩
    · exact ⟨hn.1, hn.2.1, h0, h2, by simp only; omega, hn.2.2.2.1 h4, hn.2.2.2.2⟩
  unfold signedP
  by_cases e1 : isP s i (bs [45]) = true
  · have := isP_le e1
    have hb : (bs [45]).size = 1 := rfl
    simp only [e1, if_true]
    exact key 1 (i + 1) (by omega) (by omega) (by omega) (by omega)
  · by_cases e2 : isP s i (bs [43]) = true
    · have := isP_le e2
      have hb : (bs [43]).size = 1 := rfl
      simp only [e1, e2, if_true, if_false]
      exact key 2 (i + 1) (by omega) (by omega) (by omega) (by omega)
    · simp only [e1, e2, if_false]
      exact key 0 i (by omega) (by omega) (by omega) h1
theorem referK_le (s : ByteArray) (i : Int) (h : i ≤ s.size) : i + (referK s i).2.size ≤ s.size ∧ (referK s i).2.size ≤ 1 ∧ ((referK s i).2 ≠ bs [] → (referK s i).2.size = 1) := by
  have h123 : (bs [125]).size = 1 := rfl
  have h60 : (bs [62]).size = 1 := rfl
  have h39 : (bs [39]).size = 1 := rfl
  have h0 : (bs []).size = 0 := rfl
  unfold referK
  simp only
  split
  · rename_i e; have := isP_le e; have hb : (bs [39]).size = 1 := rfl; exact ⟨by simp only; omega, by simp only; omega, fun _ => rfl⟩
  split
  · rename_i e; have := isP_le e; have hb : (bs [60]).size = 1 := rfl; exact ⟨by simp only; omega, by simp only; omega, fun _ => rfl⟩
  split
  · rename_i e; have := isP_le e; have hb : (bs [123]).size = 1 := rfl; exact ⟨by simp only; omega, by simp only; omega, fun _ => rfl⟩
  · exact ⟨by simp only; omega, by simp only; omega, fun q => absurd rfl q⟩
theorem refer_c (x : Text) (a i : Int) (hx : x.s.size ≤ 100000) (h0 : 0 ≤ i) (h1 : i ≤ x.s.size) :
    VCalls Try.prog 100 [x.enc, iv a, iv i] (fun r => r = (referP x a i).enc) := by
  refine VCalls.ofr tabOk Try.func100 (by decide) rfl rfl ?_
  refine RWP.seqx tabOk orders ?_
  conv => whnf
  refine RWP.seqx tabOk orders ?_
  conv => whnf
  refine RWP.seqx tabOk orders ?_
  conv => whnf
  refine RWP.cut (fun st => st = ⟨101, [(1, .pv (iv a)), (2, .pv (iv i)), (3, .ptr 3 0), (6, .ptr 6 0), (7, .pv (iv 11)), (8, .pv (sv (if isP x.s i (bs [123]) = true then bs [125] else bs [])))], [(3, (82, x.cells)), (6, (90, gzero))], [], []⟩) tabOk orders ?_ ?_
  · conv => whnf
    refine VCalls.mono (is_c x i (bs [123]) h0 (by omega) (by omega) (by decide)) ?_; rintro _ rfl
    conv => whnf
    refine Spl.any (fun h => ?_) (fun h => ?_)
    · conv => whnf
      exact ⟨_, Wk.narrow _ [1, 2, 3, 6, 7, 8] [3, 6] [], by rw [if_pos h]; rfl⟩
    · conv => whnf
      exact ⟨_, Wk.narrow _ [1, 2, 3, 6, 7, 8] [3, 6] [], by rw [if_neg (by simp [h])]; rfl⟩
  rintro _ rfl
  generalize hc1 : (if isP x.s i (bs [123]) = true then bs [125] else bs []) = c1
  refine RWP.cut (fun st => st = ⟨101, [(1, .pv (iv a)), (2, .pv (iv i)), (3, .ptr 3 0), (6, .ptr 6 0), (7, .pv (iv (if isP x.s i (bs [60]) = true then (12, bs [62]) else (11, c1) : Int × ByteArray).1)), (8, .pv (sv (if isP x.s i (bs [60]) = true then (12, bs [62]) else (11, c1) : Int × ByteArray).2))], [(3, (82, x.cells)), (6, (90, gzero))], [], []⟩) tabOk orders ?_ ?_
  · conv => whnf
    refine VCalls.mono (is_c x i (bs [60]) h0 (by omega) (by omega) (by decide)) ?_; rintro _ rfl
    conv => whnf
    refine Spl.any (fun h => ?_) (fun h => ?_)
    · conv => whnf
      exact ⟨_, Wk.narrow _ [1, 2, 3, 6, 7, 8] [3, 6] [], by rw [if_pos h]; rfl⟩
    · conv => whnf
      exact ⟨_, Wk.narrow _ [1, 2, 3, 6, 7, 8] [3, 6] [], by rw [if_neg (by simp [h])]; rfl⟩
  rintro _ rfl
  generalize hp2 : (if isP x.s i (bs [60]) = true then (12, bs [62]) else (11, c1) : Int × ByteArray) = p2
  have hK : referK x.s i = if isP x.s i (bs [39]) = true then (12, bs [39]) else p2 := by unfold referK; simp only; rw [hc1, hp2]
  have hle := referK_le x.s i h1
  refine RWP.cut (fun st => st = ⟨101, [(1, .pv (iv a)), (2, .pv (iv i)), (3, .ptr 3 0), (6, .ptr 6 0), (7, .pv (iv (referK x.s i).1)), (8, .pv (sv (referK x.s i).2))], [(3, (82, x.cells)), (6, (90, gzero))], [], []⟩) tabOk orders ?_ ?_
  · conv => whnf
    refine VCalls.mono (is_c x i (bs [39]) h0 (by omega) (by omega) (by decide)) ?_; rintro _ rfl
    conv => whnf
    refine Spl.any (fun h => ?_) (fun h => ?_)
    · conv => whnf
      exact ⟨_, Wk.narrow _ [1, 2, 3, 6, 7, 8] [3, 6] [], by rw [hK, if_pos h]; rfl⟩
    · conv => whnf
      exact ⟨_, Wk.narrow _ [1, 2, 3, 6, 7, 8] [3, 6] [], by rw [hK, if_neg (by simp [h])]; rfl⟩
  rintro _ rfl
  unfold referP
  simp only
  clear hK hp2 hc1
  generalize referK x.s i = kc at *
  obtain ⟨kind, cl⟩ := kc
  simp only at hle ⊢
  have hq := signedP_range x.s (i + cl.size) (by omega)
  have hr := nameTo_range x.s (i + cl.size) (by omega)
  refine RWP.of tabOk orders ?_
  repeat' ((conv => whnf); (first
    | (with_reducible first | refine Spl.yes ?_ | refine Spl.no ?_ | refine Spl.dec (fun h => ?_) (fun h => ?_) | refine Spl.eq (fun h => ?_) (fun h => ?_) | refine Spl.ne (fun h => ?_) (fun h => ?_) | refine Spl.seq (fun h => ?_) (fun h => ?_) | refine Spl.not ?_ | refine Spl.any (fun h => ?_) (fun h => ?_))
    | (refine VCalls.mono (signed_c x (i + cl.size) (by omega) (by omega) (by omega)) ?_; rintro _ rfl)
    | (refine VCalls.mono (is_c x (signedP x.s (i + cl.size)).2.2.1 cl (by omega) (by omega) (by omega) (by omega)) ?_; rintro _ rfl)
    | (refine VCalls.mono (name_c x (i + cl.size) (by omega) (by omega) (by omega)) ?_; rintro _ rfl)
    | (refine VCalls.mono (is_c x (nameTo x.s (i + cl.size)) cl (by omega) (by omega) (by omega) (by omega)) ?_; rintro _ rfl)
    | (refine VCalls.mono (tok_c { tokZ with kind := kind, n := (signedP x.s (i + cl.size)).1, m := (signedP x.s (i + cl.size)).2.1 } a _) ?_; rintro _ rfl)
    | (refine VCalls.mono (tok_c { tokZ with kind := kind, name := nameAt x.s (i + cl.size), m := 3 } a _) ?_; rintro _ rfl)
    | (refine VCalls.mono (bad_c _ _) ?_; rintro _ rfl)
    | ((with_reducible apply And.intro); first | omega | rfl)))
  all_goals (conv => whnf)
  all_goals (apply enc_by; (focus ((repeat (first | (apply ite_yes; (focus first | assumption | (simp [*]; done))) | (apply ite_no; (focus first | assumption | exact b_nt (by assumption) | exact b_nf (by assumption) | (simp [*]; done))))); exact rfl)); rfl)
end Go.Proofs.Ytnoohgiecnmajaa.VC

/- The lexer of the document: verbs. -/
namespace Go.Proofs.Ytnoohgiecnmajaa.VC
open Go Go.RowKit
set_option linter.unusedVariables false
set_option linter.unusedSimpArgs false
set_option maxHeartbeats 4000000

/-- The first place from i on where the byte is c, or the end. -/
def stopL (s : ByteArray) (c : Int) : Nat → Int → Int
  | 0, i => i
  | k + 1, i => if i < s.size ∧ byteAt s i ≠ c then stopL s c k (i + 1) else i
def stopAt (s : ByteArray) (c : Int) (i : Int) : Int := stopL s c (s.size - i).toNat i
theorem stopL_range (s : ByteArray) (c : Int) : ∀ (k : Nat) (i : Int), i ≤ s.size → i ≤ stopL s c k i ∧ stopL s c k i ≤ s.size
  | 0, i, h => by simp [stopL]; omega
  | k + 1, i, h => by
    unfold stopL
    split
    · have := stopL_range s c k (i + 1) (by omega)
      omega
    · omega
theorem stopAt_range (s : ByteArray) (c : Int) (i : Int) (h : i ≤ s.size) : i ≤ stopAt s c i ∧ stopAt s c i ≤ s.size := stopL_range s c _ i h
theorem stopL_end {s : ByteArray} {c : Int} {k : Nat} {i : Int} (hk : k = (s.size - i).toNat) (h : ¬ i < s.size ∨ byteAt s i = c) : stopL s c k i = i := by
  cases k with
  | zero => rfl
  | succ k => rw [stopL, if_neg (by rcases h with q | q
                                    · omega
                                    · simp [q])]
theorem stopL_go {s : ByteArray} {c : Int} {k : Nat} {i : Int} (h1 : i < s.size) (h : byteAt s i ≠ c) : stopL s c (k + 1) i = stopL s c k (i + 1) := by
  rw [stopL, if_pos ⟨h1, h⟩]
def verbN (s : ByteArray) : Int :=
  if s = bs [65, 67, 67, 69, 80, 84] then 1 else if s = bs [70, 65, 73, 76] then 2 else if s = bs [70] then 2
  else if s = bs [67, 79, 77, 77, 73, 84] then 3 else if s = bs [80, 82, 85, 78, 69] then 4 else if s = bs [83, 75, 73, 80] then 5
  else if s = bs [84, 72, 69, 78] then 6 else if s = bs [77, 65, 82, 75] then 7 else if s = bs [] then 7 else 0
def verbHead (s : ByteArray) : ByteArray := if stopAt s 58 0 < s.size then s.extract 0 (stopAt s 58 0).toNat else s
def verbArg (s : ByteArray) : ByteArray := if stopAt s 58 0 < s.size then s.extract (stopAt s 58 0 + 1).toNat s.size else bs []
def verbWith (s : ByteArray) : Bool := decide (stopAt s 58 0 < s.size)
def verbBad (k : Int) (w : Bool) (arg : ByteArray) : Bool := if k = 0 then true else if w = true then (if arg = bs [] then true else if k = 1 then true else if k = 2 then true else false) else if k = 7 then true else false
def verbP (x : Text) (a : Int) : Got :=
  let i := stopAt x.s 41 (a + 2)
  let s := x.s.extract (a + 2).toNat i.toNat
  if i = x.s.size then endG x
  else if verbBad (verbN (verbHead s)) (verbWith s) (verbArg s) = true then badG 28 a
  else tokG { tokZ with kind := 13, n := verbN (verbHead s), name := verbArg s } a (i + 1)
theorem verb_c (x : Text) (a : Int) (hx : x.s.size ≤ 100000) (h0 : 0 ≤ a) (h1 : a + 2 ≤ x.s.size) :
    VCalls Try.prog 106 [x.enc, iv a] (fun r => r = (verbP x a).enc) := by
  refine VCalls.ofr tabOk Try.func106 (by decide) rfl rfl ?_
  refine RWP.seqx tabOk orders ?_
  conv => whnf
  refine RWP.seqx tabOk orders ?_
  repeat ((conv => whnf); ((with_reducible apply And.intro); first | omega | rfl | (dsimp only; omega)))
  conv => whnf
  have hr := stopAt_range x.s 41 (a + 2) h1
  refine RWP.cut (fun st => st = ⟨111, [(1, .pv (iv a)), (2, .ptr 2 0), (4, .ptr 4 0), (5, .pv (iv (stopAt x.s 41 (a + 2))))], [(2, (82, x.cells)), (4, (90, gzero))], [], []⟩) tabOk orders ?_ ?_
  · conv => whnf
    refine ⟨fun k st => ∃ j, st = ⟨111, [(1, .pv (iv a)), (2, .ptr 2 0), (4, .ptr 4 0), (5, .pv (iv j))], [(2, (82, x.cells)), (4, (90, gzero))], [], []⟩ ∧ a + 2 ≤ j ∧ j ≤ x.s.size ∧ k = (x.s.size - j).toNat ∧ stopAt x.s 41 (a + 2) = stopL x.s 41 k j,
      ⟨_, _, Wk.narrow _ [1, 2, 4, 5] [2, 4] [], a + 2, rfl, by omega, h1, rfl, rfl⟩, ?_⟩
    rintro k st ⟨j, rfl, hj0, hj1, hk, hP⟩
    repeat' ((conv => whnf); (first | (with_reducible first | refine Spl.yes ?_ | refine Spl.no ?_ | refine Spl.dec (fun h => ?_) (fun h => ?_) | refine Spl.eq (fun h => ?_) (fun h => ?_) | refine Spl.ne (fun h => ?_) (fun h => ?_) | refine Spl.seq (fun h => ?_) (fun h => ?_) | refine Spl.not ?_ | refine Spl.any (fun h => ?_) (fun h => ?_)) | ((with_reducible apply And.intro); first | omega | rfl | (dsimp only; omega))))
    all_goals (conv => whnf)
    all_goals first
      | (obtain ⟨k, rfl⟩ : ∃ m, k = m + 1 := ⟨k - 1, by omega⟩
         rw [stopL_go (by assumption) (by assumption)] at hP
         exact ⟨k, _, by omega, Wk.narrow _ [1, 2, 4, 5] [2, 4] [], j + 1, rfl, by omega, by omega, by omega, hP⟩)
      | (have e : stopAt x.s 41 (a + 2) = j := by rw [hP]; exact stopL_end hk (by first | exact .inl (by assumption) | exact .inr (by assumption))
         exact ⟨_, Wk.narrow _ [1, 2, 4, 5] [2, 4] [], by rw [e]; rfl⟩)
  rintro _ rfl
  unfold verbP
  simp only
  generalize stopAt x.s 41 (a + 2) = i at *
  refine RWP.seqx tabOk orders ?_
  repeat' ((conv => whnf); (first | (with_reducible first | refine Spl.yes ?_ | refine Spl.no ?_ | refine Spl.dec (fun h => ?_) (fun h => ?_) | refine Spl.eq (fun h => ?_) (fun h => ?_) | refine Spl.ne (fun h => ?_) (fun h => ?_) | refine Spl.seq (fun h => ?_) (fun h => ?_) | refine Spl.not ?_ | refine Spl.any (fun h => ?_) (fun h => ?_)) | (refine VCalls.mono (end_c x) ?_; rintro _ rfl) | ((with_reducible apply And.intro); first | omega | rfl | (dsimp only; omega))))
  · conv => whnf
    rw [if_pos (by assumption)]
    rfl
  rw [if_neg (by assumption)]
  refine RWP.seqx tabOk orders ?_
  repeat ((conv => whnf); ((with_reducible apply And.intro); first | omega | rfl | (dsimp only; omega)))
  conv => whnf
  refine RWP.seqx tabOk orders ?_
  conv => whnf
  refine RWP.seqx tabOk orders ?_
  conv => whnf
  have hsz : (x.s.extract (a + 2).toNat i.toNat).size ≤ 100000 := by rw [ByteArray.size_extract]; omega
  refine RWP.cut (fun st => st = ⟨111, [(1, .pv (iv a)), (2, .ptr 2 0), (4, .ptr 4 0), (5, .pv (iv i)), (6, .pv (sv (verbHead (x.s.extract (a + 2).toNat i.toNat)))), (7, .pv (sv (verbArg (x.s.extract (a + 2).toNat i.toNat)))), (8, .pv (bv (verbWith (x.s.extract (a + 2).toNat i.toNat))))], [(2, (82, x.cells)), (4, (90, gzero))], [], []⟩) tabOk orders ?_ ?_
  · conv => whnf
    refine ⟨fun k st => ∃ j, st = ⟨111, [(1, .pv (iv a)), (2, .ptr 2 0), (4, .ptr 4 0), (5, .pv (iv i)), (6, .pv (sv (x.s.extract (a + 2).toNat i.toNat))), (7, .pv (sv (bs []))), (8, .pv (bv false)), (9, .pv (iv j))], [(2, (82, x.cells)), (4, (90, gzero))], [], []⟩ ∧ 0 ≤ j ∧ j ≤ (x.s.extract (a + 2).toNat i.toNat).size ∧ k = ((x.s.extract (a + 2).toNat i.toNat).size - j).toNat ∧ stopAt (x.s.extract (a + 2).toNat i.toNat) 58 0 = stopL (x.s.extract (a + 2).toNat i.toNat) 58 k j,
      ⟨_, _, Wk.narrow _ [1, 2, 4, 5, 6, 7, 8, 9] [2, 4] [], 0, rfl, by omega, by omega, rfl, rfl⟩, ?_⟩
    generalize x.s.extract (a + 2).toNat i.toNat = s at *
    rintro k st ⟨j, rfl, hj0, hj1, hk, hP⟩
    repeat' ((conv => whnf); (first | (with_reducible first | refine Spl.yes ?_ | refine Spl.no ?_ | refine Spl.dec (fun h => ?_) (fun h => ?_) | refine Spl.eq (fun h => ?_) (fun h => ?_) | refine Spl.ne (fun h => ?_) (fun h => ?_) | refine Spl.seq (fun h => ?_) (fun h => ?_) | refine Spl.not ?_ | refine Spl.any (fun h => ?_) (fun h => ?_)) | ((with_reducible apply And.intro); first | omega | rfl | (dsimp only; omega))))
    all_goals (conv => whnf)
    all_goals first
      | (obtain ⟨k, rfl⟩ : ∃ m, k = m + 1 := ⟨k - 1, by omega⟩
         rw [stopL_go (by assumption) (by assumption)] at hP
         exact ⟨k, _, by omega, Wk.narrow _ [1, 2, 4, 5, 6, 7, 8, 9] [2, 4] [], j + 1, rfl, by omega, by omega, by omega, hP⟩)
      | (have e : stopAt s 58 0 = j := by rw [hP]; exact stopL_end hk (by first | exact .inl (by assumption) | exact .inr (by assumption))
         refine ⟨_, Wk.narrow _ [1, 2, 4, 5, 6, 7, 8] [2, 4] [], ?_⟩
         unfold verbHead verbArg verbWith
         rw [e]
         first
           | (have hh : j < s.size := by assumption
              rw [if_pos hh, if_pos hh, decide_eq_true hh]; rfl)
           | (have hh : ¬ j < s.size := by assumption
              rw [if_neg hh, if_neg hh, decide_eq_false hh]; rfl))
  rintro _ rfl
  generalize x.s.extract (a + 2).toNat i.toNat = s at *
  generalize verbHead s = hd
  generalize verbWith s = w
  generalize verbArg s = arg
  refine RWP.seqx tabOk orders ?_
  conv => whnf
  refine RWP.cut (fun st => st = ⟨111, [(1, .pv (iv a)), (2, .ptr 2 0), (4, .ptr 4 0), (5, .pv (iv i)), (6, .pv (sv hd)), (7, .pv (sv arg)), (8, .pv (bv w)), (10, .pv (iv (verbN hd)))], [(2, (82, x.cells)), (4, (90, gzero))], [], []⟩) tabOk orders ?_ ?_
  · unfold verbN
    repeat' ((conv => whnf); (first | (with_reducible first | refine Spl.yes ?_ | refine Spl.no ?_ | refine Spl.dec (fun h => ?_) (fun h => ?_) | refine Spl.eq (fun h => ?_) (fun h => ?_) | refine Spl.ne (fun h => ?_) (fun h => ?_) | refine Spl.seq (fun h => ?_) (fun h => ?_) | refine Spl.not ?_ | refine Spl.any (fun h => ?_) (fun h => ?_)) | ((with_reducible apply And.intro); first | omega | rfl | (dsimp only; omega))))
    all_goals (try (exfalso; contradiction))
    all_goals (conv => whnf)
    all_goals (refine ⟨_, Wk.narrow _ [1, 2, 4, 5, 6, 7, 8, 10] [2, 4] [], ?_⟩)
    all_goals (repeat (first | rw [if_pos (by assumption)] | rw [if_neg (by assumption)]))
    all_goals rfl
  rintro _ rfl
  generalize verbN hd = k
  refine RWP.of tabOk orders ?_
  repeat' ((conv => whnf); (first
    | (with_reducible first | refine Spl.yes ?_ | refine Spl.no ?_ | refine Spl.dec (fun h => ?_) (fun h => ?_) | refine Spl.eq (fun h => ?_) (fun h => ?_) | refine Spl.ne (fun h => ?_) (fun h => ?_) | refine Spl.seq (fun h => ?_) (fun h => ?_) | refine Spl.not ?_ | refine Spl.any (fun h => ?_) (fun h => ?_))
    | (refine VCalls.mono (bad_c _ _) ?_; rintro _ rfl)
    | (refine VCalls.mono (tok_c { tokZ with kind := 13, n := k, name := arg } a (i + 1)) ?_; rintro _ rfl)
    | ((with_reducible apply And.intro); first | omega | rfl | (dsimp only; omega))))
  all_goals (conv => whnf)
  all_goals (try (exfalso; simp_all; done))
  all_goals (unfold verbBad)
  all_goals (apply enc_by; (focus ((repeat (first | (apply ite_yes; (focus first | assumption | omega)) | (apply ite_no; (focus first | assumption | exact b_nt (by assumption) | exact b_nf (by assumption) | omega)) | (apply ite_yes; (focus (first | (simp [*]; done) | (simp [*, bs]; done)))) | (apply ite_no; (focus (first | (simp [*]; done) | (simp [*, bs]; done)))))); exact rfl)); rfl)
end Go.Proofs.Ytnoohgiecnmajaa.VC

/- The lexer of the document: braced text, conditions. -/
namespace Go.Proofs.Ytnoohgiecnmajaa.VC
open Go Go.RowKit
set_option linter.unusedVariables false
set_option linter.unusedSimpArgs false
set_option maxHeartbeats 4000000

theorem fn_by {α : Type} {f : α → SV} {g g' : α} {L : SV} (h : g = g') (h2 : L = f g) : L = f g' := by rw [← h]; exact h2
theorem nameTo_rng (s : ByteArray) (i : Int) : i ≤ nameTo s i ∧ (nameTo s i ≤ i ∨ nameTo s i ≤ s.size) := by
  by_cases h : i ≤ s.size
  · have := nameTo_range s i h; omega
  · unfold nameTo
    have e : ((s.size : Int) - i).toNat = 0 := by omega
    rw [e]; unfold nameEnd; omega
theorem nextP_rng (l : List Int) (a : Int) (u : Bool) : a ≤ (nextP l a u).2 ∧ (a ≤ l.length → (nextP l a u).2 ≤ l.length) := by
  have hr := atP_range l a
  unfold nextP
  split
  · exact ⟨by simp, by simp⟩
  split
  · simp only; omega
  · simp only; omega
theorem charP_rng (x : Text) (i : Int) (h : i ≤ x.s.size) : i ≤ (charP x i).2 ∧ (charP x i).2 ≤ x.s.size := by
  have := nextP_rng (numsOf x.s) i x.utf
  rw [numsOf_len] at this
  exact ⟨this.1, this.2 h⟩
attribute [local irreducible] isP numP signedP nameTo nameAt nameOk byteAt charP stopAt hexaP seqP atP nextP codeOf
@[reducible] def siE (p : ByteArray × Int) : SV := .tuple [sv p.1, iv p.2]
def bracedP (x : Text) (i : Int) : ByteArray × Int :=
  if i ≥ x.s.size then (bs [], -1)
  else if byteAt x.s i ≠ 123 then (x.s.extract i.toNat (charP x i).2.toNat, (charP x i).2)
  else if stopAt x.s 125 (i + 1) < x.s.size then (x.s.extract (i + 1).toNat (stopAt x.s 125 (i + 1)).toNat, stopAt x.s 125 (i + 1) + 1)
  else (bs [], -1)
theorem braced_c (x : Text) (i : Int) (hx : x.s.size ≤ 100000) (h0 : 0 ≤ i) (h1 : i ≤ x.s.size) :
    VCalls Try.prog 120 [x.enc, iv i] (fun r => r = siE (bracedP x i)) := by
  have hc := charP_rng x i h1
  refine VCalls.ofx tabOk orders Try.func120 (by decide) rfl rfl ?_
  repeat' ((conv => whnf); (first | (with_reducible first | refine Spl.yes ?_ | refine Spl.no ?_ | refine Spl.dec (fun h => ?_) (fun h => ?_) | refine Spl.eq (fun h => ?_) (fun h => ?_) | refine Spl.ne (fun h => ?_) (fun h => ?_) | refine Spl.seq (fun h => ?_) (fun h => ?_) | refine Spl.not ?_ | refine Spl.any (fun h => ?_) (fun h => ?_)) | (refine VCalls.mono (char_c x i (by omega)) ?_; rintro _ rfl) | ((with_reducible apply And.intro); first | omega | rfl | (dsimp only; omega))))
  · conv => whnf
    unfold bracedP
    (apply fn_by (f := siE); (focus ((repeat (first | (apply ite_yes; (focus first | assumption | omega)) | (apply ite_no; (focus first | assumption | exact b_nt (by assumption) | exact b_nf (by assumption) | omega)) | (apply ite_yes; (focus (first | (simp [*]; done) | (simp [*, bs]; done)))) | (apply ite_no; (focus (first | (simp [*]; done) | (simp [*, bs]; done)))))); exact rfl)); rfl)
  · conv => whnf
    unfold bracedP
    (apply fn_by (f := siE); (focus ((repeat (first | (apply ite_yes; (focus first | assumption | omega)) | (apply ite_no; (focus first | assumption | exact b_nt (by assumption) | exact b_nf (by assumption) | omega)) | (apply ite_yes; (focus (first | (simp [*]; done) | (simp [*, bs]; done)))) | (apply ite_no; (focus (first | (simp [*]; done) | (simp [*, bs]; done)))))); exact rfl)); rfl)
  conv => whnf
  refine ⟨fun k st => ∃ j, st = ⟨53, [(1, .pv (iv i)), (2, .ptr 2 0), (4, .pv (sv (bs []))), (5, .pv (iv 0)), (8, .pv (iv j))], [(2, (82, x.cells))], [], []⟩ ∧ i + 1 ≤ j ∧ j ≤ x.s.size ∧ k = (x.s.size - j).toNat ∧ stopAt x.s 125 (i + 1) = stopL x.s 125 k j,
    ⟨_, _, Wk.narrow _ [1, 2, 4, 5, 8] [2] [], i + 1, rfl, by omega, by omega, rfl, by unfold stopAt; rfl⟩, ?_⟩
  rintro k st ⟨j, rfl, hj0, hj1, hk, hP⟩
  repeat' ((conv => whnf); (first | (with_reducible first | refine Spl.yes ?_ | refine Spl.no ?_ | refine Spl.dec (fun h => ?_) (fun h => ?_) | refine Spl.eq (fun h => ?_) (fun h => ?_) | refine Spl.ne (fun h => ?_) (fun h => ?_) | refine Spl.seq (fun h => ?_) (fun h => ?_) | refine Spl.not ?_ | refine Spl.any (fun h => ?_) (fun h => ?_)) | ((with_reducible apply And.intro); first | omega | rfl | (dsimp only; omega))))
  all_goals (conv => whnf)
  all_goals first
    | (obtain ⟨k, rfl⟩ : ∃ m, k = m + 1 := ⟨k - 1, by omega⟩
       rw [stopL_go (by assumption) (by assumption)] at hP
       exact ⟨k, _, by omega, Wk.narrow _ [1, 2, 4, 5, 8] [2] [], j + 1, rfl, by omega, by omega, by omega, hP⟩)
    | (have e : stopAt x.s 125 (i + 1) = j := by rw [hP]; exact stopL_end hk (by first | exact .inl (by assumption) | exact .inr (by assumption))
       clear hP hk
       unfold bracedP
       rw [e]
       (apply fn_by (f := siE); (focus ((repeat (first | (apply ite_yes; (focus first | assumption | omega)) | (apply ite_no; (focus first | assumption | exact b_nt (by assumption) | exact b_nf (by assumption) | omega)) | (apply ite_yes; (focus (first | (simp [*]; done) | (simp [*, bs]; done)))) | (apply ite_no; (focus (first | (simp [*]; done) | (simp [*, bs]; done)))))); exact rfl)); rfl))
end Go.Proofs.Ytnoohgiecnmajaa.VC

/- The lexer of the document: conditions. -/
namespace Go.Proofs.Ytnoohgiecnmajaa.VC
open Go Go.RowKit
set_option linter.unusedVariables false
set_option linter.unusedSimpArgs false
set_option maxHeartbeats 4000000

def condFin (x : Text) (a : Int) (t : Tok) (to : Int) (ok : Bool) : Got :=
  if ok = false then badG 32 a else if isP x.s to (bs [41]) = false then badG 32 a else if t.n = 9 ∧ t.mode = 0 then badG 25 a else tokG t a (to + 1)
def condClose (s : ByteArray) (i : Int) : ByteArray := if byteAt s i ≠ 60 then bs [39] else bs [62]
def condCells (n m mode : Int) (name : ByteArray) : List FE := [.pv (iv 10), .pv (iv 0), .pv (iv 0), .pv (iv 0), .pv (.val nilV), .pv (bv false), .pv (iv n), .pv (iv m), .pv (iv mode), .pv (sv name), .pv (iv 0), .pv (iv 0)]
def condRest (x : Text) (a i : Int) : Got :=
  if isP x.s i (bs [60]) = true ∨ isP x.s i (bs [39]) = true then
    condFin x a { tokZ with kind := 10, n := 10, name := nameAt x.s (i + 1) } (nameTo x.s (i + 1) + 1) (if nameOk (nameAt x.s (i + 1)) = false then false else isP x.s (nameTo x.s (i + 1)) (condClose x.s i))
  else if isP x.s i (bs [68, 69, 70, 73, 78, 69]) = true then condFin x a { tokZ with kind := 10, n := 12 } (i + 6) true
  else if isP x.s i (bs [82, 38]) = true then condFin x a { tokZ with kind := 10, n := 11, m := 3, name := nameAt x.s (i + 2) } (nameTo x.s (i + 2)) (nameOk (nameAt x.s (i + 2)))
  else if isP x.s i (bs [82]) = true then
    (if (numP x.s (i + 1)).2.2 = true then badG 25 a
     else if (numP x.s (i + 1)).2.1 = i + 1 then condFin x a { tokZ with kind := 10, n := 11, mode := -1 } (numP x.s (i + 1)).2.1 true
     else condFin x a { tokZ with kind := 10, n := 11, mode := (numP x.s (i + 1)).1 } (numP x.s (i + 1)).2.1 true)
  else if (signedP x.s i).2.2.2 = true then badG 25 a
  else condFin x a { tokZ with kind := 10, n := 9, m := (signedP x.s i).2.1, mode := (signedP x.s i).1 } (signedP x.s i).2.2.1 (decide ((signedP x.s i).2.2.1 > i))
def conditionP (x : Text) (a i : Int) : Got :=
  if isP x.s i (bs [63, 61]) = true then tokG { tokZ with kind := 10, n := 13 } a (a + 2)
  else if isP x.s i (bs [63, 33]) = true then tokG { tokZ with kind := 10, n := 13 } a (a + 2)
  else if isP x.s i (bs [63, 60, 61]) = true then tokG { tokZ with kind := 10, n := 13 } a (a + 2)
  else if isP x.s i (bs [63, 60, 33]) = true then tokG { tokZ with kind := 10, n := 13 } a (a + 2)
  else condRest x a i
attribute [local irreducible] isP numP signedP nameTo nameAt nameOk byteAt charP stopAt hexaP seqP atP nextP codeOf
theorem condition_c (x : Text) (a i : Int) (hx : x.s.size ≤ 100000) (ha : 0 ≤ a) (ha1 : a ≤ x.s.size) (h0 : 0 ≤ i) (h1 : i ≤ x.s.size) :
    VCalls Try.prog 109 [x.enc, iv a, iv i] (fun r => r = (conditionP x a i).enc) := by
  have hn1 := nameTo_rng x.s (i + 1)
  have hn2 := nameTo_rng x.s (i + 2)
  have hsg := signedP_range x.s i h1
  have hnm := numP_range x.s (i + 1)
  have l60 : isP x.s i (bs [60]) = true → i + 1 ≤ x.s.size := fun h => by have := isP_le h; have hb : (bs [60]).size = 1 := rfl; omega
  have l39 : isP x.s i (bs [39]) = true → i + 1 ≤ x.s.size := fun h => by have := isP_le h; have hb : (bs [39]).size = 1 := rfl; omega
  have l82 : isP x.s i (bs [82]) = true → i + 1 ≤ x.s.size := fun h => by have := isP_le h; have hb : (bs [82]).size = 1 := rfl; omega
  have l828 : isP x.s i (bs [82, 38]) = true → i + 2 ≤ x.s.size := fun h => by have := isP_le h; have hb : (bs [82, 38]).size = 2 := rfl; omega
  refine VCalls.ofr tabOk Try.func109 (by decide) rfl rfl ?_
  refine RWP.seqx tabOk orders ?_
  conv => whnf
  refine RWP.seqx tabOk orders ?_
  repeat' ((conv => whnf); (first
    | (with_reducible first | refine Spl.yes ?_ | refine Spl.no ?_ | refine Spl.dec (fun h => ?_) (fun h => ?_) | refine Spl.eq (fun h => ?_) (fun h => ?_) | refine Spl.ne (fun h => ?_) (fun h => ?_) | refine Spl.seq (fun h => ?_) (fun h => ?_) | refine Spl.not ?_ | refine Spl.any (fun h => ?_) (fun h => ?_))
    | (refine VCalls.mono (is_c x i (bs [63, 61]) h0 (by omega) (by omega) (by decide)) ?_; rintro _ rfl)
    | (refine VCalls.mono (is_c x i (bs [63, 33]) h0 (by omega) (by omega) (by decide)) ?_; rintro _ rfl)
    | (refine VCalls.mono (is_c x i (bs [63, 60, 61]) h0 (by omega) (by omega) (by decide)) ?_; rintro _ rfl)
    | (refine VCalls.mono (is_c x i (bs [63, 60, 33]) h0 (by omega) (by omega) (by decide)) ?_; rintro _ rfl)
    | (refine VCalls.mono (tok_c { tokZ with kind := 10, n := 13 } a (a + 2)) ?_; rintro _ rfl)
    | ((with_reducible apply And.intro); first | omega | rfl | (dsimp only; omega))))
  all_goals (conv => whnf)
  iterate 4 (
    · unfold conditionP
      (apply enc_by; (focus ((repeat (first | (apply ite_yes; (focus first | assumption | omega)) | (apply ite_no; (focus first | assumption | exact b_nt (by assumption) | exact b_nf (by assumption) | omega)) | (apply ite_yes; (focus (first | (simp [*]; done) | (simp [*, bs]; done)))) | (apply ite_no; (focus (first | (simp [*]; done) | (simp [*, bs]; done)))))); exact rfl)); rfl))
  refine RWP.seqx tabOk orders ?_
  conv => whnf
  refine RWP.seqx tabOk orders ?_
  conv => whnf
  refine RWP.seqx tabOk orders ?_
  conv => whnf
  have e : conditionP x a i = condRest x a i := by unfold conditionP; simp [*]
  rw [e]
  clear e
  refine RWP.cut (fun st => ∃ n m mode name to ok, st = ⟨165, [(1, .pv (iv a)), (2, .pv (iv i)), (3, .ptr 3 0), (6, .ptr 6 0), (7, .ptr 7 0), (8, .pv (iv to)), (9, .pv (bv ok))], [(3, (82, x.cells)), (6, (90, gzero)), (7, (88, condCells n m mode name))], [], []⟩ ∧ condRest x a i = condFin x a { tokZ with kind := 10, n := n, m := m, mode := mode, name := name } to ok ∧ i ≤ to ∧ to ≤ x.s.size + 10) tabOk orders ?_ ?_
  · repeat' ((conv => whnf); (first
    | (with_reducible first | refine Spl.yes ?_ | refine Spl.no ?_ | refine Spl.dec (fun h => ?_) (fun h => ?_) | refine Spl.eq (fun h => ?_) (fun h => ?_) | refine Spl.ne (fun h => ?_) (fun h => ?_) | refine Spl.seq (fun h => ?_) (fun h => ?_) | refine Spl.not ?_ | refine Spl.any (fun h => ?_) (fun h => ?_))
    | (refine VCalls.mono (is_c x i (bs [60]) h0 (by omega) (by omega) (by decide)) ?_; rintro _ rfl)
    | (refine VCalls.mono (is_c x i (bs [39]) h0 (by omega) (by omega) (by decide)) ?_; rintro _ rfl)
    | (refine VCalls.mono (is_c x i (bs [68, 69, 70, 73, 78, 69]) h0 (by omega) (by omega) (by decide)) ?_; rintro _ rfl)
    | (refine VCalls.mono (is_c x i (bs [82, 38]) h0 (by omega) (by omega) (by decide)) ?_; rintro _ rfl)
    | (refine VCalls.mono (is_c x i (bs [82]) h0 (by omega) (by omega) (by decide)) ?_; rintro _ rfl)
    | (refine VCalls.mono (bad_c _ _) ?_; rintro _ rfl)
    | (refine VCalls.mono (signed_c x i (by omega) h0 (by omega)) ?_; rintro _ rfl)
    | (refine VCalls.mono (number_c x (i + 1) (by omega) (by omega) (by omega)) ?_; rintro _ rfl)
    | (refine VCalls.mono (name_c x (i + 2) (by omega) (by omega) (l828 (by assumption))) ?_; rintro _ rfl)
    | (refine VCalls.mono (name_c x (i + 1) (by omega) (by omega) (l60 (by assumption))) ?_; rintro _ rfl)
    | (refine VCalls.mono (name_c x (i + 1) (by omega) (by omega) (l39 (by assumption))) ?_; rintro _ rfl)
    | (refine VCalls.mono (is_c x (nameTo x.s (i + 1)) (bs [39]) (by omega) (by omega) (by omega) (by decide)) ?_; rintro _ rfl)
    | (refine VCalls.mono (is_c x (nameTo x.s (i + 1)) (bs [62]) (by omega) (by omega) (by omega) (by decide)) ?_; rintro _ rfl)
    | (have hh := l60 (by assumption); (with_reducible apply And.intro); omega)
    | (have hh := l39 (by assumption); (with_reducible apply And.intro); omega)
    | ((with_reducible apply And.intro); first | omega | rfl | (dsimp only; omega))))
    all_goals (conv => whnf)
    all_goals (first
      | (exfalso; exact b_nt ‹isP x.s i (bs [60]) = false› ‹_›)
      | (exfalso; exact b_nt ‹isP x.s i (bs [39]) = false› ‹_›)
      | (unfold condRest; (apply enc_by; (focus ((repeat (first | (apply ite_yes; (focus first | assumption | omega)) | (apply ite_no; (focus first | assumption | exact b_nt (by assumption) | exact b_nf (by assumption) | omega)) | (apply ite_yes; (focus (first | (simp [*]; done) | (simp [*, bs]; done)))) | (apply ite_no; (focus (first | (simp [*]; done) | (simp [*, bs]; done)))))); exact rfl)); rfl))
      | (refine ⟨_, Wk.narrow _ [1, 2, 3, 6, 7, 8, 9] [3, 6, 7] [], _, _, _, _, _, _, rfl, ?_, ?_, ?_⟩
         · unfold condRest condClose
           symm
           (repeat (first | (apply ite_yes; (focus first | assumption | omega)) | (apply ite_no; (focus first | assumption | exact b_nt (by assumption) | exact b_nf (by assumption) | omega)) | (apply ite_yes; (focus (first | (simp [*]; done) | (simp [*, bs]; done)))) | (apply ite_no; (focus (first | (simp [*]; done) | (simp [*, bs]; done))))))
           all_goals (first | rfl | (simp [*]; done) | (simp [*]; rfl))
         · omega
         · first | omega | (have hh := hnm.2.2.2.1 (l82 (by assumption)); omega))
      | (unfold condRest; (apply enc_by; (focus ((repeat (first | (apply ite_yes; (focus first | assumption | omega)) | (apply ite_no; (focus first | assumption | exact b_nt (by assumption) | exact b_nf (by assumption) | omega)) | (apply ite_yes; (focus (first | (simp [*]; done) | (simp [*, bs]; done)))) | (apply ite_no; (focus (first | (simp [*]; done) | (simp [*, bs]; done)))))); exact rfl)); rfl)))
  rintro _ ⟨n, m, mode, name, to, ok, rfl, e, ht0, ht1⟩
  rw [e]
  refine RWP.of tabOk orders ?_
  repeat' ((conv => whnf); (first
    | (with_reducible first | refine Spl.yes ?_ | refine Spl.no ?_ | refine Spl.dec (fun h => ?_) (fun h => ?_) | refine Spl.eq (fun h => ?_) (fun h => ?_) | refine Spl.ne (fun h => ?_) (fun h => ?_) | refine Spl.seq (fun h => ?_) (fun h => ?_) | refine Spl.not ?_ | refine Spl.any (fun h => ?_) (fun h => ?_))
    | (refine VCalls.mono (is_c x to (bs [41]) (by omega) (by omega) (by omega) (by decide)) ?_; rintro _ rfl)
    | (refine VCalls.mono (bad_c _ _) ?_; rintro _ rfl)
    | (refine VCalls.mono (tok_c { tokZ with kind := 10, n := n, m := m, mode := mode, name := name } a (to + 1)) ?_; rintro _ rfl)
    | ((with_reducible apply And.intro); first | omega | rfl | (dsimp only; omega))))
  all_goals (conv => whnf)
  all_goals unfold condFin
  all_goals (apply enc_by; (focus ((repeat (first | (apply ite_yes; (focus first | assumption | omega)) | (apply ite_no; (focus first | assumption | exact b_nt (by assumption) | exact b_nf (by assumption) | omega)) | (apply ite_yes; (focus (first | (simp [*]; done) | (simp [*, bs]; done)))) | (apply ite_no; (focus (first | (simp [*]; done) | (simp [*, bs]; done)))))); exact rfl)); rfl)
end Go.Proofs.Ytnoohgiecnmajaa.VC

/- The lexer of the document: what a bracket opens. -/
namespace Go.Proofs.Ytnoohgiecnmajaa.VC
open Go Go.RowKit
set_option linter.unusedVariables false
set_option linter.unusedSimpArgs false
set_option maxHeartbeats 4000000

def openList : List (ByteArray × Int) := [(bs [58], 2), (bs [124], 3), (bs [62], 4), (bs [61], 5), (bs [33], 6), (bs [60, 61], 7), (bs [60, 33], 8)]
def openL (x : Text) (a i : Int) (g : Got) : List (ByteArray × Int) → Got
  | [] => g
  | p :: l => if isP x.s i p.1 = true then tokG { tokZ with kind := 10, n := p.2 } a (i + p.1.size) else openL x a i g l
def openTail (x : Text) (a i : Int) : Got :=
  if byteAt x.s i = 43 ∨ digitP (byteAt x.s i) = true ∨ (byteAt x.s i = 45 ∧ i + 1 < x.s.size ∧ digitP (byteAt x.s (i + 1)) = true) then
    (if (signedP x.s i).2.2.2 = true then badG 25 a
     else if (signedP x.s i).2.2.1 = i then (if i + 1 = x.s.size then endG x else badG 26 a)
     else if (shutP x { tokZ with kind := 12, n := (signedP x.s i).1, m := (signedP x.s i).2.1 } a (signedP x.s i).2.2.1 (bs [41]) 26).e = 0 ∧ (signedP x.s i).1 = 0 ∧ (signedP x.s i).2.1 ≠ 0 then badG 25 a
     else shutP x { tokZ with kind := 12, n := (signedP x.s i).1, m := (signedP x.s i).2.1 } a (signedP x.s i).2.2.1 (bs [41]) 26)
  else flagsP x a i
def openRest (x : Text) (a i : Int) : Got :=
  if isP x.s i (bs [35]) = true then (if stopAt x.s 41 i = x.s.size then endG x else skipG (stopAt x.s 41 i + 1))
  else if isP x.s i (bs [80, 60]) = true then calledP x { tokZ with kind := 10, n := 1 } a (i + 2) (bs [62])
  else if isP x.s i (bs [60]) = true then calledP x { tokZ with kind := 10, n := 1 } a (i + 1) (bs [62])
  else if isP x.s i (bs [39]) = true then calledP x { tokZ with kind := 10, n := 1 } a (i + 1) (bs [39])
  else if isP x.s i (bs [80, 61]) = true then calledP x { tokZ with kind := 11, m := 3 } a (i + 2) (bs [41])
  else if isP x.s i (bs [80, 62]) = true then calledP x { tokZ with kind := 12, m := 3 } a (i + 2) (bs [41])
  else if isP x.s i (bs [38]) = true then calledP x { tokZ with kind := 12, m := 3 } a (i + 1) (bs [41])
  else if isP x.s i (bs [82]) = true then shutP x { tokZ with kind := 12 } a (i + 1) (bs [41]) 26
  else if isP x.s i (bs [67]) = true then
    (if (numP x.s (i + 1)).2.2 = true then badG 25 a
     else shutP x { tokZ with kind := 14, n := (numP x.s (i + 1)).1 } a (numP x.s (i + 1)).2.1 (bs [41]) 26)
  else if isP x.s i (bs [40]) = true then conditionP x a (i + 1)
  else openTail x a i
def openP (x : Text) (a : Int) : Got :=
  if isP x.s (a + 1) (bs [42]) = true then verbP x a
  else if isP x.s (a + 1) (bs [63]) = false then tokG { tokZ with kind := 10, n := 1 } a (a + 1)
  else if a + 2 = x.s.size then endG x
  else openL x a (a + 2) (openRest x a (a + 2)) openList
attribute [local irreducible] isP numP signedP nameTo nameAt nameOk byteAt charP stopAt hexaP seqP atP nextP codeOf
attribute [local irreducible] verbP calledP shutP conditionP flagsP
theorem open_c (x : Text) (a : Int) (hx : x.s.size ≤ 100000) (h0 : 0 ≤ a) (h1 : a < x.s.size) :
    VCalls Try.prog 77 [x.enc, iv a] (fun r => r = (openP x a).enc) := by
  have l42 : isP x.s (a + 1) (bs [42]) = true → a + 2 ≤ x.s.size := fun h => by have := isP_le h; have hb : (bs [42]).size = 1 := rfl; omega
  have l63 : isP x.s (a + 1) (bs [63]) = true → a + 2 ≤ x.s.size := fun h => by have := isP_le h; have hb : (bs [63]).size = 1 := rfl; omega
  refine VCalls.ofr tabOk Try.func77 (by decide) rfl rfl ?_
  refine RWP.seqx tabOk orders ?_
  conv => whnf
  refine RWP.seqx tabOk orders ?_
  repeat' ((conv => whnf); (first
    | (with_reducible first | refine Spl.yes ?_ | refine Spl.no ?_ | refine Spl.dec (fun h => ?_) (fun h => ?_) | refine Spl.eq (fun h => ?_) (fun h => ?_) | refine Spl.ne (fun h => ?_) (fun h => ?_) | refine Spl.seq (fun h => ?_) (fun h => ?_) | refine Spl.not ?_ | refine Spl.any (fun h => ?_) (fun h => ?_))
    | (refine VCalls.mono (is_c x (a + 1) (bs [42]) (by omega) (by omega) (by omega) (by decide)) ?_; rintro _ rfl)
    | (refine VCalls.mono (verb_c x a hx h0 (l42 (by assumption))) ?_; rintro _ rfl)
    | ((with_reducible apply And.intro); first | omega | rfl | (dsimp only; omega))))
  all_goals (conv => whnf)
  · unfold openP
    (apply enc_by; (focus ((repeat (first | (apply ite_yes; (focus first | assumption | omega)) | (apply ite_no; (focus first | assumption | exact b_nt (by assumption) | exact b_nf (by assumption) | omega)) | (apply ite_yes; (focus (first | (simp [*]; done) | (simp [*, bs]; done)))) | (apply ite_no; (focus (first | (simp [*]; done) | (simp [*, bs]; done)))))); exact rfl)); rfl)
  refine RWP.seqx tabOk orders ?_
  repeat' ((conv => whnf); (first
    | (with_reducible first | refine Spl.yes ?_ | refine Spl.no ?_ | refine Spl.dec (fun h => ?_) (fun h => ?_) | refine Spl.eq (fun h => ?_) (fun h => ?_) | refine Spl.ne (fun h => ?_) (fun h => ?_) | refine Spl.seq (fun h => ?_) (fun h => ?_) | refine Spl.not ?_ | refine Spl.any (fun h => ?_) (fun h => ?_))
    | (refine VCalls.mono (is_c x (a + 1) (bs [63]) (by omega) (by omega) (by omega) (by decide)) ?_; rintro _ rfl)
    | (refine VCalls.mono (tok_c { tokZ with kind := 10, n := 1 } a (a + 1)) ?_; rintro _ rfl)
    | ((with_reducible apply And.intro); first | omega | rfl | (dsimp only; omega))))
  all_goals (conv => whnf)
  rotate_left
  · unfold openP
    (apply enc_by; (focus ((repeat (first | (apply ite_yes; (focus first | assumption | omega)) | (apply ite_no; (focus first | assumption | exact b_nt (by assumption) | exact b_nf (by assumption) | omega)) | (apply ite_yes; (focus (first | (simp [*]; done) | (simp [*, bs]; done)))) | (apply ite_no; (focus (first | (simp [*]; done) | (simp [*, bs]; done)))))); exact rfl)); rfl)
  refine RWP.seqx tabOk orders ?_
  repeat' ((conv => whnf); (first
    | (with_reducible first | refine Spl.yes ?_ | refine Spl.no ?_ | refine Spl.dec (fun h => ?_) (fun h => ?_) | refine Spl.eq (fun h => ?_) (fun h => ?_) | refine Spl.ne (fun h => ?_) (fun h => ?_) | refine Spl.seq (fun h => ?_) (fun h => ?_) | refine Spl.not ?_ | refine Spl.any (fun h => ?_) (fun h => ?_))
    | ((with_reducible apply And.intro); first | omega | rfl | (dsimp only; omega))))
  all_goals (conv => whnf)
  refine RWP.seqx tabOk orders ?_
  repeat' ((conv => whnf); (first
    | (with_reducible first | refine Spl.yes ?_ | refine Spl.no ?_ | refine Spl.dec (fun h => ?_) (fun h => ?_) | refine Spl.eq (fun h => ?_) (fun h => ?_) | refine Spl.ne (fun h => ?_) (fun h => ?_) | refine Spl.seq (fun h => ?_) (fun h => ?_) | refine Spl.not ?_ | refine Spl.any (fun h => ?_) (fun h => ?_))
    | (refine VCalls.mono (end_c x) ?_; rintro _ rfl)
    | ((with_reducible apply And.intro); first | omega | rfl | (dsimp only; omega))))
  all_goals (conv => whnf)
  · unfold openP
    (apply enc_by; (focus ((repeat (first | (apply ite_yes; (focus first | assumption | omega)) | (apply ite_no; (focus first | assumption | exact b_nt (by assumption) | exact b_nf (by assumption) | omega)) | (apply ite_yes; (focus (first | (simp [*]; done) | (simp [*, bs]; done)))) | (apply ite_no; (focus (first | (simp [*]; done) | (simp [*, bs]; done)))))); exact rfl)); rfl)
  have h2 : a + 2 < x.s.size := by
    have := l63 (by assumption)
    omega
  have e : openP x a = openL x a (a + 2) (openRest x a (a + 2)) openList := by
    symm
    unfold openP
    (repeat (first | (apply ite_yes; (focus first | assumption | omega)) | (apply ite_no; (focus first | assumption | exact b_nt (by assumption) | exact b_nf (by assumption) | omega)) | (apply ite_yes; (focus (first | (simp [*]; done) | (simp [*, bs]; done)))) | (apply ite_no; (focus (first | (simp [*]; done) | (simp [*, bs]; done))))))
    rfl
  rw [e]
  clear e
  generalize hi : a + 2 = i at *
  refine RWP.seqx tabOk orders ?_
  conv => whnf
  refine RWP.seqx tabOk orders ?_
  conv => whnf
  refine RWP.cut (fun st => st = ⟨286, [(1, .pv (iv a)), (2, .ptr 2 0), (4, .ptr 4 0), (5, .pv (iv i))], [(2, (82, x.cells)), (4, (90, gzero))], [], []⟩ ∧ openL x a i (openRest x a i) openList = openRest x a i) tabOk orders ?_ ?_
  · conv => whnf
    refine ⟨fun k st => ∃ (j : Nat) (v w : Bool), st = ⟨286, [(1, .pv (iv a)), (2, .ptr 2 0), (4, .ptr 4 0), (5, .pv (iv i)), (6, .own 44), (7, .own 45), (8, .pv (iv j))], [(2, (82, x.cells)), (4, (90, gzero))], [(44, ⟨1, 9, v, [[sv (bs [58])], [sv (bs [124])], [sv (bs [62])], [sv (bs [61])], [sv (bs [33])], [sv (bs [60, 61])], [sv (bs [60, 33])]]⟩), (45, ⟨1, 3, w, [[iv 2], [iv 3], [iv 4], [iv 5], [iv 6], [iv 7], [iv 8]]⟩)], []⟩ ∧ j ≤ 7 ∧ k = 7 - j ∧ openL x a i (openRest x a i) openList = openL x a i (openRest x a i) (openList.drop j),
      ⟨_, _, Wk.narrow _ [1, 2, 4, 5, 6, 7, 8] [2, 4] [44, 45], 0, _, _, rfl, by omega, rfl, rfl⟩, ?_⟩
    have z2 : ((bs [58]).size : Int) = 1 := rfl
    have z3 : ((bs [124]).size : Int) = 1 := rfl
    have z4 : ((bs [62]).size : Int) = 1 := rfl
    have z5 : ((bs [61]).size : Int) = 1 := rfl
    have z6 : ((bs [33]).size : Int) = 1 := rfl
    have z7 : ((bs [60, 61]).size : Int) = 2 := rfl
    have z8 : ((bs [60, 33]).size : Int) = 2 := rfl
    rintro k st ⟨j, v, w, rfl, hj, hk, hP⟩
    have h7 : j = 0 ∨ j = 1 ∨ j = 2 ∨ j = 3 ∨ j = 4 ∨ j = 5 ∨ j = 6 ∨ j = 7 := by omega
    rcases h7 with rfl | rfl | rfl | rfl | rfl | rfl | rfl | rfl
    · repeat' ((conv => whnf); (first
        | (with_reducible first | refine Spl.yes ?_ | refine Spl.no ?_ | refine Spl.dec (fun h => ?_) (fun h => ?_) | refine Spl.eq (fun h => ?_) (fun h => ?_) | refine Spl.ne (fun h => ?_) (fun h => ?_) | refine Spl.seq (fun h => ?_) (fun h => ?_) | refine Spl.not ?_ | refine Spl.any (fun h => ?_) (fun h => ?_))
        | refine drawn_text (by decide +kernel) ?_
        | (refine VCalls.mono (is_c x i (bs [58]) (by omega) (by omega) (by omega) (by decide)) ?_; rintro _ rfl)
        | (refine VCalls.mono (tok_c { tokZ with kind := 10, n := 2 } a (i + 1)) ?_; rintro _ rfl)
        | ((with_reducible apply And.intro); first | omega | rfl| (apply And.intro <;> exact Int.NonNeg.mk _) | exact And.intro rfl (Nat.le_of_ble_eq_true rfl))))
      all_goals (first
        | (exfalso; exact h (Int.NonNeg.mk _))
        | (conv => whnf
           first
             | exact enc_by (hP.trans (if_pos h)).symm rfl
             | exact ⟨6, _, by omega, Wk.narrow _ [1, 2, 4, 5, 6, 7, 8] [2, 4] [44, 45], 1, _, _, rfl, by omega, by omega, hP.trans (if_neg (b_nt h))⟩))
    · repeat' ((conv => whnf); (first
        | (with_reducible first | refine Spl.yes ?_ | refine Spl.no ?_ | refine Spl.dec (fun h => ?_) (fun h => ?_) | refine Spl.eq (fun h => ?_) (fun h => ?_) | refine Spl.ne (fun h => ?_) (fun h => ?_) | refine Spl.seq (fun h => ?_) (fun h => ?_) | refine Spl.not ?_ | refine Spl.any (fun h => ?_) (fun h => ?_))
        | refine drawn_text (by decide +kernel) ?_
        | (refine VCalls.mono (is_c x i (bs [124]) (by omega) (by omega) (by omega) (by decide)) ?_; rintro _ rfl)
        | (refine VCalls.mono (tok_c { tokZ with kind := 10, n := 3 } a (i + 1)) ?_; rintro _ rfl)
        | ((with_reducible apply And.intro); first | omega | rfl| (apply And.intro <;> exact Int.NonNeg.mk _) | exact And.intro rfl (Nat.le_of_ble_eq_true rfl))))
      all_goals (first
        | (exfalso; exact h (Int.NonNeg.mk _))
        | (conv => whnf
           first
             | exact enc_by (hP.trans (if_pos h)).symm rfl
             | exact ⟨5, _, by omega, Wk.narrow _ [1, 2, 4, 5, 6, 7, 8] [2, 4] [44, 45], 2, _, _, rfl, by omega, by omega, hP.trans (if_neg (b_nt h))⟩))
    · repeat' ((conv => whnf); (first
        | (with_reducible first | refine Spl.yes ?_ | refine Spl.no ?_ | refine Spl.dec (fun h => ?_) (fun h => ?_) | refine Spl.eq (fun h => ?_) (fun h => ?_) | refine Spl.ne (fun h => ?_) (fun h => ?_) | refine Spl.seq (fun h => ?_) (fun h => ?_) | refine Spl.not ?_ | refine Spl.any (fun h => ?_) (fun h => ?_))
        | refine drawn_text (by decide +kernel) ?_
        | (refine VCalls.mono (is_c x i (bs [62]) (by omega) (by omega) (by omega) (by decide)) ?_; rintro _ rfl)
        | (refine VCalls.mono (tok_c { tokZ with kind := 10, n := 4 } a (i + 1)) ?_; rintro _ rfl)
        | ((with_reducible apply And.intro); first | omega | rfl| (apply And.intro <;> exact Int.NonNeg.mk _) | exact And.intro rfl (Nat.le_of_ble_eq_true rfl))))
      all_goals (first
        | (exfalso; exact h (Int.NonNeg.mk _))
        | (conv => whnf
           first
             | exact enc_by (hP.trans (if_pos h)).symm rfl
             | exact ⟨4, _, by omega, Wk.narrow _ [1, 2, 4, 5, 6, 7, 8] [2, 4] [44, 45], 3, _, _, rfl, by omega, by omega, hP.trans (if_neg (b_nt h))⟩))
    · repeat' ((conv => whnf); (first
        | (with_reducible first | refine Spl.yes ?_ | refine Spl.no ?_ | refine Spl.dec (fun h => ?_) (fun h => ?_) | refine Spl.eq (fun h => ?_) (fun h => ?_) | refine Spl.ne (fun h => ?_) (fun h => ?_) | refine Spl.seq (fun h => ?_) (fun h => ?_) | refine Spl.not ?_ | refine Spl.any (fun h => ?_) (fun h => ?_))
        | refine drawn_text (by decide +kernel) ?_
        | (refine VCalls.mono (is_c x i (bs [61]) (by omega) (by omega) (by omega) (by decide)) ?_; rintro _ rfl)
        | (refine VCalls.mono (tok_c { tokZ with kind := 10, n := 5 } a (i + 1)) ?_; rintro _ rfl)
        | ((with_reducible apply And.intro); first | omega | rfl| (apply And.intro <;> exact Int.NonNeg.mk _) | exact And.intro rfl (Nat.le_of_ble_eq_true rfl))))
      all_goals (first
        | (exfalso; exact h (Int.NonNeg.mk _))
        | (conv => whnf
           first
             | exact enc_by (hP.trans (if_pos h)).symm rfl
             | exact ⟨3, _, by omega, Wk.narrow _ [1, 2, 4, 5, 6, 7, 8] [2, 4] [44, 45], 4, _, _, rfl, by omega, by omega, hP.trans (if_neg (b_nt h))⟩))
    · repeat' ((conv => whnf); (first
        | (with_reducible first | refine Spl.yes ?_ | refine Spl.no ?_ | refine Spl.dec (fun h => ?_) (fun h => ?_) | refine Spl.eq (fun h => ?_) (fun h => ?_) | refine Spl.ne (fun h => ?_) (fun h => ?_) | refine Spl.seq (fun h => ?_) (fun h => ?_) | refine Spl.not ?_ | refine Spl.any (fun h => ?_) (fun h => ?_))
        | refine drawn_text (by decide +kernel) ?_
        | (refine VCalls.mono (is_c x i (bs [33]) (by omega) (by omega) (by omega) (by decide)) ?_; rintro _ rfl)
        | (refine VCalls.mono (tok_c { tokZ with kind := 10, n := 6 } a (i + 1)) ?_; rintro _ rfl)
        | ((with_reducible apply And.intro); first | omega | rfl| (apply And.intro <;> exact Int.NonNeg.mk _) | exact And.intro rfl (Nat.le_of_ble_eq_true rfl))))
      all_goals (first
        | (exfalso; exact h (Int.NonNeg.mk _))
        | (conv => whnf
           first
             | exact enc_by (hP.trans (if_pos h)).symm rfl
             | exact ⟨2, _, by omega, Wk.narrow _ [1, 2, 4, 5, 6, 7, 8] [2, 4] [44, 45], 5, _, _, rfl, by omega, by omega, hP.trans (if_neg (b_nt h))⟩))
    · repeat' ((conv => whnf); (first
        | (with_reducible first | refine Spl.yes ?_ | refine Spl.no ?_ | refine Spl.dec (fun h => ?_) (fun h => ?_) | refine Spl.eq (fun h => ?_) (fun h => ?_) | refine Spl.ne (fun h => ?_) (fun h => ?_) | refine Spl.seq (fun h => ?_) (fun h => ?_) | refine Spl.not ?_ | refine Spl.any (fun h => ?_) (fun h => ?_))
        | refine drawn_text (by decide +kernel) ?_
        | (refine VCalls.mono (is_c x i (bs [60, 61]) (by omega) (by omega) (by omega) (by decide)) ?_; rintro _ rfl)
        | (refine VCalls.mono (tok_c { tokZ with kind := 10, n := 7 } a (i + 2)) ?_; rintro _ rfl)
        | ((with_reducible apply And.intro); first | omega | rfl| (apply And.intro <;> exact Int.NonNeg.mk _) | exact And.intro rfl (Nat.le_of_ble_eq_true rfl))))
      all_goals (first
        | (exfalso; exact h (Int.NonNeg.mk _))
        | (conv => whnf
           first
             | exact enc_by (hP.trans (if_pos h)).symm rfl
             | exact ⟨1, _, by omega, Wk.narrow _ [1, 2, 4, 5, 6, 7, 8] [2, 4] [44, 45], 6, _, _, rfl, by omega, by omega, hP.trans (if_neg (b_nt h))⟩))
    · repeat' ((conv => whnf); (first
        | (with_reducible first | refine Spl.yes ?_ | refine Spl.no ?_ | refine Spl.dec (fun h => ?_) (fun h => ?_) | refine Spl.eq (fun h => ?_) (fun h => ?_) | refine Spl.ne (fun h => ?_) (fun h => ?_) | refine Spl.seq (fun h => ?_) (fun h => ?_) | refine Spl.not ?_ | refine Spl.any (fun h => ?_) (fun h => ?_))
        | refine drawn_text (by decide +kernel) ?_
        | (refine VCalls.mono (is_c x i (bs [60, 33]) (by omega) (by omega) (by omega) (by decide)) ?_; rintro _ rfl)
        | (refine VCalls.mono (tok_c { tokZ with kind := 10, n := 8 } a (i + 2)) ?_; rintro _ rfl)
        | ((with_reducible apply And.intro); first | omega | rfl| (apply And.intro <;> exact Int.NonNeg.mk _) | exact And.intro rfl (Nat.le_of_ble_eq_true rfl))))
      all_goals (first
        | (exfalso; exact h (Int.NonNeg.mk _))
        | (conv => whnf
           first
             | exact enc_by (hP.trans (if_pos h)).symm rfl
             | exact ⟨0, _, by omega, Wk.narrow _ [1, 2, 4, 5, 6, 7, 8] [2, 4] [44, 45], 7, _, _, rfl, by omega, by omega, hP.trans (if_neg (b_nt h))⟩))
    · repeat' ((conv => whnf); (first
        | (with_reducible first | refine Spl.yes ?_ | refine Spl.no ?_ | refine Spl.dec (fun h => ?_) (fun h => ?_) | refine Spl.eq (fun h => ?_) (fun h => ?_) | refine Spl.ne (fun h => ?_) (fun h => ?_) | refine Spl.seq (fun h => ?_) (fun h => ?_) | refine Spl.not ?_ | refine Spl.any (fun h => ?_) (fun h => ?_))
        | ((with_reducible apply And.intro); first | omega | rfl| (apply And.intro <;> exact Int.NonNeg.mk _) | exact And.intro rfl (Nat.le_of_ble_eq_true rfl))))
      all_goals (first
        | (exfalso; exact Int.lt_irrefl 7 h)
        | (exfalso; exact h (Int.NonNeg.mk _))
        | (conv => whnf
           exact ⟨_, Wk.narrow _ [1, 2, 4, 5] [2, 4] [], rfl, hP⟩))
  rintro _ ⟨rfl, e⟩
  rw [e]
  clear e
  have b62 : (bs [62]).size = 1 := rfl
  have b41 : (bs [41]).size = 1 := rfl
  have b39 : (bs [39]).size = 1 := rfl
  have l80_60 : isP x.s i (bs [80, 60]) = true → i + 2 ≤ x.s.size := fun h => by have := isP_le h; have hb : (bs [80, 60]).size = 2 := rfl; omega
  have l80_61 : isP x.s i (bs [80, 61]) = true → i + 2 ≤ x.s.size := fun h => by have := isP_le h; have hb : (bs [80, 61]).size = 2 := rfl; omega
  have l80_62 : isP x.s i (bs [80, 62]) = true → i + 2 ≤ x.s.size := fun h => by have := isP_le h; have hb : (bs [80, 62]).size = 2 := rfl; omega
  have hnm := numP_range x.s (i + 1)
  have hst := stopAt_range x.s 41 i (by omega)
  refine RWP.seqx tabOk orders ?_
  conv => whnf
  have hx6 : x.s.size ≤ 1000000 := by omega
  refine RWP.cut (fun st => st = ⟨286, [(1, .pv (iv a)), (2, .ptr 2 0), (4, .ptr 4 0), (5, .pv (iv i))], [(2, (82, x.cells)), (4, (90, gzero))], [], []⟩ ∧ openRest x a i = openTail x a i) tabOk orders ?_ ?_
  · repeat' ((conv => whnf); (first
    | (with_reducible first | refine Spl.yes ?_ | refine Spl.no ?_ | refine Spl.dec (fun h => ?_) (fun h => ?_) | refine Spl.eq (fun h => ?_) (fun h => ?_) | refine Spl.ne (fun h => ?_) (fun h => ?_) | refine Spl.seq (fun h => ?_) (fun h => ?_) | refine Spl.not ?_ | refine Spl.any (fun h => ?_) (fun h => ?_))
    | (refine VCalls.mono (is_c x i (bs [35]) (by omega) (by omega) (by omega) (by decide)) ?_; rintro _ rfl)
    | (refine VCalls.mono (is_c x i (bs [80, 60]) (by omega) (by omega) (by omega) (by decide)) ?_; rintro _ rfl)
    | (refine VCalls.mono (is_c x i (bs [60]) (by omega) (by omega) (by omega) (by decide)) ?_; rintro _ rfl)
    | (refine VCalls.mono (is_c x i (bs [39]) (by omega) (by omega) (by omega) (by decide)) ?_; rintro _ rfl)
    | (refine VCalls.mono (is_c x i (bs [80, 61]) (by omega) (by omega) (by omega) (by decide)) ?_; rintro _ rfl)
    | (refine VCalls.mono (is_c x i (bs [80, 62]) (by omega) (by omega) (by omega) (by decide)) ?_; rintro _ rfl)
    | (refine VCalls.mono (is_c x i (bs [38]) (by omega) (by omega) (by omega) (by decide)) ?_; rintro _ rfl)
    | (refine VCalls.mono (is_c x i (bs [82]) (by omega) (by omega) (by omega) (by decide)) ?_; rintro _ rfl)
    | (refine VCalls.mono (is_c x i (bs [67]) (by omega) (by omega) (by omega) (by decide)) ?_; rintro _ rfl)
    | (refine VCalls.mono (is_c x i (bs [40]) (by omega) (by omega) (by omega) (by decide)) ?_; rintro _ rfl)
    | (refine VCalls.mono (called_c x { tokZ with kind := 10, n := 1 } a (i + 2) (bs [62]) hx6 (by omega) (l80_60 (by assumption)) (by decide)) ?_; rintro _ rfl)
    | (refine VCalls.mono (called_c x { tokZ with kind := 10, n := 1 } a (i + 1) (bs [62]) hx6 (by omega) (by omega) (by decide)) ?_; rintro _ rfl)
    | (refine VCalls.mono (called_c x { tokZ with kind := 10, n := 1 } a (i + 1) (bs [39]) hx6 (by omega) (by omega) (by decide)) ?_; rintro _ rfl)
    | (refine VCalls.mono (called_c x { tokZ with kind := 11, m := 3 } a (i + 2) (bs [41]) hx6 (by omega) (l80_61 (by assumption)) (by decide)) ?_; rintro _ rfl)
    | (refine VCalls.mono (called_c x { tokZ with kind := 12, m := 3 } a (i + 2) (bs [41]) hx6 (by omega) (l80_62 (by assumption)) (by decide)) ?_; rintro _ rfl)
    | (refine VCalls.mono (called_c x { tokZ with kind := 12, m := 3 } a (i + 1) (bs [41]) hx6 (by omega) (by omega) (by decide)) ?_; rintro _ rfl)
    | (refine VCalls.mono (shut_c x { tokZ with kind := 12 } a (i + 1) (bs [41]) 26 hx6 (by omega) (by omega) (by decide)) ?_; rintro _ rfl)
    | (refine VCalls.mono (number_c x (i + 1) (by omega) (by omega) hx6) ?_; rintro _ rfl)
    | (refine VCalls.mono (bad_c _ _) ?_; rintro _ rfl)
    | (refine VCalls.mono (shut_c x { tokZ with kind := 14, n := (numP x.s (i + 1)).1 } a (numP x.s (i + 1)).2.1 (bs [41]) 26 hx6 (by omega) (by omega) (by decide)) ?_; rintro _ rfl)
    | (refine VCalls.mono (condition_c x a (i + 1) hx h0 (by omega) (by omega) (by omega)) ?_; rintro _ rfl)
    | ((with_reducible apply And.intro); first | omega | rfl | (dsimp only; omega))))
    all_goals (conv => whnf)
    · refine ⟨fun k st => ∃ j, st = ⟨286, [(1, .pv (iv a)), (2, .ptr 2 0), (4, .ptr 4 0), (5, .pv (iv j))], [(2, (82, x.cells)), (4, (90, gzero))], [], []⟩ ∧ i ≤ j ∧ j ≤ x.s.size ∧ k = (x.s.size - j).toNat ∧ stopAt x.s 41 i = stopL x.s 41 k j,
        ⟨_, _, Wk.narrow _ [1, 2, 4, 5] [2, 4] [], i, rfl, by omega, by omega, rfl, by unfold stopAt; rfl⟩, ?_⟩
      rintro k st ⟨j, rfl, hj0, hj1, hk, hP⟩
      repeat' ((conv => whnf); (first
        | (with_reducible first | refine Spl.yes ?_ | refine Spl.no ?_ | refine Spl.dec (fun h => ?_) (fun h => ?_) | refine Spl.eq (fun h => ?_) (fun h => ?_) | refine Spl.ne (fun h => ?_) (fun h => ?_) | refine Spl.seq (fun h => ?_) (fun h => ?_) | refine Spl.not ?_ | refine Spl.any (fun h => ?_) (fun h => ?_))
        | (refine VCalls.mono (end_c x) ?_; rintro _ rfl)
        | ((with_reducible apply And.intro); first | omega | rfl | (dsimp only; omega))))
      all_goals (conv => whnf)
      all_goals first
        | (exfalso; omega)
        | (obtain ⟨k, rfl⟩ : ∃ m, k = m + 1 := ⟨k - 1, by omega⟩
           rw [stopL_go (by assumption) (by assumption)] at hP
           exact ⟨k, _, by omega, Wk.narrow _ [1, 2, 4, 5] [2, 4] [], j + 1, rfl, by omega, by omega, by omega, hP⟩)
        | (have e : stopAt x.s 41 i = j := by rw [hP]; exact stopL_end hk (by first | exact .inl (by omega) | exact .inr (by assumption))
           clear hP hk
           unfold openRest
           rw [e]
           (apply enc_by; (focus ((repeat (first | (apply ite_yes; (focus first | assumption | omega)) | (apply ite_no; (focus first | assumption | exact b_nt (by assumption) | exact b_nf (by assumption) | omega)) | (apply ite_yes; (focus (first | (simp [*]; done) | (simp [*, bs]; done)))) | (apply ite_no; (focus (first | (simp [*]; done) | (simp [*, bs]; done)))))); exact rfl)); rfl))
    iterate 10 (
      · unfold openRest
        (apply enc_by; (focus ((repeat (first | (apply ite_yes; (focus first | assumption | omega)) | (apply ite_no; (focus first | assumption | exact b_nt (by assumption) | exact b_nf (by assumption) | omega)) | (apply ite_yes; (focus (first | (simp [*]; done) | (simp [*, bs]; done)))) | (apply ite_no; (focus (first | (simp [*]; done) | (simp [*, bs]; done)))))); exact rfl)); rfl))
    exact ⟨_, Wk.narrow _ [1, 2, 4, 5] [2, 4] [], rfl, by
      symm
      unfold openRest
      (repeat (first | (apply ite_yes; (focus first | assumption | omega)) | (apply ite_no; (focus first | assumption | exact b_nt (by assumption) | exact b_nf (by assumption) | omega)) | (apply ite_yes; (focus (first | (simp [*]; done) | (simp [*, bs]; done)))) | (apply ite_no; (focus (first | (simp [*]; done) | (simp [*, bs]; done))))))
      rfl⟩
  rintro _ ⟨rfl, e⟩
  rw [e]
  clear e
  have hb := byteAt_range x.s i
  have hsg := signedP_range x.s i (by omega)
  refine RWP.cut (fun st => st = ⟨286, [(1, .pv (iv a)), (2, .ptr 2 0), (4, .ptr 4 0), (5, .pv (iv i))], [(2, (82, x.cells)), (4, (90, gzero))], [], []⟩ ∧ openTail x a i = flagsP x a i) tabOk orders ?_ ?_
  · repeat' ((conv => whnf); (first
    | (with_reducible first | refine Spl.yes ?_ | refine Spl.no ?_ | refine Spl.dec (fun h => ?_) (fun h => ?_) | refine Spl.eq (fun h => ?_) (fun h => ?_) | refine Spl.ne (fun h => ?_) (fun h => ?_) | refine Spl.seq (fun h => ?_) (fun h => ?_) | refine Spl.not ?_ | refine Spl.any (fun h => ?_) (fun h => ?_))
    | (refine VCalls.mono (digit_c _) ?_; rintro _ rfl)
    | (refine VCalls.mono (signed_c x i hx6 (by omega) (by omega)) ?_; rintro _ rfl)
    | (refine VCalls.mono (end_c x) ?_; rintro _ rfl)
    | (refine VCalls.mono (bad_c _ _) ?_; rintro _ rfl)
    | (refine VCalls.mono (shut_c x { tokZ with kind := 12, n := (signedP x.s i).1, m := (signedP x.s i).2.1 } a (signedP x.s i).2.2.1 (bs [41]) 26 hx6 (by omega) (by omega) (by decide)) ?_; rintro _ rfl)
    | ((with_reducible apply And.intro); first | omega | rfl | (dsimp only; omega))))
    all_goals (conv => whnf)
    all_goals first
      | (exfalso; omega)
      | exact ⟨_, Wk.narrow _ [1, 2, 4, 5] [2, 4] [], rfl, by
          unfold openTail
          refine if_neg ?_
          rintro (q | q | ⟨q1, q2, q3⟩)
          · omega
          · exact b_nt (by assumption) q
          · first
              | omega
              | exact b_nt (by assumption) q3⟩
      | (have hq : byteAt x.s i = 43 ∨ digitP (byteAt x.s i) = true ∨ (byteAt x.s i = 45 ∧ i + 1 < x.s.size ∧ digitP (byteAt x.s (i + 1)) = true) := by
           first
             | exact .inl (by assumption)
             | exact .inr (.inl (by assumption))
             | exact .inr (.inr ⟨by assumption, by assumption, by assumption⟩)
         unfold openTail
         (apply enc_by; (focus ((repeat (first | (apply ite_yes; (focus first | assumption | omega)) | (apply ite_no; (focus first | assumption | exact b_nt (by assumption) | exact b_nf (by assumption) | omega)) | (apply ite_yes; (focus (first | (simp [*]; done) | (simp [*, bs]; done)))) | (apply ite_no; (focus (first | (simp [*]; done) | (simp [*, bs]; done)))))); exact rfl)); rfl))
  rintro _ ⟨rfl, e⟩
  rw [e]
  refine RWP.of tabOk orders ?_
  repeat' ((conv => whnf); (first
    | (with_reducible first | refine Spl.yes ?_ | refine Spl.no ?_ | refine Spl.dec (fun h => ?_) (fun h => ?_) | refine Spl.eq (fun h => ?_) (fun h => ?_) | refine Spl.ne (fun h => ?_) (fun h => ?_) | refine Spl.seq (fun h => ?_) (fun h => ?_) | refine Spl.not ?_ | refine Spl.any (fun h => ?_) (fun h => ?_))
    | (refine VCalls.mono (flags_c x a i hx6 (by omega) (by omega)) ?_; rintro _ rfl)
    | ((with_reducible apply And.intro); first | omega | rfl | (dsimp only; omega))))
  all_goals (conv => whnf)
  exact rfl
end Go.Proofs.Ytnoohgiecnmajaa.VC

/- Sets of characters: membership. -/
namespace Go.Proofs.Ytnoohgiecnmajaa.VC
open Go Go.RowKit
set_option linter.unusedVariables false
set_option linter.unusedSimpArgs false
set_option maxHeartbeats 4000000

def rdp (l : List (Int × Int)) (j : Int) : Int × Int := l.getD j.toNat (0, 0)
theorem rows2_len (l : List (Int × Int)) : (rows2 l).length = l.length := by simp [rows2]
theorem rows2_get {l : List (Int × Int)} {j : Int} (h : j.toNat < l.length) : (rows2 l).getD j.toNat [] = [iv (rdp l j).1, iv (rdp l j).2] := by
  simp [rows2, rdp, List.getD_eq_getElem?_getD, List.getElem?_eq_getElem h]
def inP (l : List (Int × Int)) (c : Int) : Bool := l.any fun p => decide (p.1 ≤ c ∧ c ≤ p.2)
theorem drop_step {l : List (Int × Int)} {j : Int} (h0 : 0 ≤ j) (h : j < l.length) : l.drop j.toNat = rdp l j :: l.drop (j + 1).toNat := by
  have e : (j + 1).toNat = j.toNat + 1 := by omega
  rw [e, List.drop_eq_getElem_cons (by omega)]
  simp [rdp, List.getD_eq_getElem?_getD, List.getElem?_eq_getElem (show j.toNat < l.length by omega)]
theorem in_c (l : List (Int × Int)) (c : Int) (hl : l.length ≤ 10000000000) : VCalls Try.prog 125 [rs l, iv c] (fun r => r = bv (inP l c)) := by
  have hn := rows2_len l
  refine VCalls.ofx tabOk orders Try.func125 (by decide) rfl rfl ?_
  conv => whnf
  refine ⟨fun k st => ∃ j, st = ⟨28, [(0, .pv (rs l)), (1, .pv (iv c)), (4, .pv (bv false)), (5, .pv (iv j))], [], [], []⟩ ∧ 0 ≤ j ∧ j ≤ l.length ∧ k = (l.length - j).toNat ∧ inP l c = inP (l.drop j.toNat) c,
    ⟨_, _, Wk.narrow _ [0, 1, 4, 5] [] [], 0, rfl, by omega, by omega, rfl, rfl⟩, ?_⟩
  rintro k st ⟨j, rfl, hj0, hj1, hk, hP⟩
  repeat' ((conv => whnf); (first
    | (with_reducible first | refine Spl.yes ?_ | refine Spl.no ?_ | refine Spl.dec (fun h => ?_) (fun h => ?_) | refine Spl.eq (fun h => ?_) (fun h => ?_) | refine Spl.ne (fun h => ?_) (fun h => ?_) | refine Spl.seq (fun h => ?_) (fun h => ?_) | refine Spl.not ?_ | refine Spl.any (fun h => ?_) (fun h => ?_))
    | (rw [rows2_get (by omega)])
    | ((with_reducible apply And.intro); first | omega | rfl | (dsimp only; omega))))
  all_goals (conv => whnf)
  · have e : inP l c = true := by
      rw [hP, drop_step hj0 (by omega)]
      unfold inP
      rw [List.any_cons, decide_eq_true ⟨by assumption, by assumption⟩]
      rfl
    rw [e]; rfl
  · have e : inP (l.drop j.toNat) c = inP (l.drop (j + 1).toNat) c := by
      rw [drop_step hj0 (by omega)]
      unfold inP
      rw [List.any_cons, decide_eq_false (fun q => absurd q.2 (by assumption))]
      rfl
    exact ⟨(l.length - (j + 1)).toNat, _, by omega, Wk.narrow _ [0, 1, 4, 5] [] [], j + 1, rfl, by omega, by omega, rfl, hP.trans e⟩
  · have e : inP (l.drop j.toNat) c = inP (l.drop (j + 1).toNat) c := by
      rw [drop_step hj0 (by omega)]
      unfold inP
      rw [List.any_cons, decide_eq_false (fun q => absurd q.1 (by assumption))]
      rfl
    exact ⟨(l.length - (j + 1)).toNat, _, by omega, Wk.narrow _ [0, 1, 4, 5] [] [], j + 1, rfl, by omega, by omega, rfl, hP.trans e⟩
  · have e : inP l c = false := by
      rw [hP, List.drop_eq_nil_of_le (by omega)]
      rfl
    rw [e]; rfl
end Go.Proofs.Ytnoohgiecnmajaa.VC

/- Sets of characters: edges. -/
namespace Go.Proofs.Ytnoohgiecnmajaa.VC
open Go Go.RowKit
set_option linter.unusedVariables false
set_option linter.unusedSimpArgs false
set_option maxHeartbeats 4000000

@[reducible] def rows1 (l : List Int) : List (List SV) := l.map fun c => [iv c]
@[reducible] def is (l : List Int) : SV := .sl 1 (rows1 l)
def rd1 (l : List Int) (j : Int) : Int := l.getD j.toNat 0
theorem rows1_len (l : List Int) : (rows1 l).length = l.length := by simp [rows1]
theorem rows1_get {l : List Int} {j : Int} (h : j.toNat < l.length) : (rows1 l).getD j.toNat [] = [iv (rd1 l j)] := by
  simp [rows1, rd1, List.getD_eq_getElem?_getD, List.getElem?_eq_getElem h]
def putP (n : Int) : List Int → List Int
  | [] => [n]
  | x :: l => if x < n then x :: putP n l else if x = n then x :: l else n :: x :: l
theorem drop_step1 {l : List Int} {j : Int} (h0 : 0 ≤ j) (h : j < l.length) : l.drop j.toNat = rd1 l j :: l.drop (j + 1).toNat := by
  have e : (j + 1).toNat = j.toNat + 1 := by omega
  rw [e, List.drop_eq_getElem_cons (by omega)]
  simp [rd1, List.getD_eq_getElem?_getD, List.getElem?_eq_getElem (show j.toNat < l.length by omega)]
theorem take_step1 {l : List Int} {j : Int} (h0 : 0 ≤ j) (h : j < l.length) : l.take (j + 1).toNat = l.take j.toNat ++ [rd1 l j] := by
  have e : (j + 1).toNat = j.toNat + 1 := by omega
  rw [e, List.take_succ_eq_append_getElem (by omega)]
  simp [rd1, List.getD_eq_getElem?_getD, List.getElem?_eq_getElem (show j.toNat < l.length by omega)]
theorem put_c (l : List Int) (n : Int) (hl : l.length ≤ 10000000000) : VCalls Try.prog 132 [is l, iv n] (fun r => r = is (putP n l)) := by
  have hn := rows1_len l
  refine VCalls.ofx tabOk orders Try.func132 (by decide) rfl rfl ?_
  conv => whnf
  refine ⟨fun k st => ∃ j, st = ⟨48, [(0, .pv (is l)), (1, .pv (iv n)), (5, .pv (iv j))], [], [], []⟩ ∧ 0 ≤ j ∧ j ≤ l.length ∧ k = (l.length - j).toNat ∧ putP n l = l.take j.toNat ++ putP n (l.drop j.toNat),
    ⟨_, _, Wk.narrow _ [0, 1, 5] [] [], 0, rfl, by omega, by omega, rfl, by simp⟩, ?_⟩
  rintro k st ⟨j, rfl, hj0, hj1, hk, hP⟩
  have hX : (¬ j < l.length ∨ ¬ rd1 l j < n ∧ rd1 l j ≠ n) → List.drop (Int.toNat 0) (List.take j.toNat (rows1 l)) ++ [[iv n]] ++ List.drop j.toNat (List.take (rows1 l).length (rows1 l)) = rows1 (putP n l) := by
    intro hh
    have e : putP n (l.drop j.toNat) = n :: l.drop j.toNat := by
      by_cases q : j < l.length
      · rw [drop_step1 hj0 q, putP, if_neg (by rcases hh with w | w; exact absurd q w; exact w.1), if_neg (by rcases hh with w | w; exact absurd q w; exact w.2)]
      · rw [List.drop_eq_nil_of_le (by omega)]; rfl
    rw [List.take_of_length_le (Nat.le_refl _), hP, e]
    simp [rows1]
  repeat' ((conv => whnf); (first
    | (with_reducible first | refine Spl.yes ?_ | refine Spl.no ?_ | refine Spl.dec (fun h => ?_) (fun h => ?_) | refine Spl.eq (fun h => ?_) (fun h => ?_) | refine Spl.ne (fun h => ?_) (fun h => ?_) | refine Spl.seq (fun h => ?_) (fun h => ?_) | refine Spl.not ?_ | refine Spl.any (fun h => ?_) (fun h => ?_))
    | (rw [rows1_get (by omega)])
    | ((with_reducible apply And.intro); first | omega | rfl | (dsimp only; omega))
    | refine And.intro (by simp [ti3, hn]; omega) ?_))
  all_goals (conv => whnf)
  · have e : putP n (l.drop j.toNat) = rd1 l j :: putP n (l.drop (j + 1).toNat) := by rw [drop_step1 hj0 (by omega), putP, if_pos h]
    refine ⟨(l.length - (j + 1)).toNat, _, by omega, Wk.narrow _ [0, 1, 5] [] [], j + 1, rfl, by omega, by omega, rfl, ?_⟩
    rw [hP, e, take_step1 hj0 (by omega)]
    simp
  all_goals first
    | exact Eq.trans rfl (congrArg (SV.sl 1) (hX (by first | exact .inl (by omega) | exact .inr ⟨by assumption, by assumption⟩)))
    | (exfalso; omega)
    | (have e : putP n (l.drop j.toNat) = l.drop j.toNat := by rw [drop_step1 hj0 (by omega), putP, if_neg (by assumption), if_pos (by assumption)]
       rw [e, List.take_append_drop] at hP
       rw [hP]
       rfl)
end Go.Proofs.Ytnoohgiecnmajaa.VC

/- Sets of characters: edges. -/
namespace Go.Proofs.Ytnoohgiecnmajaa.VC
open Go Go.RowKit
set_option linter.unusedVariables false
set_option linter.unusedSimpArgs false
set_option maxHeartbeats 4000000

def edgeStep (most : Int) (out : List Int) (p : Int × Int) : List Int :=
  let o1 := if p.1 > 0 ∧ p.1 ≤ most then putP p.1 out else out
  if p.2 ≥ 0 ∧ p.2 < most then putP (p.2 + 1) o1 else o1
def edgesP (l : List (Int × Int)) (m : Int) : List Int :=
  let most := if m > 1114111 then 1114111 else m
  if most < 0 then [] else l.foldl (edgeStep most) [0, most + 1]
theorem putP_len (n : Int) : ∀ l : List Int, (putP n l).length ≤ l.length + 1
  | [] => by simp [putP]
  | x :: l => by
    unfold putP
    have := putP_len n l
    split
    · simp; omega
    split
    · simp
    · simp
theorem edgeStep_len (most : Int) (out : List Int) (p : Int × Int) : (edgeStep most out p).length ≤ out.length + 2 := by
  unfold edgeStep
  have h1 := putP_len p.1 out
  simp only
  split
  · split
    · have := putP_len (p.2 + 1) (putP p.1 out); omega
    · have := putP_len (p.2 + 1) out; omega
  · split <;> omega
theorem edges_c (l : List (Int × Int)) (m : Int) (hl : l.length ≤ 4000000000) : VCalls Try.prog 128 [rs l, iv m] (fun r => r = is (edgesP l m)) := by
  have hn := rows2_len l
  refine VCalls.ofr tabOk Try.func128 (by decide) rfl rfl ?_
  refine RWP.seqx tabOk orders ?_
  conv => whnf
  refine RWP.cut (fun st => st = ⟨66, [(0, .pv (rs l)), (1, .pv (iv (if m > 1114111 then 1114111 else m)))], [], [], []⟩) tabOk orders ?_ ?_
  · repeat' ((conv => whnf); (first
    | (with_reducible first | refine Spl.yes ?_ | refine Spl.no ?_ | refine Spl.dec (fun h => ?_) (fun h => ?_) | refine Spl.eq (fun h => ?_) (fun h => ?_) | refine Spl.ne (fun h => ?_) (fun h => ?_) | refine Spl.seq (fun h => ?_) (fun h => ?_) | refine Spl.not ?_ | refine Spl.any (fun h => ?_) (fun h => ?_))
    | ((with_reducible apply And.intro); first | omega | rfl | (dsimp only; omega))))
    all_goals (conv => whnf)
    · exact ⟨_, Wk.narrow _ [0, 1] [] [], by rw [if_pos h]; rfl⟩
    · exact ⟨_, Wk.narrow _ [0, 1] [] [], by rw [if_neg h]; rfl⟩
  rintro _ rfl
  unfold edgesP
  have hm : (if m > 1114111 then 1114111 else m) ≤ 1114111 := by split <;> omega
  generalize (if m > 1114111 then 1114111 else m) = most at *
  simp only
  refine RWP.seqx tabOk orders ?_
  repeat' ((conv => whnf); (first
    | (with_reducible first | refine Spl.yes ?_ | refine Spl.no ?_ | refine Spl.dec (fun h => ?_) (fun h => ?_) | refine Spl.eq (fun h => ?_) (fun h => ?_) | refine Spl.ne (fun h => ?_) (fun h => ?_) | refine Spl.seq (fun h => ?_) (fun h => ?_) | refine Spl.not ?_ | refine Spl.any (fun h => ?_) (fun h => ?_))
    | ((with_reducible apply And.intro); first | omega | rfl | (dsimp only; omega))))
  all_goals (conv => whnf)
  · rw [if_pos h]
    rfl
  rw [if_neg h]
  refine RWP.seqx tabOk orders ?_
  repeat' ((conv => whnf); (first
    | (with_reducible first | refine Spl.yes ?_ | refine Spl.no ?_ | refine Spl.dec (fun h => ?_) (fun h => ?_) | refine Spl.eq (fun h => ?_) (fun h => ?_) | refine Spl.ne (fun h => ?_) (fun h => ?_) | refine Spl.seq (fun h => ?_) (fun h => ?_) | refine Spl.not ?_ | refine Spl.any (fun h => ?_) (fun h => ?_))
    | ((with_reducible apply And.intro); first | omega | rfl | (dsimp only; omega))))
  all_goals (conv => whnf)
  refine RWP.of tabOk orders ?_
  conv => whnf
  refine ⟨fun k st => ∃ (j : Int) (o : List Int), (st = ⟨66, [(0, .pv (rs l)), (1, .pv (iv most)), (5, .pv (is o)), (6, .pv (iv j))], [], [], []⟩ ∨ ∃ v, st = ⟨66, [(0, .pv (rs l)), (1, .pv (iv most)), (5, .own 13), (6, .pv (iv j))], [], [(13, ⟨1, 3, v, rows1 o⟩)], []⟩) ∧ 0 ≤ j ∧ j ≤ l.length ∧ k = (l.length - j).toNat ∧ o.length ≤ 2 * j + 2 ∧ l.foldl (edgeStep most) [0, most + 1] = (l.drop j.toNat).foldl (edgeStep most) o,
    ⟨_, _, Wk.narrow _ [0, 1, 5, 6] [] [13], 0, [0, most + 1], .inr ⟨_, rfl⟩, by omega, by omega, rfl, by simp, rfl⟩, ?_⟩
  rintro k st ⟨j, o, hst, hj0, hj1, hk, ho, hP⟩
  have ho1 := putP_len (rdp l j).1 o
  have ho2 := putP_len ((rdp l j).2 + 1) o
  have ho3 := putP_len ((rdp l j).2 + 1) (putP (rdp l j).1 o)
  have key : j < (rows2 l).length → ∀ o', o' = edgeStep most o (rdp l j) → l.foldl (edgeStep most) [0, most + 1] = (l.drop (j + 1).toNat).foldl (edgeStep most) o' := by
    intro hj o' e
    rw [hP, drop_step hj0 (by omega), List.foldl_cons, e]
  have fin_ : ¬ j < (rows2 l).length → o = l.foldl (edgeStep most) [0, most + 1] := by
    intro hj
    rw [hP, List.drop_eq_nil_of_le (by omega)]
    rfl
  rcases hst with rfl | ⟨v, rfl⟩
  · repeat' ((conv => whnf); (first
      | (with_reducible first | refine Spl.yes ?_ | refine Spl.no ?_ | refine Spl.dec (fun h => ?_) (fun h => ?_) | refine Spl.eq (fun h => ?_) (fun h => ?_) | refine Spl.ne (fun h => ?_) (fun h => ?_) | refine Spl.seq (fun h => ?_) (fun h => ?_) | refine Spl.not ?_ | refine Spl.any (fun h => ?_) (fun h => ?_))
      | (rw [rows2_get (by omega)])
      | (refine VCalls.mono (put_c o (rdp l j).1 (by omega)) ?_; rintro _ rfl)
      | (refine VCalls.mono (put_c o ((rdp l j).2 + 1) (by omega)) ?_; rintro _ rfl)
      | (refine VCalls.mono (put_c (putP (rdp l j).1 o) ((rdp l j).2 + 1) (by omega)) ?_; rintro _ rfl)
      | ((with_reducible apply And.intro); first | omega | rfl | (dsimp only; omega))))
    all_goals (conv => whnf)
    all_goals first
      | (rw [← fin_ (by assumption)]; rfl)
      | (refine ⟨(l.length - (j + 1)).toNat, _, by omega, Wk.narrow _ [0, 1, 5, 6] [] [], j + 1, _, .inl rfl, by omega, by omega, rfl, by omega, key (by assumption) _ ?_⟩
         unfold edgeStep
         simp only
         first
           | (rw [if_pos ⟨by assumption, by assumption⟩, if_pos ⟨by assumption, by assumption⟩])
           | (rw [if_pos ⟨by assumption, by assumption⟩, if_neg (by omega)])
           | (rw [if_neg (by omega), if_pos ⟨by assumption, by assumption⟩])
           | (rw [if_neg (by omega), if_neg (by omega)]))
  · repeat' ((conv => whnf); (first
      | (with_reducible first | refine Spl.yes ?_ | refine Spl.no ?_ | refine Spl.dec (fun h => ?_) (fun h => ?_) | refine Spl.eq (fun h => ?_) (fun h => ?_) | refine Spl.ne (fun h => ?_) (fun h => ?_) | refine Spl.seq (fun h => ?_) (fun h => ?_) | refine Spl.not ?_ | refine Spl.any (fun h => ?_) (fun h => ?_))
      | (rw [rows2_get (by omega)])
      | (refine VCalls.mono (put_c o (rdp l j).1 (by omega)) ?_; rintro _ rfl)
      | (refine VCalls.mono (put_c o ((rdp l j).2 + 1) (by omega)) ?_; rintro _ rfl)
      | (refine VCalls.mono (put_c (putP (rdp l j).1 o) ((rdp l j).2 + 1) (by omega)) ?_; rintro _ rfl)
      | ((with_reducible apply And.intro); first | omega | rfl | (dsimp only; omega))))
    all_goals (conv => whnf)
    all_goals first
      | (rw [← fin_ (by assumption)]; rfl)
      | (refine ⟨(l.length - (j + 1)).toNat, _, by omega, Wk.narrow _ [0, 1, 5, 6] [] [], j + 1, _, .inl rfl, by omega, by omega, rfl, by omega, key (by assumption) _ ?_⟩
         unfold edgeStep
         simp only
         first
           | (rw [if_pos ⟨by assumption, by assumption⟩, if_pos ⟨by assumption, by assumption⟩])
           | (rw [if_pos ⟨by assumption, by assumption⟩, if_neg (by omega)])
           | (rw [if_neg (by omega), if_pos ⟨by assumption, by assumption⟩])
           | (rw [if_neg (by omega), if_neg (by omega)]))
      | (refine ⟨(l.length - (j + 1)).toNat, _, by omega, Wk.narrow _ [0, 1, 5, 6] [] [13], j + 1, o, .inr ⟨_, rfl⟩, by omega, by omega, rfl, by omega, key (by assumption) _ ?_⟩
         unfold edgeStep
         simp only
         first
           | (rw [if_pos ⟨by assumption, by assumption⟩, if_pos ⟨by assumption, by assumption⟩])
           | (rw [if_pos ⟨by assumption, by assumption⟩, if_neg (by omega)])
           | (rw [if_neg (by omega), if_pos ⟨by assumption, by assumption⟩])
           | (rw [if_neg (by omega), if_neg (by omega)]))
end Go.Proofs.Ytnoohgiecnmajaa.VC

/- Sets of characters: joined, both, not. -/
namespace Go.Proofs.Ytnoohgiecnmajaa.VC
open Go Go.RowKit
set_option linter.unusedVariables false
set_option linter.unusedSimpArgs false
set_option maxHeartbeats 4000000

def keepP (kind : Int) (a b : List (Int × Int)) (c : Int) : Bool :=
  if kind = 2 then !inP a c else if kind = 1 then (if inP a c = true then inP b c else false) else if inP a c = true then true else inP b c
/-- The last one made longer, or a new one. -/
def glueB (o : List (Int × Int)) (lo : Int) : Bool := if o.length > 0 then decide ((rdp o (o.length - 1)).2 + 1 = lo) else false
def glue (o : List (Int × Int)) (lo hi : Int) : List (Int × Int) :=
  if glueB o lo = true then o.set (o.length - 1) ((rdp o (o.length - 1)).1, hi) else o ++ [(lo, hi)]
def joinL (kind : Int) (a b : List (Int × Int)) : List Int → List (Int × Int) → List (Int × Int)
  | x :: y :: r, out => joinL kind a b (y :: r) (if keepP kind a b x = true then glue out x (y - 1) else out)
  | _, out => out
def joinP (kind : Int) (a b : List (Int × Int)) (most : Int) : List (Int × Int) := joinL kind a b (edgesP (a ++ b) most) []
theorem glue_len (o : List (Int × Int)) (lo hi : Int) : (glue o lo hi).length ≤ o.length + 1 := by
  unfold glue
  split
  · simp
  · simp
theorem joinL_len (kind : Int) (a b : List (Int × Int)) : ∀ (E : List Int) (o : List (Int × Int)), (joinL kind a b E o).length ≤ o.length + E.length
  | [], o => by simp [joinL]
  | [x], o => by simp [joinL]
  | x :: y :: r, o => by
    rw [joinL]
    have := joinL_len kind a b (y :: r) (if keepP kind a b x = true then glue o x (y - 1) else o)
    have h2 := glue_len o x (y - 1)
    have h3 : (if keepP kind a b x = true then glue o x (y - 1) else o).length ≤ o.length + 1 := by split <;> omega
    simp only [List.length_cons] at this ⊢
    omega
theorem edgesP_len (l : List (Int × Int)) (m : Int) : (edgesP l m).length ≤ 2 * l.length + 2 := by
  unfold edgesP
  generalize (if m > 1114111 then 1114111 else m) = most
  simp only
  split
  · simp
  · have : ∀ (l : List (Int × Int)) (o : List Int), (l.foldl (edgeStep most) o).length ≤ 2 * l.length + o.length := by
      intro l
      induction l with
      | nil => intro o; simp
      | cons p l ih =>
        intro o
        have h1 := ih (edgeStep most o p)
        have h2 := edgeStep_len most o p
        simp only [List.foldl_cons, List.length_cons]
        omega
    have h := this l [0, most + 1]
    simpa using h
theorem joinP_len (kind : Int) (a b : List (Int × Int)) (most : Int) : (joinP kind a b most).length ≤ 2 * (a.length + b.length) + 2 := by
  unfold joinP
  have h1 := joinL_len kind a b (edgesP (a ++ b) most) []
  have h2 := edgesP_len (a ++ b) most
  simp at h1 h2
  omega
/-- All edges lie where numbers are small. -/
def Near (E : List Int) : Prop := ∀ x ∈ E, 0 ≤ x ∧ x ≤ 1114112
theorem near_putP {n : Int} (hn : 0 ≤ n ∧ n ≤ 1114112) : ∀ {l : List Int}, Near l → Near (putP n l)
  | [], h => by intro x hx; simp [putP] at hx; subst hx; exact hn
  | y :: l, h => by
    unfold putP
    split
    · intro x hx
      rcases List.mem_cons.1 hx with rfl | hx
      · exact h _ (List.mem_cons_self ..)
      · exact near_putP hn (fun z hz => h z (List.mem_cons_of_mem _ hz)) x hx
    split
    · exact h
    · intro x hx
      rcases List.mem_cons.1 hx with rfl | hx
      · exact hn
      · exact h x hx
theorem near_edges (l : List (Int × Int)) (m : Int) : Near (edgesP l m) := by
  unfold edgesP
  have h1 : (if m > 1114111 then 1114111 else m) ≤ 1114111 := by split <;> omega
  generalize (if m > 1114111 then 1114111 else m) = most at *
  simp only
  split
  · intro x hx; simp at hx
  · rename_i h0
    have : ∀ (l : List (Int × Int)) (o : List Int), Near o → Near (l.foldl (edgeStep most) o) := by
      intro l
      induction l with
      | nil => intro o h; exact h
      | cons p l ih =>
        intro o h
        rw [List.foldl_cons]
        refine ih _ ?_
        unfold edgeStep
        simp only
        have ha : Near (if p.1 > 0 ∧ p.1 ≤ most then putP p.1 o else o) := by
          split
          · exact near_putP ⟨by omega, by omega⟩ h
          · exact h
        split
        · exact near_putP ⟨by omega, by omega⟩ ha
        · exact ha
    exact this l _ (by intro x hx; simp at hx; omega)
theorem near_rd {E : List Int} (h : Near E) {j : Int} (h0 : 0 ≤ j) (h1 : j < E.length) : 0 ≤ rd1 E j ∧ rd1 E j ≤ 1114112 := by
  apply h
  unfold rd1
  rw [List.getD_eq_getElem?_getD, List.getElem?_eq_getElem (by omega)]
  simp
theorem edges_c2 (a b : List (Int × Int)) (m : Int) (hl : a.length + b.length ≤ 4000000000) : VCalls Try.prog 128 [.sl 2 (rows2 a ++ rows2 b), iv m] (fun r => r = is (edgesP (a ++ b) m)) := by
  have h := edges_c (a ++ b) m (by simp; omega)
  have e : rs (a ++ b) = .sl 2 (rows2 a ++ rows2 b) := by simp [rs, rows2]
  rwa [e] at h
/-- Ranges that are near. -/
def Small2 (o : List (Int × Int)) : Prop := ∀ p ∈ o, -10 ≤ p.1 ∧ p.1 ≤ 1114120 ∧ -10 ≤ p.2 ∧ p.2 ≤ 1114120
theorem Small2.rd {o : List (Int × Int)} (h : Small2 o) {j : Int} (h0 : 0 ≤ j) (h1 : j < o.length) : -10 ≤ (rdp o j).1 ∧ (rdp o j).1 ≤ 1114120 ∧ -10 ≤ (rdp o j).2 ∧ (rdp o j).2 ≤ 1114120 := by
  apply h
  unfold rdp
  rw [List.getD_eq_getElem?_getD, List.getElem?_eq_getElem (by omega)]
  simp
theorem small2_glue {o : List (Int × Int)} (h : Small2 o) {lo hi : Int} (hl : 0 ≤ lo ∧ lo ≤ 1114112) (hh : 0 ≤ hi ∧ hi ≤ 1114112) : Small2 (glue o lo (hi - 1)) := by
  unfold glue
  split
  · rename_i hg
    have hp : o.length > 0 := by unfold glueB at hg; by_cases q : o.length > 0; exact q; rw [if_neg q] at hg; cases hg
    have hr := h.rd (j := o.length - 1) (by omega) (by omega)
    intro p hp
    rcases List.mem_or_eq_of_mem_set hp with q | q
    · exact h p q
    · subst q; simp only; omega
  · intro p hp
    rcases List.mem_append.1 hp with q | q
    · exact h p q
    · simp at q; subst q; simp only; omega
theorem xl_row {ti : TI} {off : Nat} {X : List (List SV)} {n : Nat} {r : List SV} {K : FE → List Nat → Prop} (h : X.getD n [] = r) (k : xloadR ti (List.drop off r) K) : xloadR ti (List.drop off (X.getD n [])) K := by rw [h]; exact k
theorem rows2_set (o : List (Int × Int)) (n : Nat) (p : Int × Int) : (rows2 o).set n [iv p.1, iv p.2] = rows2 (o.set n p) := by simp [rows2, List.map_set]
theorem rows2_snoc (o : List (Int × Int)) (p : Int × Int) : rows2 o ++ [[iv p.1, iv p.2]] = rows2 (o ++ [p]) := by simp [rows2]
attribute [local irreducible] isP numP signedP nameTo nameAt nameOk byteAt charP stopAt hexaP seqP atP nextP codeOf
attribute [local irreducible] inP keepP glueB glue
set_option maxHeartbeats 8000000
theorem join_c (kind : Int) (a b : List (Int × Int)) (most : Int) (ha : a.length ≤ 2000000000) (hb : b.length ≤ 2000000000) : VCalls Try.prog 117 [iv kind, rs a, rs b, iv most] (fun r => r = rs (joinP kind a b most)) := by
  have hla := rows2_len a
  have hlb := rows2_len b
  refine VCalls.ofr tabOk Try.func117 (by decide) rfl rfl ?_
  refine RWP.seqx tabOk orders ?_
  conv => whnf
  refine RWP.seqx tabOk orders ?_
  conv => whnf
  refine RWP.seqx tabOk orders ?_
  repeat' ((conv => whnf); (first
    | (with_reducible first | refine Spl.yes ?_ | refine Spl.no ?_ | refine Spl.dec (fun h => ?_) (fun h => ?_) | refine Spl.eq (fun h => ?_) (fun h => ?_) | refine Spl.ne (fun h => ?_) (fun h => ?_) | refine Spl.seq (fun h => ?_) (fun h => ?_) | refine Spl.not ?_ | refine Spl.any (fun h => ?_) (fun h => ?_))
    | ((with_reducible apply And.intro); first | omega | rfl | (dsimp only; omega))
    | refine And.intro (by simp [ti74]; omega) ?_))
  conv => whnf
  refine RWP.seqx tabOk orders ?_
  repeat' ((conv => whnf); (first
    | (with_reducible first | refine Spl.yes ?_ | refine Spl.no ?_ | refine Spl.dec (fun h => ?_) (fun h => ?_) | refine Spl.eq (fun h => ?_) (fun h => ?_) | refine Spl.ne (fun h => ?_) (fun h => ?_) | refine Spl.seq (fun h => ?_) (fun h => ?_) | refine Spl.not ?_ | refine Spl.any (fun h => ?_) (fun h => ?_))
    | ((with_reducible apply And.intro); first | omega | rfl | (dsimp only; omega))
    | refine And.intro (by simp [ti74]; omega) ?_))
  conv => whnf
  refine RWP.seqx tabOk orders ?_
  conv => whnf
  refine VCalls.mono (edges_c2 a b most (by omega)) ?_; rintro _ rfl
  conv => whnf
  refine RWP.seqx tabOk orders ?_
  conv => whnf
  have hEl : (edgesP (a ++ b) most).length ≤ 10000000000 := by have := edgesP_len (a ++ b) most; simp at this; omega
  have hN := near_edges (a ++ b) most
  unfold joinP
  generalize hE : edgesP (a ++ b) most = E at *
  have hlE := rows1_len E
  refine RWP.seq ?_
  refine RWP.seqx tabOk orders ?_
  conv => whnf
  refine RWP.block ?_
  refine RWP.loop (fun k st => ∃ (j : Int) (o : List (Int × Int)), st = ⟨105, [(0, .pv (iv kind)), (1, .pv (rs a)), (2, .pv (rs b)), (10, .pv (is E)), (11, .own 103), (12, .pv (iv j))], [], [(103, ⟨2, 74, true, rows2 o⟩)], []⟩ ∧ 0 ≤ j ∧ j ≤ E.length ∧ k = (E.length - j).toNat ∧ o.length ≤ j ∧ Small2 o ∧ joinL kind a b E [] = joinL kind a b (E.drop j.toNat) o)
    ⟨_, _, Wk.trans (Wk.ownNil (t := 11) (k := 103) (sz := 2) (e := 74) rfl) (Wk.narrow _ [0, 1, 2, 10, 11, 12] [] [103]), 0, [], rfl, by omega, by omega, rfl, by simp, by intro p hp; simp at hp, rfl⟩ ?_
  rintro k st ⟨j, o, rfl, hj0, hj1, hk, ho, hS, hP⟩
  have hlo := rows2_len o
  have key : j + 1 < E.length → ∀ o', o' = (if keepP kind a b (rd1 E j) = true then glue o (rd1 E j) (rd1 E (j + 1) - 1) else o) → joinL kind a b E [] = joinL kind a b (E.drop (j + 1).toNat) o' := by
    intro hj o' e
    rw [hP, drop_step1 hj0 (by omega), drop_step1 (j := j + 1) (by omega) hj, joinL, e]
  refine RWP.seqx tabOk orders ?_
  repeat' ((conv => whnf); (first
    | (with_reducible first | refine Spl.yes ?_ | refine Spl.no ?_ | refine Spl.dec (fun h => ?_) (fun h => ?_) | refine Spl.eq (fun h => ?_) (fun h => ?_) | refine Spl.ne (fun h => ?_) (fun h => ?_) | refine Spl.seq (fun h => ?_) (fun h => ?_) | refine Spl.not ?_ | refine Spl.any (fun h => ?_) (fun h => ?_))
    | ((with_reducible apply And.intro); first | omega | rfl | (dsimp only; omega))))
  all_goals (conv => whnf)
  rotate_left
  · refine RWP.seqx tabOk orders ?_
    conv => whnf
    have e : joinL kind a b E [] = o := by
      rw [hP]
      by_cases q : j < E.length
      · rw [drop_step1 hj0 q, List.drop_eq_nil_of_le (by omega)]; rfl
      · rw [List.drop_eq_nil_of_le (by omega)]; rfl
    rw [e]
    refine RWP.of tabOk orders ?_
    conv => whnf
    rfl
  have hj2 : j + 1 < E.length := by omega
  have hn1 := near_rd hN hj0 (by omega)
  have hn2 := near_rd hN (j := j + 1) (by omega) (by omega)
  replace key := key hj2
  refine RWP.cutr (fun st => st = ⟨105, [(0, .pv (iv kind)), (1, .pv (rs a)), (2, .pv (rs b)), (10, .pv (is E)), (11, .own 103), (12, .pv (iv j))], [], [(103, ⟨2, 74, true, rows2 (if keepP kind a b (rd1 E j) = true then glue o (rd1 E j) (rd1 E (j + 1) - 1) else o)⟩)], []⟩) (RWP.block ?_) ?_
  rotate_left
  · rintro _ rfl
    generalize ho' : (if keepP kind a b (rd1 E j) = true then glue o (rd1 E j) (rd1 E (j + 1) - 1) else o) = o' at *
    have hl' : o'.length ≤ j + 1 := by
      have := glue_len o (rd1 E j) (rd1 E (j + 1) - 1)
      rw [← ho']
      split <;> omega
    have hS' : Small2 o' := by
      rw [← ho']
      split
      · exact small2_glue hS hn1 hn2
      · exact hS
    refine RWP.of tabOk orders ?_
    repeat ((conv => whnf); ((with_reducible apply And.intro); first | omega | rfl | (dsimp only; omega)))
    conv => whnf
    exact ⟨(E.length - (j + 1)).toNat, _, by omega, Wk.narrow _ [0, 1, 2, 10, 11, 12] [] [103], j + 1, o', rfl, by omega, by omega, rfl, hl', hS', key _ rfl⟩
  refine RWP.seqx tabOk orders ?_
  repeat' ((conv => whnf); (first
    | (rw [rows1_get (by omega)])
    | (refine VCalls.mono (in_c a (rd1 E j) (by omega)) ?_; rintro _ rfl)
    | ((with_reducible apply And.intro); first | omega | rfl | (dsimp only; omega))))
  conv => whnf
  refine RWP.seqx tabOk orders ?_
  repeat' ((conv => whnf); (first
    | (rw [rows1_get (by omega)])
    | (refine VCalls.mono (in_c b (rd1 E j) (by omega)) ?_; rintro _ rfl)
    | ((with_reducible apply And.intro); first | omega | rfl | (dsimp only; omega))))
  conv => whnf
  refine RWP.cut3 (fun st => st = ⟨105, [(0, .pv (iv kind)), (1, .pv (rs a)), (2, .pv (rs b)), (10, .pv (is E)), (11, .own 103), (12, .pv (iv j)), (15, .pv (bv (keepP kind a b (rd1 E j))))], [], [(103, ⟨2, 74, true, rows2 o⟩)], []⟩) tabOk orders ?_ ?_
  · generalize hx : inP a (rd1 E j) = x
    generalize hy : inP b (rd1 E j) = y
    repeat' ((conv => whnf); (first
      | (with_reducible first | refine Spl.yes ?_ | refine Spl.no ?_ | refine Spl.dec (fun h => ?_) (fun h => ?_) | refine Spl.eq (fun h => ?_) (fun h => ?_) | refine Spl.ne (fun h => ?_) (fun h => ?_) | refine Spl.seq (fun h => ?_) (fun h => ?_) | refine Spl.not ?_ | refine Spl.any (fun h => ?_) (fun h => ?_))
      | ((with_reducible apply And.intro); first | omega | rfl | (dsimp only; omega))))
    all_goals (conv => whnf)
    all_goals first
      | (exfalso; simp_all; done)
      | (refine ⟨_, Wk.narrow _ [0, 1, 2, 10, 11, 12, 15] [] [103], ?_⟩
         unfold keepP
         rw [hx, hy]
         simp [*]
         rfl)
  rintro _ rfl
  generalize hK : keepP kind a b (rd1 E j) = kp at *
  refine RWP.seqx tabOk orders ?_
  repeat' ((conv => whnf); (first
    | (with_reducible first | refine Spl.yes ?_ | refine Spl.no ?_ | refine Spl.dec (fun h => ?_) (fun h => ?_) | refine Spl.eq (fun h => ?_) (fun h => ?_) | refine Spl.ne (fun h => ?_) (fun h => ?_) | refine Spl.seq (fun h => ?_) (fun h => ?_) | refine Spl.not ?_ | refine Spl.any (fun h => ?_) (fun h => ?_))
    | ((with_reducible apply And.intro); first | omega | rfl | (dsimp only; omega))))
  all_goals (conv => whnf)
  rotate_left
  · exact ⟨_, Wk.narrow _ [0, 1, 2, 10, 11, 12] [] [103], by rw [if_neg (by simpa using h)]; rfl⟩
  rw [if_pos (by simpa using h)]
  refine RWP.seqx tabOk orders ?_
  conv => whnf
  refine drawn_text (by decide +kernel) ?_
  repeat' ((conv => whnf); (first
    | (with_reducible first | refine Spl.yes ?_ | refine Spl.no ?_ | refine Spl.dec (fun h => ?_) (fun h => ?_) | refine Spl.eq (fun h => ?_) (fun h => ?_) | refine Spl.ne (fun h => ?_) (fun h => ?_) | refine Spl.seq (fun h => ?_) (fun h => ?_) | refine Spl.not ?_ | refine Spl.any (fun h => ?_) (fun h => ?_))
    | (rw [rows2_get (by (try dsimp only at *); omega)])
    | (rw [rows1_get (by omega)])
    | (refine And.intro (by (try dsimp only at *); have q := hS.rd (j := ((rows2 o).length : Int) - 1) (by omega) (by omega); omega) ?_)
    | ((with_reducible apply And.intro); first | omega | rfl | (dsimp only; omega))))
  all_goals (refine RWP.of tabOk orders ?_)
  all_goals (try dsimp only at *)
  · have q := hS.rd (j := (o.length : Int) - 1) (by omega) (by omega)
    have hi : (((rows2 o).length : Int) - 1).toNat = o.length - 1 := by omega
    have key2 : (rdp o (o.length - 1)).2 + 1 = rd1 E j → (rows2 o).set (((rows2 o).length : Int) - 1).toNat [iv (rdp o (((rows2 o).length : Int) - 1)).1, iv (rd1 E (j + 1) - 1)] = rows2 (glue o (rd1 E j) (rd1 E (j + 1) - 1)) := by
      intro hh
      rw [hi, hlo]
      have hg : glue o (rd1 E j) (rd1 E (j + 1) - 1) = o.set (o.length - 1) ((rdp o (o.length - 1)).1, rd1 E (j + 1) - 1) := by
        have h0 : o.length > 0 := by omega
        simp only [glue, glueB, if_pos h0, decide_eq_true hh, if_true]
      rw [hg, ← rows2_set]
    have key3 : (rdp o (o.length - 1)).2 + 1 ≠ rd1 E j → rows2 o ++ [[iv (rd1 E j), iv (rd1 E (j + 1) - 1)]] = rows2 (glue o (rd1 E j) (rd1 E (j + 1) - 1)) := by
      intro hh
      have hg : glue o (rd1 E j) (rd1 E (j + 1) - 1) = o ++ [(rd1 E j, rd1 E (j + 1) - 1)] := by
        have h0 : o.length > 0 := by omega
        simp only [glue, glueB, if_pos h0, decide_eq_false hh, Bool.false_eq_true, if_false]
      rw [hg, ← rows2_snoc]
    rw [hlo]
    repeat' ((conv => whnf); (first
      | (with_reducible first | refine Spl.yes ?_ | refine Spl.no ?_ | refine Spl.dec (fun h => ?_) (fun h => ?_) | refine Spl.eq (fun h => ?_) (fun h => ?_) | refine Spl.ne (fun h => ?_) (fun h => ?_) | refine Spl.seq (fun h => ?_) (fun h => ?_) | refine Spl.not ?_ | refine Spl.any (fun h => ?_) (fun h => ?_))
      | refine drawn_text (by decide +kernel) ?_
      | (rw [rows2_get (by (try dsimp only at *); omega)])
      | (rw [rows1_get (by omega)])
      | (refine And.intro (by show ((rows2 o).length + 1) * 16 ≤ 140737488355328; omega) ?_)
      | ((with_reducible apply And.intro); first | omega | rfl | (dsimp only; omega))))
    all_goals (conv => whnf)
    · exact ⟨_, Wk.narrow _ [0, 1, 2, 10, 11, 12] [] [103], Eq.trans rfl (congrArg (fun X => (⟨105, [(0, .pv (iv kind)), (1, .pv (rs a)), (2, .pv (rs b)), (10, .pv (is E)), (11, .own 103), (12, .pv (iv j))], [], [(103, ⟨2, 74, true, X⟩)], []⟩ : St)) (key2 (by assumption)))⟩
    · exact ⟨_, Wk.narrow _ [0, 1, 2, 10, 11, 12] [] [103], Eq.trans rfl (congrArg (fun X => (⟨105, [(0, .pv (iv kind)), (1, .pv (rs a)), (2, .pv (rs b)), (10, .pv (is E)), (11, .own 103), (12, .pv (iv j))], [], [(103, ⟨2, 74, true, X⟩)], []⟩ : St)) (key3 (by assumption)))⟩
  · have key3 : rows2 o ++ [[iv (rd1 E j), iv (rd1 E (j + 1) - 1)]] = rows2 (glue o (rd1 E j) (rd1 E (j + 1) - 1)) := by
      have hg : glue o (rd1 E j) (rd1 E (j + 1) - 1) = o ++ [(rd1 E j, rd1 E (j + 1) - 1)] := by
        have h0 : ¬ o.length > 0 := by omega
        simp only [glue, glueB, if_neg h0, Bool.false_eq_true, if_false]
      rw [hg, ← rows2_snoc]
    repeat' ((conv => whnf); (first
      | (with_reducible first | refine Spl.yes ?_ | refine Spl.no ?_ | refine Spl.dec (fun h => ?_) (fun h => ?_) | refine Spl.eq (fun h => ?_) (fun h => ?_) | refine Spl.ne (fun h => ?_) (fun h => ?_) | refine Spl.seq (fun h => ?_) (fun h => ?_) | refine Spl.not ?_ | refine Spl.any (fun h => ?_) (fun h => ?_))
      | refine drawn_text (by decide +kernel) ?_
      | (rw [rows2_get (by (try dsimp only at *); omega)])
      | (rw [rows1_get (by omega)])
      | (refine And.intro (by show ((rows2 o).length + 1) * 16 ≤ 140737488355328; omega) ?_)
      | ((with_reducible apply And.intro); first | omega | rfl | (dsimp only; omega))))
    all_goals (conv => whnf)
    exact ⟨_, Wk.narrow _ [0, 1, 2, 10, 11, 12] [] [103], Eq.trans rfl (congrArg (fun X => (⟨105, [(0, .pv (iv kind)), (1, .pv (rs a)), (2, .pv (rs b)), (10, .pv (is E)), (11, .own 103), (12, .pv (iv j))], [], [(103, ⟨2, 74, true, X⟩)], []⟩ : St)) key3)⟩
end Go.Proofs.Ytnoohgiecnmajaa.VC

/- Sets of characters: made; the table; names and escapes. -/
namespace Go.Proofs.Ytnoohgiecnmajaa.VC
open Go Go.RowKit
set_option linter.unusedVariables false
set_option linter.unusedSimpArgs false
set_option maxHeartbeats 4000000

def newP (l : List (Int × Int)) (m : Int) : List (Int × Int) := joinP 0 l [] m
theorem newP_len (l : List (Int × Int)) (m : Int) : (newP l m).length ≤ 2 * l.length + 2 := by
  have := joinP_len 0 l [] m
  unfold newP
  simpa using this
theorem new_c (l : List (Int × Int)) (m : Int) (hl : l.length ≤ 2000000000) : VCalls Try.prog 89 [rs l, iv m] (fun r => r = rs (newP l m)) := by
  refine VCalls.ofx tabOk orders Try.func89 (by decide) rfl rfl ?_
  repeat' ((conv => whnf); (first
    | (with_reducible first | refine Spl.yes ?_ | refine Spl.no ?_ | refine Spl.dec (fun h => ?_) (fun h => ?_) | refine Spl.eq (fun h => ?_) (fun h => ?_) | refine Spl.ne (fun h => ?_) (fun h => ?_) | refine Spl.seq (fun h => ?_) (fun h => ?_) | refine Spl.not ?_ | refine Spl.any (fun h => ?_) (fun h => ?_))
    | (refine VCalls.mono (join_c 0 l [] m hl (by simp)) ?_; rintro _ rfl)
    | ((with_reducible apply And.intro); first | omega | rfl | (dsimp only; omega))))
  all_goals (conv => whnf)
  rfl
theorem cut_c (x : Text) (l : List (Int × Int)) (hl : l.length ≤ 2000000000) : VCalls Try.prog 104 [x.enc, rs l] (fun r => r = rs (newP l x.most)) := by
  refine VCalls.ofx tabOk orders Try.func104 (by decide) rfl rfl ?_
  repeat' ((conv => whnf); (first
    | (with_reducible first | refine Spl.yes ?_ | refine Spl.no ?_ | refine Spl.dec (fun h => ?_) (fun h => ?_) | refine Spl.eq (fun h => ?_) (fun h => ?_) | refine Spl.ne (fun h => ?_) (fun h => ?_) | refine Spl.seq (fun h => ?_) (fun h => ?_) | refine Spl.not ?_ | refine Spl.any (fun h => ?_) (fun h => ?_))
    | (refine VCalls.mono (new_c l x.most hl) ?_; rintro _ rfl)
    | ((with_reducible apply And.intro); first | omega | rfl | (dsimp only; omega))))
  all_goals (conv => whnf)
  rfl
theorem not_c (x : Text) (l : List (Int × Int)) (hl : l.length ≤ 2000000000) : VCalls Try.prog 124 [x.enc, rs l] (fun r => r = rs (joinP 2 l [] x.most)) := by
  refine VCalls.ofx tabOk orders Try.func124 (by decide) rfl rfl ?_
  repeat' ((conv => whnf); (first
    | (with_reducible first | refine Spl.yes ?_ | refine Spl.no ?_ | refine Spl.dec (fun h => ?_) (fun h => ?_) | refine Spl.eq (fun h => ?_) (fun h => ?_) | refine Spl.ne (fun h => ?_) (fun h => ?_) | refine Spl.seq (fun h => ?_) (fun h => ?_) | refine Spl.not ?_ | refine Spl.any (fun h => ?_) (fun h => ?_))
    | (refine VCalls.mono (join_c 2 l [] x.most hl (by simp)) ?_; rintro _ rfl)
    | ((with_reducible apply And.intro); first | omega | rfl | (dsimp only; omega))))
  all_goals (conv => whnf)
  rfl
theorem one4_c (lo hi : Int) : VCalls Try.prog 129 [iv lo, iv hi] (fun r => r = rs [(lo, hi)]) := by
  refine VCalls.ofx tabOk orders Try.func129 (by decide) rfl rfl ?_
  repeat' ((conv => whnf); (first
    | (with_reducible first | refine Spl.yes ?_ | refine Spl.no ?_ | refine Spl.dec (fun h => ?_) (fun h => ?_) | refine Spl.eq (fun h => ?_) (fun h => ?_) | refine Spl.ne (fun h => ?_) (fun h => ?_) | refine Spl.seq (fun h => ?_) (fun h => ?_) | refine Spl.not ?_ | refine Spl.any (fun h => ?_) (fun h => ?_))
    | ((with_reducible apply And.intro); first | omega | rfl | (dsimp only; omega))))
  all_goals (conv => whnf)
  rfl
@[reducible] def setE (p : List (Int × Int) × Bool) : SV := .tuple [rs p.1, bv p.2]
theorem ite_len {c : Prop} [Decidable c] {a b : List (Int × Int) × Bool} (h1 : a.1.length ≤ 4) (h2 : b.1.length ≤ 4) : (if c then a else b).1.length ≤ 4 := by split <;> assumption
def posixP (s : ByteArray) : List (Int × Int) × Bool :=
  if s = bs [97, 108, 112, 104, 97] then ([(65, 90), (97, 122)], true)
  else if s = bs [100, 105, 103, 105, 116] then ([(48, 57)], true)
  else if s = bs [97, 108, 110, 117, 109] then ([(48, 57), (65, 90), (97, 122)], true)
  else if s = bs [117, 112, 112, 101, 114] then ([(65, 90)], true)
  else if s = bs [108, 111, 119, 101, 114] then ([(97, 122)], true)
  else if s = bs [115, 112, 97, 99, 101] then ([(9, 13), (32, 32)], true)
  else if s = bs [98, 108, 97, 110, 107] then ([(9, 9), (32, 32)], true)
  else if s = bs [112, 117, 110, 99, 116] then ([(33, 47), (58, 64), (91, 96), (123, 126)], true)
  else if s = bs [99, 110, 116, 114, 108] then ([(0, 31), (127, 127)], true)
  else if s = bs [103, 114, 97, 112, 104] then ([(33, 126)], true)
  else if s = bs [112, 114, 105, 110, 116] then ([(32, 126)], true)
  else if s = bs [120, 100, 105, 103, 105, 116] then ([(48, 57), (65, 70), (97, 102)], true)
  else if s = bs [119, 111, 114, 100] then ([(48, 57), (65, 90), (95, 95), (97, 122)], true)
  else if s = bs [97, 115, 99, 105, 105] then ([(0, 127)], true)
  else ([], false)
theorem posixP_len (s : ByteArray) : (posixP s).1.length ≤ 4 := by
  unfold posixP
  repeat (refine ite_len (by decide) ?_)
  decide
theorem posix_c (s : ByteArray) (hs : s.size ≤ 100000) : VCalls Try.prog 123 [sv s] (fun r => r = setE (posixP s)) := by
  refine VCalls.ofx tabOk orders Try.func123 (by decide) rfl rfl ?_
  repeat' ((conv => whnf); (first
    | (with_reducible first | refine Spl.yes ?_ | refine Spl.no ?_ | refine Spl.dec (fun h => ?_) (fun h => ?_) | refine Spl.eq (fun h => ?_) (fun h => ?_) | refine Spl.ne (fun h => ?_) (fun h => ?_) | refine Spl.seq (fun h => ?_) (fun h => ?_) | refine Spl.not ?_ | refine Spl.any (fun h => ?_) (fun h => ?_))
    | (refine VCalls.mono (one4_c _ _) ?_; rintro _ rfl)
    | ((with_reducible apply And.intro); first | omega | rfl | (dsimp only; omega))))
  all_goals (conv => whnf)
  all_goals (unfold posixP)
  all_goals (apply fn_by (f := setE); (focus ((repeat (first | (apply ite_yes; (focus first | assumption | omega)) | (apply ite_no; (focus first | assumption | exact b_nt (by assumption) | exact b_nf (by assumption) | omega)) | (apply ite_yes; (focus (first | (simp [*]; done) | (simp [*, bs]; done)))) | (apply ite_no; (focus (first | (simp [*]; done) | (simp [*, bs]; done)))))); exact rfl)); rfl)
def escP (c : Int) : List (Int × Int) × Bool :=
  if c = 100 then posixP (bs [100, 105, 103, 105, 116]) else if c = 115 then posixP (bs [115, 112, 97, 99, 101]) else if c = 119 then posixP (bs [119, 111, 114, 100])
  else if c = 104 then ([(9, 9), (32, 32), (160, 160), (8192, 8202)], true) else if c = 118 then ([(10, 13), (133, 133), (8232, 8233)], true) else ([], false)
theorem escP_len (c : Int) : (escP c).1.length ≤ 4 := by
  unfold escP
  repeat (refine ite_len (by first | exact posixP_len _ | decide) ?_)
  decide
attribute [local irreducible] posixP
theorem esc_c (c : Int) : VCalls Try.prog 122 [iv c] (fun r => r = setE (escP c)) := by
  refine VCalls.ofx tabOk orders Try.func122 (by decide) rfl rfl ?_
  repeat' ((conv => whnf); (first
    | (with_reducible first | refine Spl.yes ?_ | refine Spl.no ?_ | refine Spl.dec (fun h => ?_) (fun h => ?_) | refine Spl.eq (fun h => ?_) (fun h => ?_) | refine Spl.ne (fun h => ?_) (fun h => ?_) | refine Spl.seq (fun h => ?_) (fun h => ?_) | refine Spl.not ?_ | refine Spl.any (fun h => ?_) (fun h => ?_))
    | (refine VCalls.mono (posix_c _ (by decide)) ?_; rintro _ rfl)
    | ((with_reducible apply And.intro); first | omega | rfl | (dsimp only; omega))))
  all_goals (conv => whnf)
  all_goals (unfold escP)
  all_goals (apply fn_by (f := setE); (focus ((repeat (first | (apply ite_yes; (focus first | assumption | omega)) | (apply ite_no; (focus first | assumption | exact b_nt (by assumption) | exact b_nf (by assumption) | omega)) | (apply ite_yes; (focus (first | (simp [*]; done) | (simp [*, bs]; done)))) | (apply ite_no; (focus (first | (simp [*]; done) | (simp [*, bs]; done)))))); exact rfl)); rfl)
structure Row5 where
  lo : Int
  hi : Int
  cat : ByteArray
  scr : ByteArray
  oth : Int
@[reducible] def rowE (r : Row5) : List SV := [iv r.lo, iv r.hi, sv r.cat, sv r.scr, iv r.oth]
def lowT : List Row5 := [
  ⟨0, 31, bs [67, 99], bs [67, 111, 109, 109, 111, 110], 0⟩,
  ⟨32, 32, bs [90, 115], bs [67, 111, 109, 109, 111, 110], 0⟩,
  ⟨33, 35, bs [80, 111], bs [67, 111, 109, 109, 111, 110], 0⟩,
  ⟨36, 36, bs [83, 99], bs [67, 111, 109, 109, 111, 110], 0⟩,
  ⟨37, 39, bs [80, 111], bs [67, 111, 109, 109, 111, 110], 0⟩,
  ⟨40, 40, bs [80, 115], bs [67, 111, 109, 109, 111, 110], 0⟩,
  ⟨41, 41, bs [80, 101], bs [67, 111, 109, 109, 111, 110], 0⟩,
  ⟨42, 42, bs [80, 111], bs [67, 111, 109, 109, 111, 110], 0⟩,
  ⟨43, 43, bs [83, 109], bs [67, 111, 109, 109, 111, 110], 0⟩,
  ⟨44, 44, bs [80, 111], bs [67, 111, 109, 109, 111, 110], 0⟩,
  ⟨45, 45, bs [80, 100], bs [67, 111, 109, 109, 111, 110], 0⟩,
  ⟨46, 47, bs [80, 111], bs [67, 111, 109, 109, 111, 110], 0⟩,
  ⟨48, 57, bs [78, 100], bs [67, 111, 109, 109, 111, 110], 0⟩,
  ⟨58, 59, bs [80, 111], bs [67, 111, 109, 109, 111, 110], 0⟩,
  ⟨60, 62, bs [83, 109], bs [67, 111, 109, 109, 111, 110], 0⟩,
  ⟨63, 64, bs [80, 111], bs [67, 111, 109, 109, 111, 110], 0⟩,
  ⟨65, 90, bs [76, 117], bs [76, 97, 116, 105, 110], 32⟩,
  ⟨91, 91, bs [80, 115], bs [67, 111, 109, 109, 111, 110], 0⟩,
  ⟨92, 92, bs [80, 111], bs [67, 111, 109, 109, 111, 110], 0⟩,
  ⟨93, 93, bs [80, 101], bs [67, 111, 109, 109, 111, 110], 0⟩,
  ⟨94, 94, bs [83, 107], bs [67, 111, 109, 109, 111, 110], 0⟩,
  ⟨95, 95, bs [80, 99], bs [67, 111, 109, 109, 111, 110], 0⟩,
  ⟨96, 96, bs [83, 107], bs [67, 111, 109, 109, 111, 110], 0⟩,
  ⟨97, 122, bs [76, 108], bs [76, 97, 116, 105, 110], -32⟩,
  ⟨123, 123, bs [80, 115], bs [67, 111, 109, 109, 111, 110], 0⟩,
  ⟨124, 124, bs [83, 109], bs [67, 111, 109, 109, 111, 110], 0⟩,
  ⟨125, 125, bs [80, 101], bs [67, 111, 109, 109, 111, 110], 0⟩,
  ⟨126, 126, bs [83, 109], bs [67, 111, 109, 109, 111, 110], 0⟩,
  ⟨127, 159, bs [67, 99], bs [67, 111, 109, 109, 111, 110], 0⟩]
def highT : List Row5 := [
  ⟨160, 160, bs [90, 115], bs [67, 111, 109, 109, 111, 110], 0⟩,
  ⟨161, 161, bs [80, 111], bs [67, 111, 109, 109, 111, 110], 0⟩,
  ⟨162, 165, bs [83, 99], bs [67, 111, 109, 109, 111, 110], 0⟩,
  ⟨166, 166, bs [83, 111], bs [67, 111, 109, 109, 111, 110], 0⟩,
  ⟨167, 167, bs [80, 111], bs [67, 111, 109, 109, 111, 110], 0⟩,
  ⟨168, 168, bs [83, 107], bs [67, 111, 109, 109, 111, 110], 0⟩,
  ⟨169, 169, bs [83, 111], bs [67, 111, 109, 109, 111, 110], 0⟩,
  ⟨170, 170, bs [76, 111], bs [76, 97, 116, 105, 110], 0⟩,
  ⟨171, 171, bs [80, 105], bs [67, 111, 109, 109, 111, 110], 0⟩,
  ⟨172, 172, bs [83, 109], bs [67, 111, 109, 109, 111, 110], 0⟩,
  ⟨173, 173, bs [67, 102], bs [67, 111, 109, 109, 111, 110], 0⟩,
  ⟨174, 174, bs [83, 111], bs [67, 111, 109, 109, 111, 110], 0⟩,
  ⟨175, 175, bs [83, 107], bs [67, 111, 109, 109, 111, 110], 0⟩,
  ⟨176, 176, bs [83, 111], bs [67, 111, 109, 109, 111, 110], 0⟩,
  ⟨177, 177, bs [83, 109], bs [67, 111, 109, 109, 111, 110], 0⟩,
  ⟨178, 179, bs [78, 111], bs [67, 111, 109, 109, 111, 110], 0⟩,
  ⟨180, 180, bs [83, 107], bs [67, 111, 109, 109, 111, 110], 0⟩,
  ⟨181, 181, bs [76, 108], bs [67, 111, 109, 109, 111, 110], 0⟩,
  ⟨182, 183, bs [80, 111], bs [67, 111, 109, 109, 111, 110], 0⟩,
  ⟨184, 184, bs [83, 107], bs [67, 111, 109, 109, 111, 110], 0⟩,
  ⟨185, 185, bs [78, 111], bs [67, 111, 109, 109, 111, 110], 0⟩,
  ⟨186, 186, bs [76, 111], bs [76, 97, 116, 105, 110], 0⟩,
  ⟨187, 187, bs [80, 102], bs [67, 111, 109, 109, 111, 110], 0⟩,
  ⟨188, 190, bs [78, 111], bs [67, 111, 109, 109, 111, 110], 0⟩,
  ⟨191, 191, bs [80, 111], bs [67, 111, 109, 109, 111, 110], 0⟩,
  ⟨192, 214, bs [76, 117], bs [76, 97, 116, 105, 110], 32⟩,
  ⟨215, 215, bs [83, 109], bs [67, 111, 109, 109, 111, 110], 0⟩,
  ⟨216, 222, bs [76, 117], bs [76, 97, 116, 105, 110], 32⟩,
  ⟨223, 223, bs [76, 108], bs [76, 97, 116, 105, 110], 0⟩,
  ⟨224, 246, bs [76, 108], bs [76, 97, 116, 105, 110], -32⟩,
  ⟨247, 247, bs [83, 109], bs [67, 111, 109, 109, 111, 110], 0⟩,
  ⟨248, 254, bs [76, 108], bs [76, 97, 116, 105, 110], -32⟩,
  ⟨255, 255, bs [76, 108], bs [76, 97, 116, 105, 110], 0⟩,
  ⟨383, 383, bs [76, 108], bs [76, 97, 116, 105, 110], 0⟩,
  ⟨768, 879, bs [77, 110], bs [73, 110, 104, 101, 114, 105, 116, 101, 100], 0⟩,
  ⟨913, 929, bs [76, 117], bs [71, 114, 101, 101, 107], 32⟩,
  ⟨931, 939, bs [76, 117], bs [71, 114, 101, 101, 107], 32⟩,
  ⟨945, 961, bs [76, 108], bs [71, 114, 101, 101, 107], -32⟩,
  ⟨962, 962, bs [76, 108], bs [71, 114, 101, 101, 107], 0⟩,
  ⟨963, 971, bs [76, 108], bs [71, 114, 101, 101, 107], -32⟩,
  ⟨1040, 1071, bs [76, 117], bs [67, 121, 114, 105, 108, 108, 105, 99], 32⟩,
  ⟨1072, 1103, bs [76, 108], bs [67, 121, 114, 105, 108, 108, 105, 99], -32⟩,
  ⟨1488, 1514, bs [76, 111], bs [72, 101, 98, 114, 101, 119], 0⟩,
  ⟨1632, 1641, bs [78, 100], bs [65, 114, 97, 98, 105, 99], 0⟩,
  ⟨8192, 8202, bs [90, 115], bs [67, 111, 109, 109, 111, 110], 0⟩,
  ⟨8232, 8232, bs [90, 108], bs [67, 111, 109, 109, 111, 110], 0⟩,
  ⟨8233, 8233, bs [90, 112], bs [67, 111, 109, 109, 111, 110], 0⟩,
  ⟨8364, 8364, bs [83, 99], bs [67, 111, 109, 109, 111, 110], 0⟩,
  ⟨8490, 8490, bs [76, 117], bs [76, 97, 116, 105, 110], 0⟩,
  ⟨12353, 12438, bs [76, 111], bs [72, 105, 114, 97, 103, 97, 110, 97], 0⟩,
  ⟨19968, 40959, bs [76, 111], bs [72, 97, 110], 0⟩,
  ⟨127744, 128511, bs [83, 111], bs [67, 111, 109, 109, 111, 110], 0⟩]
@[reducible] def rows5 (l : List Row5) : List (List SV) := l.map rowE
theorem low_c : VCalls Try.prog 133 [] (fun r => r = .sl 5 (rows5 lowT)) := by
  refine VCalls.ofx tabOk orders Try.func133 (by decide) rfl rfl ?_
  repeat' ((conv => whnf); (first
    | (with_reducible first | refine Spl.yes ?_ | refine Spl.no ?_ | refine Spl.dec (fun h => ?_) (fun h => ?_) | refine Spl.eq (fun h => ?_) (fun h => ?_) | refine Spl.ne (fun h => ?_) (fun h => ?_) | refine Spl.seq (fun h => ?_) (fun h => ?_) | refine Spl.not ?_ | refine Spl.any (fun h => ?_) (fun h => ?_))
    | ((with_reducible apply And.intro); first | omega | rfl | (dsimp only; omega))))
  all_goals (conv => whnf)
  rfl
set_option maxRecDepth 100000 in
theorem high_c : VCalls Try.prog 134 [] (fun r => r = .sl 5 (rows5 highT)) := by
  refine VCalls.ofx tabOk orders Try.func134 (by decide) rfl rfl ?_
  repeat' ((conv => whnf); (first
    | (with_reducible first | refine Spl.yes ?_ | refine Spl.no ?_ | refine Spl.dec (fun h => ?_) (fun h => ?_) | refine Spl.eq (fun h => ?_) (fun h => ?_) | refine Spl.ne (fun h => ?_) (fun h => ?_) | refine Spl.seq (fun h => ?_) (fun h => ?_) | refine Spl.not ?_ | refine Spl.any (fun h => ?_) (fun h => ?_))
    | ((with_reducible apply And.intro); first | omega | rfl | (dsimp only; omega))))
  all_goals (conv => whnf)
  rfl
def tableT : List Row5 := lowT ++ highT
set_option maxRecDepth 100000 in
theorem table_c : VCalls Try.prog 130 [] (fun r => r = .sl 5 (rows5 tableT)) := by
  refine VCalls.ofx tabOk orders Try.func130 (by decide) rfl rfl ?_
  repeat' ((conv => whnf); (first
    | (with_reducible first | refine Spl.yes ?_ | refine Spl.no ?_ | refine Spl.dec (fun h => ?_) (fun h => ?_) | refine Spl.eq (fun h => ?_) (fun h => ?_) | refine Spl.ne (fun h => ?_) (fun h => ?_) | refine Spl.seq (fun h => ?_) (fun h => ?_) | refine Spl.not ?_ | refine Spl.any (fun h => ?_) (fun h => ?_))
    | (refine VCalls.mono (low_c) ?_; rintro _ rfl)
    | (refine VCalls.mono (high_c) ?_; rintro _ rfl)
    | refine And.intro (by decide) ?_
    | ((with_reducible apply And.intro); first | omega | rfl | (dsimp only; omega))))
  all_goals (conv => whnf)
  rfl
end Go.Proofs.Ytnoohgiecnmajaa.VC

/- Sets of characters: properties. -/
namespace Go.Proofs.Ytnoohgiecnmajaa.VC
open Go Go.RowKit
set_option linter.unusedVariables false
set_option linter.unusedSimpArgs false
set_option maxHeartbeats 4000000

def catP (s : ByteArray) (r : Row5) : Bool :=
  if r.cat = s then true else if r.scr = s then true else if s.size = 1 ∧ r.cat.extract 0 1 = s then true
  else if s = bs [76, 38] then (if r.cat = bs [76, 117] then true else decide (r.cat = bs [76, 108])) else false
@[reducible] def rgP (r : Row5) : Int × Int := (r.lo, r.hi)
def propL (s : ByteArray) : List (Int × Int) := (tableT.filter (catP s)).map rgP
def propN (s : ByteArray) : List (Int × Int) :=
  if s = bs [67, 110] ∨ s = bs [67] ∨ s = bs [85, 110, 107, 110, 111, 119, 110] then propL s ++ joinP 2 (tableT.map rgP) [] 1114111 else propL s
def propP (s : ByteArray) : List (Int × Int) × Bool :=
  if s = bs [65, 110, 121] then ([(0, 1114111)], true)
  else if (propN s).length = 0 then ([], false)
  else (newP (propN s) 1114111, true)
def rd5 (l : List Row5) (j : Int) : Row5 := l.getD j.toNat ⟨0, 0, bs [67], bs [], 0⟩
theorem rows5_len (l : List Row5) : (rows5 l).length = l.length := by simp [rows5]
theorem rows5_get {l : List Row5} {j : Int} (h : j.toNat < l.length) : (rows5 l).getD j.toNat [] = rowE (rd5 l j) := by
  simp [rows5, rd5, List.getD_eq_getElem?_getD, List.getElem?_eq_getElem h]
theorem take_step5 {l : List Row5} {j : Int} (h0 : 0 ≤ j) (h : j < l.length) : l.take (j + 1).toNat = l.take j.toNat ++ [rd5 l j] := by
  have e : (j + 1).toNat = j.toNat + 1 := by omega
  rw [e, List.take_succ_eq_append_getElem (by omega)]
  simp [rd5, List.getD_eq_getElem?_getD, List.getElem?_eq_getElem (show j.toNat < l.length by omega)]
theorem tableT_cat : ∀ r ∈ tableT, 1 ≤ r.cat.size := by
  have h : tableT.all (fun r => decide (1 ≤ r.cat.size)) = true := by decide +kernel
  intro r hr
  simpa using List.all_eq_true.1 h r hr
theorem tableT_len : tableT.length = 81 := by decide +kernel
attribute [local irreducible] catP tableT joinP newP
set_option maxHeartbeats 8000000
theorem property_c (s : ByteArray) (hs : s.size ≤ 100000) : VCalls Try.prog 121 [sv s] (fun r => r = setE (propP s)) := by
  refine VCalls.ofr tabOk Try.func121 (by decide) rfl rfl ?_
  refine RWP.seqx tabOk orders ?_
  conv => whnf
  refine RWP.seqx tabOk orders ?_
  repeat' ((conv => whnf); (first
    | (with_reducible first | refine Spl.yes ?_ | refine Spl.no ?_ | refine Spl.dec (fun h => ?_) (fun h => ?_) | refine Spl.eq (fun h => ?_) (fun h => ?_) | refine Spl.ne (fun h => ?_) (fun h => ?_) | refine Spl.seq (fun h => ?_) (fun h => ?_) | refine Spl.not ?_ | refine Spl.any (fun h => ?_) (fun h => ?_))
    | (refine VCalls.mono (one4_c _ _) ?_; rintro _ rfl)
    | ((with_reducible apply And.intro); first | omega | rfl | (dsimp only; omega))))
  all_goals (conv => whnf)
  · unfold propP
    (apply fn_by (f := setE); (focus ((repeat (first | (apply ite_yes; (focus first | assumption | omega)) | (apply ite_no; (focus first | assumption | exact b_nt (by assumption) | exact b_nf (by assumption) | omega)) | (apply ite_yes; (focus (first | (simp [*]; done) | (simp [*, bs]; done)))) | (apply ite_no; (focus (first | (simp [*]; done) | (simp [*, bs]; done)))))); exact rfl)); rfl)
  refine RWP.seqx tabOk orders ?_
  conv => whnf
  refine RWP.seqx tabOk orders ?_
  conv => whnf
  refine RWP.seqx tabOk orders ?_
  repeat' ((conv => whnf); (first
    | (with_reducible first | refine Spl.yes ?_ | refine Spl.no ?_ | refine Spl.dec (fun h => ?_) (fun h => ?_) | refine Spl.eq (fun h => ?_) (fun h => ?_) | refine Spl.ne (fun h => ?_) (fun h => ?_) | refine Spl.seq (fun h => ?_) (fun h => ?_) | refine Spl.not ?_ | refine Spl.any (fun h => ?_) (fun h => ?_))
    | (refine VCalls.mono (table_c) ?_; rintro _ rfl)
    | ((with_reducible apply And.intro); first | omega | rfl | (dsimp only; omega))))
  all_goals (conv => whnf)
  have hT := tableT_len
  have hcat := tableT_cat
  have hpL : propL s = ((tableT.take tableT.length).filter (catP s)).map rgP := by rw [List.take_length]; rfl
  have hpA : tableT.map rgP = (tableT.take tableT.length).map rgP := by rw [List.take_length]
  unfold propP propN
  rw [hpL, hpA]
  generalize tableT = T at *
  refine RWP.seq ?_
  refine RWP.seqx tabOk orders ?_
  conv => whnf
  refine RWP.block ?_
  refine RWP.loop (fun k st => ∃ (j : Int) (v1 v2 : Bool), st = ⟨98, [(0, .pv (sv s)), (4, .own 78), (5, .own 34), (6, .pv (.sl 5 (rows5 T))), (7, .pv (iv j))], [], [(78, ⟨2, 74, v1, rows2 (((T.take j.toNat).filter (catP s)).map rgP)⟩), (34, ⟨2, 74, v2, rows2 ((T.take j.toNat).map rgP)⟩)], []⟩ ∧ 0 ≤ j ∧ j ≤ T.length ∧ k = (T.length - j).toNat)
    ⟨_, _, Wk.trans (Wk.ownNil (t := 4) (k := 78) (sz := 2) (e := 74) rfl) (Wk.trans (Wk.ownNil (t := 5) (k := 34) (sz := 2) (e := 74) rfl) (Wk.narrow _ [0, 4, 5, 6, 7] [] [78, 34])), 0, true, true, rfl, by omega, by omega, rfl⟩ ?_
  rintro k st ⟨j, v1, v2, rfl, hj0, hj1, hk⟩
  have hn := rows5_len T
  have hl1 : (rows2 (((T.take j.toNat).filter (catP s)).map rgP)).length ≤ 81 := by
    rw [rows2_len, List.length_map]
    have := List.length_filter_le (catP s) (T.take j.toNat)
    rw [List.length_take] at this
    omega
  have hl2 : (rows2 ((T.take j.toNat).map rgP)).length ≤ 81 := by
    rw [rows2_len, List.length_map, List.length_take]
    omega
  refine RWP.seqx tabOk orders ?_
  repeat' ((conv => whnf); (first
    | (with_reducible first | refine Spl.yes ?_ | refine Spl.no ?_ | refine Spl.dec (fun h => ?_) (fun h => ?_) | refine Spl.eq (fun h => ?_) (fun h => ?_) | refine Spl.ne (fun h => ?_) (fun h => ?_) | refine Spl.seq (fun h => ?_) (fun h => ?_) | refine Spl.not ?_ | refine Spl.any (fun h => ?_) (fun h => ?_))
    | ((with_reducible apply And.intro); first | omega | rfl | (dsimp only; omega))))
  all_goals (conv => whnf)
  rotate_left
  · have e : j = T.length := by omega
    subst e
    have e2 : (T.length : Int).toNat = T.length := by omega
    rw [e2]
    rw [e2] at hl1 hl2
    rw [rows2_len] at hl1 hl2
    generalize ((T.take T.length).filter (catP s)).map rgP = L at *
    generalize (T.take T.length).map rgP = A at *
    have hjl := joinP_len 2 A [] 1114111
    have hjl2 := rows2_len (joinP 2 A [] 1114111)
    have hLL := rows2_len L
    have k2 : rows2 L ++ rows2 (joinP 2 A [] 1114111) = rows2 (L ++ joinP 2 A [] 1114111) := by simp [rows2]
    refine RWP.cut (fun st => ∃ (N : List (Int × Int)), N = (if s = bs [67, 110] ∨ s = bs [67] ∨ s = bs [85, 110, 107, 110, 111, 119, 110] then L ++ joinP 2 A [] 1114111 else L) ∧ st = ⟨98, [(0, .pv (sv s)), (4, .pv (rs N))], [], [], []⟩) tabOk orders ?_ ?_
    · repeat' ((conv => whnf); (first
    | (with_reducible first | refine Spl.yes ?_ | refine Spl.no ?_ | refine Spl.dec (fun h => ?_) (fun h => ?_) | refine Spl.eq (fun h => ?_) (fun h => ?_) | refine Spl.ne (fun h => ?_) (fun h => ?_) | refine Spl.seq (fun h => ?_) (fun h => ?_) | refine Spl.not ?_ | refine Spl.any (fun h => ?_) (fun h => ?_))
    | (refine VCalls.mono (join_c 2 A [] 1114111 (by omega) (by simp)) ?_; rintro _ rfl)
    | refine And.intro (by show ((rows2 L).length + (rows2 (joinP 2 A [] 1114111)).length) * 16 ≤ 140737488355328; simp only [List.length_nil] at hjl; omega) ?_
    | ((with_reducible apply And.intro); first | omega | rfl | (dsimp only; omega))))
      all_goals (conv => whnf)
      all_goals first
        | exact ⟨_, Wk.trans (Wk.freeze 4 (k := 92) rfl rfl) (Wk.narrow _ [0, 4] [] []), _, (if_pos (by first | exact .inl (by assumption) | exact .inr (.inl (by assumption)) | exact .inr (.inr (by assumption)))).symm, Eq.trans rfl (congrArg (fun X : List (List SV) => (⟨98, [(0, .pv (sv s)), (4, .pv (.sl 2 X))], [], [], []⟩ : St)) k2)⟩
        | exact ⟨_, Wk.trans (Wk.freeze 4 (k := 78) rfl rfl) (Wk.narrow _ [0, 4] [] []), _, (if_neg (by rintro (q | q | q) <;> contradiction)).symm, rfl⟩
    rintro _ ⟨N, hN, rfl⟩
    have hNl : N.length ≤ 1000 := by
      rw [hN]
      simp only [List.length_nil] at hjl
      split
      · rw [List.length_append]; omega
      · omega
    rw [← hN]
    clear hN
    have hNN := rows2_len N
    refine RWP.of tabOk orders ?_
    repeat' ((conv => whnf); (first
    | (with_reducible first | refine Spl.yes ?_ | refine Spl.no ?_ | refine Spl.dec (fun h => ?_) (fun h => ?_) | refine Spl.eq (fun h => ?_) (fun h => ?_) | refine Spl.ne (fun h => ?_) (fun h => ?_) | refine Spl.seq (fun h => ?_) (fun h => ?_) | refine Spl.not ?_ | refine Spl.any (fun h => ?_) (fun h => ?_))
    | (refine VCalls.mono (new_c N 1114111 (by omega)) ?_; rintro _ rfl)
    | ((with_reducible apply And.intro); first | omega | rfl | (dsimp only; omega))))
    all_goals (conv => whnf)
    all_goals (dsimp only at *)
    · have hz : N.length = 0 := by omega
      (apply fn_by (f := setE); (focus ((repeat (first | (apply ite_yes; (focus first | assumption | omega)) | (apply ite_no; (focus first | assumption | exact b_nt (by assumption) | exact b_nf (by assumption) | omega)) | (apply ite_yes; (focus (first | (simp [*]; done) | (simp [*, bs]; done)))) | (apply ite_no; (focus (first | (simp [*]; done) | (simp [*, bs]; done)))))); exact rfl)); rfl)
    · have hz : ¬ N.length = 0 := by omega
      (apply fn_by (f := setE); (focus ((repeat (first | (apply ite_yes; (focus first | assumption | omega)) | (apply ite_no; (focus first | assumption | exact b_nt (by assumption) | exact b_nf (by assumption) | omega)) | (apply ite_yes; (focus (first | (simp [*]; done) | (simp [*, bs]; done)))) | (apply ite_no; (focus (first | (simp [*]; done) | (simp [*, bs]; done)))))); exact rfl)); rfl)
  have hmem : rd5 T j ∈ T := by
    unfold rd5
    rw [List.getD_eq_getElem?_getD, List.getElem?_eq_getElem (by omega)]
    simp
  have hc := hcat _ hmem
  have kA : rows2 ((T.take j.toNat).map rgP) ++ [[iv (rd5 T j).lo, iv (rd5 T j).hi]] = rows2 ((T.take (j + 1).toNat).map rgP) := by
    rw [take_step5 hj0 (by omega), List.map_append]; simp [rows2]
  have kY : catP s (rd5 T j) = true → rows2 (((T.take j.toNat).filter (catP s)).map rgP) ++ [[iv (rd5 T j).lo, iv (rd5 T j).hi]] = rows2 (((T.take (j + 1).toNat).filter (catP s)).map rgP) := by
    intro h
    rw [take_step5 hj0 (by omega), List.filter_append, List.map_append]; simp [rows2, h]
  have kN : catP s (rd5 T j) = false → rows2 (((T.take j.toNat).filter (catP s)).map rgP) = rows2 (((T.take (j + 1).toNat).filter (catP s)).map rgP) := by
    intro h
    rw [take_step5 hj0 (by omega), List.filter_append, List.map_append]; simp [rows2, h]
  generalize hR : rd5 T j = R at *
  obtain ⟨lo, hi, cat, scr, oth⟩ := R
  generalize rows2 (((T.take j.toNat).filter (catP s)).map rgP) = X1 at *
  generalize rows2 ((T.take j.toNat).map rgP) = X2 at *
  dsimp only at *
  refine RWP.of tabOk orders ?_
  repeat' ((conv => whnf); (first
    | (with_reducible first | refine Spl.yes ?_ | refine Spl.no ?_ | refine Spl.dec (fun h => ?_) (fun h => ?_) | refine Spl.eq (fun h => ?_) (fun h => ?_) | refine Spl.ne (fun h => ?_) (fun h => ?_) | refine Spl.seq (fun h => ?_) (fun h => ?_) | refine Spl.not ?_ | refine Spl.any (fun h => ?_) (fun h => ?_))
    | refine drawn_text (by decide +kernel) ?_
    | (rw [rows5_get (by omega), hR])
    | refine And.intro (by show (X2.length + 1) * 16 ≤ 140737488355328; omega) ?_
    | refine And.intro (by show (X1.length + 1) * 16 ≤ 140737488355328; omega) ?_
    | ((with_reducible apply And.intro); first | omega | rfl | (dsimp only; omega))))
  all_goals (conv => whnf)
  all_goals (dsimp only at *)
  all_goals (have hq : (s.size = 1 ∧ cat.extract 0 1 = s) ∨ ¬ (s.size = 1 ∧ cat.extract 0 1 = s) := by first | exact .inl ⟨by omega, by assumption⟩ | exact .inr (fun q => by first | omega | exact absurd q.2 (by assumption)) | exact Classical.em _)
  all_goals (rcases hq with hq | hq)
  all_goals first
    | (exfalso; first | omega | (exact absurd hq.2 (by assumption)) | (exact hq ⟨by omega, by assumption⟩))
    | (have hC : catP s ⟨lo, hi, cat, scr, oth⟩ = true := by
         unfold catP
         symm
         (repeat (first | (apply ite_yes; (focus first | assumption | omega)) | (apply ite_no; (focus first | assumption | exact b_nt (by assumption) | exact b_nf (by assumption) | omega)) | (apply ite_yes; (focus (first | (simp [*]; done) | (simp [*, bs]; done)))) | (apply ite_no; (focus (first | (simp [*]; done) | (simp [*, bs]; done))))))
         first | rfl | exact (decide_eq_true (by assumption)).symm | exact (decide_eq_false (by assumption)).symm
       exact ⟨(T.length - (j + 1)).toNat, _, by omega, Wk.narrow _ [0, 4, 5, 6, 7] [] [78, 34], j + 1, _, _, Eq.trans rfl (congrArg (fun p : List (List SV) × List (List SV) => (⟨98, [(0, .pv (sv s)), (4, .own 78), (5, .own 34), (6, .pv (.sl 5 (rows5 T))), (7, .pv (iv (j + 1)))], [], [(78, ⟨2, 74, v1, p.1⟩), (34, ⟨2, 74, v2, p.2⟩)], []⟩ : St)) (Prod.ext (kY hC) kA : (_, _) = (_, _))), by omega, by omega, rfl⟩)
    | (have hC : catP s ⟨lo, hi, cat, scr, oth⟩ = false := by
         unfold catP
         symm
         (repeat (first | (apply ite_yes; (focus first | assumption | omega)) | (apply ite_no; (focus first | assumption | exact b_nt (by assumption) | exact b_nf (by assumption) | omega)) | (apply ite_yes; (focus (first | (simp [*]; done) | (simp [*, bs]; done)))) | (apply ite_no; (focus (first | (simp [*]; done) | (simp [*, bs]; done))))))
         first | rfl | exact (decide_eq_true (by assumption)).symm | exact (decide_eq_false (by assumption)).symm
       exact ⟨(T.length - (j + 1)).toNat, _, by omega, Wk.narrow _ [0, 4, 5, 6, 7] [] [78, 34], j + 1, _, _, Eq.trans rfl (congrArg (fun p : List (List SV) × List (List SV) => (⟨98, [(0, .pv (sv s)), (4, .own 78), (5, .own 34), (6, .pv (.sl 5 (rows5 T))), (7, .pv (iv (j + 1)))], [], [(78, ⟨2, 74, v1, p.1⟩), (34, ⟨2, 74, v2, p.2⟩)], []⟩ : St)) (Prod.ext (kN hC) kA : (_, _) = (_, _))), by omega, by omega, rfl⟩)
end Go.Proofs.Ytnoohgiecnmajaa.VC

/- The lexer of the document: escapes of many characters. -/
namespace Go.Proofs.Ytnoohgiecnmajaa.VC
open Go Go.RowKit
set_option linter.unusedVariables false
set_option linter.unusedSimpArgs false
set_option maxHeartbeats 4000000

theorem propL_len (s : ByteArray) : (propL s).length ≤ 81 := by
  unfold propL
  rw [List.length_map]
  have := List.length_filter_le (catP s) tableT
  rw [tableT_len] at this
  exact this
theorem propN_len (s : ByteArray) : (propN s).length ≤ 300 := by
  unfold propN
  have h := propL_len s
  split
  · rw [List.length_append]
    have := joinP_len 2 (tableT.map rgP) [] 1114111
    simp only [List.length_map, tableT_len, List.length_nil] at this
    omega
  · omega
theorem propP_len (s : ByteArray) : (propP s).1.length ≤ 1000 := by
  unfold propP
  split
  · simp
  split
  · simp
  · have := newP_len (propN s) 1114111
    have := propN_len s
    simp only
    omega
theorem bracedP_rng (x : Text) (i : Int) (h0 : 0 ≤ i) (h : i ≤ x.s.size) : (bracedP x i).1.size ≤ x.s.size ∧ (bracedP x i).2 ≤ x.s.size ∧ ((bracedP x i).2 < 0 ∨ i ≤ (bracedP x i).2) := by
  unfold bracedP
  split
  · exact ⟨by show (0 : Nat) ≤ _; omega, by simp only; omega, .inl (by simp)⟩
  split
  · have := charP_rng x i h
    exact ⟨by simp only [ByteArray.size_extract]; omega, this.2, .inr this.1⟩
  split
  · have := stopAt_range x.s 125 (i + 1) (by omega)
    refine ⟨by simp only [ByteArray.size_extract]; omega, by simp only; omega, .inr (by simp only; omega)⟩
  · exact ⟨by show (0 : Nat) ≤ _; omega, by simp only; omega, .inl (by simp)⟩
structure Many where
  l : List (Int × Int)
  neg : Bool
  to : Int
  there : Bool
  e : Int
@[reducible] def manyE (m : Many) : SV := .tuple [rs m.l, bv m.neg, iv m.to, bv m.there, iv m.e]
def manyQ (x : Text) (i to : Int) (neg : Bool) (s : ByteArray) : Many :=
  if (propP s).2 = false then ⟨[], false, i, true, 24⟩ else ⟨newP (propP s).1 x.most, neg, to, true, 0⟩
def manyB (x : Text) (neg : Bool) (i to : Int) (s : ByteArray) : Many :=
  if to < 0 then ⟨[], false, i, true, 24⟩
  else if (s.size : Int) > 0 then (if byteAt s 0 = 94 then manyQ x i to (!neg) (s.extract 1 s.size) else manyQ x i to neg s) else manyQ x i to neg s
def manyP (x : Text) (c i : Int) : Many :=
  if c = 112 then manyB x (c == 80) i (bracedP x i).2 (bracedP x i).1
  else if c = 80 then manyB x (c == 80) i (bracedP x i).2 (bracedP x i).1
  else if 65 ≤ c then (if c ≤ 90 then ⟨newP (escP (c + 32)).1 x.most, decide (c ≤ 90), i, (escP (c + 32)).2, 0⟩ else ⟨newP (escP c).1 x.most, decide (c ≤ 90), i, (escP c).2, 0⟩)
  else ⟨newP (escP c).1 x.most, false, i, (escP c).2, 0⟩
theorem manyP_len (x : Text) (c i : Int) : (manyP x c i).l.length ≤ 10000 := by
  have hQ : ∀ to neg s, (manyQ x i to neg s).l.length ≤ 10000 := by
    intro to neg s
    unfold manyQ
    split
    · simp
    · have := newP_len (propP s).1 x.most
      have := propP_len s
      simp only
      omega
  have hB : ∀ to neg s, (manyB x neg i to s).l.length ≤ 10000 := by
    intro to neg s
    unfold manyB
    split
    · simp
    split
    · split
      · exact hQ _ _ _
      · exact hQ _ _ _
    · exact hQ _ _ _
  have hE : ∀ c, (newP (escP c).1 x.most).length ≤ 10000 := by
    intro c
    have := newP_len (escP c).1 x.most
    have := escP_len c
    omega
  unfold manyP
  split
  · exact hB _ _ _
  split
  · exact hB _ _ _
  split
  · split
    · exact hE _
    · exact hE _
  · exact hE _
theorem manyP_to (x : Text) (c i : Int) (h0 : 0 ≤ i) (h : i ≤ x.s.size) : (manyP x c i).to ≤ x.s.size ∧ i ≤ (manyP x c i).to := by
  have hr := bracedP_rng x i h0 h
  have hQ : ∀ to neg s, i ≤ to → to ≤ x.s.size → (manyQ x i to neg s).to ≤ x.s.size ∧ i ≤ (manyQ x i to neg s).to := by
    intro to neg s q1 q2
    unfold manyQ
    split
    · exact ⟨h, by simp⟩
    · exact ⟨q2, q1⟩
  have hB : ∀ to neg s, (to < 0 ∨ i ≤ to) → to ≤ x.s.size → (manyB x neg i to s).to ≤ x.s.size ∧ i ≤ (manyB x neg i to s).to := by
    intro to neg s q1 q2
    unfold manyB
    split
    · exact ⟨h, by simp⟩
    split
    · split
      · exact hQ _ _ _ (by omega) q2
      · exact hQ _ _ _ (by omega) q2
    · exact hQ _ _ _ (by omega) q2
  unfold manyP
  split
  · exact hB _ _ _ hr.2.2 hr.2.1
  split
  · exact hB _ _ _ hr.2.2 hr.2.1
  split
  · split
    · exact ⟨h, by simp⟩
    · exact ⟨h, by simp⟩
  · exact ⟨h, by simp⟩
attribute [local irreducible] bracedP propP newP escP byteAt
theorem many_c (x : Text) (c i : Int) (hx : x.s.size ≤ 100000) (h0 : 0 ≤ i) (h1 : i ≤ x.s.size) (hc : -10 ≤ c ∧ c ≤ 2000000) :
    VCalls Try.prog 102 [x.enc, iv c, iv i] (fun r => r = manyE (manyP x c i)) := by
  have hr := bracedP_rng x i h0 h1
  have he1 := escP_len c
  have he2 := escP_len (c + 32)
  have hp1 := propP_len (bracedP x i).1
  have hp2 := propP_len ((bracedP x i).1.extract (Int.toNat 1) (((bracedP x i).1.size : Int).toNat))
  refine VCalls.ofx tabOk orders Try.func102 (by decide) rfl rfl ?_
  repeat' ((conv => whnf); (first
    | (with_reducible first | refine Spl.yes ?_ | refine Spl.no ?_ | refine Spl.dec (fun h => ?_) (fun h => ?_) | refine Spl.eq (fun h => ?_) (fun h => ?_) | refine Spl.ne (fun h => ?_) (fun h => ?_) | refine Spl.seq (fun h => ?_) (fun h => ?_) | refine Spl.not ?_ | refine Spl.any (fun h => ?_) (fun h => ?_))
    | (refine VCalls.mono (braced_c x i hx h0 h1) ?_; rintro _ rfl)
    | (refine VCalls.mono (property_c _ (by first | omega | (simp only [ByteArray.size_extract]; omega))) ?_; rintro _ rfl)
    | (refine VCalls.mono (cut_c x _ (by omega)) ?_; rintro _ rfl)
    | (refine VCalls.mono (esc_c _) ?_; rintro _ rfl)
    | ((with_reducible apply And.intro); first | omega | rfl | (dsimp only; omega))))
  all_goals (conv => whnf)
  all_goals (unfold manyP manyB manyQ)
  all_goals first | (apply fn_by (f := manyE); (focus ((repeat (first | (apply ite_yes; (focus first | assumption | omega)) | (apply ite_no; (focus first | assumption | exact b_nt (by assumption) | exact b_nf (by assumption) | omega)) | (apply ite_yes; (focus (first | (simp [*]; done) | (simp [*, bs]; done)))) | (apply ite_no; (focus (first | (simp [*]; done) | (simp [*, bs]; done)))))); exact rfl)); rfl)
end Go.Proofs.Ytnoohgiecnmajaa.VC

/- Cases: rows, others, those of a set. -/
namespace Go.Proofs.Ytnoohgiecnmajaa.VC
open Go Go.RowKit
set_option linter.unusedVariables false
set_option linter.unusedSimpArgs false
set_option maxHeartbeats 4000000

theorem turn_c (f on off : Int) : VCalls Try.prog 91 [iv f, iv on, iv off] (fun r => r = iv (bAndNot (bOr f on) off)) := by
  refine VCalls.ofr tabOk Try.func91 (by decide) rfl rfl ?_
  refine RWP.of tabOk orders ?_
  conv => whnf
  rfl
theorem one8_c (c : Int) : VCalls Try.prog 88 [iv c] (fun r => r = rs [(c, c)]) := by
  refine VCalls.ofr tabOk Try.func88 (by decide) rfl rfl ?_
  refine RWP.of tabOk orders ?_
  conv => whnf
  rfl
def rowZ : Row5 := ⟨0, 0, bs [], bs [], 0⟩
def ofRowL (c : Int) : List Row5 → Row5
  | [] => ⟨c, c, bs [67, 110], bs [85, 110, 107, 110, 111, 119, 110], 0⟩
  | r :: l => if r.lo ≤ c ∧ c ≤ r.hi then r else ofRowL c l
def ofRow (c : Int) : Row5 := if c < 0 ∨ c > 1114111 then rowZ else ofRowL c tableT
def Row5.enc (r : Row5) : SV := .agg (rowE r)
theorem drop_step5 {l : List Row5} {j : Int} (h0 : 0 ≤ j) (h : j < l.length) : l.drop j.toNat = rd5 l j :: l.drop (j + 1).toNat := by
  have e : (j + 1).toNat = j.toNat + 1 := by omega
  rw [e, List.drop_eq_getElem_cons (by omega)]
  simp [rd5, List.getD_eq_getElem?_getD, List.getElem?_eq_getElem (show j.toNat < l.length by omega)]
attribute [local irreducible] tableT
theorem ofRow_c (c : Int) : VCalls Try.prog 131 [iv c] (fun r => r = (ofRow c).enc) := by
  refine VCalls.ofr tabOk Try.func131 (by decide) rfl rfl ?_
  refine RWP.seqx tabOk orders ?_
  conv => whnf
  refine RWP.seqx tabOk orders ?_
  repeat' ((conv => whnf); (first
    | (with_reducible first | refine Spl.yes ?_ | refine Spl.no ?_ | refine Spl.dec (fun h => ?_) (fun h => ?_) | refine Spl.eq (fun h => ?_) (fun h => ?_) | refine Spl.ne (fun h => ?_) (fun h => ?_) | refine Spl.seq (fun h => ?_) (fun h => ?_) | refine Spl.not ?_ | refine Spl.any (fun h => ?_) (fun h => ?_))
    | ((with_reducible apply And.intro); first | omega | rfl | (dsimp only; omega))))
  all_goals (conv => whnf)
  · rw [ofRow, if_pos (by omega)]; rfl
  · rw [ofRow, if_pos (by omega)]; rfl
  refine RWP.seqx tabOk orders ?_
  repeat' ((conv => whnf); (first
    | (with_reducible first | refine Spl.yes ?_ | refine Spl.no ?_ | refine Spl.dec (fun h => ?_) (fun h => ?_) | refine Spl.eq (fun h => ?_) (fun h => ?_) | refine Spl.ne (fun h => ?_) (fun h => ?_) | refine Spl.seq (fun h => ?_) (fun h => ?_) | refine Spl.not ?_ | refine Spl.any (fun h => ?_) (fun h => ?_))
    | (refine VCalls.mono (table_c) ?_; rintro _ rfl)
    | ((with_reducible apply And.intro); first | omega | rfl | (dsimp only; omega))))
  all_goals (conv => whnf)
  have hT := tableT_len
  rw [ofRow, if_neg (by omega)]
  generalize tableT = T at *
  have hn := rows5_len T
  refine RWP.seq ?_
  refine RWP.seqx tabOk orders ?_
  conv => whnf
  refine RWP.block ?_
  refine RWP.loop (fun k st => ∃ (j : Int), st = ⟨42, [(0, .pv (iv c)), (2, .ptr 2 0), (3, .pv (.sl 5 (rows5 T))), (4, .pv (iv j))], [(2, (169, [.pv (iv 0), .pv (iv 0), .pv (sv (bs [])), .pv (sv (bs [])), .pv (iv 0)]))], [], []⟩ ∧ 0 ≤ j ∧ j ≤ T.length ∧ k = (T.length - j).toNat ∧ ofRowL c T = ofRowL c (T.drop j.toNat))
    ⟨_, _, Wk.narrow _ [0, 2, 3, 4] [2] [], 0, rfl, by omega, by omega, rfl, rfl⟩ ?_
  rintro k st ⟨j, rfl, hj0, hj1, hk, hP⟩
  refine RWP.seqx tabOk orders ?_
  repeat' ((conv => whnf); (first
    | (with_reducible first | refine Spl.yes ?_ | refine Spl.no ?_ | refine Spl.dec (fun h => ?_) (fun h => ?_) | refine Spl.eq (fun h => ?_) (fun h => ?_) | refine Spl.ne (fun h => ?_) (fun h => ?_) | refine Spl.seq (fun h => ?_) (fun h => ?_) | refine Spl.not ?_ | refine Spl.any (fun h => ?_) (fun h => ?_))
    | ((with_reducible apply And.intro); first | omega | rfl | (dsimp only; omega))))
  all_goals (conv => whnf)
  rotate_left
  · refine RWP.of tabOk orders ?_
    conv => whnf
    rw [hP, List.drop_eq_nil_of_le (by omega)]
    rfl
  have key : ¬ ((rd5 T j).lo ≤ c ∧ c ≤ (rd5 T j).hi) → ofRowL c T = ofRowL c (T.drop (j + 1).toNat) := by
    intro h
    rw [hP, drop_step5 hj0 (by omega), ofRowL, if_neg h]
  have key2 : ((rd5 T j).lo ≤ c ∧ c ≤ (rd5 T j).hi) → ofRowL c T = rd5 T j := by
    intro h
    rw [hP, drop_step5 hj0 (by omega), ofRowL, if_pos h]
  refine RWP.of tabOk orders ?_
  repeat' ((conv => whnf); (first
    | (with_reducible first | refine Spl.yes ?_ | refine Spl.no ?_ | refine Spl.dec (fun h => ?_) (fun h => ?_) | refine Spl.eq (fun h => ?_) (fun h => ?_) | refine Spl.ne (fun h => ?_) (fun h => ?_) | refine Spl.seq (fun h => ?_) (fun h => ?_) | refine Spl.not ?_ | refine Spl.any (fun h => ?_) (fun h => ?_))
    | (rw [rows5_get (by omega)])
    | refine And.intro (Nat.le_of_ble_eq_true rfl) ?_
    | ((with_reducible apply And.intro); first | omega | rfl | (dsimp only; omega))))
  all_goals (conv => whnf)
  · rw [key2 ⟨by assumption, by assumption⟩]; rfl
  all_goals exact ⟨(T.length - (j + 1)).toNat, _, by omega, Wk.narrow _ [0, 2, 3, 4] [2] [], j + 1, rfl, by omega, by omega, rfl, key (by omega)⟩
def othersP (c : Int) (utf : Bool) : List Int :=
  if utf = false then (if 65 ≤ c ∧ c ≤ 90 then [c + 32] else if 97 ≤ c ∧ c ≤ 122 then [c - 32] else [])
  else if c = 75 then [107, 8490] else if c = 107 then [75, 8490] else if c = 8490 then [75, 107]
  else if c = 83 then [115, 383] else if c = 115 then [83, 383] else if c = 383 then [83, 115]
  else if c = 181 then [924, 956] else if c = 924 then [181, 956] else if c = 956 then [181, 924]
  else if c = 931 then [962, 963] else if c = 962 then [931, 963] else if c = 963 then [931, 962]
  else if (ofRow c).oth ≠ 0 then [c + (ofRow c).oth] else []
theorem ite_len2 {c : Prop} [Decidable c] {a b : List Int} (h1 : a.length ≤ 2) (h2 : b.length ≤ 2) : (if c then a else b).length ≤ 2 := by split <;> assumption
theorem othersP_len (c : Int) (utf : Bool) : (othersP c utf).length ≤ 2 := by
  unfold othersP
  repeat' (apply ite_len2)
  all_goals simp
theorem tableT_oth : ∀ r ∈ tableT, -100000 ≤ r.oth ∧ r.oth ≤ 100000 := by decide +kernel
theorem ofRowL_mem (c : Int) : ∀ l : List Row5, ofRowL c l ∈ l ∨ (ofRowL c l).oth = 0
  | [] => .inr rfl
  | r :: l => by
    unfold ofRowL
    split
    · exact .inl (List.mem_cons_self ..)
    · rcases ofRowL_mem c l with h | h
      · exact .inl (List.mem_cons_of_mem _ h)
      · exact .inr h
theorem ofRow_oth (c : Int) : -100000 ≤ (ofRow c).oth ∧ (ofRow c).oth ≤ 100000 := by
  unfold ofRow
  split
  · decide
  · rcases ofRowL_mem c tableT with h | h
    · exact tableT_oth _ h
    · rw [h]; decide
attribute [local irreducible] ofRow
theorem others_c (c : Int) (utf : Bool) (hc : -10 ≤ c ∧ c ≤ 2000000) : VCalls Try.prog 127 [iv c, bv utf] (fun r => r = is (othersP c utf)) := by
  have ho := ofRow_oth c
  have hr := ofRow_c c
  obtain ⟨G, hG⟩ : ∃ G, othersP c utf = G := ⟨_, rfl⟩
  rw [hG]
  unfold othersP at hG
  generalize ofRow c = r at *
  obtain ⟨lo, hi, cat, scr, oth⟩ := r
  simp only at ho hG
  refine VCalls.ofr tabOk Try.func127 (by decide) rfl rfl ?_
  refine RWP.of tabOk orders ?_
  cases utf
  · repeat' ((conv => whnf); (first
    | (with_reducible first | refine Spl.yes ?_ | refine Spl.no ?_ | refine Spl.dec (fun h => ?_) (fun h => ?_) | refine Spl.eq (fun h => ?_) (fun h => ?_) | refine Spl.ne (fun h => ?_) (fun h => ?_) | refine Spl.seq (fun h => ?_) (fun h => ?_) | refine Spl.not ?_ | refine Spl.any (fun h => ?_) (fun h => ?_))
    | ((with_reducible apply And.intro); first | omega | rfl | (dsimp only; omega))))
    all_goals (conv => whnf)
    all_goals (subst hG)
    all_goals (try dsimp only at *)
    all_goals first | (exfalso; omega) | (apply fn_by (f := is); (focus ((repeat (first | (apply ite_yes; (focus first | assumption | omega)) | (apply ite_no; (focus first | assumption | exact b_nt (by assumption) | exact b_nf (by assumption) | omega)) | (apply ite_yes; (focus (first | (simp [*]; done) | (simp [*, bs]; done)))) | (apply ite_no; (focus (first | (simp [*]; done) | (simp [*, bs]; done)))))); exact rfl)); rfl)
  · repeat' ((conv => whnf); (first
    | (with_reducible first | refine Spl.yes ?_ | refine Spl.no ?_ | refine Spl.dec (fun h => ?_) (fun h => ?_) | refine Spl.eq (fun h => ?_) (fun h => ?_) | refine Spl.ne (fun h => ?_) (fun h => ?_) | refine Spl.seq (fun h => ?_) (fun h => ?_) | refine Spl.not ?_ | refine Spl.any (fun h => ?_) (fun h => ?_))
    | (refine VCalls.mono (hr) ?_; rintro _ rfl)
    | ((with_reducible apply And.intro); first | omega | rfl | (dsimp only; omega))))
    all_goals (conv => whnf)
    all_goals (subst hG)
    all_goals (try dsimp only at *)
    all_goals first | (exfalso; omega) | (apply fn_by (f := is); (focus ((repeat (first | (apply ite_yes; (focus first | assumption | omega)) | (apply ite_no; (focus first | assumption | exact b_nt (by assumption) | exact b_nf (by assumption) | omega)) | (apply ite_yes; (focus (first | (simp [*]; done) | (simp [*, bs]; done)))) | (apply ite_no; (focus (first | (simp [*]; done) | (simp [*, bs]; done)))))); exact rfl)); rfl)
end Go.Proofs.Ytnoohgiecnmajaa.VC

/- Cases: those of a set; a set of ranges by definition. -/
namespace Go.Proofs.Ytnoohgiecnmajaa.VC
open Go Go.RowKit
set_option linter.unusedVariables false
set_option linter.unusedSimpArgs false
set_option maxHeartbeats 4000000

def addL (l : List (Int × Int)) (n : List Int) : List (Int × Int) := l ++ n.map (fun c => (c, c))
theorem addL_len (l : List (Int × Int)) (n : List Int) : (addL l n).length = l.length + n.length := by simp [addL]
def HA (v : Bool) (l : List (Int × Int)) : St := ⟨0, [], [], [(1000000, ⟨2, 74, v, rows2 l⟩)], []⟩
theorem add_h (v : Bool) (l : List (Int × Int)) (n : List Int) (hl : l.length ≤ 4000000000) (hn : n.length ≤ 4000000000) :
    HCalls Try.prog 126 (HA v l) [.own 1000000, .pv (is n)] (fun fe H' => fe = .own 1000000 ∧ ∃ v', H' = HA v' (addL l n)) := by
  have hn1 := rows1_len n
  refine HCalls.ofr tabOk Try.func126 (by decide) rfl rfl ?_
  refine RWP.seqx tabOk orders ?_
  conv => whnf
  refine RWP.seq ?_
  refine RWP.seqx tabOk orders ?_
  conv => whnf
  refine RWP.block ?_
  refine RWP.loop (fun k st => ∃ (j : Int) (v : Bool), st = ⟨25, [(0, .own 23), (1, .pv (is n)), (5, .pv (iv j))], [], [(23, ⟨2, 74, v, rows2 (addL l (n.take j.toNat))⟩)], []⟩ ∧ 0 ≤ j ∧ j ≤ n.length ∧ k = (n.length - j).toNat)
    ⟨_, _, Wk.trans (Wk.renOwn 0 23 (k := 1000000) rfl rfl rfl) (Wk.narrow _ [0, 1, 5] [] [23]), 0, v, Eq.trans rfl (congrArg (fun X => (⟨25, [(0, .own 23), (1, .pv (is n)), (5, .pv (iv 0))], [], [(23, ⟨2, 74, v, X⟩)], []⟩ : St)) (by simp [addL])), by omega, by omega, rfl⟩ ?_
  rintro k st ⟨j, v1, rfl, hj0, hj1, hk⟩
  have hla : (rows2 (addL l (n.take j.toNat))).length ≤ 8000000000 := by rw [rows2_len, addL_len, List.length_take]; omega
  refine RWP.seqx tabOk orders ?_
  repeat' ((conv => whnf); (first
    | (with_reducible first | refine Spl.yes ?_ | refine Spl.no ?_ | refine Spl.dec (fun h => ?_) (fun h => ?_) | refine Spl.eq (fun h => ?_) (fun h => ?_) | refine Spl.ne (fun h => ?_) (fun h => ?_) | refine Spl.seq (fun h => ?_) (fun h => ?_) | refine Spl.not ?_ | refine Spl.any (fun h => ?_) (fun h => ?_))
    | ((with_reducible apply And.intro); first | omega | rfl | (dsimp only; omega))))
  all_goals (conv => whnf)
  rotate_left
  · have e : j = n.length := by omega
    subst e
    refine RWP.of tabOk orders ?_
    conv => whnf
    refine ⟨_, Wk.trans (Wk.renOwn 4 1000000 (k := 23) rfl rfl rfl) (Wk.narrow _ [4] [] [1000000]), .inr ?_⟩
    conv => whnf
    refine ⟨rfl, v1, ?_⟩
    exact congrArg (fun X => (⟨0, [], [], [(1000000, ⟨2, 74, v1, rows2 (addL l X)⟩)], []⟩ : St)) (by rw [Int.toNat_natCast, List.take_length])
  refine RWP.of tabOk orders ?_
  repeat' ((conv => whnf); (first
    | (with_reducible first | refine Spl.yes ?_ | refine Spl.no ?_ | refine Spl.dec (fun h => ?_) (fun h => ?_) | refine Spl.eq (fun h => ?_) (fun h => ?_) | refine Spl.ne (fun h => ?_) (fun h => ?_) | refine Spl.seq (fun h => ?_) (fun h => ?_) | refine Spl.not ?_ | refine Spl.any (fun h => ?_) (fun h => ?_))
    | refine drawn_text (by decide +kernel) ?_
    | (rw [rows1_get (by omega)])
    | refine And.intro (by show ((rows2 (addL l (n.take j.toNat))).length + 1) * 16 ≤ 140737488355328; omega) ?_
    | ((with_reducible apply And.intro); first | omega | rfl | (dsimp only; omega))))
  all_goals (conv => whnf)
  exact ⟨(n.length - (j + 1)).toNat, _, by omega, Wk.narrow _ [0, 1, 5] [] [23], j + 1, v1, Eq.trans rfl (congrArg (fun X => (⟨25, [(0, .own 23), (1, .pv (is n)), (5, .pv (iv (j + 1)))], [], [(23, ⟨2, 74, v1, X⟩)], []⟩ : St)) (by
    show rows2 (addL l (n.take j.toNat)) ++ [[iv (rd1 n j), iv (rd1 n j)]] = _
    rw [take_step1 hj0 (by omega)]; simp [addL, rows2])), by omega, by omega, rfl⟩
def casesTo (l : List (Int × Int)) (utf : Bool) : Nat → List (Int × Int)
  | 0 => l
  | k + 1 => if inP l k then addL (casesTo l utf k) (othersP k utf) else casesTo l utf k
theorem casesTo_len (l : List (Int × Int)) (utf : Bool) : ∀ k, (casesTo l utf k).length ≤ l.length + 2 * k
  | 0 => by simp [casesTo]
  | k + 1 => by
    have := casesTo_len l utf k
    have := othersP_len k utf
    unfold casesTo
    split
    · rw [addL_len]; omega
    · omega
def casesP (l : List (Int × Int)) (utf : Bool) : List (Int × Int) :=
  newP (if inP l 8490 then addL (casesTo l utf 1201) (othersP 8490 utf) else casesTo l utf 1201) 1114111
theorem casesP_len (l : List (Int × Int)) (utf : Bool) : (casesP l utf).length ≤ 2 * l.length + 5000 := by
  have := casesTo_len l utf 1201
  have := othersP_len 8490 utf
  unfold casesP
  refine Nat.le_trans (newP_len _ _) ?_
  split
  · rw [addL_len]; omega
  · omega
attribute [local irreducible] newP inP othersP casesTo addL
theorem caseless_c (l : List (Int × Int)) (utf : Bool) (hl : l.length ≤ 1000000000) : VCalls Try.prog 116 [rs l, bv utf] (fun r => r = rs (casesP l utf)) := by
  have hl2 := rows2_len l
  refine VCalls.ofr tabOk Try.func116 (by decide) rfl rfl ?_
  refine RWP.seqx tabOk orders ?_
  conv => whnf
  refine RWP.seqx tabOk orders ?_
  conv => whnf
  refine RWP.seqx tabOk orders ?_
  repeat' ((conv => whnf); (first
    | (with_reducible first | refine Spl.yes ?_ | refine Spl.no ?_ | refine Spl.dec (fun h => ?_) (fun h => ?_) | refine Spl.eq (fun h => ?_) (fun h => ?_) | refine Spl.ne (fun h => ?_) (fun h => ?_) | refine Spl.seq (fun h => ?_) (fun h => ?_) | refine Spl.not ?_ | refine Spl.any (fun h => ?_) (fun h => ?_))
    | refine And.intro (by show ((rows2 l).length) * 16 ≤ 140737488355328; omega) ?_
    | ((with_reducible apply And.intro); first | omega | rfl | (dsimp only; omega))))
  all_goals (conv => whnf)
  refine RWP.seq ?_
  refine RWP.seqx tabOk orders ?_
  conv => whnf
  refine RWP.block ?_
  refine RWP.loop (fun k st => ∃ (j : Nat) (v : Bool), st = ⟨34, [(0, .pv (rs l)), (1, .pv (bv utf)), (5, .own 11), (6, .pv (iv j))], [], [(11, ⟨2, 74, v, rows2 (casesTo l utf j)⟩)], []⟩ ∧ j ≤ 1201 ∧ k = 1201 - j)
    ⟨_, _, Wk.narrow _ [0, 1, 5, 6] [] [11], 0, true, Eq.trans rfl (congrArg (fun X => (⟨34, [(0, .pv (rs l)), (1, .pv (bv utf)), (5, .own 11), (6, .pv (iv 0))], [], [(11, ⟨2, 74, true, rows2 X⟩)], []⟩ : St)) (by rw [casesTo])), by omega, rfl⟩ ?_
  rintro k st ⟨j, v1, rfl, hj, hk⟩
  have hlj := casesTo_len l utf j
  have hlo := othersP_len j utf
  refine RWP.seqx tabOk orders ?_
  repeat' ((conv => whnf); (first
    | (with_reducible first | refine Spl.yes ?_ | refine Spl.no ?_ | refine Spl.dec (fun h => ?_) (fun h => ?_) | refine Spl.eq (fun h => ?_) (fun h => ?_) | refine Spl.ne (fun h => ?_) (fun h => ?_) | refine Spl.seq (fun h => ?_) (fun h => ?_) | refine Spl.not ?_ | refine Spl.any (fun h => ?_) (fun h => ?_))
    | ((with_reducible apply And.intro); first | omega | rfl | (dsimp only; omega))))
  all_goals (conv => whnf)
  · refine RWP.of tabOk orders ?_
    repeat' ((conv => whnf); (first
    | (with_reducible first | refine Spl.yes ?_ | refine Spl.no ?_ | refine Spl.dec (fun h => ?_) (fun h => ?_) | refine Spl.eq (fun h => ?_) (fun h => ?_) | refine Spl.ne (fun h => ?_) (fun h => ?_) | refine Spl.seq (fun h => ?_) (fun h => ?_) | refine Spl.not ?_ | refine Spl.any (fun h => ?_) (fun h => ?_))
    | (refine VCalls.mono (in_c _ _ (by omega)) ?_; rintro _ rfl)
    | (refine VCalls.mono (others_c _ _ (by omega)) ?_; rintro _ rfl)
    | (refine HQ.use (add_h v1 (casesTo l utf j) (othersP j utf) (by omega) (by omega)) ⟨id, fun _ => 11, id⟩ ⟨rfl, rfl⟩ rfl rfl (by first | exact trivial) (by first | exact ⟨⟨rfl, rfl⟩, trivial⟩) (by first | exact trivial) ?_; rintro _ _ ⟨rfl, v', rfl⟩; refine ⟨⟨rfl, rfl, rfl⟩, ?_⟩)
    | ((with_reducible apply And.intro); first | omega | rfl | (dsimp only; omega))))
    all_goals (conv => whnf)
    · exact ⟨1201 - (j + 1), _, by omega, Wk.narrow _ [0, 1, 5, 6] [] [11], j + 1, v', Eq.trans rfl (congrArg (fun X => (⟨34, [(0, .pv (rs l)), (1, .pv (bv utf)), (5, .own 11), (6, .pv (iv ((j : Int) + 1)))], [], [(11, ⟨2, 74, v', rows2 X⟩)], []⟩ : St)) (by rw [casesTo, if_pos (by assumption)])), by omega, rfl⟩
    · exact ⟨1201 - (j + 1), _, by omega, Wk.narrow _ [0, 1, 5, 6] [] [11], j + 1, v1, Eq.trans rfl (congrArg (fun X => (⟨34, [(0, .pv (rs l)), (1, .pv (bv utf)), (5, .own 11), (6, .pv (iv ((j : Int) + 1)))], [], [(11, ⟨2, 74, v1, rows2 X⟩)], []⟩ : St)) (by rw [casesTo, if_neg (by simp [*])])), by omega, rfl⟩
  · have e : j = 1201 := by omega
    subst e
    have hlo := othersP_len 8490 utf
    refine RWP.of tabOk orders ?_
    repeat' ((conv => whnf); (first
    | (with_reducible first | refine Spl.yes ?_ | refine Spl.no ?_ | refine Spl.dec (fun h => ?_) (fun h => ?_) | refine Spl.eq (fun h => ?_) (fun h => ?_) | refine Spl.ne (fun h => ?_) (fun h => ?_) | refine Spl.seq (fun h => ?_) (fun h => ?_) | refine Spl.not ?_ | refine Spl.any (fun h => ?_) (fun h => ?_))
    | (refine VCalls.mono (in_c _ _ (by omega)) ?_; rintro _ rfl)
    | (refine VCalls.mono (others_c _ _ (by omega)) ?_; rintro _ rfl)
    | (refine HQ.use (add_h v1 (casesTo l utf 1201) (othersP 8490 utf) (by omega) (by omega)) ⟨id, fun _ => 11, id⟩ ⟨rfl, rfl⟩ rfl rfl (by first | exact trivial) (by first | exact ⟨⟨rfl, rfl⟩, trivial⟩) (by first | exact trivial) ?_; rintro _ _ ⟨rfl, v', rfl⟩; refine ⟨⟨rfl, rfl, rfl⟩, ?_⟩)
    | (refine VCalls.mono (new_c _ _ (by rw [addL_len]; omega)) ?_; rintro _ rfl)
    | (refine VCalls.mono (new_c _ _ (by omega)) ?_; rintro _ rfl)
    | ((with_reducible apply And.intro); first | omega | rfl | (dsimp only; omega))))
    all_goals (conv => whnf)
    · rw [casesP, if_pos (by assumption)]; rfl
    · rw [casesP, if_neg (by simp [*])]; rfl
structure Ctx where
  utf : Bool
  most : Int
def Ctx.enc (c : Ctx) : SV := .agg [bv c.utf, iv c.most]
def set1 (c : Ctx) (l : List (Int × Int)) (cl : Bool) : List (Int × Int) := if cl = true then newP (casesP (newP l c.most) c.utf) c.most else newP l c.most
def setP (c : Ctx) (l : List (Int × Int)) (cl neg : Bool) : List (Int × Int) := if neg = true then joinP 2 (set1 c l cl) [] c.most else set1 c l cl
theorem set1_len (c : Ctx) (l : List (Int × Int)) (cl : Bool) : (set1 c l cl).length ≤ 8 * l.length + 12000 := by
  have h1 := newP_len l c.most
  have h2 := casesP_len (newP l c.most) c.utf
  have h3 := newP_len (casesP (newP l c.most) c.utf) c.most
  unfold set1
  split <;> omega
theorem setP_len (c : Ctx) (l : List (Int × Int)) (cl neg : Bool) : (setP c l cl neg).length ≤ 16 * l.length + 24002 := by
  have h1 := set1_len c l cl
  have h2 := joinP_len 2 (set1 c l cl) [] c.most
  simp only [List.length_nil] at h2
  unfold setP
  split <;> omega
attribute [local irreducible] casesP joinP
theorem set_c (c : Ctx) (l : List (Int × Int)) (cl neg : Bool) (hl : l.length ≤ 100000000) : VCalls Try.prog 87 [c.enc, rs l, bv cl, bv neg] (fun r => r = rs (setP c l cl neg)) := by
  have h1 := newP_len l c.most
  have h2 := casesP_len (newP l c.most) c.utf
  have h3 := newP_len (casesP (newP l c.most) c.utf) c.most
  obtain ⟨utf, most⟩ := c
  obtain ⟨G, hG⟩ : ∃ G, setP ⟨utf, most⟩ l cl neg = G := ⟨_, rfl⟩
  rw [hG]
  unfold setP set1 at hG
  simp only at h1 h2 h3 hG
  cases cl <;> cases neg
  all_goals (refine VCalls.ofr tabOk Try.func87 (by decide) rfl rfl ?_)
  all_goals (refine RWP.of tabOk orders ?_)
  repeat' ((conv => whnf); (first
    | (with_reducible first | refine Spl.yes ?_ | refine Spl.no ?_ | refine Spl.dec (fun h => ?_) (fun h => ?_) | refine Spl.eq (fun h => ?_) (fun h => ?_) | refine Spl.ne (fun h => ?_) (fun h => ?_) | refine Spl.seq (fun h => ?_) (fun h => ?_) | refine Spl.not ?_ | refine Spl.any (fun h => ?_) (fun h => ?_))
    | (refine VCalls.mono (new_c l most (by omega)) ?_; rintro _ rfl)
    | (refine VCalls.mono (caseless_c (newP l most) utf (by omega)) ?_; rintro _ rfl)
    | (refine VCalls.mono (new_c (casesP (newP l most) utf) most (by omega)) ?_; rintro _ rfl)
    | (refine VCalls.mono (join_c 2 _ [] most (by omega) (by simp)) ?_; rintro _ rfl)
    | refine drawn_text (by decide +kernel) ?_
    | refine drawn_ord [0, 1, 2, 4, 5, 3, 6, 7] (by decide +kernel) ?_
    | refine And.intro (Nat.le_of_ble_eq_true rfl) ?_
    | ((with_reducible apply And.intro); first | omega | rfl | (dsimp only; omega))))
  all_goals (conv => whnf)
  all_goals (subst hG; rfl)
end Go.Proofs.Ytnoohgiecnmajaa.VC

/- The lexer of the document: escapes. -/
namespace Go.Proofs.Ytnoohgiecnmajaa.VC
open Go Go.RowKit
set_option linter.unusedVariables false
set_option linter.unusedSimpArgs false
set_option maxHeartbeats 4000000

theorem atL_neg (l : List Int) (a : Int) : ∀ (k : Nat) (n : Int), 1 ≤ n → ((atL l a k n).2 = 0 ∨ 0 ≤ (atL l a k n).1)
  | 0, n, h => by simp [atL]
  | k + 1, n, h => by
    unfold atL
    split
    · split
      · right; simp only; assumption
      · exact atL_neg l a k (n + 1) (by omega)
    · left; rfl
theorem atP_neg (l : List Int) (a : Int) : (atP l a).1 = -1 → (atP l a).2 = 0 := by
  intro h
  rcases atL_neg l a 4 1 (by omega) with q | q
  · exact q
  · unfold atP at h; omega
theorem charP_val (x : Text) (i : Int) : -1 ≤ (charP x i).1 ∧ (charP x i).1 ≤ 1114111 ∧ (0 ≤ i → i < x.s.size → 0 ≤ (charP x i).1) := by
  have hr := atP_range (numsOf x.s) i
  have hb : Bytes (numsOf x.s) := by
    intro y hy
    simp only [numsOf, List.mem_map] at hy
    obtain ⟨b, _, rfl⟩ := hy
    have := b.toNat_lt
    omega
  have hd := rdI_range hb i
  unfold charP nextP
  split
  · rename_i h
    rw [numsOf_len] at h
    exact ⟨by simp, by simp, fun h0 h1 => by omega⟩
  split
  · rename_i h
    refine ⟨hr.1, hr.2.1, fun _ _ => ?_⟩
    have : (atP (numsOf x.s) i).1 = -1 → (atP (numsOf x.s) i).2 = 0 := atP_neg (numsOf x.s) i
    omega
  · exact ⟨by simp only; omega, by simp only; omega, fun _ _ => hd.1⟩
def escL (x : Text) (i to : Int) : List (ByteArray × ByteArray) → Got
  | [] => badG 27 i
  | p :: l => if isP x.s to p.1 = true then
      (if nameOk (nameAt x.s (to + 1)) = true then (if isP x.s (nameTo x.s (to + 1)) p.2 = true then tokG { tokZ with kind := 11, name := nameAt x.s (to + 1), m := 3 } i (nameTo x.s (to + 1) + 1) else escL x i to l) else escL x i to l)
      else escL x i to l
def escT (x : Text) (i to c : Int) (m : Many) : Got :=
  if m.e ≠ 0 then badG m.e i
  else if m.there = true then tokG { tokZ with kind := 2, set := m.l, neg := m.neg } i m.to
  else if c = 48 then badG 21 i
  else if c < 128 then (if letterP c = true then badG 21 i else tokG { tokZ with kind := 1, c := c } i to)
  else tokG { tokZ with kind := 1, c := c } i to
def escR (x : Text) (i to c : Int) : Got :=
  if c = 103 then referP x i to
  else if c = 107 then escL x i to [(bs [123], bs [125]), (bs [60], bs [62]), (bs [39], bs [39])]
  else escT x i to c (manyP x c to)
def escD (x : Text) (i to c : Int) : Got :=
  if c ≥ 49 then
    (if c ≤ 57 then (if (numP x.s (i + 1)).2.2 = true then badG 25 i else tokG { tokZ with kind := 11, n := (numP x.s (i + 1)).1 } i (numP x.s (i + 1)).2.1)
     else escR x i to c)
  else escR x i to c
def escQ (x : Text) (i to c : Int) : Got :=
  if simpleP c ≥ 0 then tokG { tokZ with kind := 1, c := simpleP c } i to
  else if c = 120 then (if (hexaP x to).1 < 0 then badG 21 i else tokG { tokZ with kind := 1, c := (hexaP x to).1 } i (hexaP x to).2)
  else if c = 78 then tokG { tokZ with kind := 2, set := [(10, 10)], neg := true } i to
  else if assertP c > 0 then tokG { tokZ with kind := 4, n := assertP c } i to
  else if c = 75 then tokG { tokZ with kind := 5 } i to
  else if c = 82 then tokG { tokZ with kind := 6 } i to
  else if c = 69 then skipG to
  else escD x i to c
def escapeP (x : Text) (i : Int) : Got :=
  if i + 1 = x.s.size then endG x else escQ x i (charP x (i + 1)).2 (charP x (i + 1)).1
attribute [local irreducible] isP numP signedP nameTo nameAt nameOk byteAt charP stopAt hexaP seqP atP nextP codeOf
attribute [local irreducible] manyP referP simpleP assertP letterP
theorem escape_c (x : Text) (i : Int) (hx : x.s.size ≤ 100000) (h0 : 0 ≤ i) (h1 : i < x.s.size) :
    VCalls Try.prog 75 [x.enc, iv i] (fun r => r = (escapeP x i).enc) := by
  refine VCalls.ofr tabOk Try.func75 (by decide) rfl rfl ?_
  refine RWP.seqx tabOk orders ?_
  conv => whnf
  refine RWP.seqx tabOk orders ?_
  repeat' ((conv => whnf); (first
    | (with_reducible first | refine Spl.yes ?_ | refine Spl.no ?_ | refine Spl.dec (fun h => ?_) (fun h => ?_) | refine Spl.eq (fun h => ?_) (fun h => ?_) | refine Spl.ne (fun h => ?_) (fun h => ?_) | refine Spl.seq (fun h => ?_) (fun h => ?_) | refine Spl.not ?_ | refine Spl.any (fun h => ?_) (fun h => ?_))
    | (refine VCalls.mono (end_c x) ?_; rintro _ rfl)
    | ((with_reducible apply And.intro); first | omega | rfl | (dsimp only; omega))))
  all_goals (conv => whnf)
  · unfold escapeP
    (apply enc_by; (focus ((repeat (first | (apply ite_yes; (focus first | assumption | omega)) | (apply ite_no; (focus first | assumption | exact b_nt (by assumption) | exact b_nf (by assumption) | omega)) | (apply ite_yes; (focus (first | (simp [*]; done) | (simp [*, bs]; done)))) | (apply ite_no; (focus (first | (simp [*]; done) | (simp [*, bs]; done)))))); exact rfl)); rfl)
  have hc := charP_rng x (i + 1) (by omega)
  have hv := charP_val x (i + 1)
  have e0 : escapeP x i = escQ x i (charP x (i + 1)).2 (charP x (i + 1)).1 := by
    unfold escapeP; rw [if_neg (by assumption)]
  rw [e0]
  clear e0
  refine RWP.seqx tabOk orders ?_
  repeat' ((conv => whnf); (first
    | (with_reducible first | refine Spl.yes ?_ | refine Spl.no ?_ | refine Spl.dec (fun h => ?_) (fun h => ?_) | refine Spl.eq (fun h => ?_) (fun h => ?_) | refine Spl.ne (fun h => ?_) (fun h => ?_) | refine Spl.seq (fun h => ?_) (fun h => ?_) | refine Spl.not ?_ | refine Spl.any (fun h => ?_) (fun h => ?_))
    | (refine VCalls.mono (char_c x (i + 1) (by omega)) ?_; rintro _ rfl)
    | ((with_reducible apply And.intro); first | omega | rfl | (dsimp only; omega))))
  all_goals (conv => whnf)
  generalize hC : (charP x (i + 1)).1 = c at *
  generalize hT : (charP x (i + 1)).2 = to at *
  refine RWP.seqx tabOk orders ?_
  repeat' ((conv => whnf); (first
    | (with_reducible first | refine Spl.yes ?_ | refine Spl.no ?_ | refine Spl.dec (fun h => ?_) (fun h => ?_) | refine Spl.eq (fun h => ?_) (fun h => ?_) | refine Spl.ne (fun h => ?_) (fun h => ?_) | refine Spl.seq (fun h => ?_) (fun h => ?_) | refine Spl.not ?_ | refine Spl.any (fun h => ?_) (fun h => ?_))
    | (refine VCalls.mono (simple_c c) ?_; rintro _ rfl)
    | (refine VCalls.mono (tok_c { tokZ with kind := 1, c := simpleP c } i to) ?_; rintro _ rfl)
    | (refine VCalls.mono (hexa_c x to (by omega) (by omega) (by omega)) ?_; rintro _ rfl)
    | (refine VCalls.mono (bad_c 21 i) ?_; rintro _ rfl)
    | (refine VCalls.mono (tok_c { tokZ with kind := 1, c := (hexaP x to).1 } i (hexaP x to).2) ?_; rintro _ rfl)
    | (refine VCalls.mono (tok_c { tokZ with kind := 2, set := [(10, 10)], neg := true } i to) ?_; rintro _ rfl)
    | (refine VCalls.mono (assert_c c) ?_; rintro _ rfl)
    | (refine VCalls.mono (tok_c { tokZ with kind := 4, n := assertP c } i to) ?_; rintro _ rfl)
    | (refine VCalls.mono (tok_c { tokZ with kind := 5 } i to) ?_; rintro _ rfl)
    | (refine VCalls.mono (tok_c { tokZ with kind := 6 } i to) ?_; rintro _ rfl)
    | (refine VCalls.mono (number_c x (i + 1) (by omega) (by omega) (by omega)) ?_; rintro _ rfl)
    | (refine VCalls.mono (bad_c 25 i) ?_; rintro _ rfl)
    | (refine VCalls.mono (tok_c { tokZ with kind := 11, n := (numP x.s (i + 1)).1 } i (numP x.s (i + 1)).2.1) ?_; rintro _ rfl)
    | (refine VCalls.mono (refer_c x i to (by omega) (by omega) (by omega)) ?_; rintro _ rfl)
    | ((with_reducible apply And.intro); first | omega | rfl | (dsimp only; omega))))
  all_goals (conv => whnf)
  all_goals first | (exfalso; omega) | (unfold escQ escD escR; (apply enc_by; (focus ((repeat (first | (apply ite_yes; (focus first | assumption | omega)) | (apply ite_no; (focus first | assumption | exact b_nt (by assumption) | exact b_nf (by assumption) | omega)) | (apply ite_yes; (focus (first | (simp [*]; done) | (simp [*, bs]; done)))) | (apply ite_no; (focus (first | (simp [*]; done) | (simp [*, bs]; done)))))); exact rfl)); rfl)) | skip
  · have e : escQ x i to c = escL x i to [(bs [123], bs [125]), (bs [60], bs [62]), (bs [39], bs [39])] := by
      symm
      unfold escQ escD escR
      (repeat (first | (apply ite_yes; (focus first | assumption | omega)) | (apply ite_no; (focus first | assumption | exact b_nt (by assumption) | exact b_nf (by assumption) | omega)) | (apply ite_yes; (focus (first | (simp [*]; done) | (simp [*, bs]; done)))) | (apply ite_no; (focus (first | (simp [*]; done) | (simp [*, bs]; done))))))
      rfl
    rw [e]
    clear e
    refine ⟨fun k st => ∃ (j : Nat), st = ⟨216, [(1, .pv (iv i)), (2, .ptr 2 0), (4, .ptr 4 0), (6, .pv (iv to)), (12, .pv (sv (bs [123, 60, 39]))), (13, .pv (sv (bs [125, 62, 39]))), (14, .pv (iv j))], [(2, (82, x.cells)), (4, (90, gzero))], [], []⟩ ∧ j ≤ 3 ∧ k = 3 - j ∧ escL x i to [(bs [123], bs [125]), (bs [60], bs [62]), (bs [39], bs [39])] = escL x i to ([(bs [123], bs [125]), (bs [60], bs [62]), (bs [39], bs [39])].drop j),
      ⟨_, _, Wk.narrow _ [1, 2, 4, 6, 12, 13, 14] [2, 4] [], 0, rfl, by omega, rfl, rfl⟩, ?_⟩
    rintro k st ⟨j, rfl, hj, hk, hP⟩
    rw [hP]
    have hnr := nameTo_rng x.s (to + 1)
    have h7 : j = 0 ∨ j = 1 ∨ j = 2 ∨ j = 3 := by omega
    have hb3 : ((bs [123, 60, 39]).size : Int) = 3 := rfl
    have hb4 : ((bs [125, 62, 39]).size : Int) = 3 := rfl
    rcases h7 with rfl | rfl | rfl | rfl
    · have hle : isP x.s to (bs [123]) = true → to + 1 ≤ x.s.size := fun h => by have := isP_le h; have hb : (bs [123]).size = 1 := rfl; omega
      repeat' ((conv => whnf); (first
        | (with_reducible first | refine Spl.yes ?_ | refine Spl.no ?_ | refine Spl.dec (fun h => ?_) (fun h => ?_) | refine Spl.eq (fun h => ?_) (fun h => ?_) | refine Spl.ne (fun h => ?_) (fun h => ?_) | refine Spl.seq (fun h => ?_) (fun h => ?_) | refine Spl.not ?_ | refine Spl.any (fun h => ?_) (fun h => ?_))
        | refine drawn_text (by decide +kernel) ?_
        | (refine VCalls.mono (is_c x to (bs [123]) (by omega) (by omega) (by omega) (by decide)) ?_; rintro _ rfl)
        | (refine VCalls.mono (name_c x (to + 1) (by omega) (by omega) (hle (by assumption))) ?_; rintro _ rfl)
        | (refine VCalls.mono (is_c x (nameTo x.s (to + 1)) (bs [125]) (by omega) (by omega) (by omega) (by decide)) ?_; rintro _ rfl)
        | (refine VCalls.mono (tok_c { tokZ with kind := 11, name := nameAt x.s (to + 1), m := 3 } i (nameTo x.s (to + 1) + 1)) ?_; rintro _ rfl)
        | refine And.intro (by simp only [hb3, hb4]; omega) ?_
        | ((with_reducible apply And.intro); first | omega | rfl| (apply And.intro <;> exact Int.NonNeg.mk _) | exact And.intro rfl (Nat.le_of_ble_eq_true rfl))))
      all_goals (conv => whnf)
      all_goals first
        | (exfalso; omega)
        | exact enc_by ((if_pos (by assumption)).trans ((if_pos (by assumption)).trans (if_pos (by assumption)))).symm rfl
        | exact ⟨2, _, by omega, Wk.narrow _ [1, 2, 4, 6, 12, 13, 14] [2, 4] [], 1, rfl, by omega, by omega, by first | exact (if_neg (b_nt (by assumption))) | exact (if_pos (by assumption)).trans (if_neg (b_nt (by assumption))) | exact (if_pos (by assumption)).trans ((if_pos (by assumption)).trans (if_neg (b_nt (by assumption))))⟩
    · have hle : isP x.s to (bs [60]) = true → to + 1 ≤ x.s.size := fun h => by have := isP_le h; have hb : (bs [60]).size = 1 := rfl; omega
      repeat' ((conv => whnf); (first
        | (with_reducible first | refine Spl.yes ?_ | refine Spl.no ?_ | refine Spl.dec (fun h => ?_) (fun h => ?_) | refine Spl.eq (fun h => ?_) (fun h => ?_) | refine Spl.ne (fun h => ?_) (fun h => ?_) | refine Spl.seq (fun h => ?_) (fun h => ?_) | refine Spl.not ?_ | refine Spl.any (fun h => ?_) (fun h => ?_))
        | refine drawn_text (by decide +kernel) ?_
        | (refine VCalls.mono (is_c x to (bs [60]) (by omega) (by omega) (by omega) (by decide)) ?_; rintro _ rfl)
        | (refine VCalls.mono (name_c x (to + 1) (by omega) (by omega) (hle (by assumption))) ?_; rintro _ rfl)
        | (refine VCalls.mono (is_c x (nameTo x.s (to + 1)) (bs [62]) (by omega) (by omega) (by omega) (by decide)) ?_; rintro _ rfl)
        | (refine VCalls.mono (tok_c { tokZ with kind := 11, name := nameAt x.s (to + 1), m := 3 } i (nameTo x.s (to + 1) + 1)) ?_; rintro _ rfl)
        | refine And.intro (by simp only [hb3, hb4]; omega) ?_
        | ((with_reducible apply And.intro); first | omega | rfl| (apply And.intro <;> exact Int.NonNeg.mk _) | exact And.intro rfl (Nat.le_of_ble_eq_true rfl))))
      all_goals (conv => whnf)
      all_goals first
        | (exfalso; omega)
        | exact enc_by ((if_pos (by assumption)).trans ((if_pos (by assumption)).trans (if_pos (by assumption)))).symm rfl
        | exact ⟨1, _, by omega, Wk.narrow _ [1, 2, 4, 6, 12, 13, 14] [2, 4] [], 2, rfl, by omega, by omega, by first | exact (if_neg (b_nt (by assumption))) | exact (if_pos (by assumption)).trans (if_neg (b_nt (by assumption))) | exact (if_pos (by assumption)).trans ((if_pos (by assumption)).trans (if_neg (b_nt (by assumption))))⟩
    · have hle : isP x.s to (bs [39]) = true → to + 1 ≤ x.s.size := fun h => by have := isP_le h; have hb : (bs [39]).size = 1 := rfl; omega
      repeat' ((conv => whnf); (first
        | (with_reducible first | refine Spl.yes ?_ | refine Spl.no ?_ | refine Spl.dec (fun h => ?_) (fun h => ?_) | refine Spl.eq (fun h => ?_) (fun h => ?_) | refine Spl.ne (fun h => ?_) (fun h => ?_) | refine Spl.seq (fun h => ?_) (fun h => ?_) | refine Spl.not ?_ | refine Spl.any (fun h => ?_) (fun h => ?_))
        | refine drawn_text (by decide +kernel) ?_
        | (refine VCalls.mono (is_c x to (bs [39]) (by omega) (by omega) (by omega) (by decide)) ?_; rintro _ rfl)
        | (refine VCalls.mono (name_c x (to + 1) (by omega) (by omega) (hle (by assumption))) ?_; rintro _ rfl)
        | (refine VCalls.mono (is_c x (nameTo x.s (to + 1)) (bs [39]) (by omega) (by omega) (by omega) (by decide)) ?_; rintro _ rfl)
        | (refine VCalls.mono (tok_c { tokZ with kind := 11, name := nameAt x.s (to + 1), m := 3 } i (nameTo x.s (to + 1) + 1)) ?_; rintro _ rfl)
        | refine And.intro (by simp only [hb3, hb4]; omega) ?_
        | ((with_reducible apply And.intro); first | omega | rfl| (apply And.intro <;> exact Int.NonNeg.mk _) | exact And.intro rfl (Nat.le_of_ble_eq_true rfl))))
      all_goals (conv => whnf)
      all_goals first
        | (exfalso; omega)
        | exact enc_by ((if_pos (by assumption)).trans ((if_pos (by assumption)).trans (if_pos (by assumption)))).symm rfl
        | exact ⟨0, _, by omega, Wk.narrow _ [1, 2, 4, 6, 12, 13, 14] [2, 4] [], 3, rfl, by omega, by omega, by first | exact (if_neg (b_nt (by assumption))) | exact (if_pos (by assumption)).trans (if_neg (b_nt (by assumption))) | exact (if_pos (by assumption)).trans ((if_pos (by assumption)).trans (if_neg (b_nt (by assumption))))⟩
    · repeat' ((conv => whnf); (first
    | (with_reducible first | refine Spl.yes ?_ | refine Spl.no ?_ | refine Spl.dec (fun h => ?_) (fun h => ?_) | refine Spl.eq (fun h => ?_) (fun h => ?_) | refine Spl.ne (fun h => ?_) (fun h => ?_) | refine Spl.seq (fun h => ?_) (fun h => ?_) | refine Spl.not ?_ | refine Spl.any (fun h => ?_) (fun h => ?_))
    | (refine VCalls.mono (bad_c 27 i) ?_; rintro _ rfl)
    | ((with_reducible apply And.intro); first | omega | rfl | (dsimp only; omega))))
      all_goals (conv => whnf)
      all_goals first
        | (exfalso; omega)
        | rfl
  all_goals (
    have e : escQ x i to c = escT x i to c (manyP x c to) := by
      symm
      unfold escQ escD escR
      (repeat (first | (apply ite_yes; (focus first | assumption | omega)) | (apply ite_no; (focus first | assumption | exact b_nt (by assumption) | exact b_nf (by assumption) | omega)) | (apply ite_yes; (focus (first | (simp [*]; done) | (simp [*, bs]; done)))) | (apply ite_no; (focus (first | (simp [*]; done) | (simp [*, bs]; done))))))
      rfl
    rw [e]
    clear e)
  all_goals (refine RWP.of tabOk orders ?_)
  all_goals (
    repeat' ((conv => whnf); (first
    | (with_reducible first | refine Spl.yes ?_ | refine Spl.no ?_ | refine Spl.dec (fun h => ?_) (fun h => ?_) | refine Spl.eq (fun h => ?_) (fun h => ?_) | refine Spl.ne (fun h => ?_) (fun h => ?_) | refine Spl.seq (fun h => ?_) (fun h => ?_) | refine Spl.not ?_ | refine Spl.any (fun h => ?_) (fun h => ?_))
    | (refine VCalls.mono (many_c x c to (by omega) (by omega) (by omega) (by omega)) ?_; rintro _ rfl)
    | (refine VCalls.mono (bad_c _ i) ?_; rintro _ rfl)
    | (refine VCalls.mono (letter_c c) ?_; rintro _ rfl)
    | (refine VCalls.mono (tok_c { tokZ with kind := 2, set := (manyP x c to).l, neg := (manyP x c to).neg } i (manyP x c to).to) ?_; rintro _ rfl)
    | (refine VCalls.mono (tok_c { tokZ with kind := 1, c := c } i to) ?_; rintro _ rfl)
    | ((with_reducible apply And.intro); first | omega | rfl | (dsimp only; omega))))
    all_goals (conv => whnf)
    all_goals (unfold escT)
    all_goals first | (exfalso; omega) | (apply enc_by; (focus ((repeat (first | (apply ite_yes; (focus first | assumption | omega)) | (apply ite_no; (focus first | assumption | exact b_nt (by assumption) | exact b_nf (by assumption) | omega)) | (apply ite_yes; (focus (first | (simp [*]; done) | (simp [*, bs]; done)))) | (apply ite_no; (focus (first | (simp [*]; done) | (simp [*, bs]; done)))))); exact rfl)); rfl))
end Go.Proofs.Ytnoohgiecnmajaa.VC

/- The lexer of the document: one of a class. -/
namespace Go.Proofs.Ytnoohgiecnmajaa.VC
open Go Go.RowKit
set_option linter.unusedVariables false
set_option linter.unusedSimpArgs false
set_option maxHeartbeats 4000000

def letL (s : ByteArray) : Nat → Int → Int
  | 0, i => i
  | k + 1, i => if i < s.size ∧ letterP (byteAt s i) = true then letL s k (i + 1) else i
def letTo (s : ByteArray) (i : Int) : Int := letL s (s.size - i).toNat i
theorem letL_range (s : ByteArray) : ∀ (k : Nat) (i : Int), i ≤ s.size → i ≤ letL s k i ∧ letL s k i ≤ s.size
  | 0, i, h => by simp [letL]; omega
  | k + 1, i, h => by
    unfold letL
    split
    · have := letL_range s k (i + 1) (by omega)
      omega
    · omega
theorem letTo_range (s : ByteArray) (i : Int) (h : i ≤ s.size) : i ≤ letTo s i ∧ letTo s i ≤ s.size := letL_range s _ i h
theorem letL_end {s : ByteArray} {k : Nat} {i : Int} (hk : k = (s.size - i).toNat) (h : ¬ i < s.size ∨ letterP (byteAt s i) = false) : letL s k i = i := by
  cases k with
  | zero => rfl
  | succ k => rw [letL, if_neg (by rcases h with q | q
                                   · omega
                                   · simp [q])]
theorem letL_go {s : ByteArray} {k : Nat} {i : Int} (h1 : i < s.size) (h : letterP (byteAt s i) = true) : letL s (k + 1) i = letL s k (i + 1) := by
  rw [letL, if_pos ⟨h1, h⟩]
structure Item where
  l : List (Int × Int)
  single : Bool
  to : Int
  e : Int
  at_ : Int
@[reducible] def itemE (m : Item) : SV := .tuple [rs m.l, bv m.single, iv m.to, iv m.e, iv m.at_]
def itemM (x : Text) (i c to : Int) (m : Many) : Item :=
  if m.e ≠ 0 then ⟨[], false, i, m.e, i⟩
  else if m.there = true then (if m.neg = true then ⟨joinP 2 m.l [] x.most, false, m.to, 0, 0⟩ else ⟨m.l, false, m.to, 0, 0⟩)
  else if c < 128 then (if letterP c = true then ⟨[], false, i, 21, i⟩ else if digitP c = true then ⟨[], false, i, 21, i⟩ else ⟨[(c, c)], true, to, 0, 0⟩)
  else ⟨[(c, c)], true, to, 0, 0⟩
def itemS (x : Text) (i c to : Int) : Item :=
  if c = 120 then (if (hexaP x to).1 < 0 then ⟨[], false, i, 21, i⟩ else ⟨[((hexaP x to).1, (hexaP x to).1)], true, (hexaP x to).2, 0, 0⟩)
  else if simpleP c ≥ 0 then ⟨[(simpleP c, simpleP c)], true, to, 0, 0⟩
  else if c = 98 then ⟨[(8, 8)], true, to, 0, 0⟩
  else itemM x i c to (manyP x c to)
def itemQ (x : Text) (i : Int) : Item :=
  if (charP x i).1 ≠ 92 then ⟨[((charP x i).1, (charP x i).1)], true, (charP x i).2, 0, 0⟩
  else if (charP x i).2 = x.s.size then ⟨[], false, i, 20, x.s.size⟩
  else itemS x i (charP x (charP x i).2).1 (charP x (charP x i).2).2
def itemK (x : Text) (i k : Int) (neg : Bool) : Item :=
  if isP x.s (letTo x.s k) (bs [58, 93]) = true then
    (if (posixP (x.s.extract k.toNat (letTo x.s k).toNat)).2 = false then ⟨[], false, i, 22, i⟩
     else if neg = true then ⟨joinP 2 (posixP (x.s.extract k.toNat (letTo x.s k).toNat)).1 [] x.most, false, letTo x.s k + 2, 0, 0⟩
     else ⟨(posixP (x.s.extract k.toNat (letTo x.s k).toNat)).1, false, letTo x.s k + 2, 0, 0⟩)
  else itemQ x i
def itemP (x : Text) (i : Int) : Item :=
  if isP x.s i (bs [91, 58]) = true then (if isP x.s (i + 2) (bs [94]) = true then itemK x i (i + 2 + 1) true else itemK x i (i + 2) false) else itemQ x i
attribute [local irreducible] isP numP signedP nameTo nameAt nameOk byteAt charP stopAt hexaP seqP atP nextP codeOf
attribute [local irreducible] manyP referP simpleP assertP letterP posixP itemQ joinP
theorem item_c (x : Text) (i : Int) (hx : x.s.size ≤ 100000) (h0 : 0 ≤ i) (h1 : i < x.s.size) :
    VCalls Try.prog 105 [x.enc, iv i] (fun r => r = itemE (itemP x i)) := by
  refine VCalls.ofr tabOk Try.func105 (by decide) rfl rfl ?_
  refine RWP.seqx tabOk orders ?_
  conv => whnf
  refine RWP.cut (fun st => st = ⟨173, [(1, .pv (iv i)), (2, .ptr 2 0)], [(2, (82, x.cells))], [], []⟩ ∧ itemP x i = itemQ x i) tabOk orders ?_ ?_
  · have hz1 : (bs [91, 58]).size = 2 := rfl
    have hz2 : (bs [94]).size = 1 := rfl
    have l1 : isP x.s i (bs [91, 58]) = true → i + 2 ≤ x.s.size := fun h => by have := isP_le h; omega
    have l2 : isP x.s (i + 2) (bs [94]) = true → i + 2 + 1 ≤ x.s.size := fun h => by have := isP_le h; omega
    repeat' ((conv => whnf); (first
    | (with_reducible first | refine Spl.yes ?_ | refine Spl.no ?_ | refine Spl.dec (fun h => ?_) (fun h => ?_) | refine Spl.eq (fun h => ?_) (fun h => ?_) | refine Spl.ne (fun h => ?_) (fun h => ?_) | refine Spl.seq (fun h => ?_) (fun h => ?_) | refine Spl.not ?_ | refine Spl.any (fun h => ?_) (fun h => ?_))
    | (refine VCalls.mono (is_c x i (bs [91, 58]) (by omega) (by omega) (by omega) (by decide)) ?_; rintro _ rfl)
    | (refine VCalls.mono (is_c x (i + 2) (bs [94]) (by omega) (by omega) (by omega) (by decide)) ?_; rintro _ rfl)
    | ((with_reducible apply And.intro); first | omega | rfl | (dsimp only; omega))))
    all_goals (conv => whnf)
    all_goals (try (have l1' := l1 (by assumption)))
    all_goals (try (have l2' := l2 (by assumption)))
    all_goals (clear l1 l2)
    · have hP0 : itemP x i = itemK x i (i + 2 + 1) true := by
        symm
        unfold itemP
        (repeat (first | (apply ite_yes; (focus first | assumption | omega)) | (apply ite_no; (focus first | assumption | exact b_nt (by assumption) | exact b_nf (by assumption) | omega)) | (apply ite_yes; (focus (first | (simp [*]; done) | (simp [*, bs]; done)))) | (apply ite_no; (focus (first | (simp [*]; done) | (simp [*, bs]; done))))))
        rfl
      rw [hP0]
      have hr := letTo_range x.s (i + 2 + 1) (by omega)
      refine ⟨fun k st => ∃ j, st = ⟨173, [(1, .pv (iv i)), (2, .ptr 2 0), (9, .pv (iv j)), (10, .pv (bv (isP x.s (i + 2) (bs [94])))), (11, .pv (iv (i + 2 + 1)))], [(2, (82, x.cells))], [], []⟩ ∧ (i + 2 + 1) ≤ j ∧ j ≤ x.s.size ∧ k = (x.s.size - j).toNat ∧ letTo x.s (i + 2 + 1) = letL x.s k j,
        ⟨_, _, Wk.narrow _ [1, 2, 9, 10, 11] [2] [], (i + 2 + 1), rfl, by omega, by omega, rfl, rfl⟩, ?_⟩
      rintro k st ⟨j, rfl, hj0, hj1, hk, hP⟩
      repeat' ((conv => whnf); (first
        | (with_reducible first | refine Spl.yes ?_ | refine Spl.no ?_ | refine Spl.dec (fun h => ?_) (fun h => ?_) | refine Spl.eq (fun h => ?_) (fun h => ?_) | refine Spl.ne (fun h => ?_) (fun h => ?_) | refine Spl.seq (fun h => ?_) (fun h => ?_) | refine Spl.not ?_ | refine Spl.any (fun h => ?_) (fun h => ?_))
        | (refine VCalls.mono (letter_c (byteAt x.s j)) ?_; rintro _ rfl)
        | ((with_reducible apply And.intro); first | omega | rfl | (dsimp only; omega))
        | (have e : letTo x.s (i + 2 + 1) = j := by rw [hP]; exact letL_end hk (by first | exact .inl (by assumption) | exact .inr (by assumption))
           clear hP hk
           subst e
           refine VCalls.mono (is_c x (letTo x.s (i + 2 + 1)) (bs [58, 93]) (by omega) (by omega) (by omega) (by decide)) ?_; rintro _ rfl)
        | (refine VCalls.mono (posix_c _ (by first | omega | (simp only [ByteArray.size_extract]; omega))) ?_; rintro _ rfl)
        | (refine VCalls.mono (not_c x _ (by have := posixP_len (x.s.extract ((i + 2 + 1)).toNat (letTo x.s (i + 2 + 1)).toNat); omega)) ?_; rintro _ rfl)))
      all_goals (conv => whnf)
      all_goals first
        | (obtain ⟨k, rfl⟩ : ∃ m, k = m + 1 := ⟨k - 1, by omega⟩
           rw [letL_go (by assumption) (by assumption)] at hP
           exact ⟨k, _, by omega, Wk.narrow _ [1, 2, 9, 10, 11] [2] [], j + 1, rfl, by omega, by omega, by omega, hP⟩)
        | (exfalso; have q : isP x.s (i + 2) (bs [94]) = true := by assumption
           have q2 : isP x.s (i + 2) (bs [94]) = false := by assumption
           rw [q] at q2; cases q2)
        | (unfold itemK; (apply fn_by (f := itemE); (focus ((repeat (first | (apply ite_yes; (focus first | assumption | omega)) | (apply ite_no; (focus first | assumption | exact b_nt (by assumption) | exact b_nf (by assumption) | omega)) | (apply ite_yes; (focus (first | (simp [*]; done) | (simp [*, bs]; done)))) | (apply ite_no; (focus (first | (simp [*]; done) | (simp [*, bs]; done)))))); exact rfl)); rfl))
        | (exact ⟨_, Wk.narrow _ [1, 2] [2] [], rfl, by unfold itemK; rw [if_neg (b_nt (by assumption))]⟩)
    · have hP0 : itemP x i = itemK x i (i + 2) false := by
        symm
        unfold itemP
        (repeat (first | (apply ite_yes; (focus first | assumption | omega)) | (apply ite_no; (focus first | assumption | exact b_nt (by assumption) | exact b_nf (by assumption) | omega)) | (apply ite_yes; (focus (first | (simp [*]; done) | (simp [*, bs]; done)))) | (apply ite_no; (focus (first | (simp [*]; done) | (simp [*, bs]; done))))))
        rfl
      rw [hP0]
      have hr := letTo_range x.s (i + 2) (by omega)
      refine ⟨fun k st => ∃ j, st = ⟨173, [(1, .pv (iv i)), (2, .ptr 2 0), (9, .pv (iv j)), (10, .pv (bv (isP x.s (i + 2) (bs [94])))), (11, .pv (iv (i + 2)))], [(2, (82, x.cells))], [], []⟩ ∧ (i + 2) ≤ j ∧ j ≤ x.s.size ∧ k = (x.s.size - j).toNat ∧ letTo x.s (i + 2) = letL x.s k j,
        ⟨_, _, Wk.narrow _ [1, 2, 9, 10, 11] [2] [], (i + 2), rfl, by omega, by omega, rfl, rfl⟩, ?_⟩
      rintro k st ⟨j, rfl, hj0, hj1, hk, hP⟩
      repeat' ((conv => whnf); (first
        | (with_reducible first | refine Spl.yes ?_ | refine Spl.no ?_ | refine Spl.dec (fun h => ?_) (fun h => ?_) | refine Spl.eq (fun h => ?_) (fun h => ?_) | refine Spl.ne (fun h => ?_) (fun h => ?_) | refine Spl.seq (fun h => ?_) (fun h => ?_) | refine Spl.not ?_ | refine Spl.any (fun h => ?_) (fun h => ?_))
        | (refine VCalls.mono (letter_c (byteAt x.s j)) ?_; rintro _ rfl)
        | ((with_reducible apply And.intro); first | omega | rfl | (dsimp only; omega))
        | (have e : letTo x.s (i + 2) = j := by rw [hP]; exact letL_end hk (by first | exact .inl (by assumption) | exact .inr (by assumption))
           clear hP hk
           subst e
           refine VCalls.mono (is_c x (letTo x.s (i + 2)) (bs [58, 93]) (by omega) (by omega) (by omega) (by decide)) ?_; rintro _ rfl)
        | (refine VCalls.mono (posix_c _ (by first | omega | (simp only [ByteArray.size_extract]; omega))) ?_; rintro _ rfl)
        | (refine VCalls.mono (not_c x _ (by have := posixP_len (x.s.extract ((i + 2)).toNat (letTo x.s (i + 2)).toNat); omega)) ?_; rintro _ rfl)))
      all_goals (conv => whnf)
      all_goals first
        | (obtain ⟨k, rfl⟩ : ∃ m, k = m + 1 := ⟨k - 1, by omega⟩
           rw [letL_go (by assumption) (by assumption)] at hP
           exact ⟨k, _, by omega, Wk.narrow _ [1, 2, 9, 10, 11] [2] [], j + 1, rfl, by omega, by omega, by omega, hP⟩)
        | (exfalso; have q : isP x.s (i + 2) (bs [94]) = true := by assumption
           have q2 : isP x.s (i + 2) (bs [94]) = false := by assumption
           rw [q] at q2; cases q2)
        | (unfold itemK; (apply fn_by (f := itemE); (focus ((repeat (first | (apply ite_yes; (focus first | assumption | omega)) | (apply ite_no; (focus first | assumption | exact b_nt (by assumption) | exact b_nf (by assumption) | omega)) | (apply ite_yes; (focus (first | (simp [*]; done) | (simp [*, bs]; done)))) | (apply ite_no; (focus (first | (simp [*]; done) | (simp [*, bs]; done)))))); exact rfl)); rfl))
        | (exact ⟨_, Wk.narrow _ [1, 2] [2] [], rfl, by unfold itemK; rw [if_neg (b_nt (by assumption))]⟩)
    · exact ⟨_, Wk.narrow _ [1, 2] [2] [], rfl, by unfold itemP; rw [if_neg (b_nt (by assumption))]⟩
  rintro _ ⟨rfl, e⟩
  rw [e]
  clear e
  have hc := charP_rng x i (by omega)
  have hc2 := charP_rng x (charP x i).2 (by omega)
  have hv := charP_val x (charP x i).2
  have hv1 := charP_val x i
  refine RWP.of tabOk orders ?_
  repeat' ((conv => whnf); (first
    | (with_reducible first | refine Spl.yes ?_ | refine Spl.no ?_ | refine Spl.dec (fun h => ?_) (fun h => ?_) | refine Spl.eq (fun h => ?_) (fun h => ?_) | refine Spl.ne (fun h => ?_) (fun h => ?_) | refine Spl.seq (fun h => ?_) (fun h => ?_) | refine Spl.not ?_ | refine Spl.any (fun h => ?_) (fun h => ?_))
    | (refine VCalls.mono (char_c x i (by omega)) ?_; rintro _ rfl)
    | (refine VCalls.mono (char_c x (charP x i).2 (by omega)) ?_; rintro _ rfl)
    | (refine VCalls.mono (hexa_c x (charP x (charP x i).2).2 (by omega) (by omega) (by omega)) ?_; rintro _ rfl)
    | (refine VCalls.mono (simple_c (charP x (charP x i).2).1) ?_; rintro _ rfl)
    | (refine VCalls.mono (many_c x (charP x (charP x i).2).1 (charP x (charP x i).2).2 (by omega) (by omega) (by omega) (by omega)) ?_; rintro _ rfl)
    | (refine VCalls.mono (not_c x _ (by have := manyP_len x (charP x (charP x i).2).1 (charP x (charP x i).2).2; omega)) ?_; rintro _ rfl)
    | (refine VCalls.mono (letter_c _) ?_; rintro _ rfl)
    | (refine VCalls.mono (digit_c _) ?_; rintro _ rfl)
    | refine drawn_text (by decide +kernel) ?_
    | ((with_reducible apply And.intro); first | omega | rfl | (dsimp only; omega))))
  all_goals (conv => whnf)
  all_goals (unfold itemQ itemS itemM)
  all_goals first | (exfalso; omega) | (apply fn_by (f := itemE); (focus ((repeat (first | (apply ite_yes; (focus first | assumption | omega)) | (apply ite_no; (focus first | assumption | exact b_nt (by assumption) | exact b_nf (by assumption) | omega)) | (apply ite_yes; (focus (first | (simp [*]; done) | (simp [*, bs]; done)))) | (apply ite_no; (focus (first | (simp [*]; done) | (simp [*, bs]; done)))))); exact rfl)); rfl)
end Go.Proofs.Ytnoohgiecnmajaa.VC

/- The lexer of the document: classes. -/
namespace Go.Proofs.Ytnoohgiecnmajaa.VC
open Go Go.RowKit
set_option linter.unusedVariables false
set_option linter.unusedSimpArgs false
set_option maxHeartbeats 4000000

theorem nextP_gt (l : List Int) (a : Int) (u : Bool) (h0 : 0 ≤ a) (h : a < l.length) : a < (nextP l a u).2 := by
  have hr := atP_range l a
  unfold nextP
  split
  · omega
  split
  · simp only; omega
  · simp only; omega
theorem charP_gt (x : Text) (i : Int) (h0 : 0 ≤ i) (h : i < x.s.size) : i < (charP x i).2 := by
  have := nextP_gt (numsOf x.s) i x.utf h0 (by rw [numsOf_len]; exact h)
  exact this
theorem hexRun_range (s : ByteArray) (lim : Int) : ∀ (k : Nat) (n j : Int), j ≤ s.size → j ≤ (hexRun s lim k n j).2 ∧ (hexRun s lim k n j).2 ≤ s.size
  | 0, n, j, h => by simp [hexRun]; omega
  | k + 1, n, j, h => by
    unfold hexRun
    split
    · have := hexRun_range s lim k (n * 16 + hexP (byteAt s j)) (j + 1) (by omega)
      omega
    · simp only; omega
theorem hexaP_range (x : Text) (i : Int) (h : i ≤ x.s.size) : i ≤ (hexaP x i).2 ∧ (hexaP x i).2 ≤ x.s.size := by
  have hchk : ∀ n j, i ≤ j → j ≤ x.s.size → i ≤ (hexChk x n j).2 ∧ (hexChk x n j).2 ≤ x.s.size := by
    intro n j h1 h2
    unfold hexChk
    split
    · exact ⟨h1, h2⟩
    split
    · exact ⟨h1, h2⟩
    · exact ⟨h1, h2⟩
  unfold hexaP
  split
  · rename_i hb
    have hl := isP_le hb
    have hz : (bs [123]).size = 1 := rfl
    have h7 := hexRun_range x.s (i + 8) 7 0 (i + 1) (by omega)
    split
    · exact ⟨by simp, h⟩
    · rename_i hn
      have hi : isP x.s (hexRun x.s (i + 8) 7 0 (i + 1)).2 (bs [125]) = true := by
        cases hq : isP x.s (hexRun x.s (i + 8) 7 0 (i + 1)).2 (bs [125]) with
        | true => rfl
        | false => exact absurd (.inr (.inr hq)) hn
      have hl2 := isP_le hi
      have hz2 : (bs [125]).size = 1 := rfl
      exact hchk _ _ (by omega) (by omega)
  · have h2 := hexRun_range x.s (i + 2) 2 0 i h
    exact hchk _ _ h2.1 h2.2
/-- What is known of an item. -/
structure ItemOk (x : Text) (i : Int) (m : Item) : Prop where
  len : m.l.length ≤ 20002
  go : m.e = 0 → i < m.to ∧ m.to ≤ x.s.size ∧ (m.single = true → m.l.length = 1)
theorem itemOk_bad {x : Text} {i : Int} (a t e b : Int) (he : e ≠ 0) (u : Bool) : ItemOk x i ⟨[], u, t, e, b⟩ := ⟨by simp, fun h => absurd h he⟩
theorem itemM_ok (x : Text) (i c to : Int) (m : Many) (hm : m.l.length ≤ 10000) (hmt : i < m.to ∧ m.to ≤ x.s.size) (ht : i < to ∧ to ≤ x.s.size) : ItemOk x i (itemM x i c to m) := by
  unfold itemM
  split
  · exact itemOk_bad 0 _ _ _ (by assumption) _
  split
  · split
    · have := joinP_len 2 m.l [] x.most
      simp only [List.length_nil] at this
      exact ⟨by simp only; omega, fun _ => ⟨hmt.1, hmt.2, fun h => by cases h⟩⟩
    · exact ⟨by simp only; omega, fun _ => ⟨hmt.1, hmt.2, fun h => by cases h⟩⟩
  split
  · split
    · exact itemOk_bad 0 _ _ _ (by decide) _
    split
    · exact itemOk_bad 0 _ _ _ (by decide) _
    · exact ⟨by simp, fun _ => ⟨ht.1, ht.2, fun _ => rfl⟩⟩
  · exact ⟨by simp, fun _ => ⟨ht.1, ht.2, fun _ => rfl⟩⟩
theorem itemQ_ok (x : Text) (i : Int) (h0 : 0 ≤ i) (h1 : i < x.s.size) : ItemOk x i (itemQ x i) := by
  have hg := charP_gt x i h0 h1
  have hr := charP_rng x i (by omega)
  unfold itemQ
  split
  · exact ⟨by simp, fun _ => ⟨hg, hr.2, fun _ => rfl⟩⟩
  split
  · exact itemOk_bad 0 _ _ _ (by decide) _
  · have hr2 := charP_rng x (charP x i).2 (by omega)
    have hmt := manyP_to x (charP x (charP x i).2).1 (charP x (charP x i).2).2 (by omega) (by omega)
    have hh := hexaP_range x (charP x (charP x i).2).2 (by omega)
    unfold itemS
    split
    · split
      · exact itemOk_bad 0 _ _ _ (by decide) _
      · exact ⟨by simp, fun _ => ⟨by simp only; omega, by simp only; omega, fun _ => rfl⟩⟩
    split
    · exact ⟨by simp, fun _ => ⟨by simp only; omega, by simp only; omega, fun _ => rfl⟩⟩
    split
    · exact ⟨by simp, fun _ => ⟨by simp only; omega, by simp only; omega, fun _ => rfl⟩⟩
    · exact itemM_ok x i _ _ _ (manyP_len _ _ _) ⟨by omega, by omega⟩ ⟨by omega, by omega⟩
theorem itemP_ok (x : Text) (i : Int) (h0 : 0 ≤ i) (h1 : i < x.s.size) : ItemOk x i (itemP x i) := by
  have hK : ∀ k neg, i ≤ k → k ≤ x.s.size → ItemOk x i (itemK x i k neg) := by
    intro k neg q1 q2
    unfold itemK
    split
    · rename_i hb
      have hl := isP_le hb
      have hz : (bs [58, 93]).size = 2 := rfl
      have hr := letTo_range x.s k q2
      have hp := posixP_len (x.s.extract k.toNat (letTo x.s k).toNat)
      split
      · exact itemOk_bad 0 _ _ _ (by decide) _
      split
      · have := joinP_len 2 (posixP (x.s.extract k.toNat (letTo x.s k).toNat)).1 [] x.most
        simp only [List.length_nil] at this
        exact ⟨by simp only; omega, fun _ => ⟨by simp only; omega, by simp only; omega, fun h => by cases h⟩⟩
      · exact ⟨by simp only; omega, fun _ => ⟨by simp only; omega, by simp only; omega, fun h => by cases h⟩⟩
    · exact itemQ_ok x i h0 h1
  unfold itemP
  split
  · rename_i hb
    have hl := isP_le hb
    have hz : (bs [91, 58]).size = 2 := rfl
    split
    · rename_i hb2
      have hl2 := isP_le hb2
      have hz2 : (bs [94]).size = 1 := rfl
      exact hK _ _ (by omega) (by omega)
    · exact hK _ _ (by omega) (by omega)
  · exact itemQ_ok x i h0 h1
def classR (x : Text) (i : Int) (next : Int → List (Int × Int) → Got) (A : List (Int × Int)) (m n : Item) : Got :=
  if n.e ≠ 0 then badG n.e n.at_
  else if n.single = false then badG 23 i
  else if (rdp n.l 0).1 < (rdp m.l 0).1 then badG 23 i
  else next n.to (A ++ [((rdp m.l 0).1, (rdp n.l 0).1)])
def classI (x : Text) (i : Int) (next : Int → List (Int × Int) → Got) (A : List (Int × Int)) (m : Item) : Got :=
  if m.e ≠ 0 then badG m.e m.at_
  else if m.single = true then (if isP x.s m.to (bs [45]) = true then (if m.to + 1 < x.s.size then (if byteAt x.s (m.to + 1) ≠ 93 then classR x i next A m (itemP x (m.to + 1)) else next m.to (A ++ m.l)) else next m.to (A ++ m.l)) else next m.to (A ++ m.l))
  else next m.to (A ++ m.l)
def classL (x : Text) (at_ first : Int) (neg : Bool) : Nat → Int → List (Int × Int) → Got
  | 0, _, _ => endG x
  | k + 1, i, A =>
    if i ≥ x.s.size then endG x
    else if byteAt x.s i = 93 then (if i > first then tokG { tokZ with kind := 2, set := newP A x.most, neg := neg } at_ (i + 1) else classI x i (classL x at_ first neg k) A (itemP x i))
    else classI x i (classL x at_ first neg k) A (itemP x i)
def classF (x : Text) (a : Int) : Int := if isP x.s (a + 1) (bs [94]) = true then a + 1 + 1 else a + 1
def classP (x : Text) (a : Int) : Got := classL x a (classF x a) (isP x.s (a + 1) (bs [94])) (x.s.size + 2) (classF x a) []
attribute [local irreducible] isP numP signedP nameTo nameAt nameOk byteAt charP stopAt hexaP seqP atP nextP codeOf
attribute [local irreducible] itemP
set_option maxHeartbeats 8000000
theorem class_c (x : Text) (a : Int) (hx : x.s.size ≤ 1000) (h0 : 0 ≤ a) (h1 : a < x.s.size) :
    VCalls Try.prog 76 [x.enc, iv a] (fun r => r = (classP x a).enc) := by
  refine VCalls.ofr tabOk Try.func76 (by decide) rfl rfl ?_
  refine RWP.seqx tabOk orders ?_
  conv => whnf
  refine RWP.seqx tabOk orders ?_
  repeat' ((conv => whnf); (first
    | (with_reducible first | refine Spl.yes ?_ | refine Spl.no ?_ | refine Spl.dec (fun h => ?_) (fun h => ?_) | refine Spl.eq (fun h => ?_) (fun h => ?_) | refine Spl.ne (fun h => ?_) (fun h => ?_) | refine Spl.seq (fun h => ?_) (fun h => ?_) | refine Spl.not ?_ | refine Spl.any (fun h => ?_) (fun h => ?_))
    | ((with_reducible apply And.intro); first | omega | rfl | (dsimp only; omega))))
  all_goals (conv => whnf)
  refine RWP.seqx tabOk orders ?_
  repeat' ((conv => whnf); (first
    | (with_reducible first | refine Spl.yes ?_ | refine Spl.no ?_ | refine Spl.dec (fun h => ?_) (fun h => ?_) | refine Spl.eq (fun h => ?_) (fun h => ?_) | refine Spl.ne (fun h => ?_) (fun h => ?_) | refine Spl.seq (fun h => ?_) (fun h => ?_) | refine Spl.not ?_ | refine Spl.any (fun h => ?_) (fun h => ?_))
    | (refine VCalls.mono (is_c x (a + 1) (bs [94]) (by omega) (by omega) (by omega) (by decide)) ?_; rintro _ rfl)
    | ((with_reducible apply And.intro); first | omega | rfl | (dsimp only; omega))))
  all_goals (conv => whnf)
  unfold classP
  have hF : a < classF x a ∧ classF x a ≤ x.s.size := by
    unfold classF
    split
    · rename_i hb
      have := isP_le hb
      have hz : (bs [94]).size = 1 := rfl
      omega
    · omega
  refine RWP.cut (fun st => st = ⟨135, [(1, .pv (iv a)), (2, .ptr 2 0), (4, .ptr 4 0), (5, .pv (iv (classF x a))), (6, .pv (bv (isP x.s (a + 1) (bs [94]))))], [(2, (82, x.cells)), (4, (90, gzero))], [], []⟩) tabOk orders ?_ ?_
  · repeat' ((conv => whnf); (first
    | (with_reducible first | refine Spl.yes ?_ | refine Spl.no ?_ | refine Spl.dec (fun h => ?_) (fun h => ?_) | refine Spl.eq (fun h => ?_) (fun h => ?_) | refine Spl.ne (fun h => ?_) (fun h => ?_) | refine Spl.seq (fun h => ?_) (fun h => ?_) | refine Spl.not ?_ | refine Spl.any (fun h => ?_) (fun h => ?_))
    | ((with_reducible apply And.intro); first | omega | rfl | (dsimp only; omega))))
    all_goals (conv => whnf)
    · exact ⟨_, Wk.narrow _ [1, 2, 4, 5, 6] [2, 4] [], by unfold classF; rw [if_pos h]; rfl⟩
    · exact ⟨_, Wk.narrow _ [1, 2, 4, 5, 6] [2, 4] [], by unfold classF; rw [if_neg (b_nt h)]; rfl⟩
  rintro _ rfl
  generalize hf : classF x a = first at *
  generalize isP x.s (a + 1) (bs [94]) = neg
  refine RWP.seqx tabOk orders ?_
  conv => whnf
  refine RWP.seqx tabOk orders ?_
  conv => whnf
  refine RWP.block ?_
  refine RWP.loop (fun k st => ∃ (i : Int) (A : List (Int × Int)) (v : Bool), st = ⟨135, [(1, .pv (iv a)), (2, .ptr 2 0), (4, .ptr 4 0), (5, .pv (iv i)), (6, .pv (bv neg)), (7, .pv (iv first)), (8, .own 133)], [(2, (82, x.cells)), (4, (90, gzero))], [(133, ⟨2, 74, v, rows2 A⟩)], []⟩ ∧ first ≤ i ∧ i ≤ x.s.size ∧ (x.s.size - i).toNat + 1 < k ∧ (A.length : Int) ≤ 20002 * i ∧ classL x a first neg (x.s.size + 2) first [] = classL x a first neg k i A)
    ⟨_, _, Wk.trans (Wk.ownNil (t := 8) (k := 133) (sz := 2) (e := 74) rfl) (Wk.narrow _ [1, 2, 4, 5, 6, 7, 8] [2, 4] [133]), first, [], true, rfl, by omega, by omega, by omega, by simp; omega, rfl⟩ ?_
  rintro k st ⟨i, A, v, rfl, hi0, hi1, hk, hA, hP⟩
  obtain ⟨k, rfl⟩ : ∃ m, k = m + 1 := ⟨k - 1, by omega⟩
  have hAl := rows2_len A
  refine RWP.block ?_
  refine RWP.seqx tabOk orders ?_
  repeat' ((conv => whnf); (first
    | (with_reducible first | refine Spl.yes ?_ | refine Spl.no ?_ | refine Spl.dec (fun h => ?_) (fun h => ?_) | refine Spl.eq (fun h => ?_) (fun h => ?_) | refine Spl.ne (fun h => ?_) (fun h => ?_) | refine Spl.seq (fun h => ?_) (fun h => ?_) | refine Spl.not ?_ | refine Spl.any (fun h => ?_) (fun h => ?_))
    | (refine VCalls.mono (end_c x) ?_; rintro _ rfl)
    | ((with_reducible apply And.intro); first | omega | rfl | (dsimp only; omega))))
  all_goals (conv => whnf)
  · have e : classL x a first neg (x.s.size + 2) first [] = endG x := by rw [hP, classL, if_pos (by assumption)]
    rw [e]
    (apply enc_by; (focus ((repeat (first | (apply ite_yes; (focus first | assumption | omega)) | (apply ite_no; (focus first | assumption | exact b_nt (by assumption) | exact b_nf (by assumption) | omega)) | (apply ite_yes; (focus (first | (simp [*]; done) | (simp [*, bs]; done)))) | (apply ite_no; (focus (first | (simp [*]; done) | (simp [*, bs]; done)))))); exact rfl)); rfl)
  have hi2 : i < x.s.size := by omega
  refine RWP.seqx tabOk orders ?_
  repeat' ((conv => whnf); (first
    | (with_reducible first | refine Spl.yes ?_ | refine Spl.no ?_ | refine Spl.dec (fun h => ?_) (fun h => ?_) | refine Spl.eq (fun h => ?_) (fun h => ?_) | refine Spl.ne (fun h => ?_) (fun h => ?_) | refine Spl.seq (fun h => ?_) (fun h => ?_) | refine Spl.not ?_ | refine Spl.any (fun h => ?_) (fun h => ?_))
    | (refine VCalls.mono (cut_c x A (by omega)) ?_; rintro _ rfl)
    | (refine VCalls.mono (tok_c { tokZ with kind := 2, set := newP A x.most, neg := neg } a (i + 1)) ?_; rintro _ rfl)
    | ((with_reducible apply And.intro); first | omega | rfl | (dsimp only; omega))))
  all_goals (conv => whnf)
  · have e : classL x a first neg (x.s.size + 2) first [] = tokG { tokZ with kind := 2, set := newP A x.most, neg := neg } a (i + 1) := by rw [hP, classL, if_neg (by omega), if_pos (by assumption), if_pos (by assumption)]
    rw [e]
    (apply enc_by; (focus ((repeat (first | (apply ite_yes; (focus first | assumption | omega)) | (apply ite_no; (focus first | assumption | exact b_nt (by assumption) | exact b_nf (by assumption) | omega)) | (apply ite_yes; (focus (first | (simp [*]; done) | (simp [*, bs]; done)))) | (apply ite_no; (focus (first | (simp [*]; done) | (simp [*, bs]; done)))))); exact rfl)); rfl)
  all_goals (
    replace hP : classL x a first neg (x.s.size + 2) first [] = classI x i (classL x a first neg k) A (itemP x i) := by
      rw [hP, classL, if_neg (by omega)]
      first
        | rw [if_neg (by assumption)]
        | rw [if_pos (by assumption), if_neg (by assumption)]
    have hI := itemP_ok x i (by omega) (by omega)
    refine RWP.seqx tabOk orders ?_
    repeat' ((conv => whnf); (first
    | (with_reducible first | refine Spl.yes ?_ | refine Spl.no ?_ | refine Spl.dec (fun h => ?_) (fun h => ?_) | refine Spl.eq (fun h => ?_) (fun h => ?_) | refine Spl.ne (fun h => ?_) (fun h => ?_) | refine Spl.seq (fun h => ?_) (fun h => ?_) | refine Spl.not ?_ | refine Spl.any (fun h => ?_) (fun h => ?_))
    | (refine VCalls.mono (item_c x i (by omega) (by omega) (by omega)) ?_; rintro _ rfl)
    | ((with_reducible apply And.intro); first | omega | rfl | (dsimp only; omega))))
    all_goals (conv => whnf)
    generalize hM : itemP x i = m at *
    have hI2 := hI.go
    have hI1 := hI.len
    refine RWP.of tabOk orders ?_
    have hml := rows2_len m.l
    have hnl := rows2_len (itemP x (m.to + 1)).l
    have hJ : m.e = 0 → m.to + 1 < x.s.size → ItemOk x (m.to + 1) (itemP x (m.to + 1)) := fun h1 h2 => itemP_ok x (m.to + 1) (by have := hI2 h1; omega) h2
    repeat' ((conv => whnf); (first
    | (with_reducible first | refine Spl.yes ?_ | refine Spl.no ?_ | refine Spl.dec (fun h => ?_) (fun h => ?_) | refine Spl.eq (fun h => ?_) (fun h => ?_) | refine Spl.ne (fun h => ?_) (fun h => ?_) | refine Spl.seq (fun h => ?_) (fun h => ?_) | refine Spl.not ?_ | refine Spl.any (fun h => ?_) (fun h => ?_))
    | (refine VCalls.mono (is_c x m.to (bs [45]) (by have := hI2 (by assumption); omega) (by have := hI2 (by assumption); omega) (by omega) (by decide)) ?_; rintro _ rfl)
    | (refine VCalls.mono (item_c x (m.to + 1) (by omega) (by have := hI2 (by assumption); omega) (by omega)) ?_; rintro _ rfl)
    | (refine VCalls.mono (bad_c _ _) ?_; rintro _ rfl)
    | refine drawn_text (by decide +kernel) ?_
    | refine And.intro (by have q := ((hJ (by assumption) (by assumption)).go (by assumption)).2.2 (by assumption); have q2 := (hI2 (by assumption)).2.2 (by assumption); omega) ?_
    | refine And.intro (by have q2 := (hI2 (by assumption)).2.2 (by assumption); omega) ?_
    | refine And.intro (by show ((rows2 A).length + (rows2 m.l).length) * 16 ≤ 140737488355328; omega) ?_
    | refine And.intro (by show ((rows2 A).length + 1) * 16 ≤ 140737488355328; omega) ?_
    | (rw [rows2_get (by have := (hI2 (by assumption)).2.2 (by assumption); simp; omega)])
    | (rw [rows2_get (by have := ((hJ (by assumption) (by assumption)).go (by assumption)).2.2 (by assumption); simp; omega)])
    | ((with_reducible apply And.intro); first | omega | rfl | (dsimp only; omega))))
    all_goals (conv => whnf)
    all_goals (try have hg1 := hI2 (by assumption))
    all_goals (try have hg2 := (hJ (by assumption) (by assumption)).go (by assumption))
    all_goals (unfold classI classR at hP)
    all_goals first
      | (rw [hP]; clear hP hJ hI2 hI; (apply enc_by; (focus ((repeat (first | (apply ite_yes; (focus first | assumption | omega)) | (apply ite_no; (focus first | assumption | exact b_nt (by assumption) | exact b_nf (by assumption) | omega)) | (apply ite_yes; (focus (first | (simp [*]; done) | (simp [*, bs]; done)))) | (apply ite_no; (focus (first | (simp [*]; done) | (simp [*, bs]; done)))))); exact rfl)); rfl))
      | (have hP' : classL x a first neg (x.s.size + 2) first [] = classL x a first neg k m.to (A ++ m.l) := by
           rw [hP]
           symm
           (repeat (first | (apply ite_yes; (focus first | assumption | omega)) | (apply ite_no; (focus first | assumption | exact b_nt (by assumption) | exact b_nf (by assumption) | omega)) | (apply ite_yes; (focus (first | (simp [*]; done) | (simp [*, bs]; done)))) | (apply ite_no; (focus (first | (simp [*]; done) | (simp [*, bs]; done))))))
           rfl
         have e : rows2 A ++ rows2 m.l = rows2 (A ++ m.l) := by simp [rows2]
         exact ⟨k, _, by omega, Wk.narrow _ [1, 2, 4, 5, 6, 7, 8] [2, 4] [133], m.to, A ++ m.l, v, Eq.trans rfl (congrArg (fun X => (⟨135, [(1, .pv (iv a)), (2, .ptr 2 0), (4, .ptr 4 0), (5, .pv (iv m.to)), (6, .pv (bv neg)), (7, .pv (iv first)), (8, .own 133)], [(2, (82, x.cells)), (4, (90, gzero))], [(133, ⟨2, 74, v, X⟩)], []⟩ : St)) e), by omega, by omega, by omega, by rw [List.length_append]; omega, hP'⟩)
      | (have hP' : classL x a first neg (x.s.size + 2) first [] = classL x a first neg k (itemP x (m.to + 1)).to (A ++ [((rdp m.l 0).1, (rdp (itemP x (m.to + 1)).l 0).1)]) := by
           rw [hP]
           symm
           (repeat (first | (apply ite_yes; (focus first | assumption | omega)) | (apply ite_no; (focus first | assumption | exact b_nt (by assumption) | exact b_nf (by assumption) | omega)) | (apply ite_yes; (focus (first | (simp [*]; done) | (simp [*, bs]; done)))) | (apply ite_no; (focus (first | (simp [*]; done) | (simp [*, bs]; done))))))
           rfl
         exact ⟨k, _, by omega, Wk.narrow _ [1, 2, 4, 5, 6, 7, 8] [2, 4] [133], (itemP x (m.to + 1)).to, _, v, Eq.trans rfl (congrArg (fun X => (⟨135, [(1, .pv (iv a)), (2, .ptr 2 0), (4, .ptr 4 0), (5, .pv (iv (itemP x (m.to + 1)).to)), (6, .pv (bv neg)), (7, .pv (iv first)), (8, .own 133)], [(2, (82, x.cells)), (4, (90, gzero))], [(133, ⟨2, 74, v, X⟩)], []⟩ : St)) (rows2_snoc A ((rdp m.l 0).1, (rdp (itemP x (m.to + 1)).l 0).1))), by omega, by omega, by omega, by rw [List.length_append]; simp only [List.length_cons, List.length_nil]; omega, hP'⟩))
end Go.Proofs.Ytnoohgiecnmajaa.VC

/- The lexer of the document: a token. -/
namespace Go.Proofs.Ytnoohgiecnmajaa.VC
open Go Go.RowKit
set_option linter.unusedVariables false
set_option linter.unusedSimpArgs false
set_option maxHeartbeats 4000000

def lineL (s : ByteArray) : Nat → Int → Int
  | 0, i => i
  | k + 1, i => if i < s.size ∧ byteAt s (i - 1) ≠ 10 then lineL s k (i + 1) else i
def lineTo (s : ByteArray) (i : Int) : Int := lineL s (s.size - i).toNat i
theorem lineL_range (s : ByteArray) : ∀ (k : Nat) (i : Int), i ≤ s.size → i ≤ lineL s k i ∧ lineL s k i ≤ s.size
  | 0, i, h => by simp [lineL]; omega
  | k + 1, i, h => by
    unfold lineL
    split
    · have := lineL_range s k (i + 1) (by omega)
      omega
    · omega
theorem lineTo_range (s : ByteArray) (i : Int) (h : i ≤ s.size) : i ≤ lineTo s i ∧ lineTo s i ≤ s.size := lineL_range s _ i h
theorem lineL_end {s : ByteArray} {k : Nat} {i : Int} (hk : k = (s.size - i).toNat) (h : ¬ i < s.size ∨ byteAt s (i - 1) = 10) : lineL s k i = i := by
  cases k with
  | zero => rfl
  | succ k => rw [lineL, if_neg (by rcases h with q | q
                                    · omega
                                    · simp [q])]
theorem lineL_go {s : ByteArray} {k : Nat} {i : Int} (h1 : i < s.size) (h : byteAt s (i - 1) ≠ 10) : lineL s (k + 1) i = lineL s k (i + 1) := by
  rw [lineL, if_pos ⟨h1, h⟩]
def litG (i c to : Int) : Got := tokG { tokZ with kind := 1, c := c } i to
def brK (x : Text) (i c to n a m b : Int) (great : Bool) : Got :=
  if a = i + 1 then litG i c to
  else if isP x.s b (bs [125]) = true then
    (if great = true then badG 25 i
     else if m ≥ 0 then (if m < n then badG 23 i else quantP x i (b + 1) n m)
     else quantP x i (b + 1) n m)
  else litG i c to
def brM (x : Text) (i c to n a : Int) (great : Bool) (q : Int × Int × Bool) : Got :=
  if great = true then (if q.2.1 = a + 1 then brK x i c to n a (-1) q.2.1 true else brK x i c to n a q.1 q.2.1 true)
  else if q.2.1 = a + 1 then brK x i c to n a (-1) q.2.1 q.2.2 else brK x i c to n a q.1 q.2.1 q.2.2
def brP (x : Text) (i c to : Int) (p : Int × Int × Bool) : Got :=
  if p.2.1 > i + 1 then
    (if isP x.s p.2.1 (bs [44]) = true then brM x i c to p.1 p.2.1 p.2.2 (numP x.s (p.2.1 + 1))
     else brK x i c to p.1 p.2.1 p.1 p.2.1 p.2.2)
  else brK x i c to p.1 p.2.1 p.1 p.2.1 p.2.2
def tokC (x : Text) (i c to : Int) : Got :=
  if c = 92 then escapeP x i else if c = 91 then classP x i else if c = 40 then openP x i
  else if c = 46 then tokG { tokZ with kind := 3 } i to
  else if c = 94 then tokG { tokZ with kind := 4, n := 1 } i to
  else if c = 36 then tokG { tokZ with kind := 4, n := 2 } i to
  else if c = 124 then tokG { tokZ with kind := 7 } i to
  else if c = 41 then tokG { tokZ with kind := 8 } i to
  else if c = 42 then quantP x i to 0 (-1)
  else if c = 43 then quantP x i to 1 (-1)
  else if c = 63 then quantP x i to 0 1
  else if c = 123 then brP x i c to (numP x.s (i + 1))
  else litG i c to
def tokX (x : Text) (i c to : Int) : Got :=
  if c = 32 then skipG to else if c = 35 then skipG (lineTo x.s to) else tokC x i c to
def tokenP (x : Text) (i : Int) : Got :=
  if x.x = true then
    (if (charP x i).1 ≥ 9 then (if (charP x i).1 ≤ 13 then skipG (charP x i).2 else tokX x i (charP x i).1 (charP x i).2) else tokX x i (charP x i).1 (charP x i).2)
  else tokC x i (charP x i).1 (charP x i).2
attribute [local irreducible] isP numP signedP nameTo nameAt nameOk byteAt charP stopAt hexaP seqP atP nextP codeOf
attribute [local irreducible] escapeP classP openP quantP tokC
theorem token_c (x : Text) (i : Int) (hx : x.s.size ≤ 1000) (h0 : 0 ≤ i) (h1 : i < x.s.size) :
    VCalls Try.prog 53 [x.enc, iv i] (fun r => r = (tokenP x i).enc) := by
  have hc := charP_rng x i (by omega)
  have hg := charP_gt x i h0 h1
  refine VCalls.ofr tabOk Try.func53 (by decide) rfl rfl ?_
  refine RWP.seqx tabOk orders ?_
  conv => whnf
  refine RWP.seqx tabOk orders ?_
  repeat' ((conv => whnf); (first
    | (with_reducible first | refine Spl.yes ?_ | refine Spl.no ?_ | refine Spl.dec (fun h => ?_) (fun h => ?_) | refine Spl.eq (fun h => ?_) (fun h => ?_) | refine Spl.ne (fun h => ?_) (fun h => ?_) | refine Spl.seq (fun h => ?_) (fun h => ?_) | refine Spl.not ?_ | refine Spl.any (fun h => ?_) (fun h => ?_))
    | (refine VCalls.mono (char_c x i (by omega)) ?_; rintro _ rfl)
    | ((with_reducible apply And.intro); first | omega | rfl | (dsimp only; omega))))
  all_goals (conv => whnf)
  unfold tokenP
  generalize (charP x i).1 = c at *
  generalize (charP x i).2 = to at *
  refine RWP.cut (fun st => st = ⟨191, [(1, .pv (iv i)), (2, .ptr 2 0), (4, .ptr 4 0), (5, .pv (iv c)), (6, .pv (iv to))], [(2, (82, x.cells)), (4, (90, gzero))], [], []⟩ ∧ (if x.x = true then
    (if c ≥ 9 then (if c ≤ 13 then skipG to else tokX x i c to) else tokX x i c to) else tokC x i c to) = tokC x i c to) tabOk orders ?_ ?_
  · repeat' ((conv => whnf); (first
    | (with_reducible first | refine Spl.yes ?_ | refine Spl.no ?_ | refine Spl.dec (fun h => ?_) (fun h => ?_) | refine Spl.eq (fun h => ?_) (fun h => ?_) | refine Spl.ne (fun h => ?_) (fun h => ?_) | refine Spl.seq (fun h => ?_) (fun h => ?_) | refine Spl.not ?_ | refine Spl.any (fun h => ?_) (fun h => ?_))
    | ((with_reducible apply And.intro); first | omega | rfl | (dsimp only; omega))))
    all_goals (conv => whnf)
    all_goals first
      | (exfalso; omega)
      | (unfold tokX; (apply enc_by; (focus ((repeat (first | (apply ite_yes; (focus first | assumption | omega)) | (apply ite_no; (focus first | assumption | exact b_nt (by assumption) | exact b_nf (by assumption) | omega)) | (apply ite_yes; (focus (first | (simp [*]; done) | (simp [*, bs]; done)))) | (apply ite_no; (focus (first | (simp [*]; done) | (simp [*, bs]; done)))))); exact rfl)); rfl))
      | (refine ⟨_, Wk.narrow _ [1, 2, 4, 5, 6] [2, 4] [], rfl, ?_⟩
         symm
         unfold tokX
         (repeat (first | (apply ite_yes; (focus first | assumption | omega)) | (apply ite_no; (focus first | assumption | exact b_nt (by assumption) | exact b_nf (by assumption) | omega)) | (apply ite_yes; (focus (first | (simp [*]; done) | (simp [*, bs]; done)))) | (apply ite_no; (focus (first | (simp [*]; done) | (simp [*, bs]; done))))))
         rfl)
      | skip
    all_goals (
      have e : (if x.x = true then (if c ≥ 9 then (if c ≤ 13 then skipG to else tokX x i c to) else tokX x i c to) else tokC x i c to) = skipG (lineTo x.s to) := by
        symm
        unfold tokX
        (repeat (first | (apply ite_yes; (focus first | assumption | omega)) | (apply ite_no; (focus first | assumption | exact b_nt (by assumption) | exact b_nf (by assumption) | omega)) | (apply ite_yes; (focus (first | (simp [*]; done) | (simp [*, bs]; done)))) | (apply ite_no; (focus (first | (simp [*]; done) | (simp [*, bs]; done))))))
        rfl
      rw [e]
      clear e
      have hr := lineTo_range x.s to (by omega)
      refine ⟨fun k st => ∃ j, st = ⟨191, [(1, .pv (iv i)), (2, .ptr 2 0), (4, .ptr 4 0), (6, .pv (iv j))], [(2, (82, x.cells)), (4, (90, gzero))], [], []⟩ ∧ to ≤ j ∧ j ≤ x.s.size ∧ k = (x.s.size - j).toNat ∧ lineTo x.s to = lineL x.s k j,
        ⟨_, _, Wk.narrow _ [1, 2, 4, 6] [2, 4] [], to, rfl, by omega, by omega, rfl, rfl⟩, ?_⟩
      rintro k st ⟨j, rfl, hj0, hj1, hk, hP⟩
      repeat' ((conv => whnf); (first
        | (with_reducible first | refine Spl.yes ?_ | refine Spl.no ?_ | refine Spl.dec (fun h => ?_) (fun h => ?_) | refine Spl.eq (fun h => ?_) (fun h => ?_) | refine Spl.ne (fun h => ?_) (fun h => ?_) | refine Spl.seq (fun h => ?_) (fun h => ?_) | refine Spl.not ?_ | refine Spl.any (fun h => ?_) (fun h => ?_))
        | ((with_reducible apply And.intro); first | omega | rfl | (dsimp only; omega))))
      all_goals (conv => whnf)
      all_goals first
        | (obtain ⟨k, rfl⟩ : ∃ m, k = m + 1 := ⟨k - 1, by omega⟩
           rw [lineL_go (by assumption) (by assumption)] at hP
           exact ⟨k, _, by omega, Wk.narrow _ [1, 2, 4, 6] [2, 4] [], j + 1, rfl, by omega, by omega, by omega, hP⟩)
        | (have e : lineTo x.s to = j := by rw [hP]; exact lineL_end hk (by first | exact .inl (by assumption) | exact .inr (by assumption))
           rw [e]
           (apply enc_by; (focus ((repeat (first | (apply ite_yes; (focus first | assumption | omega)) | (apply ite_no; (focus first | assumption | exact b_nt (by assumption) | exact b_nf (by assumption) | omega)) | (apply ite_yes; (focus (first | (simp [*]; done) | (simp [*, bs]; done)))) | (apply ite_no; (focus (first | (simp [*]; done) | (simp [*, bs]; done)))))); exact rfl)); rfl)))
  rintro _ ⟨rfl, e⟩
  rw [e]
  clear e
  have hn := numP_range x.s (i + 1)
  have hn2 := numP_range x.s ((numP x.s (i + 1)).2.1 + 1)
  have l44 : isP x.s (numP x.s (i + 1)).2.1 (bs [44]) = true → (numP x.s (i + 1)).2.1 + 1 ≤ x.s.size := fun h => by have := isP_le h; have hz : (bs [44]).size = 1 := rfl; omega
  refine RWP.of tabOk orders ?_
  repeat' ((conv => whnf); (first
    | (with_reducible first | refine Spl.yes ?_ | refine Spl.no ?_ | refine Spl.dec (fun h => ?_) (fun h => ?_) | refine Spl.eq (fun h => ?_) (fun h => ?_) | refine Spl.ne (fun h => ?_) (fun h => ?_) | refine Spl.seq (fun h => ?_) (fun h => ?_) | refine Spl.not ?_ | refine Spl.any (fun h => ?_) (fun h => ?_))
    | (refine VCalls.mono (escape_c x i (by omega) (by omega) (by omega)) ?_; rintro _ rfl)
    | (refine VCalls.mono (class_c x i (by omega) (by omega) (by omega)) ?_; rintro _ rfl)
    | (refine VCalls.mono (open_c x i (by omega) (by omega) (by omega)) ?_; rintro _ rfl)
    | (refine VCalls.mono (tok_c { tokZ with kind := 3 } i to) ?_; rintro _ rfl)
    | (refine VCalls.mono (tok_c { tokZ with kind := 4, n := 1 } i to) ?_; rintro _ rfl)
    | (refine VCalls.mono (tok_c { tokZ with kind := 4, n := 2 } i to) ?_; rintro _ rfl)
    | (refine VCalls.mono (tok_c { tokZ with kind := 7 } i to) ?_; rintro _ rfl)
    | (refine VCalls.mono (tok_c { tokZ with kind := 8 } i to) ?_; rintro _ rfl)
    | (refine VCalls.mono (tok_c { tokZ with kind := 1, c := c } i to) ?_; rintro _ rfl)
    | (refine VCalls.mono (number_c x (i + 1) (by omega) (by omega) (by omega)) ?_; rintro _ rfl)
    | (refine VCalls.mono (number_c x ((numP x.s (i + 1)).2.1 + 1) (by first | omega | (have q := l44 (by assumption); omega)) (by first | omega | (have q := l44 (by assumption); omega)) (by omega)) ?_; rintro _ rfl)
    | (refine VCalls.mono (is_c x _ (bs [44]) (by omega) (by omega) (by omega) (by decide)) ?_; rintro _ rfl)
    | (refine VCalls.mono (is_c x _ (bs [125]) (by first | omega | (have q := l44 (by assumption); omega)) (by first | omega | (have q := l44 (by assumption); omega)) (by omega) (by decide)) ?_; rintro _ rfl)
    | (refine VCalls.mono (quant_c x i _ _ _ (by omega) (by first | omega | (have q := l44 (by assumption); omega)) (by first | omega | (have q := l44 (by assumption); omega))) ?_; rintro _ rfl)
    | (refine VCalls.mono (bad_c _ _) ?_; rintro _ rfl)
    | refine And.intro (by have q := l44 (by assumption); omega) ?_
    | ((with_reducible apply And.intro); first | omega | rfl | (dsimp only; omega))))
  all_goals (conv => whnf)
  all_goals first
    | (exfalso; omega)
    | (unfold tokC brP brM brK litG; (apply enc_by; (focus ((repeat (first | (apply ite_yes; (focus first | assumption | omega)) | (apply ite_no; (focus first | assumption | exact b_nt (by assumption) | exact b_nf (by assumption) | omega)) | (apply ite_yes; (focus (first | (simp [*]; done) | (simp [*, bs]; done)))) | (apply ite_no; (focus (first | (simp [*]; done) | (simp [*, bs]; done)))))); exact rfl)); rfl))
end Go.Proofs.Ytnoohgiecnmajaa.VC

