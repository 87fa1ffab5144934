/- A part of the ground of the proof. No condition. -/
import Derived.Test.YtnoohgiecnmajaaGE14

/- The lexer of the document: bytes, numbers, names. -/
namespace Go.Proofs.Ytnoohgiecnmajaa.VC
open Go Go.RowKit
set_option linter.unusedVariables false
set_option linter.unusedSimpArgs false

@[reducible] def iv (n : Int) : SV := .val (.int .i64 n)
@[reducible] def yv (n : Int) : SV := .val (.int .u8 n)
@[reducible] def bv (b : Bool) : SV := .val (.bool b)
@[reducible] def sv (s : ByteArray) : SV := .val (.string s)
structure Text where
  s : ByteArray
  utf : Bool
  x : Bool
  most : Int
def Text.enc (t : Text) : SV := .agg [sv t.s, bv t.utf, bv t.x, iv t.most]
def Text.cells (t : Text) : List FE := [.pv (sv t.s), .pv (bv t.utf), .pv (bv t.x), .pv (iv t.most)]

def isP (s : ByteArray) (i : Int) (t : ByteArray) : Bool := if i + t.size ≤ s.size then (s.extract i.toNat (i + t.size).toNat).toList == t.toList else false
theorem is_c (x : Text) (i : Int) (t : ByteArray) (h0 : 0 ≤ i) (h1 : i ≤ 1000000) (hx : x.s.size ≤ 1000000) (ht : t.size ≤ 1000) : VCalls Try.prog 51 [x.enc, iv i, sv t] (fun r => r = bv (isP x.s i t)) := by
  refine VCalls.ofx tabOk orders Try.func51 (by decide) rfl rfl ?_
  repeat' ((conv => whnf); (first | (with_reducible first | refine Spl.yes ?_ | refine Spl.no ?_ | refine Spl.dec (fun h => ?_) (fun h => ?_)) | ((with_reducible apply And.intro); omega)))
  all_goals (conv => whnf)
  · unfold isP; rw [if_pos h]; rfl
  · unfold isP; rw [if_neg h]; rfl
def digitP (c : Int) : Bool := decide (48 ≤ c) && decide (c ≤ 57)
theorem digit_c (c : Int) : VCalls Try.prog 110 [yv c] (fun r => r = bv (digitP c)) := by
  refine VCalls.ofx tabOk orders Try.func110 (by decide) rfl rfl ?_
  repeat' ((conv => whnf); (with_reducible first | refine Spl.yes ?_ | refine Spl.no ?_ | refine Spl.dec (fun h => ?_) (fun h => ?_)))
  all_goals (conv => whnf)
  · unfold digitP; rw [decide_eq_true (show 48 ≤ c from h), Bool.true_and]; rfl
  · unfold digitP; rw [decide_eq_false (show ¬ 48 ≤ c from h), Bool.false_and]; rfl
/-- The number at an offset: of at most so many bytes. -/
def numL (s : ByteArray) : Nat → Int → Bool → Int → Int × Int × Bool
  | 0, n, g, i => (n, i, g)
  | k + 1, n, g, i => if i < s.size ∧ digitP (byteAt s i) = true then
      (if n * 10 + byteAt s i - 48 > 255 then numL s k 1000 true (i + 1) else numL s k (n * 10 + byteAt s i - 48) g (i + 1)) else (n, i, g)
def numP (s : ByteArray) (i : Int) : Int × Int × Bool := numL s (s.size - i).toNat 0 false i
theorem byteAt_range (s : ByteArray) (i : Int) : 0 ≤ byteAt s i ∧ byteAt s i ≤ 255 := by
  unfold byteAt
  have := (s.data.toList.getD i.toNat 0).toNat_lt
  omega
theorem digitP_ge {c : Int} (h : digitP c = true) : 48 ≤ c ∧ c ≤ 57 := by
  unfold digitP at h
  simpa using h
theorem number_c (x : Text) (i : Int) (h0 : 0 ≤ i) (h1 : i ≤ 1000000) (hx : x.s.size ≤ 1000000) :
    VCalls Try.prog 80 [x.enc, iv i] (fun r => r = .tuple [iv (numP x.s i).1, iv (numP x.s i).2.1, bv (numP x.s i).2.2]) := by
  refine VCalls.ofx tabOk orders Try.func80 (by decide) rfl rfl ?_
  conv => whnf
  refine ⟨fun k st => ∃ n g j, st = ⟨37, [(1, .pv (iv j)), (2, .ptr 2 0), (7, .pv (iv n)), (8, .pv (bv g))], [(2, (82, x.cells))], [], []⟩ ∧ 0 ≤ j ∧ j ≤ 1000000 ∧ 0 ≤ n ∧ n ≤ 1000 ∧ k = (x.s.size - j).toNat ∧ numP x.s i = numL x.s k n g j,
    ⟨_, _, Wk.narrow _ [1, 2, 7, 8] [2] [], 0, false, i, rfl, h0, h1, by omega, by omega, rfl, rfl⟩, ?_⟩
  rintro k st ⟨n, g, j, rfl, hj0, hj1, hn0, hn1, hk, hP⟩
  have hb := byteAt_range x.s j
  repeat' ((conv => whnf); (first
    | (with_reducible first | refine Spl.yes ?_ | refine Spl.no ?_ | refine Spl.dec (fun h => ?_) (fun h => ?_) | refine Spl.any (fun h => ?_) (fun h => ?_))
    | (refine VCalls.mono (digit_c _) ?_; rintro _ rfl)
    | ((with_reducible apply And.intro); omega)))
  all_goals (conv => whnf)
  · obtain ⟨k, rfl⟩ : ∃ m, k = m + 1 := ⟨k - 1, by omega⟩
    refine ⟨k, _, by omega, Wk.narrow _ [1, 2, 7, 8] [2] [], 1000, true, j + 1, rfl, by omega, by omega, by omega, by omega, by omega, ?_⟩
    rw [hP, numL, if_pos ⟨by assumption, by assumption⟩, if_pos h]
  · obtain ⟨k, rfl⟩ : ∃ m, k = m + 1 := ⟨k - 1, by omega⟩
    have hd := digitP_ge (by assumption)
    refine ⟨k, _, by omega, Wk.narrow _ [1, 2, 7, 8] [2] [], _, g, j + 1, rfl, by omega, by omega, by omega, by omega, by omega, ?_⟩
    rw [hP, numL, if_pos ⟨by assumption, by assumption⟩, if_neg h]
  · obtain ⟨k, rfl⟩ : ∃ m, k = m + 1 := ⟨k - 1, by omega⟩
    rw [hP, numL, if_neg (by simp [h])]
    rfl
  · have : k = 0 := by omega
    subst this
    rw [hP]
    rfl
end Go.Proofs.Ytnoohgiecnmajaa.VC

/- The lexer of the document: characters. -/
namespace Go.Proofs.Ytnoohgiecnmajaa.VC
open Go Go.RowKit
set_option linter.unusedVariables false
set_option linter.unusedSimpArgs false

@[reducible] def ys (l : List Int) : SV := .sl 1 (byteRows l)
def Bytes (l : List Int) : Prop := ∀ x ∈ l, 0 ≤ x ∧ x ≤ 255
def seqP (c : Int) : List Int :=
  if c < 0 ∨ c > 1114111 ∨ (55296 ≤ c ∧ c ≤ 57343) then []
  else if c < 128 then [c]
  else if c < 2048 then [192 + c / 64, 128 + c % 64]
  else if c < 65536 then [224 + c / 4096, 128 + c / 64 % 64, 128 + c % 64]
  else [240 + c / 262144, 128 + c / 4096 % 64, 128 + c / 64 % 64, 128 + c % 64]
theorem u8w {n : Int} (h0 : 0 ≤ n) (h1 : n ≤ 255) : IntKind.u8.wrap n = n := IntWalk.u8_in n ⟨h0, h1⟩
theorem sequence_c (c : Int) : VCalls Try.prog 118 [iv c] (fun r => r = ys (seqP c)) := by
  refine VCalls.ofx tabOk orders Try.func118 (by decide) rfl rfl ?_
  repeat' ((conv => whnf); (first
    | (with_reducible first | refine Spl.yes ?_ | refine Spl.no ?_ | refine Spl.dec (fun h => ?_) (fun h => ?_))
    | ((with_reducible apply And.intro); omega)))
  all_goals (conv => whnf)
  all_goals unfold seqP
  all_goals first
    | (exfalso; omega)
    | ((repeat (first | rw [if_pos (by omega)] | rw [if_neg (by omega)])); rfl)
def codeOf : List Int → Int
  | [a] => a
  | [a, b] => (a - 192) * 64 + b - 128
  | [a, b, c] => (a - 224) * 4096 + (b - 128) * 64 + c - 128
  | [a, b, c, d] => (a - 240) * 262144 + (b - 128) * 4096 + (c - 128) * 64 + d - 128
  | _ => -1
def ofP (l : List Int) : Int := if seqP (codeOf l) = l ∧ l ≠ [] then codeOf l else -1
theorem Bytes.mem {l : List Int} (h : Bytes l) {x : Int} (hx : x ∈ l) : 0 ≤ x ∧ x ≤ 255 := h x hx
theorem seqP_bytes (c : Int) : Bytes (seqP c) := by
  intro x hx
  unfold seqP at hx
  split at hx
  · simp at hx
  split at hx
  · simp at hx; omega
  split at hx
  · simp at hx; omega
  split at hx
  · simp at hx; omega
  · simp at hx; omega
theorem strOf_inj : ∀ {s t : List Int}, Bytes s → Bytes t → strOfNums s = strOfNums t → s = t := by
  have key : ∀ (s t : List Int), Bytes s → Bytes t → (s.map fun n => UInt8.ofNat n.toNat) = (t.map fun n => UInt8.ofNat n.toNat) → s = t := by
    intro s
    induction s with
    | nil => intro t _ _ h; cases t with
      | nil => rfl
      | cons y t => simp at h
    | cons x s ih => intro t hs ht h; cases t with
      | nil => simp at h
      | cons y t =>
        simp only [List.map_cons, List.cons.injEq] at h
        have hx := hs x (List.mem_cons_self ..)
        have hy := ht y (List.mem_cons_self ..)
        have e1 : x.toNat % 256 = y.toNat % 256 := by simpa using congrArg UInt8.toNat h.1
        have e2 : x = y := by omega
        rw [e2, ih t (fun z hz => hs z (List.mem_cons_of_mem _ hz)) (fun z hz => ht z (List.mem_cons_of_mem _ hz)) h.2]
  intro s t hs ht h
  refine key s t hs ht ?_
  have := congrArg (fun b : ByteArray => b.data.toList) h
  simpa [strOfNums] using this
theorem of_c (l : List Int) (hb : Bytes l) : VCalls Try.prog 95 [ys l] (fun r => r = iv (ofP l)) := by
  have fin : ∀ c, c = codeOf l → (Spl (!((strOfNums (seqP c)).toList == (strOfNums l).toList)) (-1 = ofP l) (l ≠ [] → c = ofP l) ∧ (l = [] → -1 = ofP l)) := by
    rintro c rfl
    refine ⟨Spl.not (Spl.seq (fun e => ?_) (fun e => ?_)), ?_⟩
    · have := strOf_inj (seqP_bytes _) hb e
      intro hl
      unfold ofP; rw [if_pos ⟨this, hl⟩]
    · unfold ofP; rw [if_neg (fun hh => e (by rw [hh.1]))]
    · rintro rfl; rfl
  rcases l with _ | ⟨a, _ | ⟨b, _ | ⟨c, _ | ⟨d, _ | ⟨e, l⟩⟩⟩⟩⟩
  all_goals
    have hb' := hb
    simp only [Bytes, List.mem_cons, List.not_mem_nil, or_false, forall_eq_or_imp, forall_eq] at hb'
    refine VCalls.ofx tabOk orders Try.func95 (by decide) rfl rfl ?_
    repeat' ((conv => whnf); (first
      | (with_reducible first | refine Spl.yes ?_ | refine Spl.no ?_ | refine Spl.dec (fun h => ?_) (fun h => ?_))
      | ((refine Spl.eq (fun h => ?_) (fun h => ?_)) <;> (try (simp only [byteRows, List.map_cons, List.map_nil, List.length_cons, List.length_nil] at h; omega)))
      | refine drawn_text (by decide +kernel) ?_
      | refine drawn_ord [0, 3, 4, 1, 2, 5, 6, 7, 8, 9, 10] (by decide +kernel) ?_
      | (refine VCalls.mono (sequence_c _) ?_; rintro _ rfl)
      | refine ⟨_, rfl, ?_⟩
      | refine (fin _ rfl).1.mono (fun h => ?_) (fun h => ?_)
      | ((with_reducible apply And.intro); first | omega | rfl)))
    all_goals first
      | exact rfl
      | exact congrArg iv h
      | (rename_i h1; exact congrArg iv (h1 (by simp)))
/-- The code point of the sequence at an offset, of so many lengths from n on, and its length. -/
def atL (l : List Int) (a : Int) : Nat → Int → Int × Int
  | 0, _ => (-1, 0)
  | k + 1, n => if a + n ≤ l.length then (if 0 ≤ ofP ((l.take (a + n).toNat).drop a.toNat) then (ofP ((l.take (a + n).toNat).drop a.toNat), n) else atL l a k (n + 1)) else (-1, 0)
def atP (l : List Int) (a : Int) : Int × Int := atL l a 4 1
theorem byteRows_slice (l : List Int) (a b : Nat) : ((byteRows l).take b).drop a = byteRows ((l.take b).drop a) := by
  simp [byteRows, List.map_take, List.map_drop]
theorem byteRows_len (l : List Int) : (byteRows l).length = l.length := by simp [byteRows]
theorem Bytes.sub {l : List Int} (h : Bytes l) (a b : Nat) : Bytes ((l.take b).drop a) := fun x hx => h x (List.mem_of_mem_take (List.mem_of_mem_drop hx))
theorem at_c (l : List Int) (a : Int) (hb : Bytes l) (h0 : 0 ≤ a) (h1 : a ≤ 1000000) (hl : l.length ≤ 1000000) : VCalls Try.prog 73 [ys l, iv a] (fun r => r = .tuple [iv (atP l a).1, iv (atP l a).2]) := by
  refine VCalls.ofx tabOk orders Try.func73 (by decide) rfl rfl ?_
  conv => whnf
  refine ⟨fun k st => ∃ n : Int, st = ⟨31, [(0, .pv (ys l)), (1, .pv (iv a)), (6, .pv (iv n))], [], [], []⟩ ∧ 1 ≤ n ∧ n ≤ 5 ∧ k = (5 - n).toNat ∧ atP l a = atL l a k n,
    ⟨_, _, Wk.narrow _ [0, 1, 6] [] [], 1, rfl, by omega, by omega, rfl, rfl⟩, ?_⟩
  rintro k st ⟨n, rfl, hn1, hn5, hk, hP⟩
  have hlen := byteRows_len l
  repeat' ((conv => whnf); (first
    | (with_reducible first | refine Spl.yes ?_ | refine Spl.no ?_ | refine Spl.dec (fun h => ?_) (fun h => ?_))
    | (rw [byteRows_slice]; refine VCalls.mono (of_c _ (hb.sub _ _)) ?_; rintro _ rfl)
    | ((with_reducible apply And.intro); first | omega | rfl)))
  all_goals (conv => whnf)
  · obtain ⟨k, rfl⟩ : ∃ m, k = m + 1 := ⟨k - 1, by omega⟩
    rw [hP, atL, if_pos (by omega), if_pos h]; rfl
  · obtain ⟨k, rfl⟩ : ∃ m, k = m + 1 := ⟨k - 1, by omega⟩
    refine ⟨k, _, by omega, Wk.narrow _ [0, 1, 6] [] [], n + 1, rfl, by omega, by omega, by omega, ?_⟩
    rw [hP, atL, if_pos (by omega), if_neg (by omega)]
  · obtain ⟨k, rfl⟩ : ∃ m, k = m + 1 := ⟨k - 1, by omega⟩
    rw [hP, atL, if_neg (by omega)]; rfl
  · have : k = 0 := by omega
    subst this
    rw [hP]; rfl
theorem atL_range (l : List Int) (a : Int) : ∀ (k : Nat) (n : Int), 1 ≤ n → (atL l a k n).1 ≥ -1 ∧ (atL l a k n).1 ≤ 1114111 ∧ ((atL l a k n).2 = 0 ∨ n ≤ (atL l a k n).2 ∧ (atL l a k n).2 < n + k ∧ a + (atL l a k n).2 ≤ l.length)
  | 0, n, h => by simp [atL]
  | k + 1, n, h => by
    have hr : ofP ((l.take (a + n).toNat).drop a.toNat) ≤ 1114111 := by
      unfold ofP
      split
      · rename_i hh
        rcases Int.lt_or_le 1114111 (codeOf ((l.take (a + n).toNat).drop a.toNat)) with q | q
        · have : seqP (codeOf ((l.take (a + n).toNat).drop a.toNat)) = [] := by unfold seqP; rw [if_pos (by omega)]
          rw [this] at hh; exact absurd hh.1.symm hh.2
        · exact q
      · omega
    unfold atL
    split
    · split
      · rename_i h1 h2; exact ⟨by omega, hr, .inr ⟨by omega, by omega, h1⟩⟩
      · obtain ⟨h1, h2, h3⟩ := atL_range l a k (n + 1) (by omega)
        exact ⟨h1, h2, h3.imp id (fun q => ⟨by omega, by omega, q.2.2⟩)⟩
    · simp
theorem atP_range (l : List Int) (a : Int) : -1 ≤ (atP l a).1 ∧ (atP l a).1 ≤ 1114111 ∧ ((atP l a).2 = 0 ∨ 1 ≤ (atP l a).2 ∧ (atP l a).2 ≤ 4 ∧ a + (atP l a).2 ≤ l.length) := by
  obtain ⟨h1, h2, h3⟩ := atL_range l a 4 1 (by omega)
  exact ⟨h1, h2, h3.imp id (fun q => ⟨q.1, by have := q.2.1; unfold atP; omega, q.2.2⟩)⟩
/-- Where the first sequence begins that is none; and whether there is none such. -/
def validL (l : List Int) : Nat → Int → Int × Bool
  | 0, a => (a, true)
  | k + 1, a => if a < l.length then (if (atP l a).2 = 0 then (a, false) else validL l k (a + (atP l a).2)) else (a, true)
def validP (l : List Int) : Int × Bool := validL l l.length 0
theorem valid_c (l : List Int) (hb : Bytes l) (hl : l.length ≤ 1000000) : VCalls Try.prog 50 [ys l] (fun r => r = .tuple [iv (validP l).1, bv (validP l).2]) := by
  refine VCalls.ofx tabOk orders Try.func50 (by decide) rfl rfl ?_
  conv => whnf
  refine ⟨fun k st => ∃ a : Int, st = ⟨24, [(0, .pv (ys l)), (4, .pv (iv a))], [], [], []⟩ ∧ 0 ≤ a ∧ a ≤ l.length ∧ l.length - a ≤ k ∧ validP l = validL l k a,
    ⟨_, _, Wk.narrow _ [0, 4] [] [], 0, rfl, by omega, by omega, by omega, rfl⟩, ?_⟩
  rintro k st ⟨a, rfl, ha0, ha1, hk, hP⟩
  have hlen := byteRows_len l
  have hr := atP_range l a
  repeat' ((conv => whnf); (first
    | (with_reducible first | refine Spl.yes ?_ | refine Spl.no ?_ | refine Spl.dec (fun h => ?_) (fun h => ?_) | refine Spl.eq (fun h => ?_) (fun h => ?_))
    | (refine VCalls.mono (at_c l a hb (by omega) (by omega) hl) ?_; rintro _ rfl)
    | ((with_reducible apply And.intro); first | omega | rfl)))
  all_goals (conv => whnf)
  · obtain ⟨k, rfl⟩ : ∃ m, k = m + 1 := ⟨k - 1, by omega⟩
    rw [hP, validL, if_pos (by omega), if_pos h]; rfl
  · obtain ⟨k, rfl⟩ : ∃ m, k = m + 1 := ⟨k - 1, by omega⟩
    refine ⟨k, _, by omega, Wk.narrow _ [0, 4] [] [], a + (atP l a).2, rfl, by omega, by omega, by omega, ?_⟩
    rw [hP, validL, if_pos (by omega), if_neg h]
  · have : validL l k a = (a, true) := by cases k <;> simp only [validL]; rw [if_neg (by omega)]
    rw [hP, this]; rfl
def rdI (l : List Int) (a : Int) : Int := l.getD a.toNat 0
theorem byteRows_get {l : List Int} {a : Int} (h : a.toNat < l.length) : (byteRows l).getD a.toNat [] = [yv (rdI l a)] := by
  simp [byteRows, rdI, List.getD_eq_getElem?_getD, List.getElem?_eq_getElem h]
theorem rdI_range {l : List Int} (hb : Bytes l) (a : Int) : 0 ≤ rdI l a ∧ rdI l a ≤ 255 := by
  unfold rdI
  by_cases h : a.toNat < l.length
  · rw [List.getD_eq_getElem?_getD, List.getElem?_eq_getElem h]
    exact hb _ (List.getElem_mem h)
  · rw [List.getD_eq_getElem?_getD, List.getElem?_eq_none (by omega)]; simp
def nextP (l : List Int) (a : Int) (utf : Bool) : Int × Int :=
  if a < 0 ∨ a ≥ l.length then (-1, a) else if utf = true ∧ (atP l a).2 > 0 then ((atP l a).1, a + (atP l a).2) else (rdI l a, a + 1)
theorem next_c (l : List Int) (a : Int) (utf : Bool) (hb : Bytes l) (hl : l.length ≤ 1000000) : VCalls Try.prog 74 [ys l, iv a, bv utf] (fun r => r = .tuple [iv (nextP l a utf).1, iv (nextP l a utf).2]) := by
  refine VCalls.ofx tabOk orders Try.func74 (by decide) rfl rfl ?_
  have hlen := byteRows_len l
  have hr := atP_range l a
  have hd := rdI_range hb a
  repeat' ((conv => whnf); (first
    | (with_reducible first | refine Spl.yes ?_ | refine Spl.no ?_ | refine Spl.dec (fun h => ?_) (fun h => ?_) | refine Spl.any (fun hu => ?_) (fun hu => ?_))
    | (refine VCalls.mono (at_c l a hb (by omega) (by omega) hl) ?_; rintro _ rfl)
    | (rw [byteRows_get (by omega)])
    | ((with_reducible apply And.intro); first | omega | rfl)))
  all_goals (conv => whnf)
  all_goals unfold nextP
  · rw [if_pos (by omega)]; rfl
  · rw [if_pos (by omega)]; rfl
  · rw [if_neg (by omega), if_pos ⟨hu, h⟩]; rfl
  · rw [if_neg (by omega), if_neg (fun q => by omega)]; rfl
  · rw [if_neg (by omega), if_neg (fun q => by rw [hu] at q; cases q.1)]; rfl
theorem numsOf_bytes (s : ByteArray) : Bytes (numsOf s) := by
  intro x hx
  simp only [numsOf, List.mem_map] at hx
  obtain ⟨b, _, rfl⟩ := hx
  have := b.toNat_lt
  omega
theorem numsOf_len (s : ByteArray) : (numsOf s).length = s.size := by simp [numsOf]
def charP (x : Text) (i : Int) : Int × Int := nextP (numsOf x.s) i x.utf
theorem char_c (x : Text) (i : Int) (hx : x.s.size ≤ 1000000) : VCalls Try.prog 52 [x.enc, iv i] (fun r => r = .tuple [iv (charP x i).1, iv (charP x i).2]) := by
  refine VCalls.ofx tabOk orders Try.func52 (by decide) rfl rfl ?_
  repeat' ((conv => whnf); (first
    | (refine VCalls.mono (next_c _ i x.utf (numsOf_bytes x.s) (by rw [numsOf_len]; exact hx)) ?_; rintro _ rfl)))
  all_goals (conv => whnf)
  rfl
end Go.Proofs.Ytnoohgiecnmajaa.VC

/- From a contract on bytes and options to the form that a row asks. -/
namespace Go.Proofs.Ytnoohgiecnmajaa.VC
open Go Go.RowKit
set_option linter.unusedVariables false
set_option linter.unusedSimpArgs false
set_option maxHeartbeats 4000000

theorem rows_of_cells {w : World} {b : Nat} : ∀ (l : List Int) (off : Nat), (∀ i, i < l.length → w.cell? ⟨b, off + i, none⟩ = some (.int .u8 (l.getD i 0))) → Rows (fun _ _ => False) w b 1 off (byteRows l)
  | [], off, h => by simp [byteRows, Rows]
  | c :: l, off, h => by
    have h0 := h 0 (by simp)
    simp only [byteRows, List.map_cons, Rows, Cells, and_true]
    refine ⟨rfl, ⟨_, by simpa using h0, fun h => h, rfl, rfl⟩, ?_⟩
    refine rows_of_cells l (off + 1) (fun i hi => ?_)
    have := h (i + 1) (by simp; omega)
    rw [show off + 1 + i = off + (i + 1) by omega, this]
    simp
theorem calls_row {f : FuncId} (h : ∀ l o, Bytes l → VCalls Try.prog f [ys l, iv o] (fun r => r = bv true)) (a : Option Addr) (len cap : Nat) (z : List Int) (o : Int) (W : World)
    (hz : (a = none ∧ len = 0 ∧ cap = 0 ∧ z = []) ∨ ∃ x, a = some x ∧ len ≤ cap ∧ cap ≤ maxLen ∧ z.length = cap ∧ (∀ i, i < z.length → W.cell? (x.add i) = some (.int .u8 (z.getD i 0))) ∧ ∀ n ∈ z, (Lit.int .u8 n).wf = true) :
    Calls Try.prog f #[.slice a len cap, .int .i64 o] W (fun e W' => e = .returned (.bool true) ∧ Below W.heap.size W W') := by
  have hb : Bytes (z.take len) := by
    intro n hn
    have hn := List.mem_of_mem_take hn
    rcases hz with ⟨_, _, _, rfl⟩ | ⟨x, _, _, _, _, _, hw⟩
    · simp at hn
    · have := hw n hn
      simp only [Lit.wf, Bool.and_eq_true, decide_eq_true_eq] at this
      exact ⟨this.1, this.2⟩
  have hlen : (byteRows (z.take len)).length = len := by
    rcases hz with ⟨_, rfl, _, rfl⟩ | ⟨x, _, h1, _, h2, _⟩
    · simp [byteRows]
    · simp [byteRows]; omega
  have hvr : VR (fun _ _ => False) W (ys (z.take len)) (.slice a len cap) := by
    simp only [VR]
    refine ⟨a, cap, by rw [hlen], ?_, ?_⟩
    · rw [hlen]
      rcases hz with ⟨_, rfl, rfl, _⟩ | ⟨x, _, h1, _⟩
      · exact Nat.le_refl _
      · exact h1
    · rcases hz with ⟨rfl, rfl, rfl, rfl⟩ | ⟨x, rfl, h1, h2, h3, h4, h5⟩
      · exact .inl (by simp [byteRows])
      · by_cases e : len = 0
        · exact .inl (by subst e; simp [byteRows])
        · obtain ⟨b, off, spot⟩ := x
          have h40 := h4 0 (by omega)
          have hs : spot = none := by
            cases spot with
            | none => rfl
            | some s =>
              exfalso
              have hn : W.cell? ⟨b, off, some s⟩ = none := by
                unfold World.cell?
                split
                · simp
                · rfl
              have ha : (⟨b, off, some s⟩ : Addr).add 0 = ⟨b, off, some s⟩ := by unfold Addr.add; rw [if_pos rfl]
              rw [ha, hn] at h40
              cases h40
          subst hs
          refine .inr ⟨b, off, rfl, rows_of_cells _ _ (fun i hi => ?_)⟩
          rw [List.length_take] at hi
          have := h4 i (by omega)
          have hadd : (⟨b, off, none⟩ : Addr).add i = ⟨b, off + i, none⟩ := by
            unfold Addr.add
            split
            · rename_i e0; subst e0; rfl
            · rfl
          rw [hadd] at this
          rw [this]
          simp [List.getD_eq_getElem?_getD, List.getElem?_take, show i < len by omega]
  refine ((h (z.take len) o hb).calls (fun _ _ => False) W [.slice a len cap, .int .i64 o] (fun _ _ hf => hf.elim) ?_).mono fun e W' ⟨v, r, k1, k2, k3, k4⟩ => ?_
  · simp only [VRs]
    exact ⟨_, _, rfl, hvr, _, _, rfl, rfl, rfl⟩
  · subst k4
    have k3 : v = .bool true := k3
    subst k3
    exact ⟨k1, k2⟩
end Go.Proofs.Ytnoohgiecnmajaa.VC

/- The lexer of the document: what is found at an offset; small functions. -/
namespace Go.Proofs.Ytnoohgiecnmajaa.VC
open Go Go.RowKit
set_option linter.unusedVariables false
set_option linter.unusedSimpArgs false

structure Tok where
  kind : Int
  at_ : Int
  to : Int
  c : Int
  set : List (Int × Int)
  neg : Bool
  n : Int
  m : Int
  mode : Int
  name : ByteArray
  on : Int
  off : Int
  deriving DecidableEq
structure Got where
  t : Tok
  some : Bool
  to : Int
  e : Int
  at_ : Int
  deriving DecidableEq
@[reducible] def rows2 (l : List (Int × Int)) : List (List SV) := l.map fun p => [iv p.1, iv p.2]
@[reducible] def rs (l : List (Int × Int)) : SV := .sl 2 (rows2 l)
def Tok.cells (t : Tok) : List SV := [iv t.kind, iv t.at_, iv t.to, iv t.c, rs t.set, bv t.neg, iv t.n, iv t.m, iv t.mode, sv t.name, iv t.on, iv t.off]
def Tok.enc (t : Tok) : SV := .agg t.cells
def Got.enc (g : Got) : SV := .agg [iv g.t.kind, iv g.t.at_, iv g.t.to, iv g.t.c, rs g.t.set, bv g.t.neg, iv g.t.n, iv g.t.m, iv g.t.mode, sv g.t.name, iv g.t.on, iv g.t.off, bv g.some, iv g.to, iv g.e, iv g.at_]
def bs (l : List UInt8) : ByteArray := ⟨l.toArray⟩
def tokZ : Tok := ⟨0, 0, 0, 0, [], false, 0, 0, 0, bs [], 0, 0⟩
def badG (e a : Int) : Got := ⟨tokZ, false, 0, e, a⟩
def endG (x : Text) : Got := badG 20 x.s.size
def tokG (t : Tok) (a b : Int) : Got := ⟨{ t with at_ := a, to := b }, true, b, 0, 0⟩
def skipG (b : Int) : Got := ⟨tokZ, false, b, 0, 0⟩
theorem bad_c (e a : Int) : VCalls Try.prog 81 [iv e, iv a] (fun r => r = (badG e a).enc) := by
  refine VCalls.ofx tabOk orders Try.func81 (by decide) rfl rfl ?_
  conv => whnf
  rfl
theorem end_c (x : Text) : VCalls Try.prog 96 [x.enc] (fun r => r = (endG x).enc) := by
  refine VCalls.ofx tabOk orders Try.func96 (by decide) rfl rfl ?_
  repeat' ((conv => whnf); (refine VCalls.mono (bad_c _ _) ?_; rintro _ rfl))
  conv => whnf
  rfl
theorem tok_c (t : Tok) (a b : Int) : VCalls Try.prog 78 [t.enc, iv a, iv b] (fun r => r = (tokG t a b).enc) := by
  refine VCalls.ofx tabOk orders Try.func78 (by decide) rfl rfl ?_
  conv => whnf
  rfl
def simpleP (c : Int) : Int := if c = 97 then 7 else if c = 101 then 27 else if c = 102 then 12 else if c = 110 then 10 else if c = 114 then 13 else if c = 116 then 9 else -1
theorem simple_c (c : Int) : VCalls Try.prog 97 [iv c] (fun r => r = iv (simpleP c)) := by
  refine VCalls.ofx tabOk orders Try.func97 (by decide) rfl rfl ?_
  repeat' ((conv => whnf); (with_reducible refine Spl.eq (fun h => ?_) (fun h => ?_)))
  all_goals (conv => whnf)
  all_goals (unfold simpleP; (repeat (first | rw [if_pos (by assumption)] | rw [if_neg (by assumption)])); rfl)
def assertP (c : Int) : Int := if c = 98 then 3 else if c = 66 then 4 else if c = 65 then 5 else if c = 122 then 6 else if c = 90 then 7 else if c = 71 then 8 else 0
theorem assert_c (c : Int) : VCalls Try.prog 99 [iv c] (fun r => r = iv (assertP c)) := by
  refine VCalls.ofx tabOk orders Try.func99 (by decide) rfl rfl ?_
  repeat' ((conv => whnf); (with_reducible refine Spl.eq (fun h => ?_) (fun h => ?_)))
  all_goals (conv => whnf)
  all_goals (unfold assertP; (repeat (first | rw [if_pos (by assumption)] | rw [if_neg (by assumption)])); rfl)
def letterP (c : Int) : Bool := (decide (97 ≤ c) && decide (c ≤ 122)) || (decide (65 ≤ c) && decide (c ≤ 90))
theorem letter_c (c : Int) : VCalls Try.prog 103 [yv c] (fun r => r = bv (letterP c)) := by
  refine VCalls.ofx tabOk orders Try.func103 (by decide) rfl rfl ?_
  repeat' ((conv => whnf); (with_reducible first | refine Spl.yes ?_ | refine Spl.no ?_ | refine Spl.dec (fun h => ?_) (fun h => ?_)))
  all_goals (conv => whnf)
  all_goals (first
    | exact congrArg bv (show true = letterP c by unfold letterP; rw [Bool.eq_iff_iff]; simp; omega)
    | exact congrArg bv (show false = letterP c by unfold letterP; rw [Bool.eq_iff_iff]; simp; omega)
    | exact congrArg bv (show decide (c ≤ 90) = letterP c by unfold letterP; rw [Bool.eq_iff_iff]; simp; omega)
    | trace_state)
def hexP (c : Int) : Int := if digitP c = true then c - 48 else if 97 ≤ c ∧ c ≤ 102 then c - 97 + 10 else if 65 ≤ c ∧ c ≤ 70 then c - 65 + 10 else -1
theorem hex_c (c : Int) (h0 : 0 ≤ c) (h1 : c ≤ 255) : VCalls Try.prog 119 [yv c] (fun r => r = iv (hexP c)) := by
  refine VCalls.ofx tabOk orders Try.func119 (by decide) rfl rfl ?_
  repeat' ((conv => whnf); (first
    | (with_reducible first | refine Spl.yes ?_ | refine Spl.no ?_ | refine Spl.dec (fun h => ?_) (fun h => ?_) | refine Spl.any (fun hd => ?_) (fun hd => ?_))
    | (refine VCalls.mono (digit_c _) ?_; rintro _ rfl)
    | ((with_reducible apply And.intro); first | omega | rfl)))
  all_goals (conv => whnf)
  all_goals unfold hexP
  · rw [if_pos hd]; rfl
  all_goals rw [if_neg (by simp [hd])]
  all_goals (first
    | (rw [if_pos (by omega)]; rfl)
    | (rw [if_neg (by omega), if_pos (by omega)]; rfl)
    | (rw [if_neg (by omega), if_neg (by omega)]; rfl))
def quantP (x : Text) (i to n m : Int) : Got :=
  if isP x.s to (bs [63]) = true then tokG { tokZ with kind := 9, n := n, m := m, mode := 1 } i (to + 1)
  else if isP x.s to (bs [43]) = true then tokG { tokZ with kind := 9, n := n, m := m, mode := 2 } i (to + 1)
  else tokG { tokZ with kind := 9, n := n, m := m } i to
theorem quant_c (x : Text) (i to n m : Int) (hx : x.s.size ≤ 1000000) (h0 : 0 ≤ to) (h1 : to ≤ 1000000) : VCalls Try.prog 79 [x.enc, iv i, iv to, iv n, iv m] (fun r => r = (quantP x i to n m).enc) := by
  refine VCalls.ofx tabOk orders Try.func79 (by decide) rfl rfl ?_
  repeat' ((conv => whnf); (first
    | (with_reducible first | refine Spl.yes ?_ | refine Spl.no ?_ | refine Spl.any (fun h => ?_) (fun h => ?_))
    | (refine VCalls.mono (is_c x to (bs [63]) h0 h1 hx (by decide)) ?_; rintro _ rfl)
    | (refine VCalls.mono (is_c x to (bs [43]) h0 h1 hx (by decide)) ?_; rintro _ rfl)
    | (refine VCalls.mono (tok_c { tokZ with kind := 9, n := n, m := m, mode := 1 } i (to + 1)) ?_; rintro _ rfl)
    | (refine VCalls.mono (tok_c { tokZ with kind := 9, n := n, m := m, mode := 2 } i (to + 1)) ?_; rintro _ rfl)
    | (refine VCalls.mono (tok_c { tokZ with kind := 9, n := n, m := m } i to) ?_; rintro _ rfl)
    | ((with_reducible apply And.intro); first | omega | rfl)))
  all_goals (conv => whnf)
  all_goals unfold quantP
  · rw [if_pos (by assumption)]; rfl
  all_goals rw [if_neg (Bool.eq_false_iff.1 (by assumption))]
  · rw [if_pos (by assumption)]; rfl
  · rw [if_neg (Bool.eq_false_iff.1 (by assumption))]; rfl
end Go.Proofs.Ytnoohgiecnmajaa.VC

/- The lexer of the document: names, signed numbers, hexadecimal ones. -/
namespace Go.Proofs.Ytnoohgiecnmajaa.VC
open Go Go.RowKit
set_option linter.unusedVariables false
set_option linter.unusedSimpArgs false

def nameCh (c : Int) : Bool := letterP c || digitP c || c == 95
def nameEnd (s : ByteArray) : Nat → Int → Int
  | 0, i => i
  | k + 1, i => if i < s.size ∧ nameCh (byteAt s i) = true then nameEnd s k (i + 1) else i
def nameTo (s : ByteArray) (i : Int) : Int := nameEnd s (s.size - i).toNat i
def nameOk (s : ByteArray) : Bool := if (s.size : Int) > 0 then (if (s.size : Int) ≤ 32 then !digitP (byteAt s 0) else false) else false
def nameAt (s : ByteArray) (i : Int) : ByteArray := s.extract i.toNat (nameTo s i).toNat
theorem nameEnd_range (s : ByteArray) : ∀ (k : Nat) (i : Int), i ≤ s.size → i ≤ nameEnd s k i ∧ nameEnd s k i ≤ s.size
  | 0, i, h => by simp [nameEnd]; omega
  | k + 1, i, h => by
    unfold nameEnd
    split
    · rename_i hh
      have := nameEnd_range s k (i + 1) (by omega)
      omega
    · omega
theorem nameTo_range (s : ByteArray) (i : Int) (h : i ≤ s.size) : i ≤ nameTo s i ∧ nameTo s i ≤ s.size := nameEnd_range s _ i h
theorem name_c (x : Text) (i : Int) (hx : x.s.size ≤ 1000000) (h0 : 0 ≤ i) (h1 : i ≤ x.s.size) :
    VCalls Try.prog 101 [x.enc, iv i] (fun r => r = .tuple [sv (nameAt x.s i), iv (nameTo x.s i), bv (nameOk (nameAt x.s i))]) := by
  refine VCalls.ofx tabOk orders Try.func101 (by decide) rfl rfl ?_
  conv => whnf
  refine ⟨fun k st => ∃ j, st = ⟨59, [(1, .pv (iv j)), (2, .ptr 2 0), (7, .pv (iv i))], [(2, (82, x.cells))], [], []⟩ ∧ i ≤ j ∧ j ≤ x.s.size ∧ k = (x.s.size - j).toNat ∧ nameTo x.s i = nameEnd x.s k j,
    ⟨_, _, Wk.narrow _ [1, 2, 7] [2] [], i, rfl, by omega, h1, rfl, rfl⟩, ?_⟩
  rintro k st ⟨j, rfl, hj0, hj1, hk, hP⟩
  have hb := byteAt_range x.s j
  have out : nameCh (byteAt x.s j) = false ∨ ¬ j < x.s.size → nameTo x.s i = j := by
    intro hh
    rw [hP]
    cases k with
    | zero => rfl
    | succ k => rw [nameEnd, if_neg (by rcases hh with q | q; · simp [q]
                                        · omega)]
  repeat' ((conv => whnf); (first
    | (with_reducible first | refine Spl.yes ?_ | refine Spl.no ?_ | refine Spl.dec (fun h => ?_) (fun h => ?_) | refine Spl.eq (fun h => ?_) (fun h => ?_) | refine Spl.any (fun h => ?_) (fun h => ?_))
    | (refine VCalls.mono (digit_c _) ?_; rintro _ rfl)
    | (refine VCalls.mono (letter_c _) ?_; rintro _ rfl)
    | ((with_reducible apply And.intro); first | omega | rfl)))
  all_goals (conv => whnf)
  all_goals first
    | (have hc : nameCh (byteAt x.s j) = true := by
         unfold nameCh
         simp only [Bool.or_eq_true, beq_iff_eq]
         first | exact .inl (.inl (by assumption)) | exact .inl (.inr (by assumption)) | exact .inr (by assumption)
       obtain ⟨k, rfl⟩ : ∃ m, k = m + 1 := ⟨k - 1, by omega⟩
       refine ⟨k, _, by omega, Wk.narrow _ [1, 2, 7] [2] [], j + 1, rfl, by omega, by omega, by omega, ?_⟩
       rw [hP, nameEnd, if_pos ⟨by assumption, hc⟩])
    | (have e : nameTo x.s i = j := out (by
         first
           | exact .inr (by assumption)
           | (left; unfold nameCh; simp only [Bool.or_eq_false_iff, beq_eq_false_iff_ne]; exact ⟨⟨by assumption, by assumption⟩, by assumption⟩))
       unfold nameAt
       rw [e]
       unfold nameOk
       first
         | (rw [if_pos (by assumption), if_pos (by assumption)]; rfl)
         | (rw [if_pos (by assumption), if_neg (by assumption)]; rfl)
         | (rw [if_neg (by assumption)]; rfl))
theorem numL_range (s : ByteArray) : ∀ (k : Nat) (n : Int) (g : Bool) (i : Int), 0 ≤ n → n ≤ 1000 → 0 ≤ (numL s k n g i).1 ∧ (numL s k n g i).1 ≤ 1000 ∧ i ≤ (numL s k n g i).2.1 ∧ (i ≤ s.size → (numL s k n g i).2.1 ≤ s.size) ∧ ((numL s k n g i).2.2 = false → n ≤ 255 → (numL s k n g i).1 ≤ 255)
  | 0, n, g, i, h0, h1 => by simp [numL]; omega
  | k + 1, n, g, i, h0, h1 => by
    unfold numL
    split
    · rename_i hh
      have hd := digitP_ge hh.2
      split
      · have := numL_range s k 1000 true (i + 1) (by omega) (by omega)
        have ht : ∀ (k : Nat) (n i : Int), (numL s k n true i).2.2 = true := by
          intro k
          induction k with
          | zero => intro n i; rfl
          | succ k ih => intro n i; unfold numL; split <;> (try split) <;> first | exact ih _ _ | rfl
        refine ⟨this.1, this.2.1, by omega, fun q => this.2.2.2.1 (by omega), fun q => ?_⟩
        rw [ht] at q; cases q
      · have := numL_range s k (n * 10 + byteAt s i - 48) g (i + 1) (by omega) (by omega)
        exact ⟨this.1, this.2.1, by omega, fun q => this.2.2.2.1 (by omega), fun q _ => this.2.2.2.2 q (by omega)⟩
    · simp; omega
theorem numP_range (s : ByteArray) (i : Int) : 0 ≤ (numP s i).1 ∧ (numP s i).1 ≤ 1000 ∧ i ≤ (numP s i).2.1 ∧ (i ≤ s.size → (numP s i).2.1 ≤ s.size) ∧ ((numP s i).2.2 = false → (numP s i).1 ≤ 255) := by
  have := numL_range s (s.size - i).toNat 0 false i (by omega) (by omega)
  exact ⟨this.1, this.2.1, this.2.2.1, this.2.2.2.1, fun q => this.2.2.2.2 q (by omega)⟩
/-- What 'is' finds lies in the text. -/
theorem isP_le {s : ByteArray} {i : Int} {t : ByteArray} (h : isP s i t = true) : i + t.size ≤ s.size := by
  unfold isP at h
  split at h
  · assumption
  · cases h
def signedP (s : ByteArray) (i : Int) : Int × Int × Int × Bool :=
  let q : Int × Int := if isP s i (bs [45]) = true then (1, i + 1) else if isP s i (bs [43]) = true then (2, i + 1) else (0, i)
  if (numP s q.2).2.1 = q.2 then (0, q.1, i, false) else ((numP s q.2).1, q.1, (numP s q.2).2.1, (numP s q.2).2.2)
theorem signed_c (x : Text) (i : Int) (hx : x.s.size ≤ 1000000) (h0 : 0 ≤ i) (h1 : i ≤ 100000) :
    VCalls Try.prog 111 [x.enc, iv i] (fun r => r = .tuple [iv (signedP x.s i).1, iv (signedP x.s i).2.1, iv (signedP x.s i).2.2.1, bv (signedP x.s i).2.2.2]) := by
  refine VCalls.ofx tabOk orders Try.func111 (by decide) rfl rfl ?_
  repeat' ((conv => whnf); (first
    | (with_reducible first | refine Spl.yes ?_ | refine Spl.no ?_ | refine Spl.eq (fun h => ?_) (fun h => ?_) | refine Spl.any (fun h => ?_) (fun h => ?_))
    | (refine VCalls.mono (is_c x i (bs [45]) h0 (by omega) hx (by decide)) ?_; rintro _ rfl)
    | (refine VCalls.mono (is_c x i (bs [43]) h0 (by omega) hx (by decide)) ?_; rintro _ rfl)
    | (refine VCalls.mono (number_c x i h0 (by omega) hx) ?_; rintro _ rfl)
    | (refine VCalls.mono (number_c x (i + 1) (by omega) (by omega) hx) ?_; rintro _ rfl)
    | ((with_reducible apply And.intro); first | omega | rfl)))
  all_goals (conv => whnf)
  · have e : signedP x.s i = (0, 1, i, false) := by simp [signedP, *]
    rw [e]; rfl
  · have e : signedP x.s i = ((numP x.s (i + 1)).1, 1, (numP x.s (i + 1)).2.1, (numP x.s (i + 1)).2.2) := by simp [signedP, *]
    rw [e]; rfl
  · have e : signedP x.s i = (0, 2, i, false) := by simp [signedP, *]
    rw [e]; rfl
  · have e : signedP x.s i = ((numP x.s (i + 1)).1, 2, (numP x.s (i + 1)).2.1, (numP x.s (i + 1)).2.2) := by simp [signedP, *]
    rw [e]; rfl
  · have e : signedP x.s i = (0, 0, i, false) := by simp [signedP, *]
    rw [e]; rfl
  · have e : signedP x.s i = ((numP x.s i).1, 0, (numP x.s i).2.1, (numP x.s i).2.2) := by simp [signedP, *]
    rw [e]; rfl
end Go.Proofs.Ytnoohgiecnmajaa.VC

/- The lexer of the document: hexadecimal numbers; how groups are shut. -/
namespace Go.Proofs.Ytnoohgiecnmajaa.VC
open Go Go.RowKit
set_option linter.unusedVariables false
set_option linter.unusedSimpArgs false

def hexRun (s : ByteArray) (lim : Int) : Nat → Int → Int → Int × Int
  | 0, n, j => (n, j)
  | f + 1, n, j => if j < s.size ∧ 0 ≤ hexP (byteAt s j) ∧ j < lim then hexRun s lim f (n * 16 + hexP (byteAt s j)) (j + 1) else (n, j)
def hexChk (x : Text) (n i : Int) : Int × Int := if n > x.most then (-1, i) else if x.utf = true ∧ 55296 ≤ n ∧ n ≤ 57343 then (-1, i) else (n, i)
def hexaP (x : Text) (i : Int) : Int × Int :=
  if isP x.s i (bs [123]) = true then
    (if (hexRun x.s (i + 8) 7 0 (i + 1)).2 = i + 1 ∨ (hexRun x.s (i + 8) 7 0 (i + 1)).2 > i + 7 ∨ isP x.s (hexRun x.s (i + 8) 7 0 (i + 1)).2 (bs [125]) = false then (-1, i)
     else hexChk x (hexRun x.s (i + 8) 7 0 (i + 1)).1 ((hexRun x.s (i + 8) 7 0 (i + 1)).2 + 1))
  else hexChk x (hexRun x.s (i + 2) 2 0 i).1 (hexRun x.s (i + 2) 2 0 i).2
def pw : Nat → Int
  | 0 => 1
  | k + 1 => 16 * pw k
theorem pw_le {m : Nat} (h : m ≤ 7) : 1 ≤ pw m ∧ pw m ≤ 268435456 := by
  have : m = 0 ∨ m = 1 ∨ m = 2 ∨ m = 3 ∨ m = 4 ∨ m = 5 ∨ m = 6 ∨ m = 7 := by omega
  rcases this with rfl | rfl | rfl | rfl | rfl | rfl | rfl | rfl <;> decide
theorem hexP_range {c : Int} (h0 : 0 ≤ c) (h1 : c ≤ 255) : -1 ≤ hexP c ∧ hexP c ≤ 15 := by
  unfold hexP
  split
  · rename_i h; have := digitP_ge h; omega
  split
  · omega
  split
  · omega
  · omega
theorem hexa_c (x : Text) (i : Int) (hx : x.s.size ≤ 1000000) (h0 : 0 ≤ i) (h1 : i ≤ 100000) :
    VCalls Try.prog 98 [x.enc, iv i] (fun r => r = .tuple [iv (hexaP x i).1, iv (hexaP x i).2]) := by
  refine VCalls.ofr tabOk Try.func98 (by decide) rfl rfl ?_
  refine RWP.seqx tabOk orders ?_
  conv => whnf
  refine RWP.seqx tabOk orders ?_
  conv => whnf
  refine RWP.cut (fun st => (∃ n j, st = ⟨110, [(1, .pv (iv j)), (2, .ptr 2 0), (6, .pv (iv n))], [(2, (82, x.cells))], [], []⟩ ∧ hexaP x i = hexChk x n j)) tabOk orders ?_ ?_
  case refine_2 =>
    rintro st ⟨n, j, rfl, e⟩
    rw [e]
    refine RWP.of tabOk orders ?_
    repeat' ((conv => whnf); (first
      | (with_reducible first | refine Spl.yes ?_ | refine Spl.no ?_ | refine Spl.dec (fun h => ?_) (fun h => ?_) | refine Spl.any (fun h => ?_) (fun h => ?_))
      | ((with_reducible apply And.intro); first | omega | rfl)))
    all_goals (conv => whnf)
    all_goals unfold hexChk
    all_goals first
      | (rw [if_pos (by assumption)]; rfl)
      | (rw [if_neg (by assumption), if_pos ⟨by assumption, by assumption, by assumption⟩]; rfl)
      | (rw [if_neg (by assumption), if_neg (by rintro ⟨_, q1, q2⟩; contradiction)]; rfl)
      | (rw [if_neg (by assumption), if_neg (by rintro ⟨q1, q2⟩; simp_all)]; rfl)
  conv => whnf
  refine VCalls.mono (is_c x i (bs [123]) h0 (by omega) hx (by decide)) ?_; rintro _ rfl
  conv => whnf
  refine Spl.any (fun hbr => ?_) (fun hbr => ?_)
  · conv => whnf
    (with_reducible apply And.intro); omega
    conv => whnf
    refine ⟨fun k st => ∃ n j m, st = ⟨110, [(1, .pv (iv i)), (2, .ptr 2 0), (6, .pv (iv n)), (7, .pv (iv j))], [(2, (82, x.cells))], [], []⟩ ∧ i + 1 ≤ j ∧ k + m = 7 ∧ j = i + 1 + m ∧ 0 ≤ n ∧ n < pw m ∧ hexRun x.s (i + 8) 7 0 (i + 1) = hexRun x.s (i + 8) k n j,
      ⟨7, _, Wk.narrow _ [1, 2, 6, 7] [2] [], 0, i + 1, 0, rfl, by omega, by omega, by omega, by omega, by decide, rfl⟩, ?_⟩
    rintro k st ⟨n, j, m, rfl, hj0, hkm, hjm, hn0, hn1, hP⟩
    have hb := byteAt_range x.s j
    have hh := hexP_range hb.1 hb.2
    have hp := pw_le (m := m) (by omega)
    have out : ¬ (j < x.s.size ∧ 0 ≤ hexP (byteAt x.s j) ∧ j < i + 8) → hexRun x.s (i + 8) 7 0 (i + 1) = (n, j) := by
      intro hno
      rw [hP]
      cases k with
      | zero => rfl
      | succ k => rw [hexRun, if_neg hno]
    repeat' ((conv => whnf); (first
      | (with_reducible first | refine Spl.yes ?_ | refine Spl.no ?_)
      | (with_reducible first | refine Spl.dec (fun h => ?_) (fun h => ?_) | refine Spl.eq (fun h => ?_) (fun h => ?_) | refine Spl.not ?_ | refine Spl.any (fun h => ?_) (fun h => ?_))
      | (refine VCalls.mono (hex_c _ hb.1 hb.2) ?_; rintro _ rfl)
      | (refine VCalls.mono (is_c x j (bs [125]) (by omega) (by omega) hx (by decide)) ?_; rintro _ rfl)
      | ((with_reducible apply And.intro); first | omega | rfl)))
    all_goals (conv => whnf)
    case refine_1.right.refine_1.right.refine_1.right.right.right.right =>
      obtain ⟨k, rfl⟩ : ∃ m, k = m + 1 := ⟨k - 1, by omega⟩
      refine ⟨k, _, by omega, Wk.narrow _ [1, 2, 6, 7] [2] [], _, j + 1, m + 1, rfl, by omega, by omega, by omega, by omega, ?_, ?_⟩
      · show n * 16 + hexP (byteAt x.s j) < 16 * pw m
        omega
      · rw [hP, hexRun, if_pos ⟨by assumption, by assumption, by assumption⟩]
    all_goals
      have e := out (by omega)
      first
        | (have e2 : hexaP x i = (-1, i) := by
             unfold hexaP
             rw [if_pos hbr, e]
             simp only
             first
               | (rw [if_pos (.inl (by assumption))])
               | (rw [if_pos (.inr (.inl (by assumption)))])
               | (rw [if_pos (.inr (.inr (by assumption)))])
           rw [e2]; rfl)
        | (refine ⟨_, Wk.narrow _ [1, 2, 6] [2] [], n, j + 1, rfl, ?_⟩
           unfold hexaP
           rw [if_pos hbr, e]
           simp only
           rw [if_neg (by rintro (q | q | q) <;> first | omega | (have h9 := ‹isP x.s j (bs [125]) = true›; rw [h9] at q; cases q))])
  · conv => whnf
    refine ⟨fun k st => ∃ n j m, st = ⟨110, [(1, .pv (iv j)), (2, .ptr 2 0), (6, .pv (iv n)), (8, .pv (iv m))], [(2, (82, x.cells))], [], []⟩ ∧ k + m = 2 ∧ j = i + m ∧ 0 ≤ m ∧ 0 ≤ n ∧ n < 16 ^ m.toNat ∧ hexRun x.s (i + 2) 2 0 i = hexRun x.s (i + 2) k n j,
      ⟨2, _, Wk.narrow _ [1, 2, 6, 8] [2] [], 0, i, 0, rfl, by omega, by omega, by omega, by omega, by decide, rfl⟩, ?_⟩
    rintro k st ⟨n, j, m, rfl, hkm, hjm, hm0, hn0, hn1, hP⟩
    have hb := byteAt_range x.s j
    have hh := hexP_range hb.1 hb.2
    have hn2 : n < 256 ∧ (m = 0 → n < 1) ∧ (m = 1 → n < 16) := by
      have : m = 0 ∨ m = 1 ∨ m = 2 := by omega
      rcases this with rfl | rfl | rfl <;> simp at hn1 ⊢ <;> omega
    have out : ¬ (j < x.s.size ∧ 0 ≤ hexP (byteAt x.s j) ∧ j < i + 2) → hexRun x.s (i + 2) 2 0 i = (n, j) := by
      intro hno
      rw [hP]
      cases k with
      | zero => rfl
      | succ k => rw [hexRun, if_neg hno]
    repeat' ((conv => whnf); (first
      | (with_reducible first | refine Spl.yes ?_ | refine Spl.no ?_ | refine Spl.dec (fun h => ?_) (fun h => ?_))
      | (refine VCalls.mono (hex_c _ hb.1 hb.2) ?_; rintro _ rfl)
      | ((with_reducible apply And.intro); first | omega | rfl)))
    all_goals (conv => whnf)
    all_goals first
      | (have e := out (by omega)
         refine ⟨_, Wk.narrow _ [1, 2, 6] [2] [], n, j, rfl, ?_⟩
         unfold hexaP
         rw [if_neg (by simp [hbr]), e])
      | (obtain ⟨k, rfl⟩ : ∃ m, k = m + 1 := ⟨k - 1, by omega⟩
         refine ⟨k, _, by omega, Wk.narrow _ [1, 2, 6, 8] [2] [], _, j + 1, m + 1, rfl, by omega, by omega, by omega, by omega, ?_, ?_⟩
         · have : m = 0 ∨ m = 1 := by omega
           rcases this with rfl | rfl
           · show _ < (16 : Int) ^ 1; omega
           · show _ < (16 : Int) ^ 2; omega
         · rw [hP, hexRun, if_pos ⟨by assumption, by assumption, by omega⟩])
end Go.Proofs.Ytnoohgiecnmajaa.VC

/- The lexer of the document: names in groups, flags. -/
namespace Go.Proofs.Ytnoohgiecnmajaa.VC
open Go Go.RowKit
set_option linter.unusedVariables false
set_option linter.unusedSimpArgs false

def shutP (x : Text) (t : Tok) (a i : Int) (s : ByteArray) (e : Int) : Got :=
  if isP x.s i s = true then tokG t a (i + s.size) else if i ≥ x.s.size then endG x else badG e a
theorem shut_c (x : Text) (t : Tok) (a i : Int) (s : ByteArray) (e : Int) (hx : x.s.size ≤ 1000000) (h0 : 0 ≤ i) (h1 : i ≤ 1000000) (hs : s.size ≤ 1000) :
    VCalls Try.prog 108 [x.enc, t.enc, iv a, iv i, sv s, iv e] (fun r => r = (shutP x t a i s e).enc) := by
  refine VCalls.ofx tabOk orders Try.func108 (by decide) rfl rfl ?_
  repeat' ((conv => whnf); (first
    | (with_reducible first | refine Spl.yes ?_ | refine Spl.no ?_ | refine Spl.dec (fun h => ?_) (fun h => ?_) | refine Spl.any (fun h => ?_) (fun h => ?_))
    | (refine VCalls.mono (is_c x i s h0 h1 hx hs) ?_; rintro _ rfl)
    | (refine VCalls.mono (tok_c t a (i + s.size)) ?_; rintro _ rfl)
    | (refine VCalls.mono (end_c x) ?_; rintro _ rfl)
    | (refine VCalls.mono (bad_c _ _) ?_; rintro _ rfl)
    | ((with_reducible apply And.intro); first | omega | rfl)))
  all_goals (conv => whnf)
  all_goals unfold shutP
  · rw [if_pos (by assumption)]; rfl
  all_goals rw [if_neg (Bool.eq_false_iff.1 (by assumption))]
  · rw [if_pos (by assumption)]; rfl
  · rw [if_neg (by assumption)]; rfl
def calledP (x : Text) (t : Tok) (a i : Int) (s : ByteArray) : Got :=
  if nameTo x.s i ≥ x.s.size then endG x
  else if nameOk (nameAt x.s i) = false then badG 27 a
  else if isP x.s (nameTo x.s i) s = false then badG 27 a
  else tokG { t with name := nameAt x.s i } a (nameTo x.s i + s.size)
theorem called_c (x : Text) (t : Tok) (a i : Int) (s : ByteArray) (hx : x.s.size ≤ 1000000) (h0 : 0 ≤ i) (h1 : i ≤ x.s.size) (hs : s.size ≤ 1000) :
    VCalls Try.prog 107 [x.enc, t.enc, iv a, iv i, sv s] (fun r => r = (calledP x t a i s).enc) := by
  have hr := nameTo_range x.s i h1
  refine VCalls.ofx tabOk orders Try.func107 (by decide) rfl rfl ?_
  repeat' ((conv => whnf); (first
    | (with_reducible first | refine Spl.yes ?_ | refine Spl.no ?_ | refine Spl.dec (fun h => ?_) (fun h => ?_) | refine Spl.not ?_ | refine Spl.any (fun h => ?_) (fun h => ?_))
    | (refine VCalls.mono (name_c x i hx h0 h1) ?_; rintro _ rfl)
    | (refine VCalls.mono (is_c x (nameTo x.s i) s (by omega) (by omega) hx hs) ?_; rintro _ rfl)
    | (refine VCalls.mono (tok_c { t with name := nameAt x.s i } a (nameTo x.s i + s.size)) ?_; rintro _ rfl)
    | (refine VCalls.mono (end_c x) ?_; rintro _ rfl)
    | (refine VCalls.mono (bad_c _ _) ?_; rintro _ rfl)
    | ((with_reducible apply And.intro); first | omega | rfl)))
  all_goals (conv => whnf)
  all_goals unfold calledP
  all_goals first
    | (rw [if_pos (by assumption)]; rfl)
    | (rw [if_neg (by assumption), if_pos (by assumption)]; rfl)
    | (rw [if_neg (by assumption), if_neg (Bool.not_eq_false _ ▸ by assumption), if_pos (by assumption)]; rfl)
    | (rw [if_neg (by assumption), if_neg (by simp [*]), if_pos (by assumption)]; rfl)
    | (rw [if_neg (by assumption), if_neg (by simp [*]), if_neg (by simp [*])]; rfl)
def flagN (c : Int) : Int := if c = 105 then 1 else if c = 109 then 2 else if c = 115 then 4 else if c = 85 then 16 else 0
def flagsL (x : Text) (at_ : Int) : Nat → Int → Bool → Int → Int → Got
  | 0, _, _, _, _ => endG x
  | k + 1, i, off, a, b =>
    if i ≥ x.s.size then endG x
    else if byteAt x.s i = 41 then tokG { tokZ with kind := 15, on := a, off := b } at_ (i + 1)
    else if byteAt x.s i = 58 then tokG { tokZ with kind := 10, n := 2, on := a, off := b } at_ (i + 1)
    else if byteAt x.s i = 45 then (if off = true then badG 26 at_ else flagsL x at_ k (i + 1) true a (bOr b 0))
    else if flagN (byteAt x.s i) = 0 then badG 26 at_
    else if off = true then flagsL x at_ k (i + 1) off a (bOr b (flagN (byteAt x.s i))) else flagsL x at_ k (i + 1) off (bOr a (flagN (byteAt x.s i))) b
def flagsP (x : Text) (at_ i : Int) : Got := flagsL x at_ (x.s.size - i + 1).toNat i false 0 0
def tcells (k on off : Int) : List FE := [.pv (iv k), .pv (iv 0), .pv (iv 0), .pv (iv 0), .pv (.val nilV), .pv (bv false), .pv (iv 0), .pv (iv 0), .pv (iv 0), .pv (sv (bs [])), .pv (iv on), .pv (iv off)]
def gzero : List FE := [.pv (iv 0), .pv (iv 0), .pv (iv 0), .pv (iv 0), .pv (.val nilV), .pv (bv false), .pv (iv 0), .pv (iv 0), .pv (iv 0), .pv (sv (bs [])), .pv (iv 0), .pv (iv 0), .pv (bv false), .pv (iv 0), .pv (iv 0), .pv (iv 0)]
theorem flags_c (x : Text) (a i : Int) (hx : x.s.size ≤ 1000000) (h0 : 0 ≤ i) (h1 : i ≤ x.s.size) :
    VCalls Try.prog 112 [x.enc, iv a, iv i] (fun r => r = (flagsP x a i).enc) := by
  refine VCalls.ofx tabOk orders Try.func112 (by decide) rfl rfl ?_
  conv => whnf
  refine ⟨fun k st => ∃ j off p q, st = ⟨66, [(1, .pv (iv a)), (2, .pv (iv j)), (3, .ptr 3 0), (6, .ptr 6 0), (7, .ptr 7 0), (8, .pv (bv off))], [(3, (82, x.cells)), (6, (90, gzero)), (7, (88, tcells 15 p q))], [], []⟩ ∧ i ≤ j ∧ j ≤ x.s.size ∧ k = (x.s.size - j + 1).toNat ∧ flagsP x a i = flagsL x a k j off p q,
    ⟨_, _, Wk.narrow _ [1, 2, 3, 6, 7, 8] [3, 6, 7] [], i, false, 0, 0, rfl, by omega, h1, rfl, rfl⟩, ?_⟩
  rintro k st ⟨j, off, p, q, rfl, hj0, hj1, hk, hP⟩
  obtain ⟨k, rfl⟩ : ∃ m, k = m + 1 := ⟨k - 1, by omega⟩
  repeat' ((conv => whnf); (first
    | (with_reducible first | refine Spl.yes ?_ | refine Spl.no ?_ | refine Spl.dec (fun h => ?_) (fun h => ?_) | refine Spl.eq (fun h => ?_) (fun h => ?_) | refine Spl.any (fun h => ?_) (fun h => ?_))
    | (refine VCalls.mono (tok_c { tokZ with kind := 15, on := p, off := q } a (j + 1)) ?_; rintro _ rfl)
    | (refine VCalls.mono (tok_c { tokZ with kind := 10, n := 2, on := p, off := q } a (j + 1)) ?_; rintro _ rfl)
    | (refine VCalls.mono (end_c x) ?_; rintro _ rfl)
    | (refine VCalls.mono (bad_c _ _) ?_; rintro _ rfl)
    | ((with_reducible apply And.intro); first | omega | rfl)))
  all_goals (conv => whnf)
  all_goals first
    | (refine ⟨k, _, by omega, Wk.narrow _ [1, 2, 3, 6, 7, 8] [3, 6, 7] [], j + 1, _, _, _, rfl, by omega, by omega, by omega, ?_⟩
       rw [hP]
       clear hP
       simp [flagsL, flagN, *])
    | (have e : flagsP x a i = endG x := by rw [hP]; clear hP; simp [flagsL, *]
       rw [e]; rfl)
    | (have e : flagsP x a i = tokG { tokZ with kind := 15, on := p, off := q } a (j + 1) := by rw [hP]; clear hP; simp [flagsL, *]
       rw [e]; rfl)
    | (have e : flagsP x a i = tokG { tokZ with kind := 10, n := 2, on := p, off := q } a (j + 1) := by rw [hP]; clear hP; simp [flagsL, *]
       rw [e]; rfl)
    | (have e : flagsP x a i = badG 26 a := by rw [hP]; clear hP; simp [flagsL, flagN, *]
       rw [e]; rfl)
end Go.Proofs.Ytnoohgiecnmajaa.VC

/- The lexer of the document: references. -/
namespace Go.Proofs.Ytnoohgiecnmajaa.VC
open Go Go.RowKit
set_option linter.unusedVariables false
set_option linter.unusedSimpArgs false
set_option maxHeartbeats 4000000

theorem enc_by {g g' : Got} {L : SV} (h : g = g') (h2 : L = g.enc) : L = g'.enc := by rw [← h]; exact h2
theorem b_nt {b : Bool} (h : b = false) : ¬ b = true := by rw [h]; decide
theorem b_nf {b : Bool} (h : b = true) : ¬ b = false := by rw [h]; decide
theorem ite_yes {α : Sort _} {c : Prop} [Decidable c] {g a b : α} (h : c) (h2 : g = a) : g = ite c a b := by rw [if_pos h]; exact h2
theorem ite_no {α : Sort _} {c : Prop} [Decidable c] {g a b : α} (h : ¬ c) (h2 : g = b) : g = ite c a b := by rw [if_neg h]; exact h2

def referK (s : ByteArray) (i : Int) : Int × ByteArray :=
  let c1 := if isP s i (bs [123]) = true then bs [125] else bs []
  let p2 : Int × ByteArray := if isP s i (bs [60]) = true then (12, bs [62]) else (11, c1)
  if isP s i (bs [39]) = true then (12, bs [39]) else p2
def referP (x : Text) (a i0 : Int) : Got :=
  let kind := (referK x.s i0).1
  let cl := (referK x.s i0).2
  let i := i0 + cl.size
  let q := signedP x.s i
  if q.2.2.2 = true then badG 25 a
  else if q.2.2.1 > i then
    (if isP x.s q.2.2.1 cl = false then badG 21 a
     else if q.1 = 0 ∧ (kind = 11 ∨ q.2.1 ≠ 0) then badG 25 a
     else tokG { tokZ with kind := kind, n := q.1, m := q.2.1 } a (q.2.2.1 + cl.size))
  else if cl = bs [] then badG 21 a
  else if nameOk (nameAt x.s i) = false then badG 21 a
  else if isP x.s (nameTo x.s i) cl = false then badG 21 a
  else tokG { tokZ with kind := kind, name := nameAt x.s i, m := 3 } a (nameTo x.s i + 1)
theorem signedP_range (s : ByteArray) (i : Int) (h1 : i ≤ s.size) : 0 ≤ (signedP s i).1 ∧ (signedP s i).1 ≤ 1000 ∧ 0 ≤ (signedP s i).2.1 ∧ (signedP s i).2.1 ≤ 2 ∧ i ≤ (signedP s i).2.2.1 ∧ (signedP s i).2.2.1 ≤ s.size ∧ ((signedP s i).2.2.2 = false → (signedP s i).1 ≤ 255) := by
  have key : ∀ (m j : Int), 0 ≤ m → m ≤ 2 → i ≤ j → j ≤ s.size → 0 ≤ (if (numP s j).2.1 = j then (0, m, i, false) else ((numP s j).1, m, (numP s j).2.1, (numP s j).2.2) : Int × Int × Int × Bool).1 ∧ (if (numP s j).2.1 = j then (0, m, i, false) else ((numP s j).1, m, (numP s j).2.1, (numP s j).2.2) : Int × Int × Int × Bool).1 ≤ 1000 ∧ 0 ≤ (if (numP s j).2.1 = j then (0, m, i, false) else ((numP s j).1, m, (numP s j).2.1, (numP s j).2.2) : Int × Int × Int × Bool).2.1 ∧ (if (numP s j).2.1 = j then (0, m, i, false) else ((numP s j).1, m, (numP s j).2.1, (numP s j).2.2) : Int × Int × Int × Bool).2.1 ≤ 2 ∧ i ≤ (if (numP s j).2.1 = j then (0, m, i, false) else ((numP s j).1, m, (numP s j).2.1, (numP s j).2.2) : Int × Int × Int × Bool).2.2.1 ∧ (if (numP s j).2.1 = j then (0, m, i, false) else ((numP s j).1, m, (numP s j).2.1, (numP s j).2.2) : Int × Int × Int × Bool).2.2.1 ≤ s.size ∧ ((if (numP s j).2.1 = j then (0, m, i, false) else ((numP s j).1, m, (numP s j).2.1, (numP s j).2.2) : Int × Int × Int × Bool).2.2.2 = false → (if (numP s j).2.1 = j then (0, m, i, false) else ((numP s j).1, m, (numP s j).2.1, (numP s j).2.2) : Int × Int × Int × Bool).1 ≤ 255) := by
    intro m j h0 h2 h3 h4
    have hn := numP_range s j
    split
    · exact ⟨by simp, by simp, h0, h2, by simp, by simp; omega, by simp⟩
    · exact ⟨hn.1, hn.2.1, h0, h2, by simp only; omega, hn.2.2.2.1 h4, hn.2.2.2.2⟩
  unfold signedP
  by_cases e1 : isP s i (bs [45]) = true
  · have := isP_le e1
    have hb : (bs [45]).size = 1 := rfl
    simp only [e1, if_true]
    exact key 1 (i + 1) (by omega) (by omega) (by omega) (by omega)
  · by_cases e2 : isP s i (bs [43]) = true
    · have := isP_le e2
      have hb : (bs [43]).size = 1 := rfl
      simp only [e1, e2, if_true, if_false]
      exact key 2 (i + 1) (by omega) (by omega) (by omega) (by omega)
    · simp only [e1, e2, if_false]
      exact key 0 i (by omega) (by omega) (by omega) h1
theorem referK_le (s : ByteArray) (i : Int) (h : i ≤ s.size) : i + (referK s i).2.size ≤ s.size ∧ (referK s i).2.size ≤ 1 ∧ ((referK s i).2 ≠ bs [] → (referK s i).2.size = 1) := by
  have h123 : (bs [125]).size = 1 := rfl
  have h60 : (bs [62]).size = 1 := rfl
  have h39 : (bs [39]).size = 1 := rfl
  have h0 : (bs []).size = 0 := rfl
  unfold referK
  simp only
  split
  · rename_i e; have := isP_le e; have hb : (bs [39]).size = 1 := rfl; exact ⟨by simp only; omega, by simp only; omega, fun _ => rfl⟩
  split
  · rename_i e; have := isP_le e; have hb : (bs [60]).size = 1 := rfl; exact ⟨by simp only; omega, by simp only; omega, fun _ => rfl⟩
  split
  · rename_i e; have := isP_le e; have hb : (bs [123]).size = 1 := rfl; exact ⟨by simp only; omega, by simp only; omega, fun _ => rfl⟩
  · exact ⟨by simp only; omega, by simp only; omega, fun q => absurd rfl q⟩
theorem refer_c (x : Text) (a i : Int) (hx : x.s.size ≤ 100000) (h0 : 0 ≤ i) (h1 : i ≤ x.s.size) :
    VCalls Try.prog 100 [x.enc, iv a, iv i] (fun r => r = (referP x a i).enc) := by
  refine VCalls.ofr tabOk Try.func100 (by decide) rfl rfl ?_
  refine RWP.seqx tabOk orders ?_
  conv => whnf
  refine RWP.seqx tabOk orders ?_
  conv => whnf
  refine RWP.seqx tabOk orders ?_
  conv => whnf
  refine RWP.cut (fun st => st = ⟨101, [(1, .pv (iv a)), (2, .pv (iv i)), (3, .ptr 3 0), (6, .ptr 6 0), (7, .pv (iv 11)), (8, .pv (sv (if isP x.s i (bs [123]) = true then bs [125] else bs [])))], [(3, (82, x.cells)), (6, (90, gzero))], [], []⟩) tabOk orders ?_ ?_
  · conv => whnf
    refine VCalls.mono (is_c x i (bs [123]) h0 (by omega) (by omega) (by decide)) ?_; rintro _ rfl
    conv => whnf
    refine Spl.any (fun h => ?_) (fun h => ?_)
    · conv => whnf
      exact ⟨_, Wk.narrow _ [1, 2, 3, 6, 7, 8] [3, 6] [], by rw [if_pos h]; rfl⟩
    · conv => whnf
      exact ⟨_, Wk.narrow _ [1, 2, 3, 6, 7, 8] [3, 6] [], by rw [if_neg (by simp [h])]; rfl⟩
  rintro _ rfl
  generalize hc1 : (if isP x.s i (bs [123]) = true then bs [125] else bs []) = c1
  refine RWP.cut (fun st => st = ⟨101, [(1, .pv (iv a)), (2, .pv (iv i)), (3, .ptr 3 0), (6, .ptr 6 0), (7, .pv (iv (if isP x.s i (bs [60]) = true then (12, bs [62]) else (11, c1) : Int × ByteArray).1)), (8, .pv (sv (if isP x.s i (bs [60]) = true then (12, bs [62]) else (11, c1) : Int × ByteArray).2))], [(3, (82, x.cells)), (6, (90, gzero))], [], []⟩) tabOk orders ?_ ?_
  · conv => whnf
    refine VCalls.mono (is_c x i (bs [60]) h0 (by omega) (by omega) (by decide)) ?_; rintro _ rfl
    conv => whnf
    refine Spl.any (fun h => ?_) (fun h => ?_)
    · conv => whnf
      exact ⟨_, Wk.narrow _ [1, 2, 3, 6, 7, 8] [3, 6] [], by rw [if_pos h]; rfl⟩
    · conv => whnf
      exact ⟨_, Wk.narrow _ [1, 2, 3, 6, 7, 8] [3, 6] [], by rw [if_neg (by simp [h])]; rfl⟩
  rintro _ rfl
  generalize hp2 : (if isP x.s i (bs [60]) = true then (12, bs [62]) else (11, c1) : Int × ByteArray) = p2
  have hK : referK x.s i = if isP x.s i (bs [39]) = true then (12, bs [39]) else p2 := by unfold referK; simp only; rw [hc1, hp2]
  have hle := referK_le x.s i h1
  refine RWP.cut (fun st => st = ⟨101, [(1, .pv (iv a)), (2, .pv (iv i)), (3, .ptr 3 0), (6, .ptr 6 0), (7, .pv (iv (referK x.s i).1)), (8, .pv (sv (referK x.s i).2))], [(3, (82, x.cells)), (6, (90, gzero))], [], []⟩) tabOk orders ?_ ?_
  · conv => whnf
    refine VCalls.mono (is_c x i (bs [39]) h0 (by omega) (by omega) (by decide)) ?_; rintro _ rfl
    conv => whnf
    refine Spl.any (fun h => ?_) (fun h => ?_)
    · conv => whnf
      exact ⟨_, Wk.narrow _ [1, 2, 3, 6, 7, 8] [3, 6] [], by rw [hK, if_pos h]; rfl⟩
    · conv => whnf
      exact ⟨_, Wk.narrow _ [1, 2, 3, 6, 7, 8] [3, 6] [], by rw [hK, if_neg (by simp [h])]; rfl⟩
  rintro _ rfl
  unfold referP
  simp only
  clear hK hp2 hc1
  generalize referK x.s i = kc at *
  obtain ⟨kind, cl⟩ := kc
  simp only at hle ⊢
  have hq := signedP_range x.s (i + cl.size) (by omega)
  have hr := nameTo_range x.s (i + cl.size) (by omega)
  refine RWP.of tabOk orders ?_
  repeat' ((conv => whnf); (first
    | (with_reducible first | refine Spl.yes ?_ | refine Spl.no ?_ | refine Spl.dec (fun h => ?_) (fun h => ?_) | refine Spl.eq (fun h => ?_) (fun h => ?_) | refine Spl.ne (fun h => ?_) (fun h => ?_) | refine Spl.seq (fun h => ?_) (fun h => ?_) | refine Spl.not ?_ | refine Spl.any (fun h => ?_) (fun h => ?_))
    | (refine VCalls.mono (signed_c x (i + cl.size) (by omega) (by omega) (by omega)) ?_; rintro _ rfl)
    | (refine VCalls.mono (is_c x (signedP x.s (i + cl.size)).2.2.1 cl (by omega) (by omega) (by omega) (by omega)) ?_; rintro _ rfl)
    | (refine VCalls.mono (name_c x (i + cl.size) (by omega) (by omega) (by omega)) ?_; rintro _ rfl)
    | (refine VCalls.mono (is_c x (nameTo x.s (i + cl.size)) cl (by omega) (by omega) (by omega) (by omega)) ?_; rintro _ rfl)
    | (refine VCalls.mono (tok_c { tokZ with kind := kind, n := (signedP x.s (i + cl.size)).1, m := (signedP x.s (i + cl.size)).2.1 } a _) ?_; rintro _ rfl)
    | (refine VCalls.mono (tok_c { tokZ with kind := kind, name := nameAt x.s (i + cl.size), m := 3 } a _) ?_; rintro _ rfl)
    | (refine VCalls.mono (bad_c _ _) ?_; rintro _ rfl)
    | ((with_reducible apply And.intro); first | omega | rfl)))
  all_goals (conv => whnf)
  all_goals (apply enc_by; (focus ((repeat (first | (apply ite_yes; (focus first | assumption | (simp [*]; done))) | (apply ite_no; (focus first | assumption | exact b_nt (by assumption) | exact b_nf (by assumption) | (simp [*]; done))))); exact rfl)); rfl)
end Go.Proofs.Ytnoohgiecnmajaa.VC

/- The lexer of the document: verbs. -/
namespace Go.Proofs.Ytnoohgiecnmajaa.VC
open Go Go.RowKit
set_option linter.unusedVariables false
set_option linter.unusedSimpArgs false
set_option maxHeartbeats 4000000

/-- The first place from i on where the byte is c, or the end. -/
def stopL (s : ByteArray) (c : Int) : Nat → Int → Int
  | 0, i => i
  | k + 1, i => if i < s.size ∧ byteAt s i ≠ c then stopL s c k (i + 1) else i
def stopAt (s : ByteArray) (c : Int) (i : Int) : Int := stopL s c (s.size - i).toNat i
theorem stopL_range (s : ByteArray) (c : Int) : ∀ (k : Nat) (i : Int), i ≤ s.size → i ≤ stopL s c k i ∧ stopL s c k i ≤ s.size
  | 0, i, h => by simp [stopL]; omega
  | k + 1, i, h => by
    unfold stopL
    split
    · have := stopL_range s c k (i + 1) (by omega)
      omega
    · omega
theorem stopAt_range (s : ByteArray) (c : Int) (i : Int) (h : i ≤ s.size) : i ≤ stopAt s c i ∧ stopAt s c i ≤ s.size := stopL_range s c _ i h
theorem stopL_end {s : ByteArray} {c : Int} {k : Nat} {i : Int} (hk : k = (s.size - i).toNat) (h : ¬ i < s.size ∨ byteAt s i = c) : stopL s c k i = i := by
  cases k with
  | zero => rfl
  | succ k => rw [stopL, if_neg (by rcases h with q | q
                                    · omega
                                    · simp [q])]
theorem stopL_go {s : ByteArray} {c : Int} {k : Nat} {i : Int} (h1 : i < s.size) (h : byteAt s i ≠ c) : stopL s c (k + 1) i = stopL s c k (i + 1) := by
  rw [stopL, if_pos ⟨h1, h⟩]
def verbN (s : ByteArray) : Int :=
  if s = bs [65, 67, 67, 69, 80, 84] then 1 else if s = bs [70, 65, 73, 76] then 2 else if s = bs [70] then 2
  else if s = bs [67, 79, 77, 77, 73, 84] then 3 else if s = bs [80, 82, 85, 78, 69] then 4 else if s = bs [83, 75, 73, 80] then 5
  else if s = bs [84, 72, 69, 78] then 6 else if s = bs [77, 65, 82, 75] then 7 else if s = bs [] then 7 else 0
def verbHead (s : ByteArray) : ByteArray := if stopAt s 58 0 < s.size then s.extract 0 (stopAt s 58 0).toNat else s
def verbArg (s : ByteArray) : ByteArray := if stopAt s 58 0 < s.size then s.extract (stopAt s 58 0 + 1).toNat s.size else bs []
def verbWith (s : ByteArray) : Bool := decide (stopAt s 58 0 < s.size)
def verbBad (k : Int) (w : Bool) (arg : ByteArray) : Bool := if k = 0 then true else if w = true then (if arg = bs [] then true else if k = 1 then true else if k = 2 then true else false) else if k = 7 then true else false
def verbP (x : Text) (a : Int) : Got :=
  let i := stopAt x.s 41 (a + 2)
  let s := x.s.extract (a + 2).toNat i.toNat
  if i = x.s.size then endG x
  else if verbBad (verbN (verbHead s)) (verbWith s) (verbArg s) = true then badG 28 a
  else tokG { tokZ with kind := 13, n := verbN (verbHead s), name := verbArg s } a (i + 1)
theorem verb_c (x : Text) (a : Int) (hx : x.s.size ≤ 100000) (h0 : 0 ≤ a) (h1 : a + 2 ≤ x.s.size) :
    VCalls Try.prog 106 [x.enc, iv a] (fun r => r = (verbP x a).enc) := by
  refine VCalls.ofr tabOk Try.func106 (by decide) rfl rfl ?_
  refine RWP.seqx tabOk orders ?_
  conv => whnf
  refine RWP.seqx tabOk orders ?_
  repeat ((conv => whnf); ((with_reducible apply And.intro); first | omega | rfl | (dsimp only; omega)))
  conv => whnf
  have hr := stopAt_range x.s 41 (a + 2) h1
  refine RWP.cut (fun st => st = ⟨111, [(1, .pv (iv a)), (2, .ptr 2 0), (4, .ptr 4 0), (5, .pv (iv (stopAt x.s 41 (a + 2))))], [(2, (82, x.cells)), (4, (90, gzero))], [], []⟩) tabOk orders ?_ ?_
  · conv => whnf
    refine ⟨fun k st => ∃ j, st = ⟨111, [(1, .pv (iv a)), (2, .ptr 2 0), (4, .ptr 4 0), (5, .pv (iv j))], [(2, (82, x.cells)), (4, (90, gzero))], [], []⟩ ∧ a + 2 ≤ j ∧ j ≤ x.s.size ∧ k = (x.s.size - j).toNat ∧ stopAt x.s 41 (a + 2) = stopL x.s 41 k j,
      ⟨_, _, Wk.narrow _ [1, 2, 4, 5] [2, 4] [], a + 2, rfl, by omega, h1, rfl, rfl⟩, ?_⟩
    rintro k st ⟨j, rfl, hj0, hj1, hk, hP⟩
    repeat' ((conv => whnf); (first | (with_reducible first | refine Spl.yes ?_ | refine Spl.no ?_ | refine Spl.dec (fun h => ?_) (fun h => ?_) | refine Spl.eq (fun h => ?_) (fun h => ?_) | refine Spl.ne (fun h => ?_) (fun h => ?_) | refine Spl.seq (fun h => ?_) (fun h => ?_) | refine Spl.not ?_ | refine Spl.any (fun h => ?_) (fun h => ?_)) | ((with_reducible apply And.intro); first | omega | rfl | (dsimp only; omega))))
    all_goals (conv => whnf)
    all_goals first
      | (obtain ⟨k, rfl⟩ : ∃ m, k = m + 1 := ⟨k - 1, by omega⟩
         rw [stopL_go (by assumption) (by assumption)] at hP
         exact ⟨k, _, by omega, Wk.narrow _ [1, 2, 4, 5] [2, 4] [], j + 1, rfl, by omega, by omega, by omega, hP⟩)
      | (have e : stopAt x.s 41 (a + 2) = j := by rw [hP]; exact stopL_end hk (by first | exact .inl (by assumption) | exact .inr (by assumption))
         exact ⟨_, Wk.narrow _ [1, 2, 4, 5] [2, 4] [], by rw [e]; rfl⟩)
  rintro _ rfl
  unfold verbP
  simp only
  generalize stopAt x.s 41 (a + 2) = i at *
  refine RWP.seqx tabOk orders ?_
  repeat' ((conv => whnf); (first | (with_reducible first | refine Spl.yes ?_ | refine Spl.no ?_ | refine Spl.dec (fun h => ?_) (fun h => ?_) | refine Spl.eq (fun h => ?_) (fun h => ?_) | refine Spl.ne (fun h => ?_) (fun h => ?_) | refine Spl.seq (fun h => ?_) (fun h => ?_) | refine Spl.not ?_ | refine Spl.any (fun h => ?_) (fun h => ?_)) | (refine VCalls.mono (end_c x) ?_; rintro _ rfl) | ((with_reducible apply And.intro); first | omega | rfl | (dsimp only; omega))))
  · conv => whnf
    rw [if_pos (by assumption)]
    rfl
  rw [if_neg (by assumption)]
  refine RWP.seqx tabOk orders ?_
  repeat ((conv => whnf); ((with_reducible apply And.intro); first | omega | rfl | (dsimp only; omega)))
  conv => whnf
  refine RWP.seqx tabOk orders ?_
  conv => whnf
  refine RWP.seqx tabOk orders ?_
  conv => whnf
  have hsz : (x.s.extract (a + 2).toNat i.toNat).size ≤ 100000 := by rw [ByteArray.size_extract]; omega
  refine RWP.cut (fun st => st = ⟨111, [(1, .pv (iv a)), (2, .ptr 2 0), (4, .ptr 4 0), (5, .pv (iv i)), (6, .pv (sv (verbHead (x.s.extract (a + 2).toNat i.toNat)))), (7, .pv (sv (verbArg (x.s.extract (a + 2).toNat i.toNat)))), (8, .pv (bv (verbWith (x.s.extract (a + 2).toNat i.toNat))))], [(2, (82, x.cells)), (4, (90, gzero))], [], []⟩) tabOk orders ?_ ?_
  · conv => whnf
    refine ⟨fun k st => ∃ j, st = ⟨111, [(1, .pv (iv a)), (2, .ptr 2 0), (4, .ptr 4 0), (5, .pv (iv i)), (6, .pv (sv (x.s.extract (a + 2).toNat i.toNat))), (7, .pv (sv (bs []))), (8, .pv (bv false)), (9, .pv (iv j))], [(2, (82, x.cells)), (4, (90, gzero))], [], []⟩ ∧ 0 ≤ j ∧ j ≤ (x.s.extract (a + 2).toNat i.toNat).size ∧ k = ((x.s.extract (a + 2).toNat i.toNat).size - j).toNat ∧ stopAt (x.s.extract (a + 2).toNat i.toNat) 58 0 = stopL (x.s.extract (a + 2).toNat i.toNat) 58 k j,
      ⟨_, _, Wk.narrow _ [1, 2, 4, 5, 6, 7, 8, 9] [2, 4] [], 0, rfl, by omega, by omega, rfl, rfl⟩, ?_⟩
    generalize x.s.extract (a + 2).toNat i.toNat = s at *
    rintro k st ⟨j, rfl, hj0, hj1, hk, hP⟩
    repeat' ((conv => whnf); (first | (with_reducible first | refine Spl.yes ?_ | refine Spl.no ?_ | refine Spl.dec (fun h => ?_) (fun h => ?_) | refine Spl.eq (fun h => ?_) (fun h => ?_) | refine Spl.ne (fun h => ?_) (fun h => ?_) | refine Spl.seq (fun h => ?_) (fun h => ?_) | refine Spl.not ?_ | refine Spl.any (fun h => ?_) (fun h => ?_)) | ((with_reducible apply And.intro); first | omega | rfl | (dsimp only; omega))))
    all_goals (conv => whnf)
    all_goals first
      | (obtain ⟨k, rfl⟩ : ∃ m, k = m + 1 := ⟨k - 1, by omega⟩
         rw [stopL_go (by assumption) (by assumption)] at hP
         exact ⟨k, _, by omega, Wk.narrow _ [1, 2, 4, 5, 6, 7, 8, 9] [2, 4] [], j + 1, rfl, by omega, by omega, by omega, hP⟩)
      | (have e : stopAt s 58 0 = j := by rw [hP]; exact stopL_end hk (by first | exact .inl (by assumption) | exact .inr (by assumption))
         refine ⟨_, Wk.narrow _ [1, 2, 4, 5, 6, 7, 8] [2, 4] [], ?_⟩
         unfold verbHead verbArg verbWith
         rw [e]
         first
           | (have hh : j < s.size := by assumption
              rw [if_pos hh, if_pos hh, decide_eq_true hh]; rfl)
           | (have hh : ¬ j < s.size := by assumption
              rw [if_neg hh, if_neg hh, decide_eq_false hh]; rfl))
  rintro _ rfl
  generalize x.s.extract (a + 2).toNat i.toNat = s at *
  generalize verbHead s = hd
  generalize verbWith s = w
  generalize verbArg s = arg
  refine RWP.seqx tabOk orders ?_
  conv => whnf
  refine RWP.cut (fun st => st = ⟨111, [(1, .pv (iv a)), (2, .ptr 2 0), (4, .ptr 4 0), (5, .pv (iv i)), (6, .pv (sv hd)), (7, .pv (sv arg)), (8, .pv (bv w)), (10, .pv (iv (verbN hd)))], [(2, (82, x.cells)), (4, (90, gzero))], [], []⟩) tabOk orders ?_ ?_
  · unfold verbN
    repeat' ((conv => whnf); (first | (with_reducible first | refine Spl.yes ?_ | refine Spl.no ?_ | refine Spl.dec (fun h => ?_) (fun h => ?_) | refine Spl.eq (fun h => ?_) (fun h => ?_) | refine Spl.ne (fun h => ?_) (fun h => ?_) | refine Spl.seq (fun h => ?_) (fun h => ?_) | refine Spl.not ?_ | refine Spl.any (fun h => ?_) (fun h => ?_)) | ((with_reducible apply And.intro); first | omega | rfl | (dsimp only; omega))))
    all_goals (try (exfalso; contradiction))
    all_goals (conv => whnf)
    all_goals (refine ⟨_, Wk.narrow _ [1, 2, 4, 5, 6, 7, 8, 10] [2, 4] [], ?_⟩)
    all_goals (repeat (first | rw [if_pos (by assumption)] | rw [if_neg (by assumption)]))
    all_goals rfl
  rintro _ rfl
  generalize verbN hd = k
  refine RWP.of tabOk orders ?_
  repeat' ((conv => whnf); (first
    | (with_reducible first | refine Spl.yes ?_ | refine Spl.no ?_ | refine Spl.dec (fun h => ?_) (fun h => ?_) | refine Spl.eq (fun h => ?_) (fun h => ?_) | refine Spl.ne (fun h => ?_) (fun h => ?_) | refine Spl.seq (fun h => ?_) (fun h => ?_) | refine Spl.not ?_ | refine Spl.any (fun h => ?_) (fun h => ?_))
    | (refine VCalls.mono (bad_c _ _) ?_; rintro _ rfl)
    | (refine VCalls.mono (tok_c { tokZ with kind := 13, n := k, name := arg } a (i + 1)) ?_; rintro _ rfl)
    | ((with_reducible apply And.intro); first | omega | rfl | (dsimp only; omega))))
  all_goals (conv => whnf)
  all_goals (try (exfalso; simp_all; done))
  all_goals (unfold verbBad)
  all_goals (apply enc_by; (focus ((repeat (first | (apply ite_yes; (focus first | assumption | omega)) | (apply ite_no; (focus first | assumption | exact b_nt (by assumption) | exact b_nf (by assumption) | omega)) | (apply ite_yes; (focus (first | (simp [*]; done) | (simp [*, bs]; done)))) | (apply ite_no; (focus (first | (simp [*]; done) | (simp [*, bs]; done)))))); exact rfl)); rfl)
end Go.Proofs.Ytnoohgiecnmajaa.VC

/- The lexer of the document: braced text, conditions. -/
namespace Go.Proofs.Ytnoohgiecnmajaa.VC
open Go Go.RowKit
set_option linter.unusedVariables false
set_option linter.unusedSimpArgs false
set_option maxHeartbeats 4000000

theorem fn_by {α : Type} {f : α → SV} {g g' : α} {L : SV} (h : g = g') (h2 : L = f g) : L = f g' := by rw [← h]; exact h2
theorem nameTo_rng (s : ByteArray) (i : Int) : i ≤ nameTo s i ∧ (nameTo s i ≤ i ∨ nameTo s i ≤ s.size) := by
  by_cases h : i ≤ s.size
  · have := nameTo_range s i h; omega
  · unfold nameTo
    have e : ((s.size : Int) - i).toNat = 0 := by omega
    rw [e]; unfold nameEnd; omega
theorem nextP_rng (l : List Int) (a : Int) (u : Bool) : a ≤ (nextP l a u).2 ∧ (a ≤ l.length → (nextP l a u).2 ≤ l.length) := by
  have hr := atP_range l a
  unfold nextP
  split
  · exact ⟨by simp, by simp⟩
  split
  · simp only; omega
  · simp only; omega
theorem charP_rng (x : Text) (i : Int) (h : i ≤ x.s.size) : i ≤ (charP x i).2 ∧ (charP x i).2 ≤ x.s.size := by
  have := nextP_rng (numsOf x.s) i x.utf
  rw [numsOf_len] at this
  exact ⟨this.1, this.2 h⟩
attribute [local irreducible] isP numP signedP nameTo nameAt nameOk byteAt charP stopAt hexaP seqP atP nextP codeOf
@[reducible] def siE (p : ByteArray × Int) : SV := .tuple [sv p.1, iv p.2]
def bracedP (x : Text) (i : Int) : ByteArray × Int :=
  if i ≥ x.s.size then (bs [], -1)
  else if byteAt x.s i ≠ 123 then (x.s.extract i.toNat (charP x i).2.toNat, (charP x i).2)
  else if stopAt x.s 125 (i + 1) < x.s.size then (x.s.extract (i + 1).toNat (stopAt x.s 125 (i + 1)).toNat, stopAt x.s 125 (i + 1) + 1)
  else (bs [], -1)
theorem braced_c (x : Text) (i : Int) (hx : x.s.size ≤ 100000) (h0 : 0 ≤ i) (h1 : i ≤ x.s.size) :
    VCalls Try.prog 120 [x.enc, iv i] (fun r => r = siE (bracedP x i)) := by
  have hc := charP_rng x i h1
  refine VCalls.ofx tabOk orders Try.func120 (by decide) rfl rfl ?_
  repeat' ((conv => whnf); (first | (with_reducible first | refine Spl.yes ?_ | refine Spl.no ?_ | refine Spl.dec (fun h => ?_) (fun h => ?_) | refine Spl.eq (fun h => ?_) (fun h => ?_) | refine Spl.ne (fun h => ?_) (fun h => ?_) | refine Spl.seq (fun h => ?_) (fun h => ?_) | refine Spl.not ?_ | refine Spl.any (fun h => ?_) (fun h => ?_)) | (refine VCalls.mono (char_c x i (by omega)) ?_; rintro _ rfl) | ((with_reducible apply And.intro); first | omega | rfl | (dsimp only; omega))))
  · conv => whnf
    unfold bracedP
    (apply fn_by (f := siE); (focus ((repeat (first | (apply ite_yes; (focus first | assumption | omega)) | (apply ite_no; (focus first | assumption | exact b_nt (by assumption) | exact b_nf (by assumption) | omega)) | (apply ite_yes; (focus (first | (simp [*]; done) | (simp [*, bs]; done)))) | (apply ite_no; (focus (first | (simp [*]; done) | (simp [*, bs]; done)))))); exact rfl)); rfl)
  · conv => whnf
    unfold bracedP
    (apply fn_by (f := siE); (focus ((repeat (first | (apply ite_yes; (focus first | assumption | omega)) | (apply ite_no; (focus first | assumption | exact b_nt (by assumption) | exact b_nf (by assumption) | omega)) | (apply ite_yes; (focus (first | (simp [*]; done) | (simp [*, bs]; done)))) | (apply ite_no; (focus (first | (simp [*]; done) | (simp [*, bs]; done)))))); exact rfl)); rfl)
  conv => whnf
  refine ⟨fun k st => ∃ j, st = ⟨53, [(1, .pv (iv i)), (2, .ptr 2 0), (4, .pv (sv (bs []))), (5, .pv (iv 0)), (8, .pv (iv j))], [(2, (82, x.cells))], [], []⟩ ∧ i + 1 ≤ j ∧ j ≤ x.s.size ∧ k = (x.s.size - j).toNat ∧ stopAt x.s 125 (i + 1) = stopL x.s 125 k j,
    ⟨_, _, Wk.narrow _ [1, 2, 4, 5, 8] [2] [], i + 1, rfl, by omega, by omega, rfl, by unfold stopAt; rfl⟩, ?_⟩
  rintro k st ⟨j, rfl, hj0, hj1, hk, hP⟩
  repeat' ((conv => whnf); (first | (with_reducible first | refine Spl.yes ?_ | refine Spl.no ?_ | refine Spl.dec (fun h => ?_) (fun h => ?_) | refine Spl.eq (fun h => ?_) (fun h => ?_) | refine Spl.ne (fun h => ?_) (fun h => ?_) | refine Spl.seq (fun h => ?_) (fun h => ?_) | refine Spl.not ?_ | refine Spl.any (fun h => ?_) (fun h => ?_)) | ((with_reducible apply And.intro); first | omega | rfl | (dsimp only; omega))))
  all_goals (conv => whnf)
  all_goals first
    | (obtain ⟨k, rfl⟩ : ∃ m, k = m + 1 := ⟨k - 1, by omega⟩
       rw [stopL_go (by assumption) (by assumption)] at hP
       exact ⟨k, _, by omega, Wk.narrow _ [1, 2, 4, 5, 8] [2] [], j + 1, rfl, by omega, by omega, by omega, hP⟩)
    | (have e : stopAt x.s 125 (i + 1) = j := by rw [hP]; exact stopL_end hk (by first | exact .inl (by assumption) | exact .inr (by assumption))
       clear hP hk
       unfold bracedP
       rw [e]
       (apply fn_by (f := siE); (focus ((repeat (first | (apply ite_yes; (focus first | assumption | omega)) | (apply ite_no; (focus first | assumption | exact b_nt (by assumption) | exact b_nf (by assumption) | omega)) | (apply ite_yes; (focus (first | (simp [*]; done) | (simp [*, bs]; done)))) | (apply ite_no; (focus (first | (simp [*]; done) | (simp [*, bs]; done)))))); exact rfl)); rfl))
end Go.Proofs.Ytnoohgiecnmajaa.VC

/- The lexer of the document: conditions. -/
namespace Go.Proofs.Ytnoohgiecnmajaa.VC
open Go Go.RowKit
set_option linter.unusedVariables false
set_option linter.unusedSimpArgs false
set_option maxHeartbeats 4000000

def condFin (x : Text) (a : Int) (t : Tok) (to : Int) (ok : Bool) : Got :=
  if ok = false then badG 32 a else if isP x.s to (bs [41]) = false then badG 32 a else if t.n = 9 ∧ t.mode = 0 then badG 25 a else tokG t a (to + 1)
def condClose (s : ByteArray) (i : Int) : ByteArray := if byteAt s i ≠ 60 then bs [39] else bs [62]
def condCells (n m mode : Int) (name : ByteArray) : List FE := [.pv (iv 10), .pv (iv 0), .pv (iv 0), .pv (iv 0), .pv (.val nilV), .pv (bv false), .pv (iv n), .pv (iv m), .pv (iv mode), .pv (sv name), .pv (iv 0), .pv (iv 0)]
def condRest (x : Text) (a i : Int) : Got :=
  if isP x.s i (bs [60]) = true ∨ isP x.s i (bs [39]) = true then
    condFin x a { tokZ with kind := 10, n := 10, name := nameAt x.s (i + 1) } (nameTo x.s (i + 1) + 1) (if nameOk (nameAt x.s (i + 1)) = false then false else isP x.s (nameTo x.s (i + 1)) (condClose x.s i))
  else if isP x.s i (bs [68, 69, 70, 73, 78, 69]) = true then condFin x a { tokZ with kind := 10, n := 12 } (i + 6) true
  else if isP x.s i (bs [82, 38]) = true then condFin x a { tokZ with kind := 10, n := 11, m := 3, name := nameAt x.s (i + 2) } (nameTo x.s (i + 2)) (nameOk (nameAt x.s (i + 2)))
  else if isP x.s i (bs [82]) = true then
    (if (numP x.s (i + 1)).2.2 = true then badG 25 a
     else if (numP x.s (i + 1)).2.1 = i + 1 then condFin x a { tokZ with kind := 10, n := 11, mode := -1 } (numP x.s (i + 1)).2.1 true
     else condFin x a { tokZ with kind := 10, n := 11, mode := (numP x.s (i + 1)).1 } (numP x.s (i + 1)).2.1 true)
  else if (signedP x.s i).2.2.2 = true then badG 25 a
  else condFin x a { tokZ with kind := 10, n := 9, m := (signedP x.s i).2.1, mode := (signedP x.s i).1 } (signedP x.s i).2.2.1 (decide ((signedP x.s i).2.2.1 > i))
def conditionP (x : Text) (a i : Int) : Got :=
  if isP x.s i (bs [63, 61]) = true then tokG { tokZ with kind := 10, n := 13 } a (a + 2)
  else if isP x.s i (bs [63, 33]) = true then tokG { tokZ with kind := 10, n := 13 } a (a + 2)
  else if isP x.s i (bs [63, 60, 61]) = true then tokG { tokZ with kind := 10, n := 13 } a (a + 2)
  else if isP x.s i (bs [63, 60, 33]) = true then tokG { tokZ with kind := 10, n := 13 } a (a + 2)
  else condRest x a i
attribute [local irreducible] isP numP signedP nameTo nameAt nameOk byteAt charP stopAt hexaP seqP atP nextP codeOf
theorem condition_c (x : Text) (a i : Int) (hx : x.s.size ≤ 100000) (ha : 0 ≤ a) (ha1 : a ≤ x.s.size) (h0 : 0 ≤ i) (h1 : i ≤ x.s.size) :
    VCalls Try.prog 109 [x.enc, iv a, iv i] (fun r => r = (conditionP x a i).enc) := by
  have hn1 := nameTo_rng x.s (i + 1)
  have hn2 := nameTo_rng x.s (i + 2)
  have hsg := signedP_range x.s i h1
  have hnm := numP_range x.s (i + 1)
  have l60 : isP x.s i (bs [60]) = true → i + 1 ≤ x.s.size := fun h => by have := isP_le h; have hb : (bs [60]).size = 1 := rfl; omega
  have l39 : isP x.s i (bs [39]) = true → i + 1 ≤ x.s.size := fun h => by have := isP_le h; have hb : (bs [39]).size = 1 := rfl; omega
  have l82 : isP x.s i (bs [82]) = true → i + 1 ≤ x.s.size := fun h => by have := isP_le h; have hb : (bs [82]).size = 1 := rfl; omega
  have l828 : isP x.s i (bs [82, 38]) = true → i + 2 ≤ x.s.size := fun h => by have := isP_le h; have hb : (bs [82, 38]).size = 2 := rfl; omega
  refine VCalls.ofr tabOk Try.func109 (by decide) rfl rfl ?_
  refine RWP.seqx tabOk orders ?_
  conv => whnf
  refine RWP.seqx tabOk orders ?_
  repeat' ((conv => whnf); (first
    | (with_reducible first | refine Spl.yes ?_ | refine Spl.no ?_ | refine Spl.dec (fun h => ?_) (fun h => ?_) | refine Spl.eq (fun h => ?_) (fun h => ?_) | refine Spl.ne (fun h => ?_) (fun h => ?_) | refine Spl.seq (fun h => ?_) (fun h => ?_) | refine Spl.not ?_ | refine Spl.any (fun h => ?_) (fun h => ?_))
    | (refine VCalls.mono (is_c x i (bs [63, 61]) h0 (by omega) (by omega) (by decide)) ?_; rintro _ rfl)
    | (refine VCalls.mono (is_c x i (bs [63, 33]) h0 (by omega) (by omega) (by decide)) ?_; rintro _ rfl)
    | (refine VCalls.mono (is_c x i (bs [63, 60, 61]) h0 (by omega) (by omega) (by decide)) ?_; rintro _ rfl)
    | (refine VCalls.mono (is_c x i (bs [63, 60, 33]) h0 (by omega) (by omega) (by decide)) ?_; rintro _ rfl)
    | (refine VCalls.mono (tok_c { tokZ with kind := 10, n := 13 } a (a + 2)) ?_; rintro _ rfl)
    | ((with_reducible apply And.intro); first | omega | rfl | (dsimp only; omega))))
  all_goals (conv => whnf)
  iterate 4 (
    · unfold conditionP
      (apply enc_by; (focus ((repeat (first | (apply ite_yes; (focus first | assumption | omega)) | (apply ite_no; (focus first | assumption | exact b_nt (by assumption) | exact b_nf (by assumption) | omega)) | (apply ite_yes; (focus (first | (simp [*]; done) | (simp [*, bs]; done)))) | (apply ite_no; (focus (first | (simp [*]; done) | (simp [*, bs]; done)))))); exact rfl)); rfl))
  refine RWP.seqx tabOk orders ?_
  conv => whnf
  refine RWP.seqx tabOk orders ?_
  conv => whnf
  refine RWP.seqx tabOk orders ?_
  conv => whnf
  have e : conditionP x a i = condRest x a i := by unfold conditionP; simp [*]
  rw [e]
  clear e
  refine RWP.cut (fun st => ∃ n m mode name to ok, st = ⟨165, [(1, .pv (iv a)), (2, .pv (iv i)), (3, .ptr 3 0), (6, .ptr 6 0), (7, .ptr 7 0), (8, .pv (iv to)), (9, .pv (bv ok))], [(3, (82, x.cells)), (6, (90, gzero)), (7, (88, condCells n m mode name))], [], []⟩ ∧ condRest x a i = condFin x a { tokZ with kind := 10, n := n, m := m, mode := mode, name := name } to ok ∧ i ≤ to ∧ to ≤ x.s.size + 10) tabOk orders ?_ ?_
  · repeat' ((conv => whnf); (first
    | (with_reducible first | refine Spl.yes ?_ | refine Spl.no ?_ | refine Spl.dec (fun h => ?_) (fun h => ?_) | refine Spl.eq (fun h => ?_) (fun h => ?_) | refine Spl.ne (fun h => ?_) (fun h => ?_) | refine Spl.seq (fun h => ?_) (fun h => ?_) | refine Spl.not ?_ | refine Spl.any (fun h => ?_) (fun h => ?_))
    | (refine VCalls.mono (is_c x i (bs [60]) h0 (by omega) (by omega) (by decide)) ?_; rintro _ rfl)
    | (refine VCalls.mono (is_c x i (bs [39]) h0 (by omega) (by omega) (by decide)) ?_; rintro _ rfl)
    | (refine VCalls.mono (is_c x i (bs [68, 69, 70, 73, 78, 69]) h0 (by omega) (by omega) (by decide)) ?_; rintro _ rfl)
    | (refine VCalls.mono (is_c x i (bs [82, 38]) h0 (by omega) (by omega) (by decide)) ?_; rintro _ rfl)
    | (refine VCalls.mono (is_c x i (bs [82]) h0 (by omega) (by omega) (by decide)) ?_; rintro _ rfl)
    | (refine VCalls.mono (bad_c _ _) ?_; rintro _ rfl)
    | (refine VCalls.mono (signed_c x i (by omega) h0 (by omega)) ?_; rintro _ rfl)
    | (refine VCalls.mono (number_c x (i + 1) (by omega) (by omega) (by omega)) ?_; rintro _ rfl)
    | (refine VCalls.mono (name_c x (i + 2) (by omega) (by omega) (l828 (by assumption))) ?_; rintro _ rfl)
    | (refine VCalls.mono (name_c x (i + 1) (by omega) (by omega) (l60 (by assumption))) ?_; rintro _ rfl)
    | (refine VCalls.mono (name_c x (i + 1) (by omega) (by omega) (l39 (by assumption))) ?_; rintro _ rfl)
    | (refine VCalls.mono (is_c x (nameTo x.s (i + 1)) (bs [39]) (by omega) (by omega) (by omega) (by decide)) ?_; rintro _ rfl)
    | (refine VCalls.mono (is_c x (nameTo x.s (i + 1)) (bs [62]) (by omega) (by omega) (by omega) (by decide)) ?_; rintro _ rfl)
    | (have hh := l60 (by assumption); (with_reducible apply And.intro); omega)
    | (have hh := l39 (by assumption); (with_reducible apply And.intro); omega)
    | ((with_reducible apply And.intro); first | omega | rfl | (dsimp only; omega))))
    all_goals (conv => whnf)
    all_goals (first
      | (exfalso; exact b_nt ‹isP x.s i (bs [60]) = false› ‹_›)
      | (exfalso; exact b_nt ‹isP x.s i (bs [39]) = false› ‹_›)
      | (unfold condRest; (apply enc_by; (focus ((repeat (first | (apply ite_yes; (focus first | assumption | omega)) | (apply ite_no; (focus first | assumption | exact b_nt (by assumption) | exact b_nf (by assumption) | omega)) | (apply ite_yes; (focus (first | (simp [*]; done) | (simp [*, bs]; done)))) | (apply ite_no; (focus (first | (simp [*]; done) | (simp [*, bs]; done)))))); exact rfl)); rfl))
      | (refine ⟨_, Wk.narrow _ [1, 2, 3, 6, 7, 8, 9] [3, 6, 7] [], _, _, _, _, _, _, rfl, ?_, ?_, ?_⟩
         · unfold condRest condClose
           symm
           (repeat (first | (apply ite_yes; (focus first | assumption | omega)) | (apply ite_no; (focus first | assumption | exact b_nt (by assumption) | exact b_nf (by assumption) | omega)) | (apply ite_yes; (focus (first | (simp [*]; done) | (simp [*, bs]; done)))) | (apply ite_no; (focus (first | (simp [*]; done) | (simp [*, bs]; done))))))
           all_goals (first | rfl | (simp [*]; done) | (simp [*]; rfl))
         · omega
         · first | omega | (have hh := hnm.2.2.2.1 (l82 (by assumption)); omega))
      | (unfold condRest; (apply enc_by; (focus ((repeat (first | (apply ite_yes; (focus first | assumption | omega)) | (apply ite_no; (focus first | assumption | exact b_nt (by assumption) | exact b_nf (by assumption) | omega)) | (apply ite_yes; (focus (first | (simp [*]; done) | (simp [*, bs]; done)))) | (apply ite_no; (focus (first | (simp [*]; done) | (simp [*, bs]; done)))))); exact rfl)); rfl)))
  rintro _ ⟨n, m, mode, name, to, ok, rfl, e, ht0, ht1⟩
  rw [e]
  refine RWP.of tabOk orders ?_
  repeat' ((conv => whnf); (first
    | (with_reducible first | refine Spl.yes ?_ | refine Spl.no ?_ | refine Spl.dec (fun h => ?_) (fun h => ?_) | refine Spl.eq (fun h => ?_) (fun h => ?_) | refine Spl.ne (fun h => ?_) (fun h => ?_) | refine Spl.seq (fun h => ?_) (fun h => ?_) | refine Spl.not ?_ | refine Spl.any (fun h => ?_) (fun h => ?_))
    | (refine VCalls.mono (is_c x to (bs [41]) (by omega) (by omega) (by omega) (by decide)) ?_; rintro _ rfl)
    | (refine VCalls.mono (bad_c _ _) ?_; rintro _ rfl)
    | (refine VCalls.mono (tok_c { tokZ with kind := 10, n := n, m := m, mode := mode, name := name } a (to + 1)) ?_; rintro _ rfl)
    | ((with_reducible apply And.intro); first | omega | rfl | (dsimp only; omega))))
  all_goals (conv => whnf)
  all_goals unfold condFin
  all_goals (apply enc_by; (focus ((repeat (first | (apply ite_yes; (focus first | assumption | omega)) | (apply ite_no; (focus first | assumption | exact b_nt (by assumption) | exact b_nf (by assumption) | omega)) | (apply ite_yes; (focus (first | (simp [*]; done) | (simp [*, bs]; done)))) | (apply ite_no; (focus (first | (simp [*]; done) | (simp [*, bs]; done)))))); exact rfl)); rfl)
end Go.Proofs.Ytnoohgiecnmajaa.VC

/- The lexer of the document: what a bracket opens. -/
namespace Go.Proofs.Ytnoohgiecnmajaa.VC
open Go Go.RowKit
set_option linter.unusedVariables false
set_option linter.unusedSimpArgs false
set_option maxHeartbeats 4000000

def openList : List (ByteArray × Int) := [(bs [58], 2), (bs [124], 3), (bs [62], 4), (bs [61], 5), (bs [33], 6), (bs [60, 61], 7), (bs [60, 33], 8)]
def openL (x : Text) (a i : Int) (g : Got) : List (ByteArray × Int) → Got
  | [] => g
  | p :: l => if isP x.s i p.1 = true then tokG { tokZ with kind := 10, n := p.2 } a (i + p.1.size) else openL x a i g l
def openTail (x : Text) (a i : Int) : Got :=
  if byteAt x.s i = 43 ∨ digitP (byteAt x.s i) = true ∨ (byteAt x.s i = 45 ∧ i + 1 < x.s.size ∧ digitP (byteAt x.s (i + 1)) = true) then
    (if (signedP x.s i).2.2.2 = true then badG 25 a
     else if (signedP x.s i).2.2.1 = i then (if i + 1 = x.s.size then endG x else badG 26 a)
     else if (shutP x { tokZ with kind := 12, n := (signedP x.s i).1, m := (signedP x.s i).2.1 } a (signedP x.s i).2.2.1 (bs [41]) 26).e = 0 ∧ (signedP x.s i).1 = 0 ∧ (signedP x.s i).2.1 ≠ 0 then badG 25 a
     else shutP x { tokZ with kind := 12, n := (signedP x.s i).1, m := (signedP x.s i).2.1 } a (signedP x.s i).2.2.1 (bs [41]) 26)
  else flagsP x a i
def openRest (x : Text) (a i : Int) : Got :=
  if isP x.s i (bs [35]) = true then (if stopAt x.s 41 i = x.s.size then endG x else skipG (stopAt x.s 41 i + 1))
  else if isP x.s i (bs [80, 60]) = true then calledP x { tokZ with kind := 10, n := 1 } a (i + 2) (bs [62])
  else if isP x.s i (bs [60]) = true then calledP x { tokZ with kind := 10, n := 1 } a (i + 1) (bs [62])
  else if isP x.s i (bs [39]) = true then calledP x { tokZ with kind := 10, n := 1 } a (i + 1) (bs [39])
  else if isP x.s i (bs [80, 61]) = true then calledP x { tokZ with kind := 11, m := 3 } a (i + 2) (bs [41])
  else if isP x.s i (bs [80, 62]) = true then calledP x { tokZ with kind := 12, m := 3 } a (i + 2) (bs [41])
  else if isP x.s i (bs [38]) = true then calledP x { tokZ with kind := 12, m := 3 } a (i + 1) (bs [41])
  else if isP x.s i (bs [82]) = true then shutP x { tokZ with kind := 12 } a (i + 1) (bs [41]) 26
  else if isP x.s i (bs [67]) = true then
    (if (numP x.s (i + 1)).2.2 = true then badG 25 a
     else shutP x { tokZ with kind := 14, n := (numP x.s (i + 1)).1 } a (numP x.s (i + 1)).2.1 (bs [41]) 26)
  else if isP x.s i (bs [40]) = true then conditionP x a (i + 1)
  else openTail x a i
def openP (x : Text) (a : Int) : Got :=
  if isP x.s (a + 1) (bs [42]) = true then verbP x a
  else if isP x.s (a + 1) (bs [63]) = false then tokG { tokZ with kind := 10, n := 1 } a (a + 1)
  else if a + 2 = x.s.size then endG x
  else openL x a (a + 2) (openRest x a (a + 2)) openList
attribute [local irreducible] isP numP signedP nameTo nameAt nameOk byteAt charP stopAt hexaP seqP atP nextP codeOf
attribute [local irreducible] verbP calledP shutP conditionP flagsP
theorem open_c (x : Text) (a : Int) (hx : x.s.size ≤ 100000) (h0 : 0 ≤ a) (h1 : a < x.s.size) :
    VCalls Try.prog 77 [x.enc, iv a] (fun r => r = (openP x a).enc) := by
  have l42 : isP x.s (a + 1) (bs [42]) = true → a + 2 ≤ x.s.size := fun h => by have := isP_le h; have hb : (bs [42]).size = 1 := rfl; omega
  have l63 : isP x.s (a + 1) (bs [63]) = true → a + 2 ≤ x.s.size := fun h => by have := isP_le h; have hb : (bs [63]).size = 1 := rfl; omega
  refine VCalls.ofr tabOk Try.func77 (by decide) rfl rfl ?_
  refine RWP.seqx tabOk orders ?_
  conv => whnf
  refine RWP.seqx tabOk orders ?_
  repeat' ((conv => whnf); (first
    | (with_reducible first | refine Spl.yes ?_ | refine Spl.no ?_ | refine Spl.dec (fun h => ?_) (fun h => ?_) | refine Spl.eq (fun h => ?_) (fun h => ?_) | refine Spl.ne (fun h => ?_) (fun h => ?_) | refine Spl.seq (fun h => ?_) (fun h => ?_) | refine Spl.not ?_ | refine Spl.any (fun h => ?_) (fun h => ?_))
    | (refine VCalls.mono (is_c x (a + 1) (bs [42]) (by omega) (by omega) (by omega) (by decide)) ?_; rintro _ rfl)
    | (refine VCalls.mono (verb_c x a hx h0 (l42 (by assumption))) ?_; rintro _ rfl)
    | ((with_reducible apply And.intro); first | omega | rfl | (dsimp only; omega))))
  all_goals (conv => whnf)
  · unfold openP
    (apply enc_by; (focus ((repeat (first | (apply ite_yes; (focus first | assumption | omega)) | (apply ite_no; (focus first | assumption | exact b_nt (by assumption) | exact b_nf (by assumption) | omega)) | (apply ite_yes; (focus (first | (simp [*]; done) | (simp [*, bs]; done)))) | (apply ite_no; (focus (first | (simp [*]; done) | (simp [*, bs]; done)))))); exact rfl)); rfl)
  refine RWP.seqx tabOk orders ?_
  repeat' ((conv => whnf); (first
    | (with_reducible first | refine Spl.yes ?_ | refine Spl.no ?_ | refine Spl.dec (fun h => ?_) (fun h => ?_) | refine Spl.eq (fun h => ?_) (fun h => ?_) | refine Spl.ne (fun h => ?_) (fun h => ?_) | refine Spl.seq (fun h => ?_) (fun h => ?_) | refine Spl.not ?_ | refine Spl.any (fun h => ?_) (fun h => ?_))
    | (refine VCalls.mono (is_c x (a + 1) (bs [63]) (by omega) (by omega) (by omega) (by decide)) ?_; rintro _ rfl)
    | (refine VCalls.mono (tok_c { tokZ with kind := 10, n := 1 } a (a + 1)) ?_; rintro _ rfl)
    | ((with_reducible apply And.intro); first | omega | rfl | (dsimp only; omega))))
  all_goals (conv => whnf)
  rotate_left
  · unfold openP
    (apply enc_by; (focus ((repeat (first | (apply ite_yes; (focus first | assumption | omega)) | (apply ite_no; (focus first | assumption | exact b_nt (by assumption) | exact b_nf (by assumption) | omega)) | (apply ite_yes; (focus (first | (simp [*]; done) | (simp [*, bs]; done)))) | (apply ite_no; (focus (first | (simp [*]; done) | (simp [*, bs]; done)))))); exact rfl)); rfl)
  refine RWP.seqx tabOk orders ?_
  repeat' ((conv => whnf); (first
    | (with_reducible first | refine Spl.yes ?_ | refine Spl.no ?_ | refine Spl.dec (fun h => ?_) (fun h => ?_) | refine Spl.eq (fun h => ?_) (fun h => ?_) | refine Spl.ne (fun h => ?_) (fun h => ?_) | refine Spl.seq (fun h => ?_) (fun h => ?_) | refine Spl.not ?_ | refine Spl.any (fun h => ?_) (fun h => ?_))
    | ((with_reducible apply And.intro); first | omega | rfl | (dsimp only; omega))))
  all_goals (conv => whnf)
  refine RWP.seqx tabOk orders ?_
  repeat' ((conv => whnf); (first
    | (with_reducible first | refine Spl.yes ?_ | refine Spl.no ?_ | refine Spl.dec (fun h => ?_) (fun h => ?_) | refine Spl.eq (fun h => ?_) (fun h => ?_) | refine Spl.ne (fun h => ?_) (fun h => ?_) | refine Spl.seq (fun h => ?_) (fun h => ?_) | refine Spl.not ?_ | refine Spl.any (fun h => ?_) (fun h => ?_))
    | (refine VCalls.mono (end_c x) ?_; rintro _ rfl)
    | ((with_reducible apply And.intro); first | omega | rfl | (dsimp only; omega))))
  all_goals (conv => whnf)
  · unfold openP
    (apply enc_by; (focus ((repeat (first | (apply ite_yes; (focus first | assumption | omega)) | (apply ite_no; (focus first | assumption | exact b_nt (by assumption) | exact b_nf (by assumption) | omega)) | (apply ite_yes; (focus (first | (simp [*]; done) | (simp [*, bs]; done)))) | (apply ite_no; (focus (first | (simp [*]; done) | (simp [*, bs]; done)))))); exact rfl)); rfl)
  have h2 : a + 2 < x.s.size := by
    have := l63 (by assumption)
    omega
  have e : openP x a = openL x a (a + 2) (openRest x a (a + 2)) openList := by
    symm
    unfold openP
    (repeat (first | (apply ite_yes; (focus first | assumption | omega)) | (apply ite_no; (focus first | assumption | exact b_nt (by assumption) | exact b_nf (by assumption) | omega)) | (apply ite_yes; (focus (first | (simp [*]; done) | (simp [*, bs]; done)))) | (apply ite_no; (focus (first | (simp [*]; done) | (simp [*, bs]; done))))))
    rfl
  rw [e]
  clear e
  generalize hi : a + 2 = i at *
  refine RWP.seqx tabOk orders ?_
  conv => whnf
  refine RWP.seqx tabOk orders ?_
  conv => whnf
  refine RWP.cut (fun st => st = ⟨286, [(1, .pv (iv a)), (2, .ptr 2 0), (4, .ptr 4 0), (5, .pv (iv i))], [(2, (82, x.cells)), (4, (90, gzero))], [], []⟩ ∧ openL x a i (openRest x a i) openList = openRest x a i) tabOk orders ?_ ?_
  · conv => whnf
    refine ⟨fun k st => ∃ (j : Nat) (v w : Bool), st = ⟨286, [(1, .pv (iv a)), (2, .ptr 2 0), (4, .ptr 4 0), (5, .pv (iv i)), (6, .own 44), (7, .own 45), (8, .pv (iv j))], [(2, (82, x.cells)), (4, (90, gzero))], [(44, ⟨1, 9, v, [[sv (bs [58])], [sv (bs [124])], [sv (bs [62])], [sv (bs [61])], [sv (bs [33])], [sv (bs [60, 61])], [sv (bs [60, 33])]]⟩), (45, ⟨1, 3, w, [[iv 2], [iv 3], [iv 4], [iv 5], [iv 6], [iv 7], [iv 8]]⟩)], []⟩ ∧ j ≤ 7 ∧ k = 7 - j ∧ openL x a i (openRest x a i) openList = openL x a i (openRest x a i) (openList.drop j),
      ⟨_, _, Wk.narrow _ [1, 2, 4, 5, 6, 7, 8] [2, 4] [44, 45], 0, _, _, rfl, by omega, rfl, rfl⟩, ?_⟩
    have z2 : ((bs [58]).size : Int) = 1 := rfl
    have z3 : ((bs [124]).size : Int) = 1 := rfl
    have z4 : ((bs [62]).size : Int) = 1 := rfl
    have z5 : ((bs [61]).size : Int) = 1 := rfl
    have z6 : ((bs [33]).size : Int) = 1 := rfl
    have z7 : ((bs [60, 61]).size : Int) = 2 := rfl
    have z8 : ((bs [60, 33]).size : Int) = 2 := rfl
    rintro k st ⟨j, v, w, rfl, hj, hk, hP⟩
    have h7 : j = 0 ∨ j = 1 ∨ j = 2 ∨ j = 3 ∨ j = 4 ∨ j = 5 ∨ j = 6 ∨ j = 7 := by omega
    rcases h7 with rfl | rfl | rfl | rfl | rfl | rfl | rfl | rfl
    · repeat' ((conv => whnf); (first
        | (with_reducible first | refine Spl.yes ?_ | refine Spl.no ?_ | refine Spl.dec (fun h => ?_) (fun h => ?_) | refine Spl.eq (fun h => ?_) (fun h => ?_) | refine Spl.ne (fun h => ?_) (fun h => ?_) | refine Spl.seq (fun h => ?_) (fun h => ?_) | refine Spl.not ?_ | refine Spl.any (fun h => ?_) (fun h => ?_))
        | refine drawn_text (by decide +kernel) ?_
        | (refine VCalls.mono (is_c x i (bs [58]) (by omega) (by omega) (by omega) (by decide)) ?_; rintro _ rfl)
        | (refine VCalls.mono (tok_c { tokZ with kind := 10, n := 2 } a (i + 1)) ?_; rintro _ rfl)
        | ((with_reducible apply And.intro); first | omega | rfl| (apply And.intro <;> exact Int.NonNeg.mk _) | exact And.intro rfl (Nat.le_of_ble_eq_true rfl))))
      all_goals (first
        | (exfalso; exact h (Int.NonNeg.mk _))
        | (conv => whnf
           first
             | exact enc_by (hP.trans (if_pos h)).symm rfl
             | exact ⟨6, _, by omega, Wk.narrow _ [1, 2, 4, 5, 6, 7, 8] [2, 4] [44, 45], 1, _, _, rfl, by omega, by omega, hP.trans (if_neg (b_nt h))⟩))
    · repeat' ((conv => whnf); (first
        | (with_reducible first | refine Spl.yes ?_ | refine Spl.no ?_ | refine Spl.dec (fun h => ?_) (fun h => ?_) | refine Spl.eq (fun h => ?_) (fun h => ?_) | refine Spl.ne (fun h => ?_) (fun h => ?_) | refine Spl.seq (fun h => ?_) (fun h => ?_) | refine Spl.not ?_ | refine Spl.any (fun h => ?_) (fun h => ?_))
        | refine drawn_text (by decide +kernel) ?_
        | (refine VCalls.mono (is_c x i (bs [124]) (by omega) (by omega) (by omega) (by decide)) ?_; rintro _ rfl)
        | (refine VCalls.mono (tok_c { tokZ with kind := 10, n := 3 } a (i + 1)) ?_; rintro _ rfl)
        | ((with_reducible apply And.intro); first | omega | rfl| (apply And.intro <;> exact Int.NonNeg.mk _) | exact And.intro rfl (Nat.le_of_ble_eq_true rfl))))
      all_goals (first
        | (exfalso; exact h (Int.NonNeg.mk _))
        | (conv => whnf
           first
             | exact enc_by (hP.trans (if_pos h)).symm rfl
             | exact ⟨5, _, by omega, Wk.narrow _ [1, 2, 4, 5, 6, 7, 8] [2, 4] [44, 45], 2, _, _, rfl, by omega, by omega, hP.trans (if_neg (b_nt h))⟩))
    · repeat' ((conv => whnf); (first
        | (with_reducible first | refine Spl.yes ?_ | refine Spl.no ?_ | refine Spl.dec (fun h => ?_) (fun h => ?_) | refine Spl.eq (fun h => ?_) (fun h => ?_) | refine Spl.ne (fun h => ?_) (fun h => ?_) | refine Spl.seq (fun h => ?_) (fun h => ?_) | refine Spl.not ?_ | refine Spl.any (fun h => ?_) (fun h => ?_))
        | refine drawn_text (by decide +kernel) ?_
        | (refine VCalls.mono (is_c x i (bs [62]) (by omega) (by omega) (by omega) (by decide)) ?_; rintro _ rfl)
        | (refine VCalls.mono (tok_c { tokZ with kind := 10, n := 4 } a (i + 1)) ?_; rintro _ rfl)
        | ((with_reducible apply And.intro); first | omega | rfl| (apply And.intro <;> exact Int.NonNeg.mk _) | exact And.intro rfl (Nat.le_of_ble_eq_true rfl))))
      all_goals (first
        | (exfalso; exact h (Int.NonNeg.mk _))
        | (conv => whnf
           first
             | exact enc_by (hP.trans (if_pos h)).symm rfl
             | exact ⟨4, _, by omega, Wk.narrow _ [1, 2, 4, 5, 6, 7, 8] [2, 4] [44, 45], 3, _, _, rfl, by omega, by omega, hP.trans (if_neg (b_nt h))⟩))
    · repeat' ((conv => whnf); (first
        | (with_reducible first | refine Spl.yes ?_ | refine Spl.no ?_ | refine Spl.dec (fun h => ?_) (fun h => ?_) | refine Spl.eq (fun h => ?_) (fun h => ?_) | refine Spl.ne (fun h => ?_) (fun h => ?_) | refine Spl.seq (fun h => ?_) (fun h => ?_) | refine Spl.not ?_ | refine Spl.any (fun h => ?_) (fun h => ?_))
        | refine drawn_text (by decide +kernel) ?_
        | (refine VCalls.mono (is_c x i (bs [61]) (by omega) (by omega) (by omega) (by decide)) ?_; rintro _ rfl)
        | (refine VCalls.mono (tok_c { tokZ with kind := 10, n := 5 } a (i + 1)) ?_; rintro _ rfl)
        | ((with_reducible apply And.intro); first | omega | rfl| (apply And.intro <;> exact Int.NonNeg.mk _) | exact And.intro rfl (Nat.le_of_ble_eq_true rfl))))
      all_goals (first
        | (exfalso; exact h (Int.NonNeg.mk _))
        | (conv => whnf
           first
             | exact enc_by (hP.trans (if_pos h)).symm rfl
             | exact ⟨3, _, by omega, Wk.narrow _ [1, 2, 4, 5, 6, 7, 8] [2, 4] [44, 45], 4, _, _, rfl, by omega, by omega, hP.trans (if_neg (b_nt h))⟩))
    · repeat' ((conv => whnf); (first
        | (with_reducible first | refine Spl.yes ?_ | refine Spl.no ?_ | refine Spl.dec (fun h => ?_) (fun h => ?_) | refine Spl.eq (fun h => ?_) (fun h => ?_) | refine Spl.ne (fun h => ?_) (fun h => ?_) | refine Spl.seq (fun h => ?_) (fun h => ?_) | refine Spl.not ?_ | refine Spl.any (fun h => ?_) (fun h => ?_))
        | refine drawn_text (by decide +kernel) ?_
        | (refine VCalls.mono (is_c x i (bs [33]) (by omega) (by omega) (by omega) (by decide)) ?_; rintro _ rfl)
        | (refine VCalls.mono (tok_c { tokZ with kind := 10, n := 6 } a (i + 1)) ?_; rintro _ rfl)
        | ((with_reducible apply And.intro); first | omega | rfl| (apply And.intro <;> exact Int.NonNeg.mk _) | exact And.intro rfl (Nat.le_of_ble_eq_true rfl))))
      all_goals (first
        | (exfalso; exact h (Int.NonNeg.mk _))
        | (conv => whnf
           first
             | exact enc_by (hP.trans (if_pos h)).symm rfl
             | exact ⟨2, _, by omega, Wk.narrow _ [1, 2, 4, 5, 6, 7, 8] [2, 4] [44, 45], 5, _, _, rfl, by omega, by omega, hP.trans (if_neg (b_nt h))⟩))
    · repeat' ((conv => whnf); (first
        | (with_reducible first | refine Spl.yes ?_ | refine Spl.no ?_ | refine Spl.dec (fun h => ?_) (fun h => ?_) | refine Spl.eq (fun h => ?_) (fun h => ?_) | refine Spl.ne (fun h => ?_) (fun h => ?_) | refine Spl.seq (fun h => ?_) (fun h => ?_) | refine Spl.not ?_ | refine Spl.any (fun h => ?_) (fun h => ?_))
        | refine drawn_text (by decide +kernel) ?_
        | (refine VCalls.mono (is_c x i (bs [60, 61]) (by omega) (by omega) (by omega) (by decide)) ?_; rintro _ rfl)
        | (refine VCalls.mono (tok_c { tokZ with kind := 10, n := 7 } a (i + 2)) ?_; rintro _ rfl)
        | ((with_reducible apply And.intro); first | omega | rfl| (apply And.intro <;> exact Int.NonNeg.mk _) | exact And.intro rfl (Nat.le_of_ble_eq_true rfl))))
      all_goals (first
        | (exfalso; exact h (Int.NonNeg.mk _))
        | (conv => whnf
           first
             | exact enc_by (hP.trans (if_pos h)).symm rfl
             | exact ⟨1, _, by omega, Wk.narrow _ [1, 2, 4, 5, 6, 7, 8] [2, 4] [44, 45], 6, _, _, rfl, by omega, by omega, hP.trans (if_neg (b_nt h))⟩))
    · repeat' ((conv => whnf); (first
        | (with_reducible first | refine Spl.yes ?_ | refine Spl.no ?_ | refine Spl.dec (fun h => ?_) (fun h => ?_) | refine Spl.eq (fun h => ?_) (fun h => ?_) | refine Spl.ne (fun h => ?_) (fun h => ?_) | refine Spl.seq (fun h => ?_) (fun h => ?_) | refine Spl.not ?_ | refine Spl.any (fun h => ?_) (fun h => ?_))
        | refine drawn_text (by decide +kernel) ?_
        | (refine VCalls.mono (is_c x i (bs [60, 33]) (by omega) (by omega) (by omega) (by decide)) ?_; rintro _ rfl)
        | (refine VCalls.mono (tok_c { tokZ with kind := 10, n := 8 } a (i + 2)) ?_; rintro _ rfl)
        | ((with_reducible apply And.intro); first | omega | rfl| (apply And.intro <;> exact Int.NonNeg.mk _) | exact And.intro rfl (Nat.le_of_ble_eq_true rfl))))
      all_goals (first
        | (exfalso; exact h (Int.NonNeg.mk _))
        | (conv => whnf
           first
             | exact enc_by (hP.trans (if_pos h)).symm rfl
             | exact ⟨0, _, by omega, Wk.narrow _ [1, 2, 4, 5, 6, 7, 8] [2, 4] [44, 45], 7, _, _, rfl, by omega, by omega, hP.trans (if_neg (b_nt h))⟩))
    · repeat' ((conv => whnf); (first
        | (with_reducible first | refine Spl.yes ?_ | refine Spl.no ?_ | refine Spl.dec (fun h => ?_) (fun h => ?_) | refine Spl.eq (fun h => ?_) (fun h => ?_) | refine Spl.ne (fun h => ?_) (fun h => ?_) | refine Spl.seq (fun h => ?_) (fun h => ?_) | refine Spl.not ?_ | refine Spl.any (fun h => ?_) (fun h => ?_))
        | ((with_reducible apply And.intro); first | omega | rfl| (apply And.intro <;> exact Int.NonNeg.mk _) | exact And.intro rfl (Nat.le_of_ble_eq_true rfl))))
      all_goals (first
        | (exfalso; exact Int.lt_irrefl 7 h)
        | (exfalso; exact h (Int.NonNeg.mk _))
        | (conv => whnf
           exact ⟨_, Wk.narrow _ [1, 2, 4, 5] [2, 4] [], rfl, hP⟩))
  rintro _ ⟨rfl, e⟩
  rw [e]
  clear e
  have b62 : (bs [62]).size = 1 := rfl
  have b41 : (bs [41]).size = 1 := rfl
  have b39 : (bs [39]).size = 1 := rfl
  have l80_60 : isP x.s i (bs [80, 60]) = true → i + 2 ≤ x.s.size := fun h => by have := isP_le h; have hb : (bs [80, 60]).size = 2 := rfl; omega
  have l80_61 : isP x.s i (bs [80, 61]) = true → i + 2 ≤ x.s.size := fun h => by have := isP_le h; have hb : (bs [80, 61]).size = 2 := rfl; omega
  have l80_62 : isP x.s i (bs [80, 62]) = true → i + 2 ≤ x.s.size := fun h => by have := isP_le h; have hb : (bs [80, 62]).size = 2 := rfl; omega
  have hnm := numP_range x.s (i + 1)
  have hst := stopAt_range x.s 41 i (by omega)
  refine RWP.seqx tabOk orders ?_
  conv => whnf
  have hx6 : x.s.size ≤ 1000000 := by omega
  refine RWP.cut (fun st => st = ⟨286, [(1, .pv (iv a)), (2, .ptr 2 0), (4, .ptr 4 0), (5, .pv (iv i))], [(2, (82, x.cells)), (4, (90, gzero))], [], []⟩ ∧ openRest x a i = openTail x a i) tabOk orders ?_ ?_
  · repeat' ((conv => whnf); (first
    | (with_reducible first | refine Spl.yes ?_ | refine Spl.no ?_ | refine Spl.dec (fun h => ?_) (fun h => ?_) | refine Spl.eq (fun h => ?_) (fun h => ?_) | refine Spl.ne (fun h => ?_) (fun h => ?_) | refine Spl.seq (fun h => ?_) (fun h => ?_) | refine Spl.not ?_ | refine Spl.any (fun h => ?_) (fun h => ?_))
    | (refine VCalls.mono (is_c x i (bs [35]) (by omega) (by omega) (by omega) (by decide)) ?_; rintro _ rfl)
    | (refine VCalls.mono (is_c x i (bs [80, 60]) (by omega) (by omega) (by omega) (by decide)) ?_; rintro _ rfl)
    | (refine VCalls.mono (is_c x i (bs [60]) (by omega) (by omega) (by omega) (by decide)) ?_; rintro _ rfl)
    | (refine VCalls.mono (is_c x i (bs [39]) (by omega) (by omega) (by omega) (by decide)) ?_; rintro _ rfl)
    | (refine VCalls.mono (is_c x i (bs [80, 61]) (by omega) (by omega) (by omega) (by decide)) ?_; rintro _ rfl)
    | (refine VCalls.mono (is_c x i (bs [80, 62]) (by omega) (by omega) (by omega) (by decide)) ?_; rintro _ rfl)
    | (refine VCalls.mono (is_c x i (bs [38]) (by omega) (by omega) (by omega) (by decide)) ?_; rintro _ rfl)
    | (refine VCalls.mono (is_c x i (bs [82]) (by omega) (by omega) (by omega) (by decide)) ?_; rintro _ rfl)
    | (refine VCalls.mono (is_c x i (bs [67]) (by omega) (by omega) (by omega) (by decide)) ?_; rintro _ rfl)
    | (refine VCalls.mono (is_c x i (bs [40]) (by omega) (by omega) (by omega) (by decide)) ?_; rintro _ rfl)
    | (refine VCalls.mono (called_c x { tokZ with kind := 10, n := 1 } a (i + 2) (bs [62]) hx6 (by omega) (l80_60 (by assumption)) (by decide)) ?_; rintro _ rfl)
    | (refine VCalls.mono (called_c x { tokZ with kind := 10, n := 1 } a (i + 1) (bs [62]) hx6 (by omega) (by omega) (by decide)) ?_; rintro _ rfl)
    | (refine VCalls.mono (called_c x { tokZ with kind := 10, n := 1 } a (i + 1) (bs [39]) hx6 (by omega) (by omega) (by decide)) ?_; rintro _ rfl)
    | (refine VCalls.mono (called_c x { tokZ with kind := 11, m := 3 } a (i + 2) (bs [41]) hx6 (by omega) (l80_61 (by assumption)) (by decide)) ?_; rintro _ rfl)
    | (refine VCalls.mono (called_c x { tokZ with kind := 12, m := 3 } a (i + 2) (bs [41]) hx6 (by omega) (l80_62 (by assumption)) (by decide)) ?_; rintro _ rfl)
    | (refine VCalls.mono (called_c x { tokZ with kind := 12, m := 3 } a (i + 1) (bs [41]) hx6 (by omega) (by omega) (by decide)) ?_; rintro _ rfl)
    | (refine VCalls.mono (shut_c x { tokZ with kind := 12 } a (i + 1) (bs [41]) 26 hx6 (by omega) (by omega) (by decide)) ?_; rintro _ rfl)
    | (refine VCalls.mono (number_c x (i + 1) (by omega) (by omega) hx6) ?_; rintro _ rfl)
    | (refine VCalls.mono (bad_c _ _) ?_; rintro _ rfl)
    | (refine VCalls.mono (shut_c x { tokZ with kind := 14, n := (numP x.s (i + 1)).1 } a (numP x.s (i + 1)).2.1 (bs [41]) 26 hx6 (by omega) (by omega) (by decide)) ?_; rintro _ rfl)
    | (refine VCalls.mono (condition_c x a (i + 1) hx h0 (by omega) (by omega) (by omega)) ?_; rintro _ rfl)
    | ((with_reducible apply And.intro); first | omega | rfl | (dsimp only; omega))))
    all_goals (conv => whnf)
    · refine ⟨fun k st => ∃ j, st = ⟨286, [(1, .pv (iv a)), (2, .ptr 2 0), (4, .ptr 4 0), (5, .pv (iv j))], [(2, (82, x.cells)), (4, (90, gzero))], [], []⟩ ∧ i ≤ j ∧ j ≤ x.s.size ∧ k = (x.s.size - j).toNat ∧ stopAt x.s 41 i = stopL x.s 41 k j,
        ⟨_, _, Wk.narrow _ [1, 2, 4, 5] [2, 4] [], i, rfl, by omega, by omega, rfl, by unfold stopAt; rfl⟩, ?_⟩
      rintro k st ⟨j, rfl, hj0, hj1, hk, hP⟩
      repeat' ((conv => whnf); (first
        | (with_reducible first | refine Spl.yes ?_ | refine Spl.no ?_ | refine Spl.dec (fun h => ?_) (fun h => ?_) | refine Spl.eq (fun h => ?_) (fun h => ?_) | refine Spl.ne (fun h => ?_) (fun h => ?_) | refine Spl.seq (fun h => ?_) (fun h => ?_) | refine Spl.not ?_ | refine Spl.any (fun h => ?_) (fun h => ?_))
        | (refine VCalls.mono (end_c x) ?_; rintro _ rfl)
        | ((with_reducible apply And.intro); first | omega | rfl | (dsimp only; omega))))
      all_goals (conv => whnf)
      all_goals first
        | (exfalso; omega)
        | (obtain ⟨k, rfl⟩ : ∃ m, k = m + 1 := ⟨k - 1, by omega⟩
           rw [stopL_go (by assumption) (by assumption)] at hP
           exact ⟨k, _, by omega, Wk.narrow _ [1, 2, 4, 5] [2, 4] [], j + 1, rfl, by omega, by omega, by omega, hP⟩)
        | (have e : stopAt x.s 41 i = j := by rw [hP]; exact stopL_end hk (by first | exact .inl (by omega) | exact .inr (by assumption))
           clear hP hk
           unfold openRest
           rw [e]
           (apply enc_by; (focus ((repeat (first | (apply ite_yes; (focus first | assumption | omega)) | (apply ite_no; (focus first | assumption | exact b_nt (by assumption) | exact b_nf (by assumption) | omega)) | (apply ite_yes; (focus (first | (simp [*]; done) | (simp [*, bs]; done)))) | (apply ite_no; (focus (first | (simp [*]; done) | (simp [*, bs]; done)))))); exact rfl)); rfl))
    iterate 10 (
      · unfold openRest
        (apply enc_by; (focus ((repeat (first | (apply ite_yes; (focus first | assumption | omega)) | (apply ite_no; (focus first | assumption | exact b_nt (by assumption) | exact b_nf (by assumption) | omega)) | (apply ite_yes; (focus (first | (simp [*]; done) | (simp [*, bs]; done)))) | (apply ite_no; (focus (first | (simp [*]; done) | (simp [*, bs]; done)))))); exact rfl)); rfl))
    exact ⟨_, Wk.narrow _ [1, 2, 4, 5] [2, 4] [], rfl, by
      symm
      unfold openRest
      (repeat (first | (apply ite_yes; (focus first | assumption | omega)) | (apply ite_no; (focus first | assumption | exact b_nt (by assumption) | exact b_nf (by assumption) | omega)) | (apply ite_yes; (focus (first | (simp [*]; done) | (simp [*, bs]; done)))) | (apply ite_no; (focus (first | (simp [*]; done) | (simp [*, bs]; done))))))
      rfl⟩
  rintro _ ⟨rfl, e⟩
  rw [e]
  clear e
  have hb := byteAt_range x.s i
  have hsg := signedP_range x.s i (by omega)
  refine RWP.cut (fun st => st = ⟨286, [(1, .pv (iv a)), (2, .ptr 2 0), (4, .ptr 4 0), (5, .pv (iv i))], [(2, (82, x.cells)), (4, (90, gzero))], [], []⟩ ∧ openTail x a i = flagsP x a i) tabOk orders ?_ ?_
  · repeat' ((conv => whnf); (first
    | (with_reducible first | refine Spl.yes ?_ | refine Spl.no ?_ | refine Spl.dec (fun h => ?_) (fun h => ?_) | refine Spl.eq (fun h => ?_) (fun h => ?_) | refine Spl.ne (fun h => ?_) (fun h => ?_) | refine Spl.seq (fun h => ?_) (fun h => ?_) | refine Spl.not ?_ | refine Spl.any (fun h => ?_) (fun h => ?_))
    | (refine VCalls.mono (digit_c _) ?_; rintro _ rfl)
    | (refine VCalls.mono (signed_c x i hx6 (by omega) (by omega)) ?_; rintro _ rfl)
    | (refine VCalls.mono (end_c x) ?_; rintro _ rfl)
    | (refine VCalls.mono (bad_c _ _) ?_; rintro _ rfl)
    | (refine VCalls.mono (shut_c x { tokZ with kind := 12, n := (signedP x.s i).1, m := (signedP x.s i).2.1 } a (signedP x.s i).2.2.1 (bs [41]) 26 hx6 (by omega) (by omega) (by decide)) ?_; rintro _ rfl)
    | ((with_reducible apply And.intro); first | omega | rfl | (dsimp only; omega))))
    all_goals (conv => whnf)
    all_goals first
      | (exfalso; omega)
      | exact ⟨_, Wk.narrow _ [1, 2, 4, 5] [2, 4] [], rfl, by
          unfold openTail
          refine if_neg ?_
          rintro (q | q | ⟨q1, q2, q3⟩)
          · omega
          · exact b_nt (by assumption) q
          · first
              | omega
              | exact b_nt (by assumption) q3⟩
      | (have hq : byteAt x.s i = 43 ∨ digitP (byteAt x.s i) = true ∨ (byteAt x.s i = 45 ∧ i + 1 < x.s.size ∧ digitP (byteAt x.s (i + 1)) = true) := by
           first
             | exact .inl (by assumption)
             | exact .inr (.inl (by assumption))
             | exact .inr (.inr ⟨by assumption, by assumption, by assumption⟩)
         unfold openTail
         (apply enc_by; (focus ((repeat (first | (apply ite_yes; (focus first | assumption | omega)) | (apply ite_no; (focus first | assumption | exact b_nt (by assumption) | exact b_nf (by assumption) | omega)) | (apply ite_yes; (focus (first | (simp [*]; done) | (simp [*, bs]; done)))) | (apply ite_no; (focus (first | (simp [*]; done) | (simp [*, bs]; done)))))); exact rfl)); rfl))
  rintro _ ⟨rfl, e⟩
  rw [e]
  refine RWP.of tabOk orders ?_
  repeat' ((conv => whnf); (first
    | (with_reducible first | refine Spl.yes ?_ | refine Spl.no ?_ | refine Spl.dec (fun h => ?_) (fun h => ?_) | refine Spl.eq (fun h => ?_) (fun h => ?_) | refine Spl.ne (fun h => ?_) (fun h => ?_) | refine Spl.seq (fun h => ?_) (fun h => ?_) | refine Spl.not ?_ | refine Spl.any (fun h => ?_) (fun h => ?_))
    | (refine VCalls.mono (flags_c x a i hx6 (by omega) (by omega)) ?_; rintro _ rfl)
    | ((with_reducible apply And.intro); first | omega | rfl | (dsimp only; omega))))
  all_goals (conv => whnf)
  exact rfl
end Go.Proofs.Ytnoohgiecnmajaa.VC

/- Sets of characters: membership. -/
namespace Go.Proofs.Ytnoohgiecnmajaa.VC
open Go Go.RowKit
set_option linter.unusedVariables false
set_option linter.unusedSimpArgs false
set_option maxHeartbeats 4000000

def rdp (l : List (Int × Int)) (j : Int) : Int × Int := l.getD j.toNat (0, 0)
theorem rows2_len (l : List (Int × Int)) : (rows2 l).length = l.length := by simp [rows2]
theorem rows2_get {l : List (Int × Int)} {j : Int} (h : j.toNat < l.length) : (rows2 l).getD j.toNat [] = [iv (rdp l j).1, iv (rdp l j).2] := by
  simp [rows2, rdp, List.getD_eq_getElem?_getD, List.getElem?_eq_getElem h]
def inP (l : List (Int × Int)) (c : Int) : Bool := l.any fun p => decide (p.1 ≤ c ∧ c ≤ p.2)
theorem drop_step {l : List (Int × Int)} {j : Int} (h0 : 0 ≤ j) (h : j < l.length) : l.drop j.toNat = rdp l j :: l.drop (j + 1).toNat := by
  have e : (j + 1).toNat = j.toNat + 1 := by omega
  rw [e, List.drop_eq_getElem_cons (by omega)]
  simp [rdp, List.getD_eq_getElem?_getD, List.getElem?_eq_getElem (show j.toNat < l.length by omega)]
theorem in_c (l : List (Int × Int)) (c : Int) (hl : l.length ≤ 10000000000) : VCalls Try.prog 125 [rs l, iv c] (fun r => r = bv (inP l c)) := by
  have hn := rows2_len l
  refine VCalls.ofx tabOk orders Try.func125 (by decide) rfl rfl ?_
  conv => whnf
  refine ⟨fun k st => ∃ j, st = ⟨28, [(0, .pv (rs l)), (1, .pv (iv c)), (4, .pv (bv false)), (5, .pv (iv j))], [], [], []⟩ ∧ 0 ≤ j ∧ j ≤ l.length ∧ k = (l.length - j).toNat ∧ inP l c = inP (l.drop j.toNat) c,
    ⟨_, _, Wk.narrow _ [0, 1, 4, 5] [] [], 0, rfl, by omega, by omega, rfl, rfl⟩, ?_⟩
  rintro k st ⟨j, rfl, hj0, hj1, hk, hP⟩
  repeat' ((conv => whnf); (first
    | (with_reducible first | refine Spl.yes ?_ | refine Spl.no ?_ | refine Spl.dec (fun h => ?_) (fun h => ?_) | refine Spl.eq (fun h => ?_) (fun h => ?_) | refine Spl.ne (fun h => ?_) (fun h => ?_) | refine Spl.seq (fun h => ?_) (fun h => ?_) | refine Spl.not ?_ | refine Spl.any (fun h => ?_) (fun h => ?_))
    | (rw [rows2_get (by omega)])
    | ((with_reducible apply And.intro); first | omega | rfl | (dsimp only; omega))))
  all_goals (conv => whnf)
  · have e : inP l c = true := by
      rw [hP, drop_step hj0 (by omega)]
      unfold inP
      rw [List.any_cons, decide_eq_true ⟨by assumption, by assumption⟩]
      rfl
    rw [e]; rfl
  · have e : inP (l.drop j.toNat) c = inP (l.drop (j + 1).toNat) c := by
      rw [drop_step hj0 (by omega)]
      unfold inP
      rw [List.any_cons, decide_eq_false (fun q => absurd q.2 (by assumption))]
      rfl
    exact ⟨(l.length - (j + 1)).toNat, _, by omega, Wk.narrow _ [0, 1, 4, 5] [] [], j + 1, rfl, by omega, by omega, rfl, hP.trans e⟩
  · have e : inP (l.drop j.toNat) c = inP (l.drop (j + 1).toNat) c := by
      rw [drop_step hj0 (by omega)]
      unfold inP
      rw [List.any_cons, decide_eq_false (fun q => absurd q.1 (by assumption))]
      rfl
    exact ⟨(l.length - (j + 1)).toNat, _, by omega, Wk.narrow _ [0, 1, 4, 5] [] [], j + 1, rfl, by omega, by omega, rfl, hP.trans e⟩
  · have e : inP l c = false := by
      rw [hP, List.drop_eq_nil_of_le (by omega)]
      rfl
    rw [e]; rfl
end Go.Proofs.Ytnoohgiecnmajaa.VC

/- Sets of characters: edges. -/
namespace Go.Proofs.Ytnoohgiecnmajaa.VC
open Go Go.RowKit
set_option linter.unusedVariables false
set_option linter.unusedSimpArgs false
set_option maxHeartbeats 4000000

@[reducible] def rows1 (l : List Int) : List (List SV) := l.map fun c => [iv c]
@[reducible] def is (l : List Int) : SV := .sl 1 (rows1 l)
def rd1 (l : List Int) (j : Int) : Int := l.getD j.toNat 0
theorem rows1_len (l : List Int) : (rows1 l).length = l.length := by simp [rows1]
theorem rows1_get {l : List Int} {j : Int} (h : j.toNat < l.length) : (rows1 l).getD j.toNat [] = [iv (rd1 l j)] := by
  simp [rows1, rd1, List.getD_eq_getElem?_getD, List.getElem?_eq_getElem h]
def putP (n : Int) : List Int → List Int
  | [] => [n]
  | x :: l => if x < n then x :: putP n l else if x = n then x :: l else n :: x :: l
theorem drop_step1 {l : List Int} {j : Int} (h0 : 0 ≤ j) (h : j < l.length) : l.drop j.toNat = rd1 l j :: l.drop (j + 1).toNat := by
  have e : (j + 1).toNat = j.toNat + 1 := by omega
  rw [e, List.drop_eq_getElem_cons (by omega)]
  simp [rd1, List.getD_eq_getElem?_getD, List.getElem?_eq_getElem (show j.toNat < l.length by omega)]
theorem take_step1 {l : List Int} {j : Int} (h0 : 0 ≤ j) (h : j < l.length) : l.take (j + 1).toNat = l.take j.toNat ++ [rd1 l j] := by
  have e : (j + 1).toNat = j.toNat + 1 := by omega
  rw [e, List.take_succ_eq_append_getElem (by omega)]
  simp [rd1, List.getD_eq_getElem?_getD, List.getElem?_eq_getElem (show j.toNat < l.length by omega)]
theorem put_c (l : List Int) (n : Int) (hl : l.length ≤ 10000000000) : VCalls Try.prog 132 [is l, iv n] (fun r => r = is (putP n l)) := by
  have hn := rows1_len l
  refine VCalls.ofx tabOk orders Try.func132 (by decide) rfl rfl ?_
  conv => whnf
  refine ⟨fun k st => ∃ j, st = ⟨48, [(0, .pv (is l)), (1, .pv (iv n)), (5, .pv (iv j))], [], [], []⟩ ∧ 0 ≤ j ∧ j ≤ l.length ∧ k = (l.length - j).toNat ∧ putP n l = l.take j.toNat ++ putP n (l.drop j.toNat),
    ⟨_, _, Wk.narrow _ [0, 1, 5] [] [], 0, rfl, by omega, by omega, rfl, by simp⟩, ?_⟩
  rintro k st ⟨j, rfl, hj0, hj1, hk, hP⟩
  have hX : (¬ j < l.length ∨ ¬ rd1 l j < n ∧ rd1 l j ≠ n) → List.drop (Int.toNat 0) (List.take j.toNat (rows1 l)) ++ [[iv n]] ++ List.drop j.toNat (List.take (rows1 l).length (rows1 l)) = rows1 (putP n l) := by
    intro hh
    have e : putP n (l.drop j.toNat) = n :: l.drop j.toNat := by
      by_cases q : j < l.length
      · rw [drop_step1 hj0 q, putP, if_neg (by rcases hh with w | w; exact absurd q w; exact w.1), if_neg (by rcases hh with w | w; exact absurd q w; exact w.2)]
      · rw [List.drop_eq_nil_of_le (by omega)]; rfl
    rw [List.take_of_length_le (Nat.le_refl _), hP, e]
    simp [rows1]
  repeat' ((conv => whnf); (first
    | (with_reducible first | refine Spl.yes ?_ | refine Spl.no ?_ | refine Spl.dec (fun h => ?_) (fun h => ?_) | refine Spl.eq (fun h => ?_) (fun h => ?_) | refine Spl.ne (fun h => ?_) (fun h => ?_) | refine Spl.seq (fun h => ?_) (fun h => ?_) | refine Spl.not ?_ | refine Spl.any (fun h => ?_) (fun h => ?_))
    | (rw [rows1_get (by omega)])
    | ((with_reducible apply And.intro); first | omega | rfl | (dsimp only; omega))
    | refine And.intro (by simp [ti3, hn]; omega) ?_))
  all_goals (conv => whnf)
  · have e : putP n (l.drop j.toNat) = rd1 l j :: putP n (l.drop (j + 1).toNat) := by rw [drop_step1 hj0 (by omega), putP, if_pos h]
    refine ⟨(l.length - (j + 1)).toNat, _, by omega, Wk.narrow _ [0, 1, 5] [] [], j + 1, rfl, by omega, by omega, rfl, ?_⟩
    rw [hP, e, take_step1 hj0 (by omega)]
    simp
  all_goals first
    | exact Eq.trans rfl (congrArg (SV.sl 1) (hX (by first | exact .inl (by omega) | exact .inr ⟨by assumption, by assumption⟩)))
    | (exfalso; omega)
    | (have e : putP n (l.drop j.toNat) = l.drop j.toNat := by rw [drop_step1 hj0 (by omega), putP, if_neg (by assumption), if_pos (by assumption)]
       rw [e, List.take_append_drop] at hP
       rw [hP]
       rfl)
end Go.Proofs.Ytnoohgiecnmajaa.VC

/- Sets of characters: edges. -/
namespace Go.Proofs.Ytnoohgiecnmajaa.VC
open Go Go.RowKit
set_option linter.unusedVariables false
set_option linter.unusedSimpArgs false
set_option maxHeartbeats 4000000

def edgeStep (most : Int) (out : List Int) (p : Int × Int) : List Int :=
  let o1 := if p.1 > 0 ∧ p.1 ≤ most then putP p.1 out else out
  if p.2 ≥ 0 ∧ p.2 < most then putP (p.2 + 1) o1 else o1
def edgesP (l : List (Int × Int)) (m : Int) : List Int :=
  let most := if m > 1114111 then 1114111 else m
  if most < 0 then [] else l.foldl (edgeStep most) [0, most + 1]
theorem putP_len (n : Int) : ∀ l : List Int, (putP n l).length ≤ l.length + 1
  | [] => by simp [putP]
  | x :: l => by
    unfold putP
    have := putP_len n l
    split
    · simp; omega
    split
    · simp
    · simp
theorem edgeStep_len (most : Int) (out : List Int) (p : Int × Int) : (edgeStep most out p).length ≤ out.length + 2 := by
  unfold edgeStep
  have h1 := putP_len p.1 out
  simp only
  split
  · split
    · have := putP_len (p.2 + 1) (putP p.1 out); omega
    · have := putP_len (p.2 + 1) out; omega
  · split <;> omega
theorem edges_c (l : List (Int × Int)) (m : Int) (hl : l.length ≤ 4000000000) : VCalls Try.prog 128 [rs l, iv m] (fun r => r = is (edgesP l m)) := by
  have hn := rows2_len l
  refine VCalls.ofr tabOk Try.func128 (by decide) rfl rfl ?_
  refine RWP.seqx tabOk orders ?_
  conv => whnf
  refine RWP.cut (fun st => st = ⟨66, [(0, .pv (rs l)), (1, .pv (iv (if m > 1114111 then 1114111 else m)))], [], [], []⟩) tabOk orders ?_ ?_
  · repeat' ((conv => whnf); (first
    | (with_reducible first | refine Spl.yes ?_ | refine Spl.no ?_ | refine Spl.dec (fun h => ?_) (fun h => ?_) | refine Spl.eq (fun h => ?_) (fun h => ?_) | refine Spl.ne (fun h => ?_) (fun h => ?_) | refine Spl.seq (fun h => ?_) (fun h => ?_) | refine Spl.not ?_ | refine Spl.any (fun h => ?_) (fun h => ?_))
    | ((with_reducible apply And.intro); first | omega | rfl | (dsimp only; omega))))
    all_goals (conv => whnf)
    · exact ⟨_, Wk.narrow _ [0, 1] [] [], by rw [if_pos h]; rfl⟩
    · exact ⟨_, Wk.narrow _ [0, 1] [] [], by rw [if_neg h]; rfl⟩
  rintro _ rfl
  unfold edgesP
  have hm : (if m > 1114111 then 1114111 else m) ≤ 1114111 := by split <;> omega
  generalize (if m > 1114111 then 1114111 else m) = most at *
  simp only
  refine RWP.seqx tabOk orders ?_
  repeat' ((conv => whnf); (first
    | (with_reducible first | refine Spl.yes ?_ | refine Spl.no ?_ | refine Spl.dec (fun h => ?_) (fun h => ?_) | refine Spl.eq (fun h => ?_) (fun h => ?_) | refine Spl.ne (fun h => ?_) (fun h => ?_) | refine Spl.seq (fun h => ?_) (fun h => ?_) | refine Spl.not ?_ | refine Spl.any (fun h => ?_) (fun h => ?_))
    | ((with_reducible apply And.intro); first | omega | rfl | (dsimp only; omega))))
  all_goals (conv => whnf)
  · rw [if_pos h]
    rfl
  rw [if_neg h]
  refine RWP.seqx tabOk orders ?_
  repeat' ((conv => whnf); (first
    | (with_reducible first | refine Spl.yes ?_ | refine Spl.no ?_ | refine Spl.dec (fun h => ?_) (fun h => ?_) | refine Spl.eq (fun h => ?_) (fun h => ?_) | refine Spl.ne (fun h => ?_) (fun h => ?_) | refine Spl.seq (fun h => ?_) (fun h => ?_) | refine Spl.not ?_ | refine Spl.any (fun h => ?_) (fun h => ?_))
    | ((with_reducible apply And.intro); first | omega | rfl | (dsimp only; omega))))
  all_goals (conv => whnf)
  refine RWP.of tabOk orders ?_
  conv => whnf
  refine ⟨fun k st => ∃ (j : Int) (o : List Int), (st = ⟨66, [(0, .pv (rs l)), (1, .pv (iv most)), (5, .pv (is o)), (6, .pv (iv j))], [], [], []⟩ ∨ ∃ v, st = ⟨66, [(0, .pv (rs l)), (1, .pv (iv most)), (5, .own 13), (6, .pv (iv j))], [], [(13, ⟨1, 3, v, rows1 o⟩)], []⟩) ∧ 0 ≤ j ∧ j ≤ l.length ∧ k = (l.length - j).toNat ∧ o.length ≤ 2 * j + 2 ∧ l.foldl (edgeStep most) [0, most + 1] = (l.drop j.toNat).foldl (edgeStep most) o,
    ⟨_, _, Wk.narrow _ [0, 1, 5, 6] [] [13], 0, [0, most + 1], .inr ⟨_, rfl⟩, by omega, by omega, rfl, by simp, rfl⟩, ?_⟩
  rintro k st ⟨j, o, hst, hj0, hj1, hk, ho, hP⟩
  have ho1 := putP_len (rdp l j).1 o
  have ho2 := putP_len ((rdp l j).2 + 1) o
  have ho3 := putP_len ((rdp l j).2 + 1) (putP (rdp l j).1 o)
  have key : j < (rows2 l).length → ∀ o', o' = edgeStep most o (rdp l j) → l.foldl (edgeStep most) [0, most + 1] = (l.drop (j + 1).toNat).foldl (edgeStep most) o' := by
    intro hj o' e
    rw [hP, drop_step hj0 (by omega), List.foldl_cons, e]
  have fin_ : ¬ j < (rows2 l).length → o = l.foldl (edgeStep most) [0, most + 1] := by
    intro hj
    rw [hP, List.drop_eq_nil_of_le (by omega)]
    rfl
  rcases hst with rfl | ⟨v, rfl⟩
  · repeat' ((conv => whnf); (first
      | (with_reducible first | refine Spl.yes ?_ | refine Spl.no ?_ | refine Spl.dec (fun h => ?_) (fun h => ?_) | refine Spl.eq (fun h => ?_) (fun h => ?_) | refine Spl.ne (fun h => ?_) (fun h => ?_) | refine Spl.seq (fun h => ?_) (fun h => ?_) | refine Spl.not ?_ | refine Spl.any (fun h => ?_) (fun h => ?_))
      | (rw [rows2_get (by omega)])
      | (refine VCalls.mono (put_c o (rdp l j).1 (by omega)) ?_; rintro _ rfl)
      | (refine VCalls.mono (put_c o ((rdp l j).2 + 1) (by omega)) ?_; rintro _ rfl)
      | (refine VCalls.mono (put_c (putP (rdp l j).1 o) ((rdp l j).2 + 1) (by omega)) ?_; rintro _ rfl)
      | ((with_reducible apply And.intro); first | omega | rfl | (dsimp only; omega))))
    all_goals (conv => whnf)
    all_goals first
      | (rw [← fin_ (by assumption)]; rfl)
      | (refine ⟨(l.length - (j + 1)).toNat, _, by omega, Wk.narrow _ [0, 1, 5, 6] [] [], j + 1, _, .inl rfl, by omega, by omega, rfl, by omega, key (by assumption) _ ?_⟩
         unfold edgeStep
         simp only
         first
           | (rw [if_pos ⟨by assumption, by assumption⟩, if_pos ⟨by assumption, by assumption⟩])
           | (rw [if_pos ⟨by assumption, by assumption⟩, if_neg (by omega)])
           | (rw [if_neg (by omega), if_pos ⟨by assumption, by assumption⟩])
           | (rw [if_neg (by omega), if_neg (by omega)]))
  · repeat' ((conv => whnf); (first
      | (with_reducible first | refine Spl.yes ?_ | refine Spl.no ?_ | refine Spl.dec (fun h => ?_) (fun h => ?_) | refine Spl.eq (fun h => ?_) (fun h => ?_) | refine Spl.ne (fun h => ?_) (fun h => ?_) | refine Spl.seq (fun h => ?_) (fun h => ?_) | refine Spl.not ?_ | refine Spl.any (fun h => ?_) (fun h => ?_))
      | (rw [rows2_get (by omega)])
      | (refine VCalls.mono (put_c o (rdp l j).1 (by omega)) ?_; rintro _ rfl)
      | (refine VCalls.mono (put_c o ((rdp l j).2 + 1) (by omega)) ?_; rintro _ rfl)
      | (refine VCalls.mono (put_c (putP (rdp l j).1 o) ((rdp l j).2 + 1) (by omega)) ?_; rintro _ rfl)
      | ((with_reducible apply And.intro); first | omega | rfl | (dsimp only; omega))))
    all_goals (conv => whnf)
    all_goals first
      | (rw [← fin_ (by assumption)]; rfl)
      | (refine ⟨(l.length - (j + 1)).toNat, _, by omega, Wk.narrow _ [0, 1, 5, 6] [] [], j + 1, _, .inl rfl, by omega, by omega, rfl, by omega, key (by assumption) _ ?_⟩
         unfold edgeStep
         simp only
         first
           | (rw [if_pos ⟨by assumption, by assumption⟩, if_pos ⟨by assumption, by assumption⟩])
           | (rw [if_pos ⟨by assumption, by assumption⟩, if_neg (by omega)])
           | (rw [if_neg (by omega), if_pos ⟨by assumption, by assumption⟩])
           | (rw [if_neg (by omega), if_neg (by omega)]))
      | (refine ⟨(l.length - (j + 1)).toNat, _, by omega, Wk.narrow _ [0, 1, 5, 6] [] [13], j + 1, o, .inr ⟨_, rfl⟩, by omega, by omega, rfl, by omega, key (by assumption) _ ?_⟩
         unfold edgeStep
         simp only
         first
           | (rw [if_pos ⟨by assumption, by assumption⟩, if_pos ⟨by assumption, by assumption⟩])
           | (rw [if_pos ⟨by assumption, by assumption⟩, if_neg (by omega)])
           | (rw [if_neg (by omega), if_pos ⟨by assumption, by assumption⟩])
           | (rw [if_neg (by omega), if_neg (by omega)]))
end Go.Proofs.Ytnoohgiecnmajaa.VC

