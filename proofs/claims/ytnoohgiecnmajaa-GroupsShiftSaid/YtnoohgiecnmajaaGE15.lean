/- A part of the ground of the proof. No condition. -/
import Derived.IntWalk
import Derived.Test.YtnoohgiecnmajaaGE13

/- The engine, part 15: the same conditions in a form that reduces by itself: each step is a match on what is known. -/
namespace Go.Proofs.Ytnoohgiecnmajaa.VC
open Go Go.RowKit
set_option linter.unusedVariables false
set_option linter.unusedSimpArgs false

def fitB (st : St) : Option Nat → Bool
  | some d => Nat.blt d st.n
  | none => true
theorem fitB_ok {st : St} {d : Option Nat} (h : fitB st d = true) : st.fits d := by
  cases d with
  | none => trivial
  | some d => exact Nat.le_of_ble_eq_true h
def nth {α : Type} : Nat → List α → Option α
  | _, [] => none
  | 0, x :: _ => some x
  | n + 1, _ :: l => nth n l
theorem nth_eq {α : Type} : ∀ (n : Nat) (l : List α), nth n l = l[n]?
  | _, [] => by simp [nth]
  | 0, x :: _ => by simp [nth]
  | n + 1, x :: l => by simp [nth, nth_eq n l]
def xload (st : St) (ti : TI) (cs : List FE) (K : FE → List Nat → Prop) : Prop :=
  match ti.sh.row with
  | true => match Nat.ble ti.size cs.length, pfs st (cs.take ti.size) with | true, some r => K (.pv (.agg r.1)) r.2 | _, _ => False
  | false => match cs with | fe :: _ => K fe [] | [] => False
def xloadR (ti : TI) (cs : List SV) (K : FE → List Nat → Prop) : Prop :=
  match ti.sh.row with
  | true => ti.size ≤ cs.length ∧ K (.pv (.agg (cs.take ti.size))) []
  | false => match cs[0]? with | some x => K (.pv x) [] | none => False
@[reducible] def in64 (n : Int) : Prop := -9223372036854775808 ≤ n ∧ n ≤ 9223372036854775807
def bAnd (a b : Int) : Int := IntKind.i64.wrap ((BitVec.ofInt 64 a &&& BitVec.ofInt 64 b).toNat : Int)
def bOr (a b : Int) : Int := IntKind.i64.wrap ((BitVec.ofInt 64 a ||| BitVec.ofInt 64 b).toNat : Int)
def bAndNot (a b : Int) : Int := IntKind.i64.wrap ((BitVec.ofInt 64 a &&& ~~~ BitVec.ofInt 64 b).toNat : Int)
theorem wrap_in {n : Int} (h : in64 n) : IntKind.i64.wrap n = n := IntWalk.i64_in n h
def xbin (op : BinOp) (u v : Value) (K : Value → Prop) : Prop :=
  match u, v with
  | .int .i64 a, .int .i64 b =>
    match op with
    | .add => in64 (a + b) ∧ K (.int .i64 (a + b))
    | .sub => in64 (a - b) ∧ K (.int .i64 (a - b))
    | .mul => in64 (a * b) ∧ K (.int .i64 (a * b))
    | .quo => (0 ≤ a ∧ 0 < b ∧ a ≤ 9223372036854775807) ∧ K (.int .i64 (a / b))
    | .rem => (0 ≤ a ∧ 0 < b) ∧ K (.int .i64 (a % b))
    | .and => K (.int .i64 (bAnd a b))
    | .or => K (.int .i64 (bOr a b))
    | .andNot => K (.int .i64 (bAndNot a b))
    | .eql => K (.bool (a == b))
    | .neq => K (.bool (a != b))
    | .lss => K (.bool (decide (a < b)))
    | .leq => K (.bool (decide (a ≤ b)))
    | .gtr => K (.bool (decide (a > b)))
    | .geq => K (.bool (decide (a ≥ b)))
    | _ => False
  | .int .u8 a, .int .u8 b =>
    match op with
    | .add => K (.int .u8 (IntKind.u8.wrap (a + b)))
    | .sub => K (.int .u8 (IntKind.u8.wrap (a - b)))
    | .eql => K (.bool (a == b))
    | .neq => K (.bool (a != b))
    | .lss => K (.bool (decide (a < b)))
    | .leq => K (.bool (decide (a ≤ b)))
    | .gtr => K (.bool (decide (a > b)))
    | .geq => K (.bool (decide (a ≥ b)))
    | _ => False
  | .string a, .string b =>
    match op with
    | .add => a.size + b.size ≤ 9223372036854775807 ∧ K (.string (a ++ b))
    | .eql => K (.bool (a.toList == b.toList))
    | .neq => K (.bool (!(a.toList == b.toList)))
    | _ => False
  | _, _ => False
/-- 'va', reducing. -/
def xa (T : Tab) (st : St) (K : FE → List Nat → Prop) : Op → Prop
  | .move x => match ev st x with | some fe => K fe [] | none => False
  | .assign x => match ev st x with | some fe => K fe [] | none => False
  | .pick c x y => match val1 st c with
    | some (.bool t) => match t with
      | true => match ev st x with | some fe => K fe [] | none => False
      | false => match ev st y with | some fe => K fe [] | none => False
    | _ => False
  | .load t x => match T t with
    | some ti => match ev st x with
      | some (.ptr s off) => match look s st.box with | some b => xload st ti (b.2.drop off) K | none => False
      | some (.rptr cs) => xloadR ti cs K
      | some (.optr k sz i off) => match look k st.own with | some o => (o.sz = sz ∧ i < o.xs.length) ∧ xloadR ti ((o.xs.getD i []).drop off) K | none => False
      | _ => False
    | none => False
  | .fieldAddr s x f => match T s with
    | some ti => match ti.sh with
      | .struct fs => match nth f fs with
        | some oz => match ev st x with
          | some (.ptr b off) => K (.ptr b (off + oz.1)) []
          | some (.rptr cs) => K (.rptr (cs.drop oz.1)) []
          | some (.optr k sz i off) => K (.optr k sz i (off + oz.1)) []
          | _ => False
        | none => False
      | _ => False
    | none => False
  | .indexAddr t x i => match val1 st i, T t with
    | some (.int ki n), some ti => match ti.sh with
      | .slice e => match T e with
        | some te => match ev st x with
          | some (.pv (.sl sz xs)) => te.size = sz ∧ (0 ≤ n ∧ n < xs.length) ∧ K (.rptr (xs.getD n.toNat [])) []
          | some (.own k) => match look k st.own with | some o => te.size = o.sz ∧ (0 ≤ n ∧ n < o.xs.length) ∧ K (.optr k o.sz n.toNat 0) [] | none => False
          | _ => False
        | none => False
      | _ => False
    | _, _ => False
  | .index t x i => match val1 st i, val1 st x, T t with
    | some (.int ki n), some (.string s), some ti => match ti.sh with
      | .str => (0 ≤ n ∧ n < s.size) ∧ K (.pv (.val (.int .u8 (byteAt s n)))) []
      | _ => False
    | _, _, _ => False
  | .slice t x lo hi none => match T t with
    | some ti => match ev st x with
      | some (.pv (.val (.string s))) => match ti.sh, bnd st lo 0, bnd st hi s.size with
        | .str, some l, some h => (0 ≤ l ∧ l ≤ h ∧ h ≤ s.size) ∧ K (.pv (.val (.string (s.extract l.toNat h.toNat)))) []
        | _, _, _ => False
      | some (.pv (.sl sz xs)) => match ti.sh, bnd st lo 0, bnd st hi xs.length with
        | .slice e, some l, some h => match T e with
          | some te => te.size = sz ∧ (0 ≤ l ∧ l ≤ h ∧ h ≤ xs.length) ∧ K (.pv (.sl sz ((xs.take h.toNat).drop l.toNat))) []
          | none => False
        | _, _, _ => False
      | some (.own k) => match look k st.own with
        | some o => match ti.sh, bnd st lo 0, bnd st hi o.xs.length with
          | .slice e, some l, some h => match T e with
            | some te => te.size = o.sz ∧ (0 ≤ l ∧ l ≤ h ∧ h ≤ o.xs.length) ∧ K (.pv (.sl o.sz ((o.xs.take h.toNat).drop l.toNat))) [k]
            | none => False
          | _, _, _ => False
        | none => False
      | _ => False
    | none => False
  | .build t parts => match T t with
    | some ti => match ti.sh with
      | .struct fs => match vfill st fs ti.zero parts.toList with | some r => K (.pv (.agg r.1)) r.2 | none => False
      | _ => False
    | none => False
  | .binOp op t x y _ => match val1 st x, val1 st y with
    | some (.bool a), some (.bool b) => match T t with
      | some ti => match ti.sh with
        | .bool => match op with
          | .eql => K (.pv (.val (.bool (a == b)))) []
          | .neq => K (.pv (.val (.bool (!(a == b))))) []
          | _ => False
        | _ => False
      | none => False
    | some u, some v => xbin op u v (fun r => K (.pv (.val r)) [])
    | _, _ => False
  | .unOp op t x => match op, val1 st x with
    | .not, some (.bool b) => K (.pv (.val (.bool (!b)))) []
    | .neg, some (.int .i64 n) => in64 (0 - n) ∧ K (.pv (.val (.int .i64 (0 - n)))) []
    | _, _ => False
  | .convert src dst x => match T src, T dst with
    | some ts, some td => match td.sh, ev st x with
      | .int .i64, some (.pv (.val (.int _ n))) => in64 n ∧ K (.pv (.val (.int .i64 n))) []
      | .int .u8, some (.pv (.val (.int _ n))) => (0 ≤ n ∧ n ≤ 255) ∧ K (.pv (.val (.int .u8 n))) []
      | .str, some (.pv (.val (.string s))) => K (.pv (.val (.string s))) []
      | .str, some (.pv (.sl 1 xs)) => match ts.sh with
        | .slice e => match T e with
          | some te => te.sh = .int .u8 ∧ ∃ l, xs = byteRows l ∧ K (.pv (.val (.string (strOfNums l)))) []
          | none => False
        | _ => False
      | .str, some (.own k) => match look k st.own, ts.sh with
        | some o, .slice e => match T e with
          | some te => (o.sz = 1 ∧ te.sh = .int .u8) ∧ ∃ l, o.xs = byteRows l ∧ K (.pv (.val (.string (strOfNums l)))) []
          | none => False
        | _, _ => False
      | _, _ => False
    | _, _ => False
  | .extract x i => match ev st x with
    | some (.pv (.tuple vs)) => match nth i vs with | some r => K (.pv r) [] | none => False
    | _ => False
  | .nilCheck x => match ev st x with
    | some (.ptr s off) => K (.ptr s off) []
    | some (.rptr cs) => K (.rptr cs) []
    | some (.optr k sz i off) => K (.optr k sz i off) []
    | _ => False
  | .call c => match c.callee, c.args.toList, c.argTypes.toList with
    | .builtin .len, [x], [t] => match T t with
      | some ti => match ti.sh, ev st x with
        | .str, some (.pv (.val (.string s))) => K (.pv (.val (.int .i64 s.size))) []
        | .slice _, some (.pv (.val (.slice none 0 0))) => K (.pv (.val (.int .i64 0))) []
        | .slice _, some (.pv (.sl sz xs)) => K (.pv (.val (.int .i64 xs.length))) []
        | .slice _, some (.own k) => match look k st.own with | some o => K (.pv (.val (.int .i64 o.xs.length))) [] | none => False
        | _, _ => False
      | none => False
    | .builtin .max, [x, y], _ => match val1 st x, val1 st y with
      | some (.int .i64 a), some (.int .i64 b) => K (.pv (.val (.int .i64 (if b > a then b else a)))) []
      | _, _ => False
    | _, _, _ => False
  | _ => False
theorem xbin_ok {op : BinOp} {u v : Value} {K : Value → Prop} (h : xbin op u v K) : vbin op u v K := by
  unfold xbin at h
  split at h
  · cases op <;> simp only at h <;> first
      | exact h.elim
      | exact ⟨rfl, h⟩
      | (refine ⟨rfl, ?_⟩; simp only; rw [wrap_in h.1]; exact h.2)
      | (refine ⟨rfl, by omega, ?_⟩
         rw [Int.tdiv_eq_ediv_of_nonneg h.1.1, wrap_in ⟨Int.le_trans (by omega) (Int.ediv_nonneg h.1.1 (Int.le_of_lt h.1.2.1)), Int.le_trans (Int.ediv_le_self _ h.1.1) h.1.2.2⟩]
         exact h.2)
      | (refine ⟨rfl, by omega, ?_⟩
         rw [Int.tmod_eq_emod_of_nonneg h.1.1]
         exact h.2)
  · cases op <;> simp only at h <;> first | exact h.elim | exact ⟨rfl, h⟩
  · cases op <;> simp only at h <;> first | exact h.elim | exact h
  · exact h.elim
theorem xload_ok {st : St} {ti : TI} {cs : List FE} {K : FE → List Nat → Prop} (h : xload st ti cs K) : vload st ti cs K := by
  unfold xload at h
  unfold vload
  split at h
  · rename_i hr
    rw [hr]
    split at h
    · rename_i h1 h2
      exact ⟨Nat.le_of_ble_eq_true h1, _, h2, h⟩
    · exact h.elim
  · rename_i hr
    rw [hr]
    split at h
    · exact ⟨_, by simp, h⟩
    · exact h.elim
theorem xloadR_ok {ti : TI} {cs : List SV} {K : FE → List Nat → Prop} (h : xloadR ti cs K) : vloadR ti cs K := by
  unfold xloadR at h
  unfold vloadR
  split at h
  · rename_i hr; rw [hr]; exact h
  · rename_i hr
    rw [hr]
    split at h
    · rename_i x hx; exact ⟨x, hx, h⟩
    · exact h.elim
theorem xa_ok {T : Tab} {st : St} {K : FE → List Nat → Prop} {op : Op} (h : xa T st K op) : va T st K op := by
  cases op <;> simp only [xa] at h <;> try exact h.elim
  case move x => simp only [va]; split at h; · exact ⟨_, ‹_›, h⟩
                 exact h.elim
  case assign x => simp only [va]; split at h; · exact ⟨_, ‹_›, h⟩
                   exact h.elim
  case pick c x y =>
    simp only [va]
    split at h
    · rename_i t hc
      refine ⟨t, hc, fun ht => ?_, fun ht => ?_⟩ <;> subst ht <;> simp only at h <;> split at h
      · exact ⟨_, ‹_›, h⟩
      · exact h.elim
      · exact ⟨_, ‹_›, h⟩
      · exact h.elim
    · exact h.elim
  case load t x =>
    simp only [va]
    split at h
    · rename_i ti hti
      refine ⟨ti, hti, ?_⟩
      split at h
      · rename_i s off hx
        rw [hx]
        split at h
        · exact ⟨_, ‹_›, xload_ok h⟩
        · exact h.elim
      · rename_i cs hx; rw [hx]; exact xloadR_ok h
      · rename_i k sz i off hx
        rw [hx]
        split at h
        · exact ⟨_, ‹_›, h.1.1, h.1.2, xloadR_ok h.2⟩
        · exact h.elim
      · exact h.elim
    · exact h.elim
  case fieldAddr s x f =>
    simp only [va]
    split at h
    · rename_i ti hti
      split at h
      · rename_i fs hs
        split at h
        · rename_i oz hf
          exact ⟨ti, fs, oz, hti, hs, by rw [← nth_eq]; exact hf, h⟩
        · exact h.elim
      · exact h.elim
    · exact h.elim
  case indexAddr t x i =>
    simp only [va]
    split at h
    · rename_i ki n ti hi hti
      split at h
      · rename_i e hs
        split at h
        · rename_i te hte
          refine ⟨ki, n, ti, e, te, hi, hti, hs, hte, ?_⟩
          split at h
          · rename_i sz xs hx; rw [hx]; exact ⟨h.1, h.2.1.1, h.2.1.2, h.2.2⟩
          · rename_i k hx
            rw [hx]
            split at h
            · exact ⟨_, ‹_›, h.1, h.2.1.1, h.2.1.2, h.2.2⟩
            · exact h.elim
          · exact h.elim
        · exact h.elim
      · exact h.elim
    · exact h.elim
  case index t x i =>
    simp only [va]
    split at h
    · rename_i ki n s ti hi hx hti
      split at h
      · rename_i hs
        exact ⟨ki, n, s, ti, hi, hx, hti, hs, h.1.1, h.1.2, h.2⟩
      · exact h.elim
    · exact h.elim
  case slice t x lo hi mx =>
    cases mx with
    | some m => simp only [xa] at h
    | none =>
      simp only [xa] at h
      simp only [va]
      split at h
      · rename_i ti hti
        refine ⟨ti, hti, ?_⟩
        split at h
        · rename_i str hx
          rw [hx]
          split at h
          · rename_i l r hs hl hr
            exact ⟨hs, l, r, hl, hr, h.1.1, h.1.2.1, h.1.2.2, h.2⟩
          · exact h.elim
        · rename_i sz xs hx
          rw [hx]
          split at h
          · rename_i e l r hs hl hr
            split at h
            · rename_i te hte
              exact ⟨e, te, l, r, hs, hte, h.1, hl, hr, h.2.1.1, h.2.1.2.1, h.2.1.2.2, h.2.2⟩
            · exact h.elim
          · exact h.elim
        · rename_i k hx
          rw [hx]
          split at h
          · rename_i o hk
            split at h
            · rename_i e l r hs hl hr
              split at h
              · rename_i te hte
                exact ⟨o, e, te, l, r, hk, hs, hte, h.1, hl, hr, h.2.1.1, h.2.1.2.1, h.2.1.2.2, h.2.2⟩
              · exact h.elim
            · exact h.elim
          · exact h.elim
        · exact h.elim
      · exact h.elim
  case build t ps =>
    simp only [va]
    split at h
    · rename_i ti hti
      split at h
      · rename_i fs hs
        split at h
        · exact ⟨ti, fs, _, hti, hs, ‹_›, h⟩
        · exact h.elim
      · exact h.elim
    · exact h.elim
  case binOp op t x y yt =>
    simp only [va]
    split at h
    · rename_i p q hu hv
      split at h
      · rename_i ti hti
        split at h
        · rename_i hsh
          split at h
          · exact .inr ⟨ti, p, q, hti, hsh, hu, hv, .inl ⟨rfl, h⟩⟩
          · exact .inr ⟨ti, p, q, hti, hsh, hu, hv, .inr ⟨rfl, h⟩⟩
          · exact h.elim
        · exact h.elim
      · exact h.elim
    · rename_i u v _ hu hv
      exact .inl ⟨u, v, hu, hv, xbin_ok h⟩
    · exact h.elim
  case unOp op t x =>
    simp only [va]
    split at h
    · rename_i b hx; exact ⟨_, hx, h⟩
    · rename_i n hx; refine ⟨_, hx, ?_⟩; simp only; rw [wrap_in h.1]; exact h.2
    · exact h.elim
  case convert s d x =>
    simp only [va]
    split at h
    · rename_i ts td hts htd
      refine ⟨ts, td, hts, htd, ?_⟩
      split at h
      · rename_i k' n hd hx; rw [hd, hx]; simp only; rw [wrap_in h.1]; exact h.2
      · rename_i k' n hd hx; rw [hd, hx]; simp only; rw [IntWalk.u8_in n h.1]; exact h.2
      · rename_i str hd hx; rw [hd, hx]; exact h
      · rename_i xs hd hx
        rw [hd, hx]
        split at h
        · rename_i e hs
          split at h
          · rename_i te hte
            obtain ⟨h1, l, h2, h3⟩ := h
            exact ⟨e, te, l, hs, hte, h1, h2, h3⟩
          · exact h.elim
        · exact h.elim
      · rename_i k hd hx
        rw [hd, hx]
        split at h
        · rename_i o e hk hs
          split at h
          · rename_i te hte
            obtain ⟨⟨h0, h1⟩, l, h2, h3⟩ := h
            exact ⟨o, e, te, l, hk, h0, hs, hte, h1, h2, h3⟩
          · exact h.elim
        · exact h.elim
      · exact h.elim
    · exact h.elim
  case extract x i =>
    simp only [va]
    split at h
    · rename_i vs hx
      split at h
      · rename_i r hr
        exact ⟨vs, r, hx, by rw [← nth_eq]; exact hr, h⟩
      · exact h.elim
    · exact h.elim
  case nilCheck x => simp only [va]; exact h
  case call c =>
    simp only [va]
    split at h
    · rename_i x t hc ha hat
      rw [hc]
      simp only
      split at h
      · rename_i ti hti
        refine ⟨x, t, ti, by rw [← Array.toArray_toList (xs := c.args), ha], by rw [← Array.toArray_toList (xs := c.argTypes), hat], hti, ?_⟩
        split at h
        · rename_i s hs hx; rw [hx]; exact ⟨hs, h⟩
        · rename_i e hs hx; rw [hx]; exact ⟨e, hs, h⟩
        · rename_i e sz xs hs hx; rw [hx]; exact ⟨e, hs, h⟩
        · rename_i e k hs hx
          rw [hx]
          split at h
          · rename_i o hk; exact ⟨o, e, hk, hs, h⟩
          · exact h.elim
        · exact h.elim
      · exact h.elim
    · rename_i x y hc ha
      rw [hc]
      simp only
      split at h
      · rename_i m n hx hy
        exact ⟨x, y, m, n, by rw [← Array.toArray_toList (xs := c.args), ha], hx, hy, h⟩
      · exact h.elim
    · exact h.elim
end Go.Proofs.Ytnoohgiecnmajaa.VC

