/- A part of the ground of the proof. No condition. -/
import Derived.Test.YtnoohgiecnmajaaGE2

/- The engine, part 3: the operations that make no memory, each told by what it asks and what it yields. -/
namespace Go.Proofs.Ytnoohgiecnmajaa.VC
open Go Go.RowKit
set_option linter.unusedVariables false
set_option linter.unusedSimpArgs false

def bnd (st : St) : Option Operand → Int → Option Int
  | none, d => some d
  | some x, _ => match val1 st x with | some (.int _ n) => some n | _ => none
/-- A value's cells. -/
def svcells : SV → Option (List SV)
  | .agg cs => some cs
  | .val v => if v.oneCell' then some [.val v] else none
  | .sl sz xs => some [.sl sz xs]
  | .tuple _ => none
/-- A nil slice, told as one without elements. -/
def nilc : Option Nat → SV → SV
  | some sz, .val (.slice none 0 0) => .sl sz []
  | _, x => x
def zipNil : List (Option Nat) → List SV → List SV
  | z :: zs, c :: cs => nilc z c :: zipNil zs cs
  | _, cs => cs
def normT (T : Tab) (t : TypeId) (x : SV) : SV :=
  match T t with
  | some ti => match x with
    | .agg cs => .agg (zipNil ti.nz cs)
    | x => nilc (ti.nz.headD none) x
  | none => x
/-- Some cells, from an offset on, are others (each is looked at once). -/
def splice {α : Type} : List α → Nat → List α → List α
  | [], _, _ => []
  | x :: l, 0, [] => x :: l
  | x :: l, 0, c :: cs => c :: splice l 0 cs
  | x :: l, n + 1, cs => x :: splice l n cs
theorem splice_eq {α : Type} : ∀ {l : List α} {o z : Nat} {cs : List α}, cs.length = z → o + z ≤ l.length → splice l o cs = l.take o ++ cs ++ l.drop (o + z)
  | [], o, z, cs, h, k => by
    simp only [List.length_nil] at k
    have : cs = [] := List.eq_nil_of_length_eq_zero (by omega)
    subst this
    simp [splice]
  | x :: l, 0, z, [], h, k => by
    simp only [List.length_nil] at h
    subst h
    simp [splice]
  | x :: l, 0, z, c :: cs, h, k => by
    subst h
    simp only [List.length_cons] at k ⊢
    have := splice_eq (l := l) (o := 0) (cs := cs) rfl (by omega)
    rw [splice, this]
    simp
  | x :: l, n + 1, z, cs, h, k => by
    simp only [List.length_cons] at k
    have := splice_eq (l := l) (o := n) (cs := cs) h (by omega)
    rw [splice, this, show n + 1 + z = (n + z) + 1 by omega]
    simp
def vfill (st : St) (fs : List (Nat × Nat)) : List SV → List (Nat × Operand) → Option (List SV × List Nat)
  | cells, [] => some (cells, [])
  | cells, (i, x) :: rest =>
    match fs[i]?, ev st x with
    | some (o, z), some fe =>
      match pf st fe with
      | some (sv, ks) =>
        match svcells sv with
        | some cs => if cs.length = z ∧ o + z ≤ cells.length then (vfill st fs (splice cells o cs) rest).map fun r => (r.1, ks ++ r.2) else none
        | none => none
      | none => none
    | _, _ => none
def vbin (op : BinOp) (u v : Value) (K : Value → Prop) : Prop :=
  match u, v with
  | .int k a, .int k' b => k = k' ∧
    match op with
    | .add => K (.int k (k.wrap (a + b)))
    | .sub => K (.int k (k.wrap (a - b)))
    | .mul => K (.int k (k.wrap (a * b)))
    | .quo => b ≠ 0 ∧ K (.int k (k.wrap (a.tdiv b)))
    | .rem => b ≠ 0 ∧ K (.int k (a.tmod b))
    | .and => K (.int k (k.wrap ((BitVec.ofInt k.bits a &&& BitVec.ofInt k.bits b).toNat : Int)))
    | .or => K (.int k (k.wrap ((BitVec.ofInt k.bits a ||| BitVec.ofInt k.bits b).toNat : Int)))
    | .andNot => K (.int k (k.wrap ((BitVec.ofInt k.bits a &&& ~~~ BitVec.ofInt k.bits b).toNat : Int)))
    | .eql => K (.bool (a == b))
    | .neq => K (.bool (a != b))
    | .lss => K (.bool (decide (a < b)))
    | .leq => K (.bool (decide (a ≤ b)))
    | .gtr => K (.bool (decide (a > b)))
    | .geq => K (.bool (decide (a ≥ b)))
    | _ => False
  | .string a, .string b =>
    match op with
    | .add => a.size + b.size ≤ 9223372036854775807 ∧ K (.string (a ++ b))
    | .eql => K (.bool (a.toList == b.toList))
    | .neq => K (.bool (!(a.toList == b.toList)))
    | _ => False
  | _, _ => False
def byteRows (l : List Int) : List (List SV) := l.map fun n => [SV.val (.int .u8 n)]
def numsOf (s : ByteArray) : List Int := s.data.toList.map fun b => (b.toNat : Int)
def vload (st : St) (ti : TI) (cs : List FE) (K : FE → List Nat → Prop) : Prop :=
  match ti.sh.row with
  | true => ti.size ≤ cs.length ∧ ∃ r, pfs st (cs.take ti.size) = some r ∧ K (.pv (.agg r.1)) r.2
  | false => ∃ fe, cs[0]? = some fe ∧ K fe []
def vloadR (ti : TI) (cs : List SV) (K : FE → List Nat → Prop) : Prop :=
  match ti.sh.row with
  | true => ti.size ≤ cs.length ∧ K (.pv (.agg (cs.take ti.size))) []
  | false => ∃ x, cs[0]? = some x ∧ K (.pv x) []
def vslice (l h : Int) (n : Nat) (K : Prop) : Prop := 0 ≤ l ∧ l ≤ h ∧ h ≤ n ∧ K
/-- What an operation asks and yields. -/
def va (T : Tab) (st : St) (K : FE → List Nat → Prop) : Op → Prop
  | .move x => ∃ fe, ev st x = some fe ∧ K fe []
  | .assign x => ∃ fe, ev st x = some fe ∧ K fe []
  | .pick c x y => ∃ t, val1 st c = some (.bool t) ∧ (t = true → ∃ fe, ev st x = some fe ∧ K fe []) ∧ (t = false → ∃ fe, ev st y = some fe ∧ K fe [])
  | .load t x => ∃ ti, T t = some ti ∧
    match ev st x with
    | some (.ptr s off) => ∃ b, look s st.box = some b ∧ vload st ti (b.2.drop off) K
    | some (.rptr cs) => vloadR ti cs K
    | some (.optr k sz i off) => ∃ o, look k st.own = some o ∧ o.sz = sz ∧ i < o.xs.length ∧ vloadR ti ((o.xs.getD i []).drop off) K
    | _ => False
  | .fieldAddr s x f => ∃ ti fs oz, T s = some ti ∧ ti.sh = .struct fs ∧ fs[f]? = some oz ∧
    match ev st x with
    | some (.ptr b off) => K (.ptr b (off + oz.1)) []
    | some (.rptr cs) => K (.rptr (cs.drop oz.1)) []
    | some (.optr k sz i off) => K (.optr k sz i (off + oz.1)) []
    | _ => False
  | .indexAddr t x i => ∃ (ki : IntKind) (n : Int) (ti : TI) (e : TypeId) (te : TI), val1 st i = some (.int ki n) ∧ T t = some ti ∧ ti.sh = .slice e ∧ T e = some te ∧
    match ev st x with
    | some (.pv (.sl sz xs)) => te.size = sz ∧ 0 ≤ n ∧ n < xs.length ∧ K (.rptr (xs.getD n.toNat [])) []
    | some (.own k) => ∃ o, look k st.own = some o ∧ te.size = o.sz ∧ 0 ≤ n ∧ n < o.xs.length ∧ K (.optr k o.sz n.toNat 0) []
    | _ => False
  | .index t x i => ∃ (ki : IntKind) (n : Int) (s : ByteArray) (ti : TI), val1 st i = some (.int ki n) ∧ val1 st x = some (.string s) ∧ T t = some ti ∧ ti.sh = .str ∧ 0 ≤ n ∧ n < s.size ∧ K (.pv (.val (.int .u8 (byteAt s n)))) []
  | .slice t x lo hi none => ∃ ti, T t = some ti ∧
    match ev st x with
    | some (.pv (.val (.string s))) => ti.sh = .str ∧ ∃ l h, bnd st lo 0 = some l ∧ bnd st hi s.size = some h ∧ vslice l h s.size (K (.pv (.val (.string (s.extract l.toNat h.toNat)))) [])
    | some (.pv (.sl sz xs)) => ∃ e te l h, ti.sh = .slice e ∧ T e = some te ∧ te.size = sz ∧ bnd st lo 0 = some l ∧ bnd st hi xs.length = some h ∧ vslice l h xs.length (K (.pv (.sl sz ((xs.take h.toNat).drop l.toNat))) [])
    | some (.own k) => ∃ o e te l h, look k st.own = some o ∧ ti.sh = .slice e ∧ T e = some te ∧ te.size = o.sz ∧ bnd st lo 0 = some l ∧ bnd st hi o.xs.length = some h ∧ vslice l h o.xs.length (K (.pv (.sl o.sz ((o.xs.take h.toNat).drop l.toNat))) [k])
    | _ => False
  | .build t parts => ∃ ti fs r, T t = some ti ∧ ti.sh = .struct fs ∧ vfill st fs ti.zero parts.toList = some r ∧ K (.pv (.agg r.1)) r.2
  | .binOp op t x y _ => (∃ u v, val1 st x = some u ∧ val1 st y = some v ∧ vbin op u v (fun r => K (.pv (.val r)) [])) ∨
      ∃ ti a b, T t = some ti ∧ ti.sh = .bool ∧ val1 st x = some (.bool a) ∧ val1 st y = some (.bool b) ∧ ((op = .eql ∧ K (.pv (.val (.bool (a == b)))) []) ∨ (op = .neq ∧ K (.pv (.val (.bool (!(a == b))))) []))
  | .unOp op t x => ∃ u, val1 st x = some u ∧
    match op, u with
    | .not, .bool b => K (.pv (.val (.bool (!b)))) []
    | .neg, .int k n => K (.pv (.val (.int k (k.wrap (0 - n))))) []
    | _, _ => False
  | .convert src dst x => ∃ ts td, T src = some ts ∧ T dst = some td ∧
    match td.sh, ev st x with
    | .int k, some (.pv (.val (.int _ n))) => K (.pv (.val (.int k (k.wrap n)))) []
    | .str, some (.pv (.val (.string s))) => K (.pv (.val (.string s))) []
    | .str, some (.pv (.sl 1 xs)) => ∃ e te l, ts.sh = .slice e ∧ T e = some te ∧ te.sh = .int .u8 ∧ xs = byteRows l ∧ K (.pv (.val (.string (strOfNums l)))) []
    | .str, some (.own k) => ∃ o e te l, look k st.own = some o ∧ o.sz = 1 ∧ ts.sh = .slice e ∧ T e = some te ∧ te.sh = .int .u8 ∧ o.xs = byteRows l ∧ K (.pv (.val (.string (strOfNums l)))) []
    | _, _ => False
  | .extract x i => ∃ vs r, ev st x = some (.pv (.tuple vs)) ∧ vs[i]? = some r ∧ K (.pv r) []
  | .nilCheck x =>
    match ev st x with
    | some (.ptr s off) => K (.ptr s off) []
    | some (.rptr cs) => K (.rptr cs) []
    | some (.optr k sz i off) => K (.optr k sz i off) []
    | _ => False
  | .call c =>
    match c.callee with
    | .builtin .len => ∃ x t ti, c.args = #[x] ∧ c.argTypes = #[t] ∧ T t = some ti ∧
      match ev st x with
      | some (.pv (.val (.string s))) => ti.sh = .str ∧ K (.pv (.val (.int .i64 s.size))) []
      | some (.pv (.val (.slice none 0 0))) => ∃ e, ti.sh = .slice e ∧ K (.pv (.val (.int .i64 0))) []
      | some (.pv (.sl sz xs)) => ∃ e, ti.sh = .slice e ∧ K (.pv (.val (.int .i64 xs.length))) []
      | some (.own k) => ∃ o e, look k st.own = some o ∧ ti.sh = .slice e ∧ K (.pv (.val (.int .i64 o.xs.length))) []
      | _ => False
    | .builtin .max => ∃ x y a b, c.args = #[x, y] ∧ val1 st x = some (.int .i64 a) ∧ val1 st y = some (.int .i64 b) ∧ K (.pv (.val (.int .i64 (if b > a then b else a)))) []
    | _ => False
  | _ => False

/-- Operations that do not look at memory. -/
def pureB : Op → Bool
  | .load _ _ => false
  | .convert _ _ _ => false
  | _ => true
/-- All blocks of w are as they were. -/
def Hold (w w' : World) : Prop := ∀ k, k < w.heap.size → w'.heap[k]? = w.heap[k]?
theorem Hold.refl (w : World) : Hold w w := fun _ _ => rfl
theorem Hold.cell {w w' : World} (h : Hold w w') {p : Addr} {v : Value} (hc : w.cell? p = some v) : w'.cell? p = some v := by
  rw [← hc]; exact World.cell?_of_block (h _ (World.block_lt_of_cell? w p hc))

theorem cells_one {v : Value} (h : v.oneCell' = true) : v.cells = #[v] := by
  cases v <;> first | rfl | (simp [Value.oneCell'] at h)
/-- What fill makes. -/
theorem fill_list (off : Nat) : ∀ (L : List Value) (k : Nat) (cs : Array Value), off + k + L.length ≤ cs.size →
    ((L.zipIdx k).foldl (fun (cs : Array Value) (p : Value × Nat) => cs.setIfInBounds (off + p.2) p.1) cs).toList = cs.toList.take (off + k) ++ L ++ cs.toList.drop (off + k + L.length)
  | [], k, cs, h => by simp
  | v :: L, k, cs, h => by
    simp only [List.length_cons] at h
    rw [List.zipIdx_cons, List.foldl_cons, fill_list off L (k + 1) _ (by simp; omega)]
    simp only [Array.toList_setIfInBounds]
    have hl : cs.toList.length = cs.size := by simp
    obtain ⟨A, B, hA, hB⟩ : ∃ A B, A.length = off + k ∧ cs.toList = A ++ B := ⟨cs.toList.take (off + k), cs.toList.drop (off + k), by rw [List.length_take]; omega, by simp⟩
    cases B with
    | nil => rw [hB] at hl; simp at hl; omega
    | cons x B =>
      rw [hB]
      have e1 : (A ++ x :: B).set (off + k) v = A ++ v :: B := by rw [← hA]; simp
      rw [e1]
      have e2 : A ++ v :: B = (A ++ [v]) ++ B := by simp
      have e3 : A ++ x :: B = (A ++ [x]) ++ B := by simp
      have d1 : ((A ++ [v]) ++ B).drop (off + (k + 1) + L.length) = B.drop L.length := by
        rw [← List.drop_drop, List.drop_left' (by simp; omega)]
      have d2 : ((A ++ [x]) ++ B).drop (off + k + (L.length + 1)) = B.drop L.length := by
        rw [show off + k + (L.length + 1) = off + (k + 1) + L.length by omega, ← List.drop_drop, List.drop_left' (by simp; omega)]
      have t1 : ((A ++ [v]) ++ B).take (off + (k + 1)) = A ++ [v] := List.take_left' (by simp; omega)
      have t2 : (A ++ x :: B).take (off + k) = A := List.take_left' (by omega)
      rw [t2, e3, e2, t1, d1]
      simp only [List.length_cons]
      rw [d2]
      simp
end Go.Proofs.Ytnoohgiecnmajaa.VC

