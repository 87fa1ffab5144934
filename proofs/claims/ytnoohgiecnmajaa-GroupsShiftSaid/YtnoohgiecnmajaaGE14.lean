/- A part of the ground of the proof. No condition. -/
import Derived.Test.YtnoohgiecnmajaaProg
import Derived.Test.YtnoohgiecnmajaaGE17

/- The seat's types, as the engine is told them (printed by gentab.py). -/
namespace Go.Proofs.Ytnoohgiecnmajaa.VC
open Go Go.RowKit
set_option linter.unusedVariables false
set_option linter.unusedSimpArgs false

theorem VRc_vals {M : Region} {w : World} : ∀ l : List Value, l.all (·.oneCell') = true → VRc M w (l.map .val) l
  | [], _ => by simp [VRc]
  | c :: l, h => by
    simp only [List.all_cons, Bool.and_eq_true] at h
    simp only [List.map_cons, VRc, VR]
    exact ⟨c, l, rfl, rfl, h.1, VRc_vals l h.2⟩
theorem tyok_one {P : Program} {t : TypeId} {s : Sh} {b : Nat} {nz : List (Option Nat)} {c : Value} (hd : match s with
    | .bool => P.underlying t = some .bool
    | .int k => P.underlying t = some (.int k)
    | .str => P.underlying t = some .string
    | .slice e => P.underlying t = some (.slice e)
    | .ptr e => P.underlying t = some (.pointer e)
    | .map k e => P.underlying t = some (.map k e)
    | .struct fs => False) (hi : (P.info? t).map (fun i => (i.size, i.bytes, i.zero)) = some (1, b, some c)) (hc : c.oneCell' = true) : TyOk P t ⟨s, 1, b, [.val c], nz⟩ := by
  obtain ⟨i, h1, h2⟩ := Option.map_eq_some_iff.1 hi
  simp only [Prod.mk.injEq] at h2
  refine ⟨?_, i, c, h1, h2.1, h2.2.1, h2.2.2, fun M w => ?_, rfl, .inr ⟨?_, c, cells_one hc, rfl⟩⟩
  · cases s <;> first | exact hd | exact hd.elim
  · rw [cells_one hc]; exact VRc_vals [c] (by simp [hc])
  · cases s <;> first | rfl | exact hd.elim
theorem tyok_row {P : Program} {t : TypeId} {fs : List (Nat × Nat)} {n b : Nat} {nz : List (Option Nat)} {vs : List Value} (hd : ∃ fields, P.underlying t = some (.struct fields) ∧ fields.toList.mapM (fun f => (P.info? f.type).map fun i => (f.offset, i.size)) = some fs ∧ ∀ f ∈ fs, f.2 ≠ 0)
    (hi : (P.info? t).map (fun i => (i.size, i.bytes, i.zero)) = some (n, b, some (.agg vs.toArray))) (h1 : vs.all (·.oneCell') = true) (hl : vs.length = n) : TyOk P t ⟨.struct fs, n, b, vs.map .val, nz⟩ := by
  obtain ⟨i, h2, h3⟩ := Option.map_eq_some_iff.1 hi
  simp only [Prod.mk.injEq] at h3
  exact ⟨hd, i, _, h2, h3.1, h3.2.1, h3.2.2, fun M w => by simpa [Value.cells] using VRc_vals vs h1, by simpa using hl, .inl rfl⟩
theorem look_mem {α : Type} {t : Nat} {x : α} : ∀ {l : List (Nat × α)}, look t l = some x → (t, x) ∈ l
  | [], h => by simp [look] at h
  | (k, v) :: l, h => by
    rw [look_cons] at h
    split at h
    · rename_i e; cases h; subst e; exact List.mem_cons_self ..
    · exact List.mem_cons_of_mem _ (look_mem h)

def ti3 : TI := ⟨.int .i64, 1, 8, [.val (.int .i64 0)], [none]⟩
theorem ok3 : TyOk Try.prog 3 ti3 := tyok_one (s := .int .i64) (c := .int .i64 0) Try.underlying3 (by kernel_rfl) rfl
def ti4 : TI := ⟨.bool, 1, 1, [.val (.bool false)], [none]⟩
theorem ok4 : TyOk Try.prog 4 ti4 := tyok_one (s := .bool) (c := .bool false) Try.underlying4 (by kernel_rfl) rfl
def ti5 : TI := ⟨.int .u8, 1, 1, [.val (.int .u8 0)], [none]⟩
theorem ok5 : TyOk Try.prog 5 ti5 := tyok_one (s := .int .u8) (c := .int .u8 0) Try.underlying5 (by kernel_rfl) rfl
def ti9 : TI := ⟨.str, 1, 16, [.val (.string ⟨#[]⟩)], [none]⟩
theorem ok9 : TyOk Try.prog 9 ti9 := tyok_one (s := .str) (c := .string ⟨#[]⟩) Try.underlying9 (by kernel_rfl) rfl
def ti22 : TI := ⟨.slice 5, 1, 24, [.val (.slice none 0 0)], [some 1]⟩
theorem ok22 : TyOk Try.prog 22 ti22 := tyok_one (s := .slice 5) (c := .slice none 0 0) Try.underlying22 (by kernel_rfl) rfl
def ti24 : TI := ⟨.slice 74, 1, 24, [.val (.slice none 0 0)], [some 2]⟩
theorem ok24 : TyOk Try.prog 24 ti24 := tyok_one (s := .slice 74) (c := .slice none 0 0) Try.underlying24 (by kernel_rfl) rfl
def ti25 : TI := ⟨.slice 27, 1, 24, [.val (.slice none 0 0)], [some 12]⟩
theorem ok25 : TyOk Try.prog 25 ti25 := tyok_one (s := .slice 27) (c := .slice none 0 0) Try.underlying25 (by kernel_rfl) rfl
def ti27 : TI := ⟨.struct [(0, 1), (1, 1), (2, 1), (3, 1), (4, 1), (5, 1), (6, 1), (7, 1), (8, 1), (9, 1), (10, 1), (11, 1)], 12, 136, [.val (.int .i64 0), .val (.int .i64 0), .val (.int .i64 0), .val (.slice none 0 0), .val (.bool false), .val (.int .i64 0), .val (.int .i64 0), .val (.int .i64 0), .val (.string ⟨#[]⟩), .val (.int .i64 0), .val (.int .i64 0), .val (.slice none 0 0)], [none, none, none, some 2, none, none, none, none, none, none, none, some 12]⟩
theorem ok27 : TyOk Try.prog 27 ti27 := tyok_row (vs := [.int .i64 0, .int .i64 0, .int .i64 0, .slice none 0 0, .bool false, .int .i64 0, .int .i64 0, .int .i64 0, .string ⟨#[]⟩, .int .i64 0, .int .i64 0, .slice none 0 0]) ⟨_, Try.underlying27, by kernel_rfl, by decide⟩ (by kernel_rfl) rfl rfl
def ti30 : TI := ⟨.slice 45, 1, 24, [.val (.slice none 0 0)], [some 2]⟩
theorem ok30 : TyOk Try.prog 30 ti30 := tyok_one (s := .slice 45) (c := .slice none 0 0) Try.underlying30 (by kernel_rfl) rfl
def ti31 : TI := ⟨.int .i64, 1, 8, [.val (.int .i64 0)], [none]⟩
theorem ok31 : TyOk Try.prog 31 ti31 := tyok_one (s := .int .i64) (c := .int .i64 0) Try.underlying31 (by kernel_rfl) rfl
def ti37 : TI := ⟨.slice 3, 1, 24, [.val (.slice none 0 0)], [some 1]⟩
theorem ok37 : TyOk Try.prog 37 ti37 := tyok_one (s := .slice 3) (c := .slice none 0 0) Try.underlying37 (by kernel_rfl) rfl
def ti45 : TI := ⟨.struct [(0, 1), (1, 1)], 2, 24, [.val (.string ⟨#[]⟩), .val (.int .i64 0)], [none, none]⟩
theorem ok45 : TyOk Try.prog 45 ti45 := tyok_row (vs := [.string ⟨#[]⟩, .int .i64 0]) ⟨_, Try.underlying45, by kernel_rfl, by decide⟩ (by kernel_rfl) rfl rfl
def ti55 : TI := ⟨.slice 88, 1, 24, [.val (.slice none 0 0)], [some 12]⟩
theorem ok55 : TyOk Try.prog 55 ti55 := tyok_one (s := .slice 88) (c := .slice none 0 0) Try.underlying55 (by kernel_rfl) rfl
def ti61 : TI := ⟨.slice 9, 1, 24, [.val (.slice none 0 0)], [some 1]⟩
theorem ok61 : TyOk Try.prog 61 ti61 := tyok_one (s := .slice 9) (c := .slice none 0 0) Try.underlying61 (by kernel_rfl) rfl
def ti66 : TI := ⟨.ptr 69, 1, 8, [.val (.pointer none)], [none]⟩
theorem ok66 : TyOk Try.prog 66 ti66 := tyok_one (s := .ptr 69) (c := .pointer none) Try.underlying66 (by kernel_rfl) rfl
def ti67 : TI := ⟨.map 9 3, 1, 8, [.val (.map none)], [none]⟩
theorem ok67 : TyOk Try.prog 67 ti67 := tyok_one (s := .map 9 3) (c := .map none) Try.underlying67 (by kernel_rfl) rfl
def ti69 : TI := ⟨.struct [(0, 1), (1, 1), (2, 1), (3, 1), (4, 1)], 5, 56, [.val (.int .i64 0), .val (.slice none 0 0), .val (.map none), .val (.int .i64 0), .val (.int .i64 0)], [none, some 2, none, none, none]⟩
theorem ok69 : TyOk Try.prog 69 ti69 := tyok_row (vs := [.int .i64 0, .slice none 0 0, .map none, .int .i64 0, .int .i64 0]) ⟨_, Try.underlying69, by kernel_rfl, by decide⟩ (by kernel_rfl) rfl rfl
def ti74 : TI := ⟨.struct [(0, 1), (1, 1)], 2, 16, [.val (.int .i64 0), .val (.int .i64 0)], [none, none]⟩
theorem ok74 : TyOk Try.prog 74 ti74 := tyok_row (vs := [.int .i64 0, .int .i64 0]) ⟨_, Try.underlying74, by kernel_rfl, by decide⟩ (by kernel_rfl) rfl rfl
def ti75 : TI := ⟨.ptr 77, 1, 8, [.val (.pointer none)], [none]⟩
theorem ok75 : TyOk Try.prog 75 ti75 := tyok_one (s := .ptr 77) (c := .pointer none) Try.underlying75 (by kernel_rfl) rfl
def ti77 : TI := ⟨.struct [(0, 1), (1, 1), (2, 1), (3, 1), (4, 1)], 5, 56, [.val (.int .i64 0), .val (.int .i64 0), .val (.slice none 0 0), .val (.int .i64 0), .val (.int .i64 0)], [none, none, some 2, none, none]⟩
theorem ok77 : TyOk Try.prog 77 ti77 := tyok_row (vs := [.int .i64 0, .int .i64 0, .slice none 0 0, .int .i64 0, .int .i64 0]) ⟨_, Try.underlying77, by kernel_rfl, by decide⟩ (by kernel_rfl) rfl rfl
def ti78 : TI := ⟨.ptr 80, 1, 8, [.val (.pointer none)], [none]⟩
theorem ok78 : TyOk Try.prog 78 ti78 := tyok_one (s := .ptr 80) (c := .pointer none) Try.underlying78 (by kernel_rfl) rfl
def ti80 : TI := ⟨.struct [(0, 1), (1, 1), (2, 1), (3, 1)], 4, 48, [.val (.int .i64 0), .val (.slice none 0 0), .val (.int .i64 0), .val (.int .i64 0)], [none, some 2, none, none]⟩
theorem ok80 : TyOk Try.prog 80 ti80 := tyok_row (vs := [.int .i64 0, .slice none 0 0, .int .i64 0, .int .i64 0]) ⟨_, Try.underlying80, by kernel_rfl, by decide⟩ (by kernel_rfl) rfl rfl
def ti82 : TI := ⟨.struct [(0, 1), (1, 1), (2, 1), (3, 1)], 4, 32, [.val (.string ⟨#[]⟩), .val (.bool false), .val (.bool false), .val (.int .i64 0)], [none, none, none, none]⟩
theorem ok82 : TyOk Try.prog 82 ti82 := tyok_row (vs := [.string ⟨#[]⟩, .bool false, .bool false, .int .i64 0]) ⟨_, Try.underlying82, by kernel_rfl, by decide⟩ (by kernel_rfl) rfl rfl
def ti88 : TI := ⟨.struct [(0, 1), (1, 1), (2, 1), (3, 1), (4, 1), (5, 1), (6, 1), (7, 1), (8, 1), (9, 1), (10, 1), (11, 1)], 12, 120, [.val (.int .i64 0), .val (.int .i64 0), .val (.int .i64 0), .val (.int .i64 0), .val (.slice none 0 0), .val (.bool false), .val (.int .i64 0), .val (.int .i64 0), .val (.int .i64 0), .val (.string ⟨#[]⟩), .val (.int .i64 0), .val (.int .i64 0)], [none, none, none, none, some 2, none, none, none, none, none, none, none]⟩
theorem ok88 : TyOk Try.prog 88 ti88 := tyok_row (vs := [.int .i64 0, .int .i64 0, .int .i64 0, .int .i64 0, .slice none 0 0, .bool false, .int .i64 0, .int .i64 0, .int .i64 0, .string ⟨#[]⟩, .int .i64 0, .int .i64 0]) ⟨_, Try.underlying88, by kernel_rfl, by decide⟩ (by kernel_rfl) rfl rfl
def ti90 : TI := ⟨.struct [(0, 12), (12, 1), (13, 1), (14, 1), (15, 1)], 16, 152, [.val (.int .i64 0), .val (.int .i64 0), .val (.int .i64 0), .val (.int .i64 0), .val (.slice none 0 0), .val (.bool false), .val (.int .i64 0), .val (.int .i64 0), .val (.int .i64 0), .val (.string ⟨#[]⟩), .val (.int .i64 0), .val (.int .i64 0), .val (.bool false), .val (.int .i64 0), .val (.int .i64 0), .val (.int .i64 0)], [none, none, none, none, some 2, none, none, none, none, none, none, none, none, none, none, none]⟩
theorem ok90 : TyOk Try.prog 90 ti90 := tyok_row (vs := [.int .i64 0, .int .i64 0, .int .i64 0, .int .i64 0, .slice none 0 0, .bool false, .int .i64 0, .int .i64 0, .int .i64 0, .string ⟨#[]⟩, .int .i64 0, .int .i64 0, .bool false, .int .i64 0, .int .i64 0, .int .i64 0]) ⟨_, Try.underlying90, by kernel_rfl, by decide⟩ (by kernel_rfl) rfl rfl
def ti94 : TI := ⟨.ptr 96, 1, 8, [.val (.pointer none)], [none]⟩
theorem ok94 : TyOk Try.prog 94 ti94 := tyok_one (s := .ptr 96) (c := .pointer none) Try.underlying94 (by kernel_rfl) rfl
def ti96 : TI := ⟨.struct [(0, 12), (12, 1), (13, 1), (14, 1), (15, 1)], 16, 200, [.val (.int .i64 0), .val (.int .i64 0), .val (.int .i64 0), .val (.int .i64 0), .val (.slice none 0 0), .val (.bool false), .val (.int .i64 0), .val (.int .i64 0), .val (.int .i64 0), .val (.string ⟨#[]⟩), .val (.int .i64 0), .val (.int .i64 0), .val (.slice none 0 0), .val (.slice none 0 0), .val (.slice none 0 0), .val (.bool false)], [none, none, none, none, some 2, none, none, none, none, none, none, none, some 12, some 12, some 12, none]⟩
theorem ok96 : TyOk Try.prog 96 ti96 := tyok_row (vs := [.int .i64 0, .int .i64 0, .int .i64 0, .int .i64 0, .slice none 0 0, .bool false, .int .i64 0, .int .i64 0, .int .i64 0, .string ⟨#[]⟩, .int .i64 0, .int .i64 0, .slice none 0 0, .slice none 0 0, .slice none 0 0, .bool false]) ⟨_, Try.underlying96, by kernel_rfl, by decide⟩ (by kernel_rfl) rfl rfl
def ti97 : TI := ⟨.slice 94, 1, 24, [.val (.slice none 0 0)], [some 1]⟩
theorem ok97 : TyOk Try.prog 97 ti97 := tyok_one (s := .slice 94) (c := .slice none 0 0) Try.underlying97 (by kernel_rfl) rfl
def ti103 : TI := ⟨.ptr 105, 1, 8, [.val (.pointer none)], [none]⟩
theorem ok103 : TyOk Try.prog 103 ti103 := tyok_one (s := .ptr 105) (c := .pointer none) Try.underlying103 (by kernel_rfl) rfl
def ti105 : TI := ⟨.struct [(0, 1), (1, 1), (2, 1), (3, 1), (4, 1)], 5, 56, [.val (.slice none 0 0), .val (.int .i64 0), .val (.int .i64 0), .val (.int .i64 0), .val (.int .i64 0)], [some 12, none, none, none, none]⟩
theorem ok105 : TyOk Try.prog 105 ti105 := tyok_row (vs := [.slice none 0 0, .int .i64 0, .int .i64 0, .int .i64 0, .int .i64 0]) ⟨_, Try.underlying105, by kernel_rfl, by decide⟩ (by kernel_rfl) rfl rfl
def ti110 : TI := ⟨.struct [(0, 1), (1, 1)], 2, 16, [.val (.bool false), .val (.int .i64 0)], [none, none]⟩
theorem ok110 : TyOk Try.prog 110 ti110 := tyok_row (vs := [.bool false, .int .i64 0]) ⟨_, Try.underlying110, by kernel_rfl, by decide⟩ (by kernel_rfl) rfl rfl
def ti112 : TI := ⟨.ptr 27, 1, 8, [.val (.pointer none)], [none]⟩
theorem ok112 : TyOk Try.prog 112 ti112 := tyok_one (s := .ptr 27) (c := .pointer none) Try.underlying112 (by kernel_rfl) rfl
def ti113 : TI := ⟨.ptr 3, 1, 8, [.val (.pointer none)], [none]⟩
theorem ok113 : TyOk Try.prog 113 ti113 := tyok_one (s := .ptr 3) (c := .pointer none) Try.underlying113 (by kernel_rfl) rfl
def ti166 : TI := ⟨.slice 169, 1, 24, [.val (.slice none 0 0)], [some 5]⟩
theorem ok166 : TyOk Try.prog 166 ti166 := tyok_one (s := .slice 169) (c := .slice none 0 0) Try.underlying166 (by kernel_rfl) rfl
def ti169 : TI := ⟨.struct [(0, 1), (1, 1), (2, 1), (3, 1), (4, 1)], 5, 56, [.val (.int .i64 0), .val (.int .i64 0), .val (.string ⟨#[]⟩), .val (.string ⟨#[]⟩), .val (.int .i64 0)], [none, none, none, none, none]⟩
theorem ok169 : TyOk Try.prog 169 ti169 := tyok_row (vs := [.int .i64 0, .int .i64 0, .string ⟨#[]⟩, .string ⟨#[]⟩, .int .i64 0]) ⟨_, Try.underlying169, by kernel_rfl, by decide⟩ (by kernel_rfl) rfl rfl
def tabL : List (Nat × TI) := [(3, ti3), (4, ti4), (5, ti5), (9, ti9), (22, ti22), (24, ti24), (25, ti25), (27, ti27), (30, ti30), (31, ti31), (37, ti37), (45, ti45), (55, ti55), (61, ti61), (66, ti66), (67, ti67), (69, ti69), (74, ti74), (75, ti75), (77, ti77), (78, ti78), (80, ti80), (82, ti82), (88, ti88), (90, ti90), (94, ti94), (96, ti96), (97, ti97), (103, ti103), (105, ti105), (110, ti110), (112, ti112), (113, ti113), (166, ti166), (169, ti169)]
def tab : Tab := fun t => look t tabL
theorem tabOk : TabOk Try.prog tab := by
  intro t ti h
  have hm := look_mem h
  simp only [tabL, List.mem_cons, Prod.mk.injEq, List.not_mem_nil, or_false] at hm
  rcases hm with ⟨rfl, rfl⟩ | ⟨rfl, rfl⟩ | ⟨rfl, rfl⟩ | ⟨rfl, rfl⟩ | ⟨rfl, rfl⟩ | ⟨rfl, rfl⟩ | ⟨rfl, rfl⟩ | ⟨rfl, rfl⟩ | ⟨rfl, rfl⟩ | ⟨rfl, rfl⟩ | ⟨rfl, rfl⟩ | ⟨rfl, rfl⟩ | ⟨rfl, rfl⟩ | ⟨rfl, rfl⟩ | ⟨rfl, rfl⟩ | ⟨rfl, rfl⟩ | ⟨rfl, rfl⟩ | ⟨rfl, rfl⟩ | ⟨rfl, rfl⟩ | ⟨rfl, rfl⟩ | ⟨rfl, rfl⟩ | ⟨rfl, rfl⟩ | ⟨rfl, rfl⟩ | ⟨rfl, rfl⟩ | ⟨rfl, rfl⟩ | ⟨rfl, rfl⟩ | ⟨rfl, rfl⟩ | ⟨rfl, rfl⟩ | ⟨rfl, rfl⟩ | ⟨rfl, rfl⟩ | ⟨rfl, rfl⟩ | ⟨rfl, rfl⟩ | ⟨rfl, rfl⟩ | ⟨rfl, rfl⟩ | ⟨rfl, rfl⟩
  · exact ok3
  · exact ok4
  · exact ok5
  · exact ok9
  · exact ok22
  · exact ok24
  · exact ok25
  · exact ok27
  · exact ok30
  · exact ok31
  · exact ok37
  · exact ok45
  · exact ok55
  · exact ok61
  · exact ok66
  · exact ok67
  · exact ok69
  · exact ok74
  · exact ok75
  · exact ok77
  · exact ok78
  · exact ok80
  · exact ok82
  · exact ok88
  · exact ok90
  · exact ok94
  · exact ok96
  · exact ok97
  · exact ok103
  · exact ok105
  · exact ok110
  · exact ok112
  · exact ok113
  · exact ok166
  · exact ok169
theorem tab_3 : tab 3 = some ti3 := rfl
theorem tab_4 : tab 4 = some ti4 := rfl
theorem tab_5 : tab 5 = some ti5 := rfl
theorem tab_9 : tab 9 = some ti9 := rfl
theorem tab_22 : tab 22 = some ti22 := rfl
theorem tab_24 : tab 24 = some ti24 := rfl
theorem tab_25 : tab 25 = some ti25 := rfl
theorem tab_27 : tab 27 = some ti27 := rfl
theorem tab_30 : tab 30 = some ti30 := rfl
theorem tab_31 : tab 31 = some ti31 := rfl
theorem tab_37 : tab 37 = some ti37 := rfl
theorem tab_45 : tab 45 = some ti45 := rfl
theorem tab_55 : tab 55 = some ti55 := rfl
theorem tab_61 : tab 61 = some ti61 := rfl
theorem tab_66 : tab 66 = some ti66 := rfl
theorem tab_67 : tab 67 = some ti67 := rfl
theorem tab_69 : tab 69 = some ti69 := rfl
theorem tab_74 : tab 74 = some ti74 := rfl
theorem tab_75 : tab 75 = some ti75 := rfl
theorem tab_77 : tab 77 = some ti77 := rfl
theorem tab_78 : tab 78 = some ti78 := rfl
theorem tab_80 : tab 80 = some ti80 := rfl
theorem tab_82 : tab 82 = some ti82 := rfl
theorem tab_88 : tab 88 = some ti88 := rfl
theorem tab_90 : tab 90 = some ti90 := rfl
theorem tab_94 : tab 94 = some ti94 := rfl
theorem tab_96 : tab 96 = some ti96 := rfl
theorem tab_97 : tab 97 = some ti97 := rfl
theorem tab_103 : tab 103 = some ti103 := rfl
theorem tab_105 : tab 105 = some ti105 := rfl
theorem tab_110 : tab 110 = some ti110 := rfl
theorem tab_112 : tab 112 = some ti112 := rfl
theorem tab_113 : tab 113 = some ti113 := rfl
theorem tab_166 : tab 166 = some ti166 := rfl
theorem tab_169 : tab 169 = some ti169 := rfl
theorem orders : Try.prog.follows .mixedOrders = true := by kernel_rfl
end Go.Proofs.Ytnoohgiecnmajaa.VC

