/- The small functions' contracts. -/
import Derived.Test.YtknllghkpjncoaaTab
import Derived.IntWalk
set_option linter.unusedVariables false
set_option linter.unusedSimpArgs false
set_option maxRecDepth 100000

namespace Go.Proofs
open Go VC

theorem wi (n : Int) (h : -9223372036854775808 ≤ n ∧ n ≤ 9223372036854775807) : IntKind.i64.wrap n = n := by rw [IntKind.wrap_i64]; omega
theorem wn (i : Nat) (h : i ≤ 4611686018427387904) : IntKind.i64.wrap ((i : Int) + 1) = ((i + 1 : Nat) : Int) := by rw [wi _ (by omega)]; rfl
theorem wb (n : Int) (h : 0 ≤ n ∧ n ≤ 255) : IntKind.u8.wrap n = n := by rw [IntKind.wrap_u8]; omega

/-- A list of whole numbers, of bytes, as rows of cells. -/
def ic (n : Int) : List Tr := [.sc (.int .i64 n)]
def bc (n : Int) : List Tr := [.sc (.int .u8 n)]
abbrev ints (l : List Int) : AV := .sl 0 (l.map ic)
abbrev byts (l : List Int) : AV := .sl 0 (l.map bc)
structure Ent where
  term : Int
  kind : Int
  data : List Int
def Ent.zero : Ent := ⟨0, 0, []⟩
def ec (e : Ent) : List Tr := [.sc (.int .i64 e.term), .sc (.int .i64 e.kind), .sl (e.data.map bc)]
abbrev ents (l : List Ent) : AV := .sl 0 (l.map ec)
abbrev ent (e : Ent) : AV := .agg [I e.term, I e.kind, byts e.data]
abbrev grp (now next : List Int) : AV := .agg [ints now, ints next]
structure Kp where
  term : Int
  vote : Int
  base : Int
  baseTerm : Int
  now : List Int
  next : List Int
  snap : List Int
  log : List Ent
abbrev kp (k : Kp) : AV := .agg [I k.term, I k.vote, I k.base, I k.baseTerm, ints k.now, ints k.next, byts k.snap, ents k.log]

theorem getD_ic (l : List Int) (i : Nat) (h : i < l.length) : (l.map ic).getD i [] = ic (l.getD i 0) := by simp [List.getD_eq_getElem?_getD, h]
theorem getD_bc (l : List Int) (i : Nat) (h : i < l.length) : (l.map bc).getD i [] = bc (l.getD i 0) := by simp [List.getD_eq_getElem?_getD, h]
theorem getD_ec (l : List Ent) (i : Nat) (h : i < l.length) : (l.map ec).getD i [] = ec (l.getD i .zero) := by simp [List.getD_eq_getElem?_getD, h]

def szl (left n : Int) : Int := if left - n < 0 then -1 else left - n
theorem p44 (l : List Int) (left : Int) (h : l.length ≤ 140737488355328) (h' : -1 ≤ left ∧ left ≤ 1048576) : Pure Try.prog 44 [ints l, I left] (· = I (szl left l.length)) := by
  refine Pure.intro mo Try.func44 rfl (by show 2 ≤ 12; omega) _ rfl [0, 1, 4, 10] (by kernel_rfl) ?_
  simp [Try.f44]; rw [wi _ (by omega)]; simp only [szl]; grind
theorem p69 (l : List Int) (left : Int) (h : l.length ≤ 140737488355328) (h' : -1 ≤ left ∧ left ≤ 1048576) : Pure Try.prog 69 [byts l, I left] (· = I (szl left l.length)) := by
  refine Pure.intro mo Try.func69 rfl (by show 2 ≤ 12; omega) _ rfl [0, 1, 4, 10] (by kernel_rfl) ?_
  simp [Try.f69]; rw [wi _ (by omega)]; simp only [szl]; grind
theorem szl_in {left n : Int} (h' : -1 ≤ left ∧ left ≤ 1048576) (h : 0 ≤ n) : -1 ≤ szl left n ∧ szl left n ≤ 1048576 := by simp only [szl]; grind
theorem p46 (e : Ent) (left : Int) (h : e.data.length ≤ 140737488355328) (h' : -1 ≤ left ∧ left ≤ 1048576) : Pure Try.prog 46 [ent e, I left] (· = I (szl left e.data.length)) := by
  refine Pure.intro mo Try.func46 rfl (by show 2 ≤ 12; omega) _ rfl [0, 1, 2, 4, 10] (by kernel_rfl) ?_
  simp [Try.f46]
  refine call0 isFn69 (p69 _ _ h h') ?_
  simp
  simp only [szl]; grind
theorem p22 (now next : List Int) (left : Int) (h1 : now.length ≤ 140737488355328) (h2 : next.length ≤ 140737488355328) (h' : -1 ≤ left ∧ left ≤ 1048576) : Pure Try.prog 22 [grp now next, I left] (· = I (if szl left now.length < 0 then -1 else szl (szl left now.length) next.length)) := by
  refine Pure.intro mo Try.func22 rfl (by show 2 ≤ 18; omega) _ rfl [0, 1, 2, 4, 10, 16] (by kernel_rfl) ?_
  simp [Try.f22]
  refine call0 isFn44 (p44 _ _ h1 h') ?_
  simp
  refine ⟨by grind, fun h => ?_⟩
  refine call0 isFn44 (p44 _ _ h2 (szl_in h' (by omega))) ?_
  simp; simp only [szl]; grind
def szE : List Ent → Int → Int
  | [], left => left
  | e :: r, left => if szl left e.data.length < 0 then -1 else szE r (szl left e.data.length)
theorem p25 (l : List Ent) (left : Int) (h : l.length ≤ 140737488355328) (hd : ∀ e ∈ l, e.data.length ≤ 140737488355328) (h' : -1 ≤ left ∧ left ≤ 1048576) : Pure Try.prog 25 [ents l, I left] (· = I (if szl left l.length < 0 then -1 else szE l (szl left l.length))) := by
  refine Pure.intro mo Try.func25 rfl (by show 2 ≤ 27; omega) _ rfl [0, 1, 4, 5, 11, 15, 25] (by kernel_rfl) ?_
  simp [Try.f25]
  rw [wi _ (by omega)]
  refine ⟨by simp only [szl]; grind, fun h0 => ?_⟩
  refine loopI (fun (i, m, a, b, c) => ⟨[(0, ents l), (1, I m), (4, I 0), (5, I (i : Nat)), (11, a), (15, b), (25, c)], [], [], 0, 2⟩)
    (fun (i, m, _, _, _) => i ≤ l.length ∧ -1 ≤ m ∧ m ≤ 1048576 ∧ szE (l.drop i) m = szE l (left - l.length)) (fun (i, _) => l.length - i) (0, _, _, _, _) rfl ⟨by omega, by omega, by omega, by simp⟩ ?_
  rintro ⟨i, m, a, b, c⟩ ⟨j1, j2, j3, j4⟩
  by_cases hi : i < l.length <;> simp [hi, ec]
  · refine call0 isFn46 (p46 l[i] _ (hd _ (List.getElem_mem hi)) ⟨j2, j3⟩) ?_
    rw [List.drop_eq_getElem_cons hi, szE] at j4
    simp
    refine ⟨fun h1 => ?_, fun h1 => ?_⟩
    · rw [if_pos h1] at j4; simp only [szl]; grind
    · rw [if_neg (by omega)] at j4
      rw [wn _ (by omega)]
      exact RndI.mk (i + 1, _, _, _, _) rfl ⟨hi, (szl_in ⟨j2, j3⟩ (by omega)).1, (szl_in ⟨j2, j3⟩ (by omega)).2, j4⟩ (by show l.length - (i + 1) < l.length - i; omega)
  · simp only [szl]; rw [List.drop_eq_nil_of_le (by omega), szE] at j4; grind
def szK (k : Kp) : Int :=
  let a := if szl 1048576 k.now.length < 0 then -1 else szl (szl 1048576 k.now.length) k.next.length
  if a < 0 then -1 else
  let b := szl a k.snap.length
  if b < 0 then -1 else
  let c := if szl b k.log.length < 0 then -1 else szE k.log (szl b k.log.length)
  if c < 0 then -1 else c
/-- Lists that a machine can hold. -/
structure Kp.small (k : Kp) : Prop where
  now : k.now.length ≤ 140737488355328
  next : k.next.length ≤ 140737488355328
  snap : k.snap.length ≤ 140737488355328
  log : k.log.length ≤ 140737488355328
  data : ∀ e ∈ k.log, e.data.length ≤ 140737488355328
theorem p80 (k : Kp) (h : k.small) : Pure Try.prog 80 [kp k, I 1048576] (· = I (szK k)) := by
  refine Pure.intro mo Try.func80 rfl (by show 2 ≤ 24; omega) _ rfl [0, 1, 2, 4, 10, 16, 22] (by kernel_rfl) ?_
  simp [Try.f80]
  refine call0 isFn22 (p22 _ _ _ h.now h.next (by omega)) ?_
  have ha : -1 ≤ (if szl 1048576 k.now.length < 0 then -1 else szl (szl 1048576 k.now.length) k.next.length) ∧ (if szl 1048576 k.now.length < 0 then -1 else szl (szl 1048576 k.now.length) k.next.length) ≤ 1048576 := by simp only [szl]; grind
  simp
  rw [szK]
  generalize hA : (if szl 1048576 (k.now.length : Int) < 0 then -1 else szl (szl 1048576 k.now.length) k.next.length) = A at *
  refine ⟨fun h1 => by grind, fun h1 => ?_⟩
  refine call0 isFn69 (p69 _ _ h.snap ha) ?_
  have hb := szl_in ha (Int.natCast_nonneg k.snap.length)
  simp
  generalize hB : szl A k.snap.length = B at *
  refine ⟨fun h1 => by grind, fun h1 => ?_⟩
  refine call0 isFn25 (p25 _ _ h.log h.data hb) ?_
  simp
  grind
/-- Two lists alike: what the comparisons answer. -/
theorem p53 (a : List Int) (h : a.length ≤ 140737488355328) : Pure Try.prog 53 [ints a, ints a] (· = Bo true) := by
  refine Pure.intro mo Try.func53 rfl (by show 2 ≤ 26; omega) _ rfl [0, 1, 4, 5, 10, 14, 25] (by kernel_rfl) ?_
  simp [Try.f53]
  refine loopI (fun (i, x, y, z) => ⟨[(0, ints a), (1, ints a), (4, Bo false), (5, I (i : Nat)), (10, x), (14, y), (25, z)], [], [], 0, 2⟩)
    (fun (i, _, _, _) => i ≤ a.length) (fun (i, _) => a.length - i) (0, _, _, _) rfl (by omega) ?_
  rintro ⟨i, x, y, z⟩ j1
  by_cases hi : i < a.length
  · simp [hi, ic]
    refine ⟨[false, false, false, false, false, false, false, false, true], by kernel_rfl, ?_⟩
    simp [hi, ic]
    rw [wn _ (by omega)]
    exact RndI.mk (i + 1, _, _, _) rfl hi (by show a.length - (i + 1) < a.length - i; omega)
  · simp [hi]
theorem p77 (a : List Int) (h : a.length ≤ 140737488355328) : Pure Try.prog 77 [byts a, byts a] (· = Bo true) := by
  refine Pure.intro mo Try.func77 rfl (by show 2 ≤ 26; omega) _ rfl [0, 1, 4, 5, 10, 14, 25] (by kernel_rfl) ?_
  simp [Try.f77]
  refine loopI (fun (i, x, y, z) => ⟨[(0, byts a), (1, byts a), (4, Bo false), (5, I (i : Nat)), (10, x), (14, y), (25, z)], [], [], 0, 2⟩)
    (fun (i, _, _, _) => i ≤ a.length) (fun (i, _) => a.length - i) (0, _, _, _) rfl (by omega) ?_
  rintro ⟨i, x, y, z⟩ j1
  by_cases hi : i < a.length
  · simp [hi, bc]
    refine ⟨[false, false, false, false, false, false, false, false, true], by kernel_rfl, ?_⟩
    simp [hi, bc]
    rw [wn _ (by omega)]
    exact RndI.mk (i + 1, _, _, _) rfl hi (by show a.length - (i + 1) < a.length - i; omega)
  · simp [hi]
/-- A row that is being filled. -/
def fillTo {α : Type} (g : α → List Tr) (l : List α) (z : List Tr) (i : Nat) : List (List Tr) := (l.take i).map g ++ List.replicate (l.length - i) z
section
variable {α : Type} (g : α → List Tr) (l : List α) (z : List Tr) {i : Nat}
theorem fillTo_zero : List.replicate l.length z = fillTo g l z 0 := by simp [fillTo]
theorem fillTo_length (h : i ≤ l.length) : (fillTo g l z i).length = l.length := by simp [fillTo]; omega
theorem fillTo_get (h : i < l.length) : (fillTo g l z i)[i]? = some z := by
  rw [fillTo, List.getElem?_append_right (by simp; omega), List.getElem?_replicate, if_pos (by simp; omega)]
theorem fillTo_set (h : i < l.length) : (fillTo g l z i).set i (g l[i]) = fillTo g l z (i + 1) := by
  rw [fillTo, fillTo, List.set_append_right _ _ (by simp; omega)]
  have h1 : l.length - i = (l.length - (i + 1)) + 1 := by omega
  have h2 : i - ((l.take i).map g).length = 0 := by simp; omega
  rw [h1, h2, List.replicate_succ, List.set_cons_zero, List.take_succ_eq_append_getElem h]
  simp only [List.map_append, List.map_cons, List.map_nil, List.append_assoc, List.singleton_append]
theorem fillTo_all : fillTo g l z l.length = l.map g := by simp [fillTo]
end
theorem p48 (l : List Int) (h : l.length ≤ 1048576) : Pure Try.prog 48 [ints l] (· = ints l) := by
  refine Pure.intro mo Try.func48 rfl (by show 1 ≤ 22; omega) _ rfl [0, 2, 3, 4, 11] (by kernel_rfl) ?_
  simp [Try.f48]
  refine ⟨by omega, by omega, ?_⟩
  refine loopI (fun (i, x) => ⟨[(0, ints l), (2, .sl 1 []), (3, .arr 0 0 l.length), (4, I (i : Nat)), (11, x)], [(0, .row 1 (fillTo ic l [.sc (.int .i64 0)] i))], [], 1, 2⟩)
    (fun (i, _) => i ≤ l.length) (fun (i, _) => l.length - i) (0, _) (by rw [fillTo_zero ic]; rfl) (by omega) ?_
  rintro ⟨i, x⟩ j1
  by_cases hi : i < l.length
  · simp [hi, ic, fillTo_get _ _ _ hi]
    rw [wn _ (by omega)]
    exact RndI.mk (i + 1, _) (by rw [← fillTo_set _ _ _ hi]; rfl) hi (by show l.length - (i + 1) < l.length - i; omega)
  · have : i = l.length := by omega
    subst this
    simp [fillTo_all, List.take_of_length_le]
theorem p73 (l : List Int) (h : l.length ≤ 1048576) : Pure Try.prog 73 [byts l] (· = byts l) := by
  refine Pure.intro mo Try.func73 rfl (by show 1 ≤ 22; omega) _ rfl [0, 2, 3, 4, 11] (by kernel_rfl) ?_
  simp [Try.f73]
  refine ⟨by omega, by omega, ?_⟩
  refine loopI (fun (i, x) => ⟨[(0, byts l), (2, .sl 1 []), (3, .arr 0 0 l.length), (4, I (i : Nat)), (11, x)], [(0, .row 1 (fillTo bc l [.sc (.int .u8 0)] i))], [], 1, 2⟩)
    (fun (i, _) => i ≤ l.length) (fun (i, _) => l.length - i) (0, _) (by rw [fillTo_zero bc]; rfl) (by omega) ?_
  rintro ⟨i, x⟩ j1
  by_cases hi : i < l.length
  · simp [hi, bc, fillTo_get _ _ _ hi]
    rw [wn _ (by omega)]
    exact RndI.mk (i + 1, _) (by rw [← fillTo_set _ _ _ hi]; rfl) hi (by show l.length - (i + 1) < l.length - i; omega)
  · have : i = l.length := by omega
    subst this
    simp [fillTo_all, List.take_of_length_le]
theorem p51 (e : Ent) (h : e.data.length ≤ 1048576) : Pure Try.prog 51 [ent e] (· = ent e) := by
  refine Pure.intro mo Try.func51 rfl (by show 1 ≤ 15; omega) _ rfl [0, 1, 2, 3] (by kernel_rfl) ?_
  simp [Try.f51]
  refine call0 isFn73 (p73 _ (by omega)) ?_
  simp
theorem p56 (e : Ent) (h : e.data.length ≤ 140737488355328) : Pure Try.prog 56 [ent e, ent e] (· = Bo true) := by
  refine Pure.intro mo Try.func56 rfl (by show 2 ≤ 21; omega) _ rfl [0, 1, 2, 3, 4, 9, 14, 20] (by kernel_rfl) ?_
  simp [Try.f56]
  refine call0 isFn77 (p77 _ (by omega)) ?_
  simp
theorem p31 (l : List Ent) (h : l.length ≤ 1048576) (hd : ∀ e ∈ l, e.data.length ≤ 1048576) : Pure Try.prog 31 [ents l] (· = ents l) := by
  refine Pure.intro mo Try.func31 rfl (by show 1 ≤ 23; omega) _ rfl [0, 2, 3, 4, 11] (by kernel_rfl) ?_
  simp [Try.f31]
  refine ⟨by omega, by omega, ?_⟩
  refine loopI (fun (i, x) => ⟨[(0, ents l), (2, .sl 1 []), (3, .arr 0 0 l.length), (4, I (i : Nat)), (11, x)], [(0, .row 3 (fillTo ec l [.sc (.int .i64 0), .sc (.int .i64 0), .sl []] i))], [], 1, 2⟩)
    (fun (i, _) => i ≤ l.length) (fun (i, _) => l.length - i) (0, _) (by rw [fillTo_zero ec]; rfl) (by omega) ?_
  rintro ⟨i, x⟩ j1
  by_cases hi : i < l.length
  · simp [hi, ec, fillTo_get _ _ _ hi]
    refine call0 isFn51 (p51 l[i] (hd _ (List.getElem_mem hi))) ?_
    simp [hi, fillTo_get _ _ _ hi]
    rw [wn _ (by omega)]
    exact RndI.mk (i + 1, _) (by rw [← fillTo_set _ _ _ hi]; rfl) hi (by show l.length - (i + 1) < l.length - i; omega)
  · have : i = l.length := by omega
    subst this
    simp [fillTo_all, List.take_of_length_le]
theorem p28 (now next : List Int) (h1 : now.length ≤ 1048576) (h2 : next.length ≤ 1048576) : Pure Try.prog 28 [grp now next] (· = grp now next) := by
  refine Pure.intro mo Try.func28 rfl (by show 1 ≤ 13; omega) _ rfl [0, 1, 2, 3] (by kernel_rfl) ?_
  simp [Try.f28]
  refine call0 isFn48 (p48 _ h1) ?_
  simp
  refine call0 isFn48 (p48 _ h2) ?_
  simp
/-- Lists that the law lets by. -/
structure Kp.low (k : Kp) : Prop where
  now : k.now.length ≤ 1048576
  next : k.next.length ≤ 1048576
  snap : k.snap.length ≤ 1048576
  log : k.log.length ≤ 1048576
  data : ∀ e ∈ k.log, e.data.length ≤ 1048576
theorem p84 (k : Kp) (h : k.low) : Pure Try.prog 84 [kp k] (· = kp k) := by
  refine Pure.intro mo Try.func84 rfl (by show 1 ≤ 29; omega) _ rfl [0, 1, 2, 3] (by kernel_rfl) ?_
  simp [Try.f84]
  refine call0 isFn28 (p28 _ _ h.now h.next) ?_
  simp
  refine call0 isFn73 (p73 _ h.snap) ?_
  simp
  refine call0 isFn31 (p31 _ h.log h.data) ?_
  simp
theorem p34 (now next : List Int) (h1 : now.length ≤ 140737488355328) (h2 : next.length ≤ 140737488355328) : Pure Try.prog 34 [grp now next, grp now next] (· = Bo true) := by
  refine Pure.intro mo Try.func34 rfl (by show 2 ≤ 17; omega) _ rfl [0, 1, 2, 3, 4, 10, 16] (by kernel_rfl) ?_
  simp [Try.f34]
  refine call0 isFn53 (p53 _ h1) ?_
  simp
  refine call0 isFn53 (p53 _ h2) ?_
  simp
theorem p37 (a : List Ent) (h : a.length ≤ 140737488355328) (hd : ∀ e ∈ a, e.data.length ≤ 140737488355328) : Pure Try.prog 37 [ents a, ents a] (· = Bo true) := by
  refine Pure.intro mo Try.func37 rfl (by show 2 ≤ 27; omega) _ rfl [0, 1, 4, 5, 10, 14, 26] (by kernel_rfl) ?_
  simp [Try.f37]
  refine loopI (fun (i, x, y, z) => ⟨[(0, ents a), (1, ents a), (4, Bo false), (5, I (i : Nat)), (10, x), (14, y), (26, z)], [], [], 0, 2⟩)
    (fun (i, _, _, _) => i ≤ a.length) (fun (i, _) => a.length - i) (0, _, _, _) rfl (by omega) ?_
  rintro ⟨i, x, y, z⟩ j1
  by_cases hi : i < a.length
  · simp [hi, ec]
    refine ⟨[false, false, false, false, false, false, false, false, true, true], by kernel_rfl, ?_⟩
    simp [hi, ec]
    refine call0 isFn56 (p56 a[i] (hd _ (List.getElem_mem hi))) ?_
    simp
    rw [wn _ (by omega)]
    exact RndI.mk (i + 1, _, _, _) rfl hi (by show a.length - (i + 1) < a.length - i; omega)
  · simp [hi]
theorem p89 (k : Kp) (h : k.low) : Pure Try.prog 89 [kp k, kp k] (· = Bo true) := by
  refine Pure.intro mo Try.func89 rfl (by show 2 ≤ 43; omega) _ rfl [0, 1, 2, 3, 4, 9, 14, 19, 24, 30, 36, 42] (by kernel_rfl) ?_
  have h1 := h.snap
  have h2 := h.now
  have h3 := h.next
  have h4 := h.log
  have h5 := h.data
  simp [Try.f89]
  refine call0 isFn34 (p34 _ _ (by omega) (by omega)) ?_
  simp
  refine call0 isFn77 (p77 _ (by omega)) ?_
  simp
  refine call0 isFn37 (p37 _ (by omega) (fun e he => by have := h5 e he; omega)) ?_
  simp
end Go.Proofs
