/- Servers: what is handed in and compared. -/
import Derived.Test.YtknllghkpjncoaaA3
set_option linter.unusedVariables false
set_option linter.unusedSimpArgs false
set_option maxRecDepth 100000
namespace Go.Proofs
open Go VC

/-- Eight whole numbers. -/
def a8 (f : Nat → Int) : List AV := [I (f 0), I (f 1), I (f 2), I (f 3), I (f 4), I (f 5), I (f 6), I (f 7)]
theorem a8_get (f : Nat → Int) {i : Nat} (h : i < 8) : (a8 f)[i]? = some (I (f i)) := by
  match i, h with
  | 0, _ | 1, _ | 2, _ | 3, _ | 4, _ | 5, _ | 6, _ | 7, _ => rfl
@[simp] theorem a8_one (f : Nat → Int) : (a8 f).all AV.one = true := rfl
@[simp] theorem a8_take (f : Nat → Int) : (a8 f).take 8 = a8 f := rfl
@[simp] theorem a8_drop (f : Nat → Int) : (a8 f).drop 8 = [] := rfl
@[simp] theorem a8_len (f : Nat → Int) : (a8 f).length = 8 := rfl
theorem a8_set (f : Nat → Int) (v : Int) {i : Nat} (h : i < 8) : (a8 f).take i ++ I v :: (a8 f).drop (i + 1) = a8 (fun j => if j = i then v else f j) := by
  match i, h with
  | 0, _ | 1, _ | 2, _ | 3, _ | 4, _ | 5, _ | 6, _ | 7, _ => rfl
theorem a8_congr {f g : Nat → Int} (h : ∀ j, j < 8 → f j = g j) : a8 f = a8 g := by
  unfold a8; simp [h]
structure Sv where
  id : Int
  k : Kp
  role : Int
  lead : Int
  commit : Int
  votes : List Int
  next : Nat → Int
  mat : Nat → Int
  elapsed : Int
  wait : Int
abbrev svc (s : Sv) : List AV := [I s.id, I s.k.term, I s.k.vote, I s.k.base, I s.k.baseTerm, ints s.k.now, ints s.k.next, byts s.k.snap, ents s.k.log, I s.role, I s.lead, I s.commit, ints s.votes,
  I (s.next 0), I (s.next 1), I (s.next 2), I (s.next 3), I (s.next 4), I (s.next 5), I (s.next 6), I (s.next 7), I (s.mat 0), I (s.mat 1), I (s.mat 2), I (s.mat 3), I (s.mat 4), I (s.mat 5), I (s.mat 6), I (s.mat 7), I s.elapsed, I s.wait]
abbrev sv (s : Sv) : AV := .agg (svc s)
theorem p90 (f : Nat → Int) : Pure Try.prog 90 [.agg (a8 f), .agg (a8 f)] (· = Bo true) := by
  refine Pure.intro mo Try.func90 rfl (by show 2 ≤ 17; omega) _ rfl [0, 1, 2, 3, 4, 5, 7, 16] (by kernel_rfl) ?_
  simp [Try.f90]
  refine loopI (fun ((i, x, y) : Nat × AV × AV) => ⟨[(0, .agg (a8 f)), (1, .agg (a8 f)), (2, .ptr 0 0), (3, .ptr 1 0), (4, Bo false), (5, I (i : Nat)), (7, x), (16, y)], [(1, .box (a8 f)), (0, .box (a8 f))], [], 2, 2⟩)
    (fun (i, _) => i ≤ 8) (fun (i, _) => 8 - i) (0, _, _) rfl (by show 0 ≤ 8; omega) ?_
  rintro ⟨i, x, y⟩ j1
  by_cases hi : i < 8
  · have hi' : (i : Int) < 8 := by omega
    have hw := wn i (by omega)
    simp [hi, hi']
    refine ⟨[false, false, false, false, false, false, true], by kernel_rfl, ?_⟩
    simp [hi', a8_get f hi]
    rw [hw]
    exact RndI.mk (i + 1, _, _) rfl hi (by show 8 - (i + 1) < 8 - i; omega)
  · have : i = 8 := by have : i ≤ 8 := j1; omega
    subst this
    simp
theorem p85 (f : Nat → Int) : Pure Try.prog 85 [.agg (a8 f)] (· = .agg (a8 f)) := by
  refine Pure.intro mo Try.func85 rfl (by show 1 ≤ 15; omega) _ rfl [0, 1, 2, 3, 4, 6] (by kernel_rfl) ?_
  simp [Try.f85]
  refine loopI (fun ((i, x) : Nat × AV) => ⟨[(0, .agg (a8 f)), (1, .ptr 0 0), (2, .ptr 1 0), (3, .ptr 2 0), (4, I (i : Nat)), (6, x)], [(2, .box (a8 (fun j => if j < i then f j else 0))), (1, .box (a8 (fun _ => 0))), (0, .box (a8 f))], [], 3, 2⟩)
    (fun (i, _) => i ≤ 8) (fun (i, _) => 8 - i) (0, _) rfl (by show 0 ≤ 8; omega) ?_
  rintro ⟨i, x⟩ j1
  by_cases hi : i < 8
  · have hi' : (i : Int) < 8 := by omega
    have hw := wn i (by omega)
    simp [hi, hi', a8_get _ hi]
    rw [hw, a8_set _ _ hi, a8_congr (f := fun j => if j = i then f i else if j < i then f j else 0) (g := fun j => if j < i + 1 then f j else 0) (fun j _ => by grind)]
    refine ⟨by omega, ?_⟩
    exact RndI.mk (i + 1, _) rfl hi (by show 8 - (i + 1) < 8 - i; omega)
  · have : i = 8 := by have : i ≤ 8 := j1; omega
    subst this
    simp
    exact a8_congr (fun j h => by simp [h])

theorem szE_in : ∀ (l : List Ent) (left : Int), -1 ≤ left ∧ left ≤ 1048576 → -1 ≤ szE l left ∧ szE l left ≤ 1048576
  | [], _, h => h
  | d :: l, left, h => by
    rw [szE]
    split
    · omega
    · exact szE_in l _ (szl_in h (Int.natCast_nonneg _))
structure Sv.low (s : Sv) : Prop where
  k : s.k.low
  votes : s.votes.length ≤ 1048576
structure Sv.small (s : Sv) : Prop where
  k : s.k.small
  votes : s.votes.length ≤ 140737488355328
theorem szK_in (k : Kp) : -1 ≤ szK k ∧ szK k ≤ 1048576 := by
  unfold szK
  simp only
  have ha : -1 ≤ (if szl 1048576 k.now.length < 0 then -1 else szl (szl 1048576 k.now.length) k.next.length) ∧ (if szl 1048576 k.now.length < 0 then -1 else szl (szl 1048576 k.now.length) k.next.length) ≤ 1048576 := by simp only [szl]; grind
  generalize (if szl 1048576 (k.now.length : Int) < 0 then -1 else szl (szl 1048576 k.now.length) k.next.length) = A at *
  split
  · omega
  have hb := szl_in ha (Int.natCast_nonneg k.snap.length)
  generalize szl A k.snap.length = B at *
  split
  · omega
  have hc : -1 ≤ (if szl B k.log.length < 0 then -1 else szE k.log (szl B k.log.length)) ∧ (if szl B k.log.length < 0 then -1 else szE k.log (szl B k.log.length)) ≤ 1048576 := by
    split
    · omega
    · exact szE_in _ _ (szl_in hb (Int.natCast_nonneg _))
  split <;> omega
def szS (s : Sv) : Int := if szK s.k < 0 then -1 else if szl (szK s.k) s.votes.length < 0 then -1 else szl (szK s.k) s.votes.length
theorem szS_low {s : Sv} (h : 0 ≤ szS s) : s.low := by
  unfold szS at h
  by_cases h1 : szK s.k < 0
  · rw [if_pos h1] at h; omega
  rw [if_neg h1] at h
  by_cases h2 : szl (szK s.k) s.votes.length < 0
  · rw [if_pos h2] at h; omega
  have e2 := szl_le (Int.not_lt.1 h2)
  exact ⟨szK_low (Int.not_lt.1 h1), by have := (szK_in s.k).2; omega⟩
theorem p66 (s : Sv) (h : s.small) : Pure Try.prog 66 [sv s, I 1048576] (· = I (szS s)) := by
  refine Pure.intro mo Try.func66 rfl (by show 2 ≤ 18; omega) _ rfl [0, 1, 2, 4, 10, 16] (by kernel_rfl) ?_
  simp [Try.f66]
  refine call0 isFn80 (p80 s.k h.k) ?_
  simp
  refine ⟨fun h1 => by simp [szS, h1], fun h1 => ?_⟩
  refine call0 isFn44 (p44 _ _ h.votes (szK_in _)) ?_
  simp [szS, h1]
  grind
theorem p70 (s : Sv) (h : s.low) : Pure Try.prog 70 [sv s] (· = sv s) := by
  refine Pure.intro mo Try.func70 rfl (by show 1 ≤ 39; omega) _ rfl [0, 1, 2, 3] (by kernel_rfl) ?_
  simp [Try.f70]
  refine call0 isFn84 (p84 s.k h.k) ?_
  simp
  refine call0 isFn48 (p48 _ h.votes) ?_
  simp
  refine call0 isFn85 (p85 s.next) ?_
  simp [a8]
  refine call0 isFn85 (p85 s.mat) ?_
  simp [a8]
theorem p74 (s : Sv) (h : s.low) : Pure Try.prog 74 [sv s, sv s] (· = Bo true) := by
  refine Pure.intro mo Try.func74 rfl (by show 2 ≤ 59; omega) _ rfl [0, 1, 2, 3, 4, 9, 15, 20, 25, 30, 36, 42, 48, 53, 58] (by kernel_rfl) ?_
  have := h.votes
  simp [Try.f74]
  refine call0 isFn89 (p89 s.k h.k) ?_
  simp
  refine call0 isFn53 (p53 _ (by omega)) ?_
  simp
  refine call0 isFn90 (p90 s.next) ?_
  simp
  refine call0 isFn90 (p90 s.mat) ?_
  simp
end Go.Proofs
