/- Servers: is one right. -/
import Derived.Test.YtcjjklbonobepaaA7
set_option linter.unusedVariables false
set_option linter.unusedSimpArgs false
set_option maxRecDepth 100000
namespace Go.Proofs
open Go VC

def Sv.bytes (s : Sv) : Prop := s.k.bytes
/-- A server's rows by Id. -/
def rowOk (s : Sv) (j : Nat) : Prop :=
  if s.role = 2 ∧ 0 < j then 1 ≤ s.next j ∧ s.next j ≤ s.k.base + s.k.log.length + 1 ∧ 0 ≤ s.mat j ∧ s.mat j ≤ s.k.base + s.k.log.length else s.next j = 0 ∧ s.mat j = 0
def sokR (s : Sv) : Prop :=
  1 ≤ s.id ∧ s.id ≤ 7 ∧ kokP s.k ∧ 0 ≤ s.role ∧ s.role ≤ 2 ∧ 0 ≤ s.lead ∧ s.lead ≤ 7 ∧ s.k.base ≤ s.commit ∧ s.commit ≤ s.k.base + s.k.log.length ∧ ids s.votes = true ∧
    0 ≤ s.elapsed ∧ s.elapsed ≤ 1000 ∧ 0 ≤ s.wait ∧ s.wait ≤ 1000
def sokP (s : Sv) : Prop := sokR s ∧ ∀ j, j < 8 → rowOk s j
noncomputable def sok (s : Sv) : Bool := @decide (sokP s) (Classical.propDecidable _)
theorem sok_iff {s : Sv} : sok s = true ↔ sokP s := by unfold sok; exact @decide_eq_true_iff _ (Classical.propDecidable _)
theorem sok_no {s : Sv} (h : sokP s → False) : sok s = false := by
  cases hk : sok s with
  | false => rfl
  | true => exact (h (sok_iff.1 hk)).elim
theorem sok_noR {s : Sv} (h : sokR s → False) : sok s = false := sok_no (fun k => h k.1)
theorem all8 {p : Nat → Prop} : (∀ j, j < 8 → p j) ↔ p 0 ∧ p 1 ∧ p 2 ∧ p 3 ∧ p 4 ∧ p 5 ∧ p 6 ∧ p 7 := by
  constructor
  · intro h; exact ⟨h 0 (by omega), h 1 (by omega), h 2 (by omega), h 3 (by omega), h 4 (by omega), h 5 (by omega), h 6 (by omega), h 7 (by omega)⟩
  · rintro ⟨h0, h1, h2, h3, h4, h5, h6, h7⟩ j hj
    match j, hj with
    | 0, _ | 1, _ | 2, _ | 3, _ | 4, _ | 5, _ | 6, _ | 7, _ => assumption
theorem svc_next (s : Sv) {i : Nat} (h : i < 8) : (svc s)[13 + i]? = some (I (s.next i)) := by
  match i, h with
  | 0, _ | 1, _ | 2, _ | 3, _ | 4, _ | 5, _ | 6, _ | 7, _ => rfl
theorem svc_mat (s : Sv) {i : Nat} (h : i < 8) : (svc s)[21 + i]? = some (I (s.mat i)) := by
  match i, h with
  | 0, _ | 1, _ | 2, _ | 3, _ | 4, _ | 5, _ | 6, _ | 7, _ => rfl
theorem sok_row {s : Sv} {j : Nat} (hj : j < 8) (h : ¬ rowOk s j) : sok s = false := sok_no (fun k => h (k.2 j hj))
theorem sok_yes {s : Sv} (h : sokR s) (h' : ∀ j, j < 8 → rowOk s j) : sok s = true := sok_iff.2 ⟨h, h'⟩
set_option maxHeartbeats 4000000 in
theorem p30 (s : Sv) (h : s.low) (hb : s.bytes) : Pure Try.prog 30 [sv s] (· = Bo (sok s)) := by
  refine Pure.intro mo Try.func30 rfl (by show 1 ≤ 104; omega) _ rfl [0, 1, 2, 3, 55, 58, 70, 93] (by kernel_rfl) ?_
  have hl := h.k.log
  simp [Try.f30]
  refine ⟨[true, true, true, true, true, true, true, true, true, true, true, true, true, true, true, true, true, true, true, true, true, true, true, false, false, false, false, false, false, false, false, true, true, true, true, true, true, true, true, true, true, true, true, true, true, true, true, true, true, true, true, true], by kernel_rfl, ?_⟩
  simp
  first | refine call0 isFn55 (p55 s.id) ?_ | refine qcall0 isFn55 (p55 s.id) ?_
  simp
  all_goals (repeat' (first | with_reducible intro _ | with_reducible apply And.intro))
  all_goals first | (exact sok_noR (by unfold sokR; omega)) | skip
  first | refine call0 isFn44 (p44 s.k h.k hb) ?_ | refine qcall0 isFn44 (p44 s.k h.k hb) ?_
  simp
  all_goals (repeat' (first | with_reducible intro _ | with_reducible apply And.intro))
  all_goals first | (exact sok_noR (by unfold sokR; rw [← kok_iff]; simp [*])) | skip
  first | refine call0 isFn50 (p50 _ _ _) ?_ | refine qcall0 isFn50 (p50 _ _ _) ?_
  simp
  all_goals (repeat' (first | with_reducible intro _ | with_reducible apply And.intro))
  all_goals first | (exact sok_noR (by unfold sokR; omega)) | skip
  first | refine call0 isFn50 (p50 _ _ _) ?_ | refine qcall0 isFn50 (p50 _ _ _) ?_
  simp
  all_goals (repeat' (first | with_reducible intro _ | with_reducible apply And.intro))
  all_goals first | (exact sok_noR (by unfold sokR; omega)) | skip
  rename_i g1 g2 g3 g4 g5 g6 g7
  have hk := kok_iff.1 g3
  have hbase : 0 ≤ s.k.base ∧ s.k.base ≤ 1000000 - s.k.log.length := ⟨hk.2.2.2.2.1, hk.2.2.2.2.2.1⟩
  first | refine call0 isFn45 (p45 s.k h.k ⟨by omega, by omega⟩) ?_ | refine qcall0 isFn45 (p45 s.k h.k ⟨by omega, by omega⟩) ?_
  simp
  first | refine call0 isFn50 (p50 _ _ _) ?_ | refine qcall0 isFn50 (p50 _ _ _) ?_
  simp
  all_goals (repeat' (first | with_reducible intro _ | with_reducible apply And.intro))
  all_goals first | (exact sok_noR (by unfold sokR; omega)) | skip
  first | refine call0 isFn70 (p70 _ h.votes) ?_ | refine qcall0 isFn70 (p70 _ h.votes) ?_
  simp
  all_goals (repeat' (first | with_reducible intro _ | with_reducible apply And.intro))
  all_goals first | (exact sok_noR (by unfold sokR; simp [*])) | skip
  first | refine call0 isFn50 (p50 _ _ _) ?_ | refine qcall0 isFn50 (p50 _ _ _) ?_
  simp
  all_goals (repeat' (first | with_reducible intro _ | with_reducible apply And.intro))
  all_goals first | (exact sok_noR (by unfold sokR; omega)) | skip
  first | refine call0 isFn50 (p50 _ _ _) ?_ | refine qcall0 isFn50 (p50 _ _ _) ?_
  simp
  all_goals (repeat' (first | with_reducible intro _ | with_reducible apply And.intro))
  all_goals first | (exact sok_noR (by unfold sokR; omega)) | skip
  all_goals (have hR : sokR s := by unfold sokR; refine ⟨?_, ?_, ?_, ?_, ?_, ?_, ?_, ?_, ?_, ?_, ?_, ?_, ?_, ?_⟩ <;> first | assumption | omega)
  · rw [Bool.eq_iff_iff, sok_iff, sokP, all8]
    simp only [rowOk, Bool.and_eq_true, decide_eq_true_eq]
    simp_all
  · exact sok_no (fun k => by have h8 := all8.1 k.2; simp only [rowOk] at h8; simp_all)
  refine loopI (fun ((i, x, y) : Nat × AV × AV) => ⟨[(0, sv s), (1, .ptr 0 0), (2, Bo false), (3, I (i : Nat)), (55, Bo (!decide (0 ≤ s.wait) || !decide (s.wait ≤ 1000))), (58, Bo (!decide (s.role = 2))), (70, x), (93, y)], [(0, .box (svc s))], [], 1, 2⟩)
    (fun (i, _) => 1 ≤ i ∧ i ≤ 8 ∧ ∀ j, 1 ≤ j → j < i → rowOk s j) (fun (i, _) => 8 - i) (1, _, _) rfl ⟨by omega, by omega, fun j _ _ => by omega⟩ ?_
  rintro ⟨i, x, y⟩ ⟨j0, j1, j2⟩
  by_cases hi : i < 8
  · have hi' : (i : Int) ≤ 7 := by omega
    have hw := wn i (by omega)
    simp [hi']
    refine ⟨[false, false, false, false, false, false, false, false, true, true, true, false, false, false, false, false, false, false, true, true, true], by kernel_rfl, ?_⟩
    have ht : (i : Int) < 8 := by omega
    simp [ht, svc_next s hi]
    first | refine call0 isFn45 (p45 s.k h.k ⟨by omega, by omega⟩) ?_ | refine qcall0 isFn45 (p45 s.k h.k ⟨by omega, by omega⟩) ?_
    simp
    rw [wi _ (by omega)]
    first | refine call0 isFn50 (p50 _ _ _) ?_ | refine qcall0 isFn50 (p50 _ _ _) ?_
    simp
    all_goals (repeat' (first | with_reducible intro _ | with_reducible apply And.intro))
    all_goals first | exact ht | (exact sok_row hi (by unfold rowOk; rw [if_pos (by omega)]; omega)) | skip
    simp [ht, svc_mat s hi]
    first | refine call0 isFn45 (p45 s.k h.k ⟨by omega, by omega⟩) ?_ | refine qcall0 isFn45 (p45 s.k h.k ⟨by omega, by omega⟩) ?_
    simp
    first | refine call0 isFn50 (p50 _ _ _) ?_ | refine qcall0 isFn50 (p50 _ _ _) ?_
    simp
    rw [hw]
    all_goals (repeat' (first | with_reducible intro _ | with_reducible apply And.intro))
    all_goals first | exact ht | (exact sok_row hi (by unfold rowOk; rw [if_pos (by omega)]; omega)) | skip
    refine RndI.mk (i + 1, _, _) rfl ⟨by omega, by omega, fun j k1 k2 => ?_⟩ (by show 8 - (i + 1) < 8 - i; omega)
    by_cases hj : j = i
    · subst hj
      unfold rowOk
      rw [if_pos (by omega)]
      omega
    · exact j2 j k1 (by omega)
  · have : i = 8 := by omega
    subst this
    simp
    refine ⟨fun h1 => ?_, fun h1 => sok_row (by omega : 0 < 8) (by unfold rowOk; simp [h1])⟩
    by_cases h2 : s.mat 0 = 0
    · simp only [h2, decide_true]
      refine (sok_yes hR (fun j hj => ?_)).symm
      by_cases h0 : j = 0
      · subst h0; unfold rowOk; simp [h1, h2]
      · exact j2 j (by omega) hj
    · simp only [h2, decide_false]
      exact (sok_row (by omega : 0 < 8) (by unfold rowOk; simp [h2])).symm
end Go.Proofs
