/- Servers: what is asked of one. -/
import Derived.Test.YtcjjklbonobepaaA8
set_option linter.unusedVariables false
set_option linter.unusedSimpArgs false
set_option maxRecDepth 100000
namespace Go.Proofs
open Go VC

set_option maxHeartbeats 4000000 in
theorem p28 (s : Sv) (h : s.low) (hb : s.bytes) : Pure Try.prog 28 [sv s] (· = Bo (sok s)) := by
  refine Pure.intro mo Try.func28 rfl (by show 1 ≤ 100; omega) _ rfl [0, 1, 2, 3, 5, 45, 59, 61, 70, 87, 99] (by kernel_rfl) ?_
  have hl := h.k.log
  simp [Try.f28]
  first | refine call0 isFn51 (p51 _ _ _) ?_ | refine qcall0 isFn51 (p51 _ _ _) ?_
  simp
  all_goals (repeat' (first | with_reducible intro _ | with_reducible apply And.intro))
  all_goals first | (exact sok_noR (by unfold sokR; omega)) | skip
  first | refine call0 isFn39 (p39 s.k h.k hb) ?_ | refine qcall0 isFn39 (p39 s.k h.k hb) ?_
  simp
  all_goals (repeat' (first | with_reducible intro _ | with_reducible apply And.intro))
  all_goals first | (exact sok_noR (by unfold sokR; rw [← kok_iff]; simp [*])) | skip
  first | refine call0 isFn51 (p51 _ _ _) ?_ | refine qcall0 isFn51 (p51 _ _ _) ?_
  simp
  all_goals (repeat' (first | with_reducible intro _ | with_reducible apply And.intro))
  all_goals first | (exact sok_noR (by unfold sokR; omega)) | skip
  first | refine call0 isFn51 (p51 _ _ _) ?_ | refine qcall0 isFn51 (p51 _ _ _) ?_
  simp
  all_goals (repeat' (first | with_reducible intro _ | with_reducible apply And.intro))
  all_goals first | (exact sok_noR (by unfold sokR; omega)) | skip
  rename_i g1 g2 g3 g4 g5 g6 g7
  first | refine call0 isFn67 (p67 _ h.votes) ?_ | refine qcall0 isFn67 (p67 _ h.votes) ?_
  simp
  all_goals (repeat' (first | with_reducible intro _ | with_reducible apply And.intro))
  all_goals first | (exact sok_noR (by unfold sokR; simp [*])) | skip
  first | refine call0 isFn51 (p51 _ _ _) ?_ | refine qcall0 isFn51 (p51 _ _ _) ?_
  simp
  all_goals (repeat' (first | with_reducible intro _ | with_reducible apply And.intro))
  all_goals first | (exact sok_noR (by unfold sokR; omega)) | skip
  first | refine call0 isFn51 (p51 _ _ _) ?_ | refine qcall0 isFn51 (p51 _ _ _) ?_
  simp
  all_goals (repeat' (first | with_reducible intro _ | with_reducible apply And.intro))
  all_goals first | (exact sok_noR (by unfold sokR; omega)) | skip
  have hk := kok_iff.1 g3
  have hbase : 0 ≤ s.k.base ∧ s.k.base ≤ 1000000 - s.k.log.length := ⟨hk.2.2.2.2.1, hk.2.2.2.2.2.1⟩
  first | refine call0 isFn40 (p40 s.k hk) ?_ | refine qcall0 isFn40 (p40 s.k hk) ?_
  simp
  first | refine call0 isFn51 (p51 _ _ _) ?_ | refine qcall0 isFn51 (p51 _ _ _) ?_
  simp
  all_goals (repeat' (first | with_reducible intro _ | with_reducible apply And.intro))
  all_goals first | (exact sok_noR (by unfold sokR; omega)) | skip
  have hR : sokR s := by unfold sokR; refine ⟨?_, ?_, ?_, ?_, ?_, ?_, ?_, ?_, ?_, ?_, ?_, ?_, ?_, ?_⟩ <;> first | assumption | omega
  refine loopI (fun ((i, x, y, z, u) : Nat × AV × AV × AV × AV) => ⟨[(0, sv s), (1, .ptr 0 0), (2, Bo false), (3, I (s.k.base + s.k.log.length)), (5, I (i : Nat)), (45, Bo (!decide (0 ≤ s.wait) || !decide (s.wait ≤ 1000))), (59, Bo (!decide (s.k.base ≤ s.commit) || !decide (s.commit ≤ s.k.base + s.k.log.length))), (61, x), (70, y), (87, z), (99, u)], [(0, .box (svc s))], [], 1, 2⟩)
    (fun (i, _) => i ≤ 8 ∧ ∀ j, j < i → rowOk s j) (fun (i, _) => 8 - i) (0, _, _, _, _) rfl ⟨by omega, fun j _ => by omega⟩ ?_
  rintro ⟨i, x, y, z, u⟩ ⟨j1, j2⟩
  by_cases hi : i < 8
  · have hi' : (i : Int) ≤ 7 := by omega
    have ht : (i : Int) < 8 := by omega
    have hw := wn i (by omega)
    have step : rowOk s i → ∀ j, j < i + 1 → rowOk s j := fun h0 j hj => by
      by_cases hji : j = i
      · subst hji; exact h0
      · exact j2 j (by omega)
    by_cases hr : s.role = 2 ∧ 0 < i
    · have h0 : 0 < (i : Int) := by omega
      have hq := hr.1
      simp [hi', ht, hr, hq, svc_next s hi]
      rw [wi (s.k.base + s.k.log.length + 1) (by omega)]
      first | refine call0 isFn51 (p51 _ _ _) ?_ | refine qcall0 isFn51 (p51 _ _ _) ?_
      simp
      all_goals (repeat' (first | with_reducible intro _ | with_reducible apply And.intro))
      all_goals first | exact ht | (exact sok_row hi (by unfold rowOk; rw [if_pos hr]; omega)) | skip
      simp [ht, svc_mat s hi]
      first | refine call0 isFn51 (p51 _ _ _) ?_ | refine qcall0 isFn51 (p51 _ _ _) ?_
      simp
      rw [hw]
      all_goals (repeat' (first | with_reducible intro _ | with_reducible apply And.intro))
      all_goals first | (exact sok_row hi (by unfold rowOk; rw [if_pos hr]; omega)) | skip
      exact RndI.mk (i + 1, _, _, _, _) rfl ⟨hi, step (by unfold rowOk; rw [if_pos hr]; omega)⟩ (by show 8 - (i + 1) < 8 - i; omega)
    · have hno : ¬ s.next i = 0 ∨ ¬ s.mat i = 0 → sok s = false := fun h => sok_row hi (by unfold rowOk; rw [if_neg hr]; omega)
      have fin : s.next i = 0 → s.mat i = 0 → rowOk s i := fun h1 h2 => by unfold rowOk; rw [if_neg hr]; exact ⟨h1, h2⟩
      by_cases hq : s.role = 2
      · have h0 : i = 0 := by omega
        subst h0
        simp [hq]
        rw [wi 1 (by omega)]
        exact ⟨fun h1 => ⟨fun h2 => hno (.inr h2), fun h2 => RndI.mk (1, _, _, _, _) rfl ⟨by omega, step (fin h1 h2)⟩ (by show 8 - 1 < 8 - 0; omega)⟩, fun h1 => hno (.inl h1)⟩
      · simp [hi', ht, hq, svc_next s hi, svc_mat s hi]
        rw [hw]
        exact ⟨fun h1 => ⟨fun h2 => hno (.inr h2), fun h2 => RndI.mk (i + 1, _, _, _, _) rfl ⟨hi, step (fin h1 h2)⟩ (by show 8 - (i + 1) < 8 - i; omega)⟩, fun h1 => hno (.inl h1)⟩
  · have : i = 8 := by omega
    subst this
    simp
    exact sok_yes hR (fun j hj => j2 j (by omega))
theorem p7 (s : Sv) (h : s.small) (hb : s.bytes) : Pure Try.prog 7 [sv s] (· = Bo true) := by
  refine Pure.intro mo Try.func7 rfl (by show 1 ≤ 27; omega) _ rfl [0, 1, 2, 3, 4, 5, 6, 11, 21, 26] (by kernel_rfl) ?_
  simp [Try.f7]
  refine call0 isFn27 (p27 _ h) ?_
  simp
  intro h0
  have hl := szS_low h0
  refine call0 isFn29 (p29 _ hl) ?_
  simp
  refine call0 isFn28 (p28 _ hl hb) ?_
  simp
  refine call0 isFn29 (p29 _ hl) ?_
  simp
  refine call0 isFn30 (p30 _ hl hb) ?_
  simp
  refine ⟨[false, false, false, true, true], by kernel_rfl, ?_⟩
  simp
  first | refine call0 isFn29 (p29 _ hl) ?_ | refine qcall0 isFn29 (p29 _ hl) ?_
  simp
  first | refine call0 isFn31 (p31 _ hl) ?_ | refine qcall0 isFn31 (p31 _ hl) ?_
  simp
end Go.Proofs
