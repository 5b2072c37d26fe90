/- Of a cluster: who led. -/
import Derived.Test.YtknllghkpjncoaaD1
set_option linter.unusedVariables false
set_option linter.unusedSimpArgs false
set_option maxRecDepth 100000
namespace Go.Proofs
open Go VC

def olB (a b : Int × Int) : Bool := !(decide (a.1 = b.1) && !decide (a.2 = b.2))
/-- No two of them have one term and different Ids. -/
def olP (l : List (Int × Int)) : Prop := ∀ i (hi : i < l.length) k (hk : k < i), olB l[i] l[k] = true
noncomputable def ol (l : List (Int × Int)) : Bool := @decide (olP l) (Classical.propDecidable _)
theorem ol_yes {l : List (Int × Int)} (h : olP l) : ol l = true := by unfold ol; exact (@decide_eq_true_iff _ (Classical.propDecidable _)).2 h
theorem ol_no {l : List (Int × Int)} {i k : Nat} (hi : i < l.length) (hk : k < i) (h : olB l[i] l[k] = false) : ol l = false := by
  unfold ol
  refine (@decide_eq_false_iff_not _ (Classical.propDecidable _)).2 (fun hp => ?_)
  rw [hp i hi k hk] at h
  cases h
theorem p16 (c : Cl) (h : okCl 1048576 c) : Pure Try.prog 16 [clV c] (· = Bo (ol c.led)) := by
  refine Pure.intro mo Try.func16 rfl (by show 1 ≤ 38; omega) _ rfl [0, 1, 2, 3, 4, 6, 8, 9, 10, 11, 18, 19, 20, 21, 35] (by kernel_rfl) ?_
  have hr := h.led
  simp [Try.f16]
  refine loopI (fun ((i, x3, x4, x6, x11, x18, x19, x20, x21, x35, L, n) : Nat × AV × AV × AV × AV × AV × AV × AV × AV × AV × List (Nat × Blk) × Nat) => ⟨[(0, clV c), (1, .ptr 0 0), (2, Bo false), (3, x3), (4, x4), (6, x6), (8, .sl 0 (c.led.map prc)), (9, I c.led.length), (10, I (i : Nat)), (11, x11), (18, x18), (19, x19), (20, x20), (21, x21), (35, x35)], L, [], n, 2⟩)
    (fun (i, _, _, _, _, _, _, _, _, _, L, n) => i ≤ c.led.length ∧ blook L 0 = some (.box (clc c)) ∧ 0 < n ∧ ∀ j (hj : j < c.led.length), j < i → ∀ k (hk : k < j), olB c.led[j] c.led[k] = true) (fun (i, _) => c.led.length - i) (0, .no, .no, .no, .no, .no, .no, .no, .no, .no, [(0, .box (clc c))], 1) rfl ?_ ?_
  · exact ⟨Nat.zero_le _, rfl, by omega, fun j _ hj => by omega⟩
  rintro ⟨i, x3, x4, x6, x11, x18, x19, x20, x21, x35, L, n⟩ ⟨j1, j2, j3, j4⟩
  have n1 : ¬ 0 = n := by omega
  have n2 : ¬ n = 0 := by omega
  by_cases hi : i < c.led.length
  · have hw := wn i (by omega)
    have hmin : min i c.led.length = i := by omega
    simp [hi, prc, j2, n1, n2, hmin]
    refine ⟨⟨j1, by rintro e x y _ rfl; rfl⟩, ?_⟩
    refine loopI (fun ((k, y6, y21, y35, L', n') : Nat × AV × AV × AV × List (Nat × Blk) × Nat) => ⟨[(0, clV c), (1, .ptr 0 0), (2, Bo false), (3, I (i : Nat)), (4, .ptr n 0), (6, y6), (8, .sl 0 (c.led.map prc)), (9, I c.led.length), (10, I (i : Nat)), (11, Bo true), (18, .sl 0 ((c.led.map prc).take i)), (19, I (i : Nat)), (20, I (k : Nat)), (21, y21), (35, y35)], L', [], n', 2⟩)
      (fun (k, _, _, _, L', n') => k ≤ i ∧ blook L' 0 = some (.box (clc c)) ∧ blook L' n = some (.box [I c.led[i].1, I c.led[i].2]) ∧ n < n' ∧ ∀ q (hq : q < i), q < k → olB c.led[i] c.led[q] = true) (fun (k, _) => i - k) (0, x6, x21, x35, _, n + 1) rfl ?_ ?_
    · exact ⟨Nat.zero_le _, by simp [n1, j2], by simp, by simp, fun q _ hq => by omega⟩
    rintro ⟨k, y6, y21, y35, L', n'⟩ ⟨q1, q2, q3, q4, q5⟩
    have m1 : ¬ 0 = n' := by omega
    have m2 : ¬ n' = 0 := by omega
    have m3 : ¬ n = n' := by omega
    have m4 : ¬ n' = n := by omega
    by_cases hk : k < i
    · have hkl : k < c.led.length := by omega
      have hkm : k < min i c.led.length := by omega
      have hwk := wn k (by omega)
      simp [hi, hk, hkl, hkm, prc, q2, q3, m1, m2, m3, m4]
      rw [hwk]
      all_goals (repeat' (first | with_reducible intro _ | with_reducible apply And.intro))
      all_goals first | (exact ol_no hi hk (by simp [olB, *])) | skip
      all_goals exact RndI.mk (k + 1, _, _, _, _, _) rfl ⟨hk, by simp [m1, q2], by simp [m3, q3], (by show n < n' + 1; omega), upto hk q5 (by simp [olB, *])⟩ (by show i - (k + 1) < i - k; omega)
    · simp [hk]
      rw [hw]
      exact RndI.mk (i + 1, _, _, _, _, _, _, _, _, _, _, _) rfl ⟨hi, q2, (by show 0 < n'; omega), upto hi j4 (fun q hq => q5 q hq (by omega))⟩ (by show c.led.length - (i + 1) < c.led.length - i; omega)
  · simp [hi]
    exact (ol_yes (fun j hj k hk => j4 j hj (by omega) k hk))
theorem p15 (c : Cl) (h : okCl 1048576 c) : Pure Try.prog 15 [clV c] (· = Bo (ol c.led)) := by
  refine Pure.intro mo Try.func15 rfl (by show 1 ≤ 45; omega) _ rfl [0, 1, 2, 3, 4, 9, 14, 44] (by kernel_rfl) ?_
  have hr := h.led
  simp [Try.f15]
  refine loopI (fun ((i, x4, x9, x14, x44) : Nat × AV × AV × AV × AV) => ⟨[(0, clV c), (1, .ptr 0 0), (2, Bo false), (3, I (i : Nat)), (4, x4), (9, x9), (14, x14), (44, x44)], [(0, .box (clc c))], [], 1, 2⟩)
    (fun (i, _) => i ≤ c.led.length ∧ ∀ j (hj : j < c.led.length), j < i → ∀ k (hk : k < j), olB c.led[j] c.led[k] = true) (fun (i, _) => c.led.length - i) (0, .no, .no, .no, .no) rfl ?_ ?_
  · exact ⟨Nat.zero_le _, fun j _ hj => by omega⟩
  rintro ⟨i, x4, x9, x14, x44⟩ ⟨j1, j4⟩
  by_cases hi : i < c.led.length
  · have hw := wn i (by omega)
    simp [hi, prc]
    refine loopI (fun ((k, y14, y44) : Nat × AV × AV) => ⟨[(0, clV c), (1, .ptr 0 0), (2, Bo false), (3, I (i : Nat)), (4, I (k : Nat)), (9, Bo true), (14, y14), (44, y44)], [(0, .box (clc c))], [], 1, 2⟩)
      (fun (k, _) => k ≤ i ∧ ∀ q (hq : q < i), q < k → olB c.led[i] c.led[q] = true) (fun (k, _) => i - k) (0, x14, x44) rfl ?_ ?_
    · exact ⟨Nat.zero_le _, fun q _ hq => by omega⟩
    rintro ⟨k, y14, y44⟩ ⟨q1, q5⟩
    by_cases hk : k < i
    · have hkl : k < c.led.length := by omega
      have hwk := wn k (by omega)
      simp [hi, hk, hkl, prc]
      refine ⟨[false, false, false, false, false, false, false, false, false, false, false, false, true, true, false, false, false, false, false, false, false, false, false, false, false, false, true, true], by kernel_rfl, ?_⟩
      simp [hi, hk, hkl, prc]
      rw [hwk]
      all_goals (repeat' (first | with_reducible intro _ | with_reducible apply And.intro))
      all_goals first | (exact ol_no hi hk (by simp [olB, *])) | skip
      all_goals exact RndI.mk (k + 1, _, _) rfl ⟨hk, upto hk q5 (by simp [olB, *])⟩ (by show i - (k + 1) < i - k; omega)
    · simp [hk]
      rw [hw]
      exact RndI.mk (i + 1, _, _, _, _) rfl ⟨hi, upto hi j4 (fun q hq => q5 q hq (by omega))⟩ (by show c.led.length - (i + 1) < c.led.length - i; omega)
  · simp [hi]
    exact (ol_yes (fun j hj k hk => j4 j hj (by omega) k hk))
theorem p5 (c : Cl) (h : okCl 140737488355328 c) : Pure Try.prog 5 [clV c] (· = Bo true) := by
  refine Pure.intro mo Try.func5 rfl (by show 1 ≤ 27; omega) _ rfl [0, 1, 2, 3, 4, 5, 6, 11, 21, 26] (by kernel_rfl) ?_
  simp [Try.f5]
  refine callR isFn8 (q8 c 1048576 h (by omega)) ?_
  rintro _ ⟨n, rfl, e1, e2, e3⟩
  simp
  intro h0
  have hl := e3 h0
  refine call0 isFn10 (p10 _ hl) ?_
  simp
  refine call0 isFn15 (p15 _ hl) ?_
  simp
  refine call0 isFn10 (p10 _ hl) ?_
  simp
  refine call0 isFn16 (p16 _ hl) ?_
  simp
  refine ⟨[false, false, false, true, true], by kernel_rfl, ?_⟩
  simp
  first | refine call0 isFn10 (p10 _ hl) ?_ | refine qcall0 isFn10 (p10 _ hl) ?_
  simp
  first | refine call0 isFn12 (p12 _ hl) ?_ | refine qcall0 isFn12 (p12 _ hl) ?_
  simp
end Go.Proofs
