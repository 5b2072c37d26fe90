/- Of a cluster: are the states alike. -/
import Derived.Test.YtknllghkpjncoaaD2
import Derived.Test.YtknllghkpjncoaaD3
set_option linter.unusedVariables false
set_option linter.unusedSimpArgs false
set_option maxRecDepth 100000
namespace Go.Proofs
open Go VC

/-- The cells of a replica. -/
abbrev rpc (x : Rp) : List AV := [I x.n.id, I x.n.k.term, I x.n.k.vote, I x.n.k.base, I x.n.k.baseTerm, ints x.n.k.now, ints x.n.k.next, byts x.n.k.snap, .sl 0 (x.n.k.log.map ec), I x.n.role, I x.n.lead, I x.n.commit, ints x.n.votes, I (x.n.next 0), I (x.n.next 1), I (x.n.next 2), I (x.n.next 3), I (x.n.next 4), I (x.n.next 5), I (x.n.next 6), I (x.n.next 7), I (x.n.mat 0), I (x.n.mat 1), I (x.n.mat 2), I (x.n.mat 3), I (x.n.mat 4), I (x.n.mat 5), I (x.n.mat 6), I (x.n.mat 7), I x.n.elapsed, I x.n.wait, .sl 0 (x.s.plan.pools.map poT), .sl 0 (x.s.plan.blocks.map bkT), .sl 0 (x.s.book.leases.map leT), I x.s.book.token, I x.s.book.now, .sl 0 (x.s.desk.sessions.map seT), I x.s.desk.next, I x.s.count, I x.applied, byts x.f.bytes, I x.f.sure, Bo x.up]
noncomputable def smB (a b : Rp) : Bool := !(a.up && b.up && decide (a.applied = b.applied) && !same (stT a.s) (stT b.s))
def smP (l : List Rp) : Prop := ∀ i (hi : i < l.length) k (hk : k < i), smB l[i] l[k] = true
noncomputable def sm (l : List Rp) : Bool := @decide (smP l) (Classical.propDecidable _)
theorem sm_yes {l : List Rp} (h : smP l) : sm l = true := by unfold sm; exact (@decide_eq_true_iff _ (Classical.propDecidable _)).2 h
theorem sm_no {l : List Rp} {i k : Nat} (hi : i < l.length) (hk : k < i) (h : smB l[i] l[k] = false) : sm l = false := by
  unfold sm
  refine (@decide_eq_false_iff_not _ (Classical.propDecidable _)).2 (fun hp => ?_)
  rw [hp i hi k hk] at h
  cases h
theorem p18 (c : Cl) (h : okCl 1048576 c) : Pure Try.prog 18 [clV c] (· = Bo (sm c.r)) := by
  refine Pure.intro mo Try.func18 rfl (by show 1 ≤ 47; omega) _ rfl [0, 1, 2, 3, 4, 6, 8, 9, 10, 11, 18, 19, 20, 21, 44] (by kernel_rfl) ?_
  have hr := h.r
  simp [Try.f18]
  refine loopI (fun ((i, x3, x4, x6, x11, x18, x19, x20, x21, x35, L, n) : Nat × AV × AV × AV × AV × AV × AV × AV × AV × AV × List (Nat × Blk) × Nat) => ⟨[(0, clV c), (1, .ptr 0 0), (2, Bo false), (3, x3), (4, x4), (6, x6), (8, .sl 0 (c.r.map rpT)), (9, I c.r.length), (10, I (i : Nat)), (11, x11), (18, x18), (19, x19), (20, x20), (21, x21), (44, x35)], L, [], n, 2⟩)
    (fun (i, _, _, _, _, _, _, _, _, _, L, n) => i ≤ c.r.length ∧ blook L 0 = some (.box (clc c)) ∧ 0 < n ∧ ∀ j (hj : j < c.r.length), j < i → ∀ k (hk : k < j), smB c.r[j] c.r[k] = true) (fun (i, _) => c.r.length - i) (0, .no, .no, .no, .no, .no, .no, .no, .no, .no, [(0, .box (clc c))], 1) rfl ?_ ?_
  · exact ⟨Nat.zero_le _, rfl, by omega, fun j _ hj => by omega⟩
  rintro ⟨i, x3, x4, x6, x11, x18, x19, x20, x21, x35, L, n⟩ ⟨j1, j2, j3, j4⟩
  have n1 : ¬ 0 = n := by omega
  have n2 : ¬ n = 0 := by omega
  by_cases hi : i < c.r.length
  · have hw := wn i (by omega)
    have hmin : min i c.r.length = i := by omega
    simp [hi, rpT, j2, n1, n2, hmin]
    refine ⟨j1, ?_⟩
    refine loopI (fun ((k, y6, y21, y35, L', n') : Nat × AV × AV × AV × List (Nat × Blk) × Nat) => ⟨[(0, clV c), (1, .ptr 0 0), (2, Bo false), (3, I (i : Nat)), (4, .ptr n 0), (6, y6), (8, .sl 0 (c.r.map rpT)), (9, I c.r.length), (10, I (i : Nat)), (11, Bo true), (18, .sl 0 ((c.r.map rpT).take i)), (19, I (i : Nat)), (20, I (k : Nat)), (21, y21), (44, y35)], L', [], n', 2⟩)
      (fun (k, _, _, _, L', n') => k ≤ i ∧ blook L' 0 = some (.box (clc c)) ∧ blook L' n = some (.box (rpc c.r[i])) ∧ n < n' ∧ ∀ q (hq : q < i), q < k → smB c.r[i] c.r[q] = true) (fun (k, _) => i - k) (0, x6, x21, x35, _, n + 1) rfl ?_ ?_
    · exact ⟨Nat.zero_le _, by simp [n1, j2], by simp, by simp, fun q _ hq => by omega⟩
    rintro ⟨k, y6, y21, y35, L', n'⟩ ⟨q1, q2, q3, q4, q5⟩
    have m1 : ¬ 0 = n' := by omega
    have m2 : ¬ n' = 0 := by omega
    have m3 : ¬ n = n' := by omega
    have m4 : ¬ n' = n := by omega
    by_cases hk : k < i
    · have hkl : k < c.r.length := by omega
      have hkm : k < min i c.r.length := by omega
      have hwk := wn k (by omega)
      have ha := (h.rA _ (List.getElem_mem hi)).s
      have hb := (h.rA _ (List.getElem_mem hkl)).s
      simp [hi, hk, hkl, hkm, rpT, q2, q3, m1, m2, m3, m4]
      all_goals (repeat' (first | with_reducible intro _ | with_reducible apply And.intro))
      all_goals first | (refine call0 isFn40 (p40 _ _ ha hb) ?_; simp) | rw [hwk]
      all_goals try rw [hwk]
      all_goals (repeat' (first | with_reducible intro _ | with_reducible apply And.intro))
      all_goals first | (exact sm_no hi hk (by simp [smB, *])) | skip
      all_goals exact RndI.mk (k + 1, _, _, _, _, _) rfl ⟨hk, by simp [m1, q2], by simp [m3, q3], (by show n < n' + 1; omega), upto hk q5 (by simp [smB, *])⟩ (by show i - (k + 1) < i - k; omega)
    · simp [hk]
      rw [hw]
      exact RndI.mk (i + 1, _, _, _, _, _, _, _, _, _, _, _) rfl ⟨hi, q2, (by show 0 < n'; omega), upto hi j4 (fun q hq => q5 q hq (by omega))⟩ (by show c.r.length - (i + 1) < c.r.length - i; omega)
  · simp [hi]
    exact (sm_yes (fun j hj k hk => j4 j hj (by omega) k hk))
theorem p17 (c : Cl) (h : okCl 1048576 c) : Pure Try.prog 17 [clV c] (· = Bo (sm c.r)) := by
  refine Pure.intro mo Try.func17 rfl (by show 1 ≤ 50; omega) _ rfl [0, 1, 2, 3, 4, 5, 6, 11, 16, 49] (by kernel_rfl) ?_
  have hr := h.r
  simp [Try.f17]
  refine loopI (fun ((i, x4, x5, x6, x11, x16, x49, L, n) : Nat × AV × AV × AV × AV × AV × AV × List (Nat × Blk) × Nat) => ⟨[(0, clV c), (1, .ptr 0 0), (2, Bo false), (3, I (i : Nat)), (4, x4), (5, x5), (6, x6), (11, x11), (16, x16), (49, x49)], L, [], n, 2⟩)
    (fun (i, _, _, _, _, _, _, L, n) => i ≤ c.r.length ∧ blook L 0 = some (.box (clc c)) ∧ 0 < n ∧ ∀ j (hj : j < c.r.length), j < i → ∀ k (hk : k < j), smB c.r[j] c.r[k] = true) (fun (i, _) => c.r.length - i) (0, .no, .no, .no, .no, .no, .no, [(0, .box (clc c))], 1) rfl ?_ ?_
  · exact ⟨Nat.zero_le _, rfl, by omega, fun j _ hj => by omega⟩
  rintro ⟨i, x4, x5, x6, x11, x16, x49, L, n⟩ ⟨j1, j2, j3, j4⟩
  by_cases hi : i < c.r.length
  · have hw := wn i (by omega)
    simp [hi, rpT, j2]
    refine loopI (fun ((k, y5, y6, y16, y49, L', n') : Nat × AV × AV × AV × AV × List (Nat × Blk) × Nat) => ⟨[(0, clV c), (1, .ptr 0 0), (2, Bo false), (3, I (i : Nat)), (4, I (k : Nat)), (5, y5), (6, y6), (11, Bo true), (16, y16), (49, y49)], L', [], n', 2⟩)
      (fun (k, _, _, _, _, L', n') => k ≤ i ∧ blook L' 0 = some (.box (clc c)) ∧ 0 < n' ∧ ∀ q (hq : q < i), q < k → smB c.r[i] c.r[q] = true) (fun (k, _) => i - k) (0, x5, x6, x16, x49, L, n) rfl ?_ ?_
    · exact ⟨Nat.zero_le _, j2, j3, fun q _ hq => by omega⟩
    rintro ⟨k, y5, y6, y16, y49, L', n'⟩ ⟨q1, q2, q4, q5⟩
    have m1 : ¬ 0 = n' := by omega
    have m2 : ¬ n' = 0 := by omega
    have m3 : ¬ 0 = n' + 1 := by omega
    by_cases hk : k < i
    · have hkl : k < c.r.length := by omega
      have hwk := wn k (by omega)
      have ha := (h.rA _ (List.getElem_mem hi)).s
      have hb := (h.rA _ (List.getElem_mem hkl)).s
      simp [hi, hk, hkl, rpT, q2, m1, m2, m3]
      all_goals (repeat' (first | with_reducible intro _ | with_reducible apply And.intro))
      all_goals first | (refine call0 isFn39 (p39 _ _ ha hb) ?_; simp) | rw [hwk]
      all_goals try rw [hwk]
      all_goals (repeat' (first | with_reducible intro _ | with_reducible apply And.intro))
      all_goals first | (exact sm_no hi hk (by simp [smB, *])) | skip
      all_goals exact RndI.mk (k + 1, _, _, _, _, _, _) rfl ⟨hk, by simp [m1, m3, q2], (by show 0 < n' + 1 + 1; omega), upto hk q5 (by simp [smB, *])⟩ (by show i - (k + 1) < i - k; omega)
    · simp [hk]
      rw [hw]
      exact RndI.mk (i + 1, _, _, _, _, _, _, _, _) rfl ⟨hi, q2, (by show 0 < n'; omega), upto hi j4 (fun q hq => q5 q hq (by omega))⟩ (by show c.r.length - (i + 1) < c.r.length - i; omega)
  · simp [hi, j2]
    exact (sm_yes (fun j hj k hk => j4 j hj (by omega) k hk))
theorem p6 (c : Cl) (h : okCl 140737488355328 c) : Pure Try.prog 6 [clV c] (· = Bo true) := by
  refine Pure.intro mo Try.func6 rfl (by show 1 ≤ 27; omega) _ rfl [0, 1, 2, 3, 4, 5, 6, 11, 21, 26] (by kernel_rfl) ?_
  simp [Try.f6]
  refine callR isFn8 (q8 c 1048576 h (by omega)) ?_
  rintro _ ⟨n, rfl, e1, e2, e3⟩
  simp
  intro h0
  have hl := e3 h0
  refine call0 isFn10 (p10 _ hl) ?_
  simp
  refine call0 isFn17 (p17 _ hl) ?_
  simp
  refine call0 isFn10 (p10 _ hl) ?_
  simp
  refine call0 isFn18 (p18 _ hl) ?_
  simp
  refine ⟨[false, false, false, true, true], by kernel_rfl, ?_⟩
  simp
  first | refine call0 isFn10 (p10 _ hl) ?_ | refine qcall0 isFn10 (p10 _ hl) ?_
  simp
  first | refine call0 isFn12 (p12 _ hl) ?_ | refine qcall0 isFn12 (p12 _ hl) ?_
  simp
end Go.Proofs
