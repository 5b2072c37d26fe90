/- States alike. -/
import Derived.Test.YtknllghkpjncoaaD1
set_option linter.unusedVariables false
set_option linter.unusedSimpArgs false
set_option maxRecDepth 100000
namespace Go.Proofs
open Go VC

noncomputable def same {α : Type} (a b : α) : Bool := @decide (a = b) (Classical.propDecidable _)
theorem same_iff {α : Type} {a b : α} : same a b = true ↔ a = b := by unfold same; exact @decide_eq_true_iff _ (Classical.propDecidable _)
theorem same_no {α : Type} {a b : α} (h : ¬ a = b) : same a b = false := by unfold same; exact (@decide_eq_false_iff_not _ (Classical.propDecidable _)).2 h
section
variable {α : Type} {f : α → List Tr} {a b : List α}
theorem map_ne {i : Nat} (hi : i < a.length) (hi' : i < b.length) (h : ¬ f a[i] = f b[i]) : ¬ a.map f = b.map f := fun e => by
  have := congrArg (fun l => l[i]?) e
  simp only [List.getElem?_map, List.getElem?_eq_getElem hi, List.getElem?_eq_getElem hi', Option.map_some, Option.some.injEq] at this
  exact h this
theorem map_len (h : ¬ (a.length : Int) = b.length) : ¬ a.map f = b.map f := fun e => by
  have := congrArg List.length e
  simp only [List.length_map] at this
  omega
theorem map_yes (hl : a.length = b.length) (h : ∀ j (hj : j < a.length), ∀ (hj' : j < b.length), f a[j] = f b[j]) : a.map f = b.map f := by
  refine List.ext_getElem (by simpa using hl) (fun j h1 h2 => ?_)
  simp only [List.getElem_map]
  exact h j (by simpa using h1) (by simpa using h2)
end
theorem upto2 {n m i : Nat} {p : (j : Nat) → j < n → j < m → Prop} (hi : i < n) (hm : i < m) (h : ∀ j (hj : j < n) (hj' : j < m), j < i → p j hj hj') (h0 : p i hi hm) : ∀ j (hj : j < n) (hj' : j < m), j < i + 1 → p j hj hj' := fun j hj hj' hji => by
  by_cases e : j = i
  · subst e; exact h0
  · exact h j hj hj' (by omega)
theorem p57 (a b : List Po) (h : a.length ≤ 1048576) (h2 : b.length ≤ 1048576) : Pure Try.prog 57 [.sl 0 (a.map poT), .sl 0 (b.map poT)] (· = Bo (same (a.map poT) (b.map poT))) := by
  refine Pure.intro mo Try.func57 rfl (by show 2 ≤ 26; omega) _ rfl [0, 1, 4, 5, 10, 12, 13, 14, 24] (by kernel_rfl) ?_
  simp [Try.f57]
  refine ⟨fun e => same_no (map_len e), fun e => ?_⟩
  have hl : a.length = b.length := by omega
  refine loopI (fun ((i, x5, x14, x24, L, n) : Nat × AV × AV × AV × List (Nat × Blk) × Nat) => ⟨[(0, .sl 0 (a.map poT)), (1, .sl 0 (b.map poT)), (4, Bo false), (5, x5), (10, Bo (!decide ((a.length : Int) = b.length))), (12, I a.length), (13, I (i : Nat)), (14, x14), (24, x24)], L, [], n, 2⟩)
    (fun (i, _) => i ≤ a.length ∧ ∀ j (hj : j < a.length) (hj' : j < b.length), j < i → poT a[j] = poT b[j]) (fun (i, _) => a.length - i) (0, .no, .no, .no, [], 0) rfl ?_ ?_
  · exact ⟨Nat.zero_le _, fun j _ _ hj => by omega⟩
  rintro ⟨i, x5, x14, x24, L, n⟩ ⟨j1, j2⟩
  by_cases hi : i < a.length
  · have hi2 : i < b.length := by omega
    have hw := wn i (by omega)
    simp [hi, hi2, poT]
    refine ⟨[false, false, false, false, false, false, false, false, true], by kernel_rfl, ?_⟩
    simp [hi, hi2, poT]
    rw [hw]
    all_goals (repeat' (first | with_reducible intro _ | with_reducible apply And.intro))
    all_goals first | (exact same_no (map_ne hi hi2 (by simp [poT]; grind))) | skip
    all_goals exact RndI.mk (i + 1, _, _, _, _, _) rfl ⟨hi, by simpa [poT] using upto2 (p := fun j hj hj' => poT a[j] = poT b[j]) hi hi2 j2 (by simp [poT]; grind)⟩ (by show a.length - (i + 1) < a.length - i; omega)
  · simp [hi]
    exact same_iff.2 (map_yes hl (fun j hj hj' => j2 j hj hj' (by omega)))
theorem p58 (a b : List Bk) (h : a.length ≤ 1048576) (h2 : b.length ≤ 1048576) : Pure Try.prog 58 [.sl 0 (a.map bkT), .sl 0 (b.map bkT)] (· = Bo (same (a.map bkT) (b.map bkT))) := by
  refine Pure.intro mo Try.func58 rfl (by show 2 ≤ 26; omega) _ rfl [0, 1, 4, 5, 10, 12, 13, 14, 24] (by kernel_rfl) ?_
  simp [Try.f58]
  refine ⟨fun e => same_no (map_len e), fun e => ?_⟩
  have hl : a.length = b.length := by omega
  refine loopI (fun ((i, x5, x14, x24, L, n) : Nat × AV × AV × AV × List (Nat × Blk) × Nat) => ⟨[(0, .sl 0 (a.map bkT)), (1, .sl 0 (b.map bkT)), (4, Bo false), (5, x5), (10, Bo (!decide ((a.length : Int) = b.length))), (12, I a.length), (13, I (i : Nat)), (14, x14), (24, x24)], L, [], n, 2⟩)
    (fun (i, _) => i ≤ a.length ∧ ∀ j (hj : j < a.length) (hj' : j < b.length), j < i → bkT a[j] = bkT b[j]) (fun (i, _) => a.length - i) (0, .no, .no, .no, [], 0) rfl ?_ ?_
  · exact ⟨Nat.zero_le _, fun j _ _ hj => by omega⟩
  rintro ⟨i, x5, x14, x24, L, n⟩ ⟨j1, j2⟩
  by_cases hi : i < a.length
  · have hi2 : i < b.length := by omega
    have hw := wn i (by omega)
    simp [hi, hi2, bkT]
    refine ⟨[false, false, false, false, false, false, false, false, true], by kernel_rfl, ?_⟩
    simp [hi, hi2, bkT]
    rw [hw]
    all_goals (repeat' (first | with_reducible intro _ | with_reducible apply And.intro))
    all_goals first | (exact same_no (map_ne hi hi2 (by simp [bkT]; grind))) | skip
    all_goals exact RndI.mk (i + 1, _, _, _, _, _) rfl ⟨hi, by simpa [bkT] using upto2 (p := fun j hj hj' => bkT a[j] = bkT b[j]) hi hi2 j2 (by simp [bkT]; grind)⟩ (by show a.length - (i + 1) < a.length - i; omega)
  · simp [hi]
    exact same_iff.2 (map_yes hl (fun j hj hj' => j2 j hj hj' (by omega)))
theorem p59 (a b : List Le) (h : a.length ≤ 1048576) (h2 : b.length ≤ 1048576) : Pure Try.prog 59 [.sl 0 (a.map leT), .sl 0 (b.map leT)] (· = Bo (same (a.map leT) (b.map leT))) := by
  refine Pure.intro mo Try.func59 rfl (by show 2 ≤ 26; omega) _ rfl [0, 1, 4, 5, 10, 12, 13, 14, 24] (by kernel_rfl) ?_
  simp [Try.f59]
  refine ⟨fun e => same_no (map_len e), fun e => ?_⟩
  have hl : a.length = b.length := by omega
  refine loopI (fun ((i, x5, x14, x24, L, n) : Nat × AV × AV × AV × List (Nat × Blk) × Nat) => ⟨[(0, .sl 0 (a.map leT)), (1, .sl 0 (b.map leT)), (4, Bo false), (5, x5), (10, Bo (!decide ((a.length : Int) = b.length))), (12, I a.length), (13, I (i : Nat)), (14, x14), (24, x24)], L, [], n, 2⟩)
    (fun (i, _) => i ≤ a.length ∧ ∀ j (hj : j < a.length) (hj' : j < b.length), j < i → leT a[j] = leT b[j]) (fun (i, _) => a.length - i) (0, .no, .no, .no, [], 0) rfl ?_ ?_
  · exact ⟨Nat.zero_le _, fun j _ _ hj => by omega⟩
  rintro ⟨i, x5, x14, x24, L, n⟩ ⟨j1, j2⟩
  by_cases hi : i < a.length
  · have hi2 : i < b.length := by omega
    have hw := wn i (by omega)
    simp [hi, hi2, leT]
    refine ⟨[false, false, false, false, false, false, false, false, true], by kernel_rfl, ?_⟩
    simp [hi, hi2, leT]
    rw [hw]
    all_goals (repeat' (first | with_reducible intro _ | with_reducible apply And.intro))
    all_goals first | (exact same_no (map_ne hi hi2 (by simp [leT]; grind))) | skip
    all_goals exact RndI.mk (i + 1, _, _, _, _, _) rfl ⟨hi, by simpa [leT] using upto2 (p := fun j hj hj' => leT a[j] = leT b[j]) hi hi2 j2 (by simp [leT]; grind)⟩ (by show a.length - (i + 1) < a.length - i; omega)
  · simp [hi]
    exact same_iff.2 (map_yes hl (fun j hj hj' => j2 j hj hj' (by omega)))
theorem p60 (a b : List Se) (h : a.length ≤ 1048576) (h2 : b.length ≤ 1048576) : Pure Try.prog 60 [.sl 0 (a.map seT), .sl 0 (b.map seT)] (· = Bo (same (a.map seT) (b.map seT))) := by
  refine Pure.intro mo Try.func60 rfl (by show 2 ≤ 26; omega) _ rfl [0, 1, 4, 5, 10, 12, 13, 14, 24] (by kernel_rfl) ?_
  simp [Try.f60]
  refine ⟨fun e => same_no (map_len e), fun e => ?_⟩
  have hl : a.length = b.length := by omega
  refine loopI (fun ((i, x5, x14, x24, L, n) : Nat × AV × AV × AV × List (Nat × Blk) × Nat) => ⟨[(0, .sl 0 (a.map seT)), (1, .sl 0 (b.map seT)), (4, Bo false), (5, x5), (10, Bo (!decide ((a.length : Int) = b.length))), (12, I a.length), (13, I (i : Nat)), (14, x14), (24, x24)], L, [], n, 2⟩)
    (fun (i, _) => i ≤ a.length ∧ ∀ j (hj : j < a.length) (hj' : j < b.length), j < i → seT a[j] = seT b[j]) (fun (i, _) => a.length - i) (0, .no, .no, .no, [], 0) rfl ?_ ?_
  · exact ⟨Nat.zero_le _, fun j _ _ hj => by omega⟩
  rintro ⟨i, x5, x14, x24, L, n⟩ ⟨j1, j2⟩
  by_cases hi : i < a.length
  · have hi2 : i < b.length := by omega
    have hw := wn i (by omega)
    simp [hi, hi2, seT]
    refine ⟨[false, false, false, false, false, false, false, false, true], by kernel_rfl, ?_⟩
    simp [hi, hi2, seT]
    rw [hw]
    all_goals (repeat' (first | with_reducible intro _ | with_reducible apply And.intro))
    all_goals first | (exact same_no (map_ne hi hi2 (by simp [seT]; grind))) | skip
    all_goals exact RndI.mk (i + 1, _, _, _, _, _) rfl ⟨hi, by simpa [seT] using upto2 (p := fun j hj hj' => seT a[j] = seT b[j]) hi hi2 j2 (by simp [seT]; grind)⟩ (by show a.length - (i + 1) < a.length - i; omega)
  · simp [hi]
    exact same_iff.2 (map_yes hl (fun j hj hj' => j2 j hj hj' (by omega)))
theorem st_same (a b : St) : same (stT a) (stT b) = (same (a.plan.pools.map poT) (b.plan.pools.map poT) && same (a.plan.blocks.map bkT) (b.plan.blocks.map bkT) && same (a.book.leases.map leT) (b.book.leases.map leT) && decide (a.book.token = b.book.token) && decide (a.book.now = b.book.now) && same (a.desk.sessions.map seT) (b.desk.sessions.map seT) && decide (a.desk.next = b.desk.next) && decide (a.count = b.count)) := by
  rw [Bool.eq_iff_iff]
  simp only [same_iff, Bool.and_eq_true, decide_eq_true_eq, stT]
  simp
  grind
set_option maxHeartbeats 4000000 in
theorem p40 (a b : St) (h : okSt 1048576 a) (h2 : okSt 1048576 b) : Pure Try.prog 40 [stV a, stV b] (· = Bo (same (stT a) (stT b))) := by
  refine Pure.intro mo Try.func40 rfl (by show 2 ≤ 73; omega) _ rfl [0, 1, 2, 3, 4] (by kernel_rfl) ?_
  rw [st_same]
  simp [Try.f40]
  first | refine call0 isFn57 (p57 _ _ h.plan.pools h2.plan.pools) ?_ | refine qcall0 isFn57 (p57 _ _ h.plan.pools h2.plan.pools) ?_
  simp
  all_goals (repeat' (first | with_reducible intro _ | with_reducible apply And.intro))
  all_goals first | (simp_all; done) | skip
  first | refine call0 isFn58 (p58 _ _ h.plan.blocks h2.plan.blocks) ?_ | refine qcall0 isFn58 (p58 _ _ h.plan.blocks h2.plan.blocks) ?_
  simp
  all_goals (repeat' (first | with_reducible intro _ | with_reducible apply And.intro))
  all_goals first | (simp_all; done) | skip
  first | refine call0 isFn59 (p59 _ _ h.book.leases h2.book.leases) ?_ | refine qcall0 isFn59 (p59 _ _ h.book.leases h2.book.leases) ?_
  simp
  all_goals (repeat' (first | with_reducible intro _ | with_reducible apply And.intro))
  all_goals first | (simp_all; done) | skip
  first | refine call0 isFn60 (p60 _ _ h.desk.sessions h2.desk.sessions) ?_ | refine qcall0 isFn60 (p60 _ _ h.desk.sessions h2.desk.sessions) ?_
  simp
  all_goals (repeat' (first | with_reducible intro _ | with_reducible apply And.intro))
  all_goals first | (simp_all; done) | skip
  trace_state
abbrev stc (x : St) : List AV := [.sl 0 (x.plan.pools.map poT), .sl 0 (x.plan.blocks.map bkT), .sl 0 (x.book.leases.map leT), I x.book.token, I x.book.now, .sl 0 (x.desk.sessions.map seT), I x.desk.next, I x.count]
theorem st_no {a b : St} (h : ¬ (a.plan.pools.map poT = b.plan.pools.map poT ∧ a.plan.blocks.map bkT = b.plan.blocks.map bkT ∧ a.book.leases.map leT = b.book.leases.map leT ∧ a.desk.sessions.map seT = b.desk.sessions.map seT)) : same (stT a) (stT b) = false := by
  cases hs : same (stT a) (stT b) with
  | false => rfl
  | true =>
    rw [st_same] at hs
    simp only [Bool.and_eq_true, same_iff] at hs
    exact (h ⟨hs.1.1.1.1.1.1.1, hs.1.1.1.1.1.1.2, hs.1.1.1.1.1.2, hs.1.1.2⟩).elim
set_option maxHeartbeats 4000000 in
theorem p39 (a b : St) (h : okSt 1048576 a) (h2 : okSt 1048576 b) : Pure Try.prog 39 [stV a, stV b] (· = Bo (same (stT a) (stT b))) := by
  refine Pure.intro mo Try.func39 rfl (by show 2 ≤ 167; omega) _ rfl [0, 1, 2, 3, 4, 5, 6, 7, 8, 50, 56, 71, 77, 92, 98, 113, 119, 134] (by kernel_rfl) ?_
  have hp := h.plan.pools
  have hb := h.plan.blocks
  have hq := h.book.leases
  have hs := h.desk.sessions
  simp [Try.f39]
  all_goals (repeat' (first | with_reducible intro _ | with_reducible apply And.intro))
  all_goals first | (exact st_no (fun hh => map_len ‹_› hh.1)) | (exact st_no (fun hh => map_len ‹_› hh.2.1)) | (exact st_no (fun hh => map_len ‹_› hh.2.2.1)) | (exact st_no (fun hh => map_len ‹_› hh.2.2.2)) | skip
  refine loopI (fun ((i, x6, x7, x8, x50, x56, x71, x77, x92, x98, x113, x119, x134) : Nat × AV × AV × AV × AV × AV × AV × AV × AV × AV × AV × AV × AV) => ⟨[(0, stV a), (1, stV b), (2, .ptr 0 0), (3, .ptr 1 0), (4, Bo false), (5, I (i : Nat)), (6, x6), (7, x7), (8, x8), (50, x50), (56, x56), (71, x71), (77, x77), (92, x92), (98, x98), (113, x113), (119, x119), (134, x134)], [(1, .box (stc b)), (0, .box (stc a))], [], 2, 2⟩)
    (fun (i, _) => i ≤ a.plan.pools.length ∧ ∀ j (hj : j < a.plan.pools.length) (hj' : j < b.plan.pools.length), j < i → poT a.plan.pools[j] = poT b.plan.pools[j]) (fun (i, _) => a.plan.pools.length - i) (0, _, _, _, _, _, _, _, _, _, _, _, _) rfl ?_ ?_
  · exact ⟨Nat.zero_le _, fun j _ _ hj => by omega⟩
  rintro ⟨i, x6, x7, x8, x50, x56, x71, x77, x92, x98, x113, x119, x134⟩ ⟨j1, k1⟩
  by_cases hi : i < a.plan.pools.length
  · have hi2 : i < b.plan.pools.length := by omega
    have hw := wn i (by omega)
    simp [hi, hi2, poT]
    refine ⟨[false, false, false, false, false, false, false, false, false, false, false, false, true], by kernel_rfl, ?_⟩
    simp [hi, hi2, poT]
    rw [hw]
    all_goals (repeat' (first | with_reducible intro _ | with_reducible apply And.intro))
    all_goals first | (exact st_no (fun hh => map_ne hi hi2 (by simp [poT]; grind) hh.1)) | skip
    all_goals exact RndI.mk (i + 1, _, _, _, _, _, _, _, _, _, _, _, _) rfl ⟨hi, by simpa [poT] using upto2 (p := fun j hj hj' => poT a.plan.pools[j] = poT b.plan.pools[j]) hi hi2 k1 (by simp [poT]; grind)⟩ (by show a.plan.pools.length - (i + 1) < a.plan.pools.length - i; omega)
  replace k1 : a.plan.pools.map poT = b.plan.pools.map poT := map_yes (by omega) (fun j hj hj' => k1 j hj hj' (by omega))
  simp [hi]
  clear hi j1
  rename Nat => i0
  refine loopI (fun ((i, y5, y7, y8, y50, y56, y71, y77, y92, y98, y113, y119, y134) : Nat × AV × AV × AV × AV × AV × AV × AV × AV × AV × AV × AV × AV) => ⟨[(0, stV a), (1, stV b), (2, .ptr 0 0), (3, .ptr 1 0), (4, Bo false), (5, y5), (6, I (i : Nat)), (7, y7), (8, y8), (50, y50), (56, y56), (71, y71), (77, y77), (92, y92), (98, y98), (113, y113), (119, y119), (134, y134)], [(1, .box (stc b)), (0, .box (stc a))], [], 2, 2⟩)
    (fun (i, _) => i ≤ a.plan.blocks.length ∧ ∀ j (hj : j < a.plan.blocks.length) (hj' : j < b.plan.blocks.length), j < i → bkT a.plan.blocks[j] = bkT b.plan.blocks[j]) (fun (i, _) => a.plan.blocks.length - i) (0, _, _, _, _, _, _, _, _, _, _, _, _) rfl ?_ ?_
  · exact ⟨Nat.zero_le _, fun j _ _ hj => by omega⟩
  rintro ⟨i, y5, y7, y8, y50, y56, y71, y77, y92, y98, y113, y119, y134⟩ ⟨j1, k2⟩
  by_cases hi : i < a.plan.blocks.length
  · have hi2 : i < b.plan.blocks.length := by omega
    have hw := wn i (by omega)
    simp [hi, hi2, bkT]
    refine ⟨[false, false, false, false, false, false, false, false, false, false, false, false, true], by kernel_rfl, ?_⟩
    simp [hi, hi2, bkT]
    rw [hw]
    all_goals (repeat' (first | with_reducible intro _ | with_reducible apply And.intro))
    all_goals first | (exact st_no (fun hh => map_ne hi hi2 (by simp [bkT]; grind) hh.2.1)) | skip
    all_goals exact RndI.mk (i + 1, _, _, _, _, _, _, _, _, _, _, _, _) rfl ⟨hi, by simpa [bkT] using upto2 (p := fun j hj hj' => bkT a.plan.blocks[j] = bkT b.plan.blocks[j]) hi hi2 k2 (by simp [bkT]; grind)⟩ (by show a.plan.blocks.length - (i + 1) < a.plan.blocks.length - i; omega)
  replace k2 : a.plan.blocks.map bkT = b.plan.blocks.map bkT := map_yes (by omega) (fun j hj hj' => k2 j hj hj' (by omega))
  simp [hi]
  clear hi j1
  rename Nat => i1
  refine loopI (fun ((i, z5, z6, z8, z50, z56, z71, z77, z92, z98, z113, z119, z134) : Nat × AV × AV × AV × AV × AV × AV × AV × AV × AV × AV × AV × AV) => ⟨[(0, stV a), (1, stV b), (2, .ptr 0 0), (3, .ptr 1 0), (4, Bo false), (5, z5), (6, z6), (7, I (i : Nat)), (8, z8), (50, z50), (56, z56), (71, z71), (77, z77), (92, z92), (98, z98), (113, z113), (119, z119), (134, z134)], [(1, .box (stc b)), (0, .box (stc a))], [], 2, 2⟩)
    (fun (i, _) => i ≤ a.book.leases.length ∧ ∀ j (hj : j < a.book.leases.length) (hj' : j < b.book.leases.length), j < i → leT a.book.leases[j] = leT b.book.leases[j]) (fun (i, _) => a.book.leases.length - i) (0, _, _, _, _, _, _, _, _, _, _, _, _) rfl ?_ ?_
  · exact ⟨Nat.zero_le _, fun j _ _ hj => by omega⟩
  rintro ⟨i, z5, z6, z8, z50, z56, z71, z77, z92, z98, z113, z119, z134⟩ ⟨j1, k3⟩
  by_cases hi : i < a.book.leases.length
  · have hi2 : i < b.book.leases.length := by omega
    have hw := wn i (by omega)
    simp [hi, hi2, leT]
    refine ⟨[false, false, false, false, false, false, false, false, false, false, false, false, true], by kernel_rfl, ?_⟩
    simp [hi, hi2, leT]
    rw [hw]
    all_goals (repeat' (first | with_reducible intro _ | with_reducible apply And.intro))
    all_goals first | (exact st_no (fun hh => map_ne hi hi2 (by simp [leT]; grind) hh.2.2.1)) | skip
    all_goals exact RndI.mk (i + 1, _, _, _, _, _, _, _, _, _, _, _, _) rfl ⟨hi, by simpa [leT] using upto2 (p := fun j hj hj' => leT a.book.leases[j] = leT b.book.leases[j]) hi hi2 k3 (by simp [leT]; grind)⟩ (by show a.book.leases.length - (i + 1) < a.book.leases.length - i; omega)
  replace k3 : a.book.leases.map leT = b.book.leases.map leT := map_yes (by omega) (fun j hj hj' => k3 j hj hj' (by omega))
  simp [hi]
  clear hi j1
  rename Nat => i2
  refine loopI (fun ((i, u5, u6, u7, u50, u56, u71, u77, u92, u98, u113, u119, u134) : Nat × AV × AV × AV × AV × AV × AV × AV × AV × AV × AV × AV × AV) => ⟨[(0, stV a), (1, stV b), (2, .ptr 0 0), (3, .ptr 1 0), (4, Bo false), (5, u5), (6, u6), (7, u7), (8, I (i : Nat)), (50, u50), (56, u56), (71, u71), (77, u77), (92, u92), (98, u98), (113, u113), (119, u119), (134, u134)], [(1, .box (stc b)), (0, .box (stc a))], [], 2, 2⟩)
    (fun (i, _) => i ≤ a.desk.sessions.length ∧ ∀ j (hj : j < a.desk.sessions.length) (hj' : j < b.desk.sessions.length), j < i → seT a.desk.sessions[j] = seT b.desk.sessions[j]) (fun (i, _) => a.desk.sessions.length - i) (0, _, _, _, _, _, _, _, _, _, _, _, _) rfl ?_ ?_
  · exact ⟨Nat.zero_le _, fun j _ _ hj => by omega⟩
  rintro ⟨i, u5, u6, u7, u50, u56, u71, u77, u92, u98, u113, u119, u134⟩ ⟨j1, k4⟩
  by_cases hi : i < a.desk.sessions.length
  · have hi2 : i < b.desk.sessions.length := by omega
    have hw := wn i (by omega)
    simp [hi, hi2, seT]
    refine ⟨[false, false, false, false, false, false, false, false, false, false, false, false, true], by kernel_rfl, ?_⟩
    simp [hi, hi2, seT]
    rw [hw]
    all_goals (repeat' (first | with_reducible intro _ | with_reducible apply And.intro))
    all_goals first | (exact st_no (fun hh => map_ne hi hi2 (by simp [seT]; grind) hh.2.2.2)) | skip
    all_goals exact RndI.mk (i + 1, _, _, _, _, _, _, _, _, _, _, _, _) rfl ⟨hi, by simpa [seT] using upto2 (p := fun j hj hj' => seT a.desk.sessions[j] = seT b.desk.sessions[j]) hi hi2 k4 (by simp [seT]; grind)⟩ (by show a.desk.sessions.length - (i + 1) < a.desk.sessions.length - i; omega)
  replace k4 : a.desk.sessions.map seT = b.desk.sessions.map seT := map_yes (by omega) (fun j hj hj' => k4 j hj hj' (by omega))
  simp [hi]
  clear hi j1
  rename Nat => i3
  rw [st_same, same_iff.2 k1, same_iff.2 k2, same_iff.2 k3, same_iff.2 k4]
  simp
  grind
end Go.Proofs
