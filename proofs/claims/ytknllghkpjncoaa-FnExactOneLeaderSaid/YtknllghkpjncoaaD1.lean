/- Of a cluster: does each replica have what is agreed; who leads. -/
import Derived.Test.YtknllghkpjncoaaC2
import Derived.Test.YtknllghkpjncoaaC3
set_option linter.unusedVariables false
set_option linter.unusedSimpArgs false
set_option maxRecDepth 100000
namespace Go.Proofs
open Go VC

/-- The cells of a cluster. -/
abbrev clc (c : Cl) : List AV := [.sl 0 (c.r.map rpT), ints c.now, ints c.next, .sl 0 (c.net.map mgT), .sl 0 (c.led.map prc), .sl 0 (c.done.map ec), .sl 0 (c.said.map strc), Bo c.split]
def ahR (n : Int) (r : Rp) : Bool := !(r.up && !decide (r.applied = r.n.commit)) && decide (r.n.commit ≤ n)
def ahd (c : Cl) : Bool := c.r.all (ahR c.done.length)
theorem ahd_no {c : Cl} {i : Nat} (hi : i < c.r.length) (h : ahR c.done.length c.r[i] = false) : ahd c = false := by
  rw [ahd, List.all_eq_false]
  exact ⟨_, List.getElem_mem hi, by simp [h]⟩
theorem ahd_yes {c : Cl} (h : ∀ j (hj : j < c.r.length), ahR c.done.length c.r[j] = true) : ahd c = true := by
  rw [ahd, List.all_eq_true]
  intro r hr
  obtain ⟨j, hj, rfl⟩ := List.mem_iff_getElem.1 hr
  exact h j hj
theorem upto {n i : Nat} {p : (j : Nat) → j < n → Prop} (hi : i < n) (h : ∀ j (hj : j < n), j < i → p j hj) (h0 : p i hi) : ∀ j (hj : j < n), j < i + 1 → p j hj := fun j hj hji => by
  by_cases e : j = i
  · subst e; exact h0
  · exact h j hj (by omega)
theorem p11 (c : Cl) (h : okCl 1048576 c) : Pure Try.prog 11 [clV c] (· = Bo (ahd c)) := by
  refine Pure.intro mo Try.func11 rfl (by show 1 ≤ 32; omega) _ rfl [0, 1, 2, 4, 6, 7, 8, 9, 30] (by kernel_rfl) ?_
  have hr := h.r
  simp [Try.f11]
  refine loopI (fun ((i, x, y, z, L, n) : Nat × AV × AV × AV × List (Nat × Blk) × Nat) => ⟨[(0, clV c), (1, .ptr 0 0), (2, Bo false), (4, x), (6, .sl 0 (c.r.map rpT)), (7, I c.r.length), (8, I (i : Nat)), (9, y), (30, z)], L, [], n, 2⟩)
    (fun (i, x, y, z, L, n) => i ≤ c.r.length ∧ blook L 0 = some (.box (clc c)) ∧ 0 < n ∧ ∀ j (hj : j < c.r.length), j < i → ahR c.done.length c.r[j] = true) (fun (i, _) => c.r.length - i) (0, .no, .no, .no, [(0, .box (clc c))], 1) rfl ?_ ?_
  · exact ⟨Nat.zero_le _, rfl, by omega, fun j _ hj => by omega⟩
  rintro ⟨i, x, y, z, L, n⟩ ⟨j1, j2, j3, j4⟩
  have n1 : ¬ 0 = n := by omega
  have n2 : ¬ n = 0 := by omega
  by_cases hi : i < c.r.length
  · have hw := wn i (by omega)
    simp [hi, rpT, j2, n1, n2]
    rw [hw]
    all_goals (repeat' (first | with_reducible intro _ | with_reducible apply And.intro))
    all_goals first | (exact ahd_no hi (by simp [ahR, *])) | skip
    all_goals exact RndI.mk (i + 1, _, _, _, _, _) rfl ⟨hi, by simp [n1, j2], by simp, upto hi j4 (by simp [ahR, *])⟩ (by show c.r.length - (i + 1) < c.r.length - i; omega)
  · simp [hi]
    exact (ahd_yes (fun j hj => j4 j hj (by omega)))
theorem p9 (c : Cl) (h : okCl 1048576 c) : Pure Try.prog 9 [clV c] (· = Bo (ahd c)) := by
  refine Pure.intro mo Try.func9 rfl (by show 1 ≤ 36; omega) _ rfl [0, 1, 2, 3, 4, 9, 35] (by kernel_rfl) ?_
  have hr := h.r
  simp [Try.f9]
  refine loopI (fun ((i, x, y, z, L, n) : Nat × AV × AV × AV × List (Nat × Blk) × Nat) => ⟨[(0, clV c), (1, .ptr 0 0), (2, Bo false), (3, I (i : Nat)), (4, x), (9, y), (35, z)], L, [], n, 2⟩)
    (fun (i, x, y, z, L, n) => i ≤ c.r.length ∧ blook L 0 = some (.box (clc c)) ∧ 0 < n ∧ ∀ j (hj : j < c.r.length), j < i → ahR c.done.length c.r[j] = true) (fun (i, _) => c.r.length - i) (0, .no, .no, .no, [(0, .box (clc c))], 1) rfl ?_ ?_
  · exact ⟨Nat.zero_le _, rfl, by omega, fun j _ hj => by omega⟩
  rintro ⟨i, x, y, z, L, n⟩ ⟨j1, j2, j3, j4⟩
  have n1 : ¬ 0 = n := by omega
  have n2 : ¬ n = 0 := by omega
  by_cases hi : i < c.r.length
  · have hw := wn i (by omega)
    simp [hi, rpT, j2, n1, n2]
    rw [hw]
    all_goals (repeat' (first | with_reducible intro _ | with_reducible apply And.intro))
    all_goals first | (exact ahd_no hi (by simp [ahR, *])) | skip
    all_goals exact RndI.mk (i + 1, _, _, _, _, _) rfl ⟨hi, by simp [n1, j2], by simp, upto hi j4 (by simp [ahR, *])⟩ (by show c.r.length - (i + 1) < c.r.length - i; omega)
  · simp [hi, j2]
    exact (ahd_yes (fun j hj => j4 j hj (by omega)))
theorem p3 (c : Cl) (h : okCl 140737488355328 c) : Pure Try.prog 3 [clV c] (· = Bo true) := by
  refine Pure.intro mo Try.func3 rfl (by show 1 ≤ 27; omega) _ rfl [0, 1, 2, 3, 4, 5, 6, 11, 21, 26] (by kernel_rfl) ?_
  simp [Try.f3]
  refine callR isFn8 (q8 c 1048576 h (by omega)) ?_
  rintro _ ⟨n, rfl, e1, e2, e3⟩
  simp
  intro h0
  have hl := e3 h0
  refine call0 isFn10 (p10 _ hl) ?_
  simp
  refine call0 isFn9 (p9 _ hl) ?_
  simp
  refine call0 isFn10 (p10 _ hl) ?_
  simp
  refine call0 isFn11 (p11 _ hl) ?_
  simp
  refine ⟨[false, false, false, true, true], by kernel_rfl, ?_⟩
  simp
  first | refine call0 isFn10 (p10 _ hl) ?_ | refine qcall0 isFn10 (p10 _ hl) ?_
  simp
  first | refine call0 isFn12 (p12 _ hl) ?_ | refine qcall0 isFn12 (p12 _ hl) ?_
  simp
/-- Who of the first replicas leads in the greatest term: his place, and one. -/
def chs (l : List Rp) : Nat → Nat
  | 0 => 0
  | i + 1 => match l[i]? with
    | some r => if (r.up && decide (r.n.role = 2) && (chs l i == 0 || match l[chs l i - 1]? with | some b => decide (b.n.k.term < r.n.k.term) | none => false)) = true then i + 1 else chs l i
    | none => chs l i
theorem chs_le (l : List Rp) : ∀ i, chs l i ≤ i
  | 0 => Nat.le_refl _
  | i + 1 => by
    have := chs_le l i
    unfold chs
    repeat' split
    all_goals omega
theorem chs_yes {l : List Rp} {i : Nat} (hi : i < l.length) (h1 : l[i].up = true) (h2 : l[i].n.role = 2) (h3 : chs l i = 0 ∨ ∃ m, ∃ hm : m < l.length, chs l i = m + 1 ∧ l[m].n.k.term < l[i].n.k.term) : chs l (i + 1) = i + 1 := by
  rw [chs, List.getElem?_eq_getElem hi]
  simp only [h1, h2, decide_true, Bool.true_and]
  rcases h3 with h3 | ⟨m, hm, h3, h4⟩
  · simp [h3]
  · simp [h3, h4, List.getElem?_eq_getElem hm]
theorem chs_no {l : List Rp} {i : Nat} (hi : i < l.length) (h : ¬ l[i].up = true ∨ ¬ l[i].n.role = 2 ∨ ∃ m, ∃ hm : m < l.length, chs l i = m + 1 ∧ ¬ l[m].n.k.term < l[i].n.k.term) : chs l (i + 1) = chs l i := by
  rw [chs, List.getElem?_eq_getElem hi]
  simp only
  rw [if_neg]
  rcases h with h | h | ⟨m, hm, h3, h4⟩
  · simp [h]
  · simp [h]
  · simp [h3, h4, List.getElem?_eq_getElem hm]
theorem p14 (c : Cl) (h : okCl 1048576 c) : Pure Try.prog 14 [clV c] (· = I (chs c.r c.r.length)) := by
  refine Pure.intro mo Try.func14 rfl (by show 1 ≤ 46; omega) _ rfl [0, 1, 2, 3, 4, 5, 7, 8, 9, 10, 41] (by kernel_rfl) ?_
  have hr := h.r
  simp [Try.f14]
  refine loopI (fun ((i, b, x, u, y, z, L, n) : Nat × Nat × AV × AV × AV × AV × List (Nat × Blk) × Nat) => ⟨[(0, clV c), (1, .ptr 0 0), (2, I 0), (3, I (b : Nat)), (4, x), (5, u), (7, .sl 0 (c.r.map rpT)), (8, I c.r.length), (9, I (i : Nat)), (10, y), (41, z)], L, [], n, 2⟩)
    (fun (i, b, x, u, y, z, L, n) => i ≤ c.r.length ∧ blook L 0 = some (.box (clc c)) ∧ 0 < n ∧ b = chs c.r i) (fun (i, _) => c.r.length - i) (0, 0, .no, .no, .no, .no, [(0, .box (clc c))], 1) rfl ?_ ?_
  · exact ⟨Nat.zero_le _, rfl, by omega, rfl⟩
  rintro ⟨i, b, x, u, y, z, L, n⟩ ⟨j1, j2, j3, j4⟩
  have n1 : ¬ 0 = n := by omega
  have n2 : ¬ n = 0 := by omega
  by_cases hi : i < c.r.length
  · have hw := wn i (by omega)
    have hle := chs_le c.r i
    by_cases hb : b = 0
    · subst hb
      simp [hi, rpT, j2, n1, n2]
      refine ⟨[true, true, true, true, true, true, true, true, true, true, true, true, false, false, false, false, false, false, false, false, false, false, false, false, false, true, true, true], by kernel_rfl, ?_⟩
      simp [hi, rpT, j2, n1, n2]
      try rw [hw]
      all_goals (repeat' (first | with_reducible intro _ | with_reducible apply And.intro))
      · exact RndI.mk (i + 1, i + 1, _, _, _, _, _, _) rfl ⟨hi, by simp [n1, j2], by simp, (chs_yes hi ‹_› ‹_› (.inl j4.symm)).symm⟩ (by show c.r.length - (i + 1) < c.r.length - i; omega)
      · exact RndI.mk (i + 1, 0, _, _, _, _, _, _) rfl ⟨hi, by simp [n1, j2], by simp, by rw [chs_no hi (by simp [*])]; exact j4⟩ (by show c.r.length - (i + 1) < c.r.length - i; omega)
      · exact RndI.mk (i + 1, 0, _, _, _, _, _, _) rfl ⟨hi, by simp [n1, j2], by simp, by rw [chs_no hi (by simp [*])]; exact j4⟩ (by show c.r.length - (i + 1) < c.r.length - i; omega)
    · obtain ⟨m, rfl⟩ : ∃ m, b = m + 1 := ⟨b - 1, by omega⟩
      have hml : m < c.r.length := by omega
      have hm0 : ¬ ((m : Int) + 1 = 0) := by omega
      have hw2 := wi (m : Int) (by omega)
      simp [hi, rpT, j2, n1, n2, hml, hm0, hw2]
      refine ⟨[true, true, true, true, true, true, true, true, true, true, true, true, false, false, false, false, false, false, false, false, false, false, false, false, false, true, true, true], by kernel_rfl, ?_⟩
      simp [hml, hm0, hw2, hi, rpT, j2, n1, n2]
      try rw [hw]
      all_goals (repeat' (first | with_reducible intro _ | with_reducible apply And.intro))
      · exact RndI.mk (i + 1, i + 1, _, _, _, _, _, _) rfl ⟨hi, by simp [n1, j2], by simp, (chs_yes hi ‹_› ‹_› (.inr ⟨m, hml, j4.symm, ‹_›⟩)).symm⟩ (by show c.r.length - (i + 1) < c.r.length - i; omega)
      · exact RndI.mk (i + 1, m + 1, _, _, _, _, _, _) rfl ⟨hi, by simp [n1, j2], by simp, by rw [chs_no hi (.inr (.inr ⟨m, hml, j4.symm, by omega⟩))]; exact j4⟩ (by show c.r.length - (i + 1) < c.r.length - i; omega)
      · exact RndI.mk (i + 1, m + 1, _, _, _, _, _, _) rfl ⟨hi, by simp [n1, j2], by simp, by rw [chs_no hi (by simp [*])]; exact j4⟩ (by show c.r.length - (i + 1) < c.r.length - i; omega)
      · exact RndI.mk (i + 1, m + 1, _, _, _, _, _, _) rfl ⟨hi, by simp [n1, j2], by simp, by rw [chs_no hi (by simp [*])]; exact j4⟩ (by show c.r.length - (i + 1) < c.r.length - i; omega)
  · have : i = c.r.length := by omega
    subst this
    subst j4
    simp [hi, j2]
theorem p13 (c : Cl) (h : okCl 1048576 c) : Pure Try.prog 13 [clV c] (· = I (chs c.r c.r.length)) := by
  refine Pure.intro mo Try.func13 rfl (by show 1 ≤ 49; omega) _ rfl [0, 1, 2, 3, 4, 5, 10, 45] (by kernel_rfl) ?_
  have hr := h.r
  simp [Try.f13]
  refine loopI (fun ((i, b, x, u, y, z, L, n) : Nat × Nat × AV × AV × AV × AV × List (Nat × Blk) × Nat) => ⟨[(0, clV c), (1, .ptr 0 0), (2, I 0), (3, I (b : Nat)), (4, I (i : Nat)), (5, x), (10, y), (45, z)], L, [], n, 2⟩)
    (fun (i, b, x, u, y, z, L, n) => i ≤ c.r.length ∧ blook L 0 = some (.box (clc c)) ∧ 0 < n ∧ b = chs c.r i) (fun (i, _) => c.r.length - i) (0, 0, .no, .no, .no, .no, [(0, .box (clc c))], 1) rfl ?_ ?_
  · exact ⟨Nat.zero_le _, rfl, by omega, rfl⟩
  rintro ⟨i, b, x, u, y, z, L, n⟩ ⟨j1, j2, j3, j4⟩
  have n1 : ¬ 0 = n := by omega
  have n2 : ¬ n = 0 := by omega
  by_cases hi : i < c.r.length
  · have hw := wn i (by omega)
    have hle := chs_le c.r i
    by_cases hb : b = 0
    · subst hb
      simp [hi, rpT, j2, n1, n2]
      refine ⟨[true, true, true, true, true, true, true, true, true, true, true, true, false, false, false, false, false, false, false, false, false, false, false, false, false, true, true, true], by kernel_rfl, ?_⟩
      simp [hi, rpT, j2, n1, n2]
      try rw [hw]
      all_goals (repeat' (first | with_reducible intro _ | with_reducible apply And.intro))
      · exact RndI.mk (i + 1, i + 1, _, u, _, _, _, _) rfl ⟨hi, by simp [n1, j2], by simp, (chs_yes hi ‹_› ‹_› (.inl j4.symm)).symm⟩ (by show c.r.length - (i + 1) < c.r.length - i; omega)
      · exact RndI.mk (i + 1, 0, _, u, _, _, _, _) rfl ⟨hi, by simp [n1, j2], by simp, by rw [chs_no hi (by simp [*])]; exact j4⟩ (by show c.r.length - (i + 1) < c.r.length - i; omega)
      · exact RndI.mk (i + 1, 0, _, u, _, _, _, _) rfl ⟨hi, by simp [n1, j2], by simp, by rw [chs_no hi (by simp [*])]; exact j4⟩ (by show c.r.length - (i + 1) < c.r.length - i; omega)
    · obtain ⟨m, rfl⟩ : ∃ m, b = m + 1 := ⟨b - 1, by omega⟩
      have hml : m < c.r.length := by omega
      have hm0 : ¬ ((m : Int) + 1 = 0) := by omega
      have hw2 := wi (m : Int) (by omega)
      simp [hi, rpT, j2, n1, n2, hml, hm0, hw2]
      refine ⟨[true, true, true, true, true, true, true, true, true, true, true, true, false, false, false, false, false, false, false, false, false, false, false, false, false, true, true, true], by kernel_rfl, ?_⟩
      simp [hml, hm0, hw2, hi, rpT, j2, n1, n2]
      try rw [hw]
      all_goals (repeat' (first | with_reducible intro _ | with_reducible apply And.intro))
      · exact RndI.mk (i + 1, i + 1, _, u, _, _, _, _) rfl ⟨hi, by simp [n1, j2], by simp, (chs_yes hi ‹_› ‹_› (.inr ⟨m, hml, j4.symm, ‹_›⟩)).symm⟩ (by show c.r.length - (i + 1) < c.r.length - i; omega)
      · exact RndI.mk (i + 1, m + 1, _, u, _, _, _, _) rfl ⟨hi, by simp [n1, j2], by simp, by rw [chs_no hi (.inr (.inr ⟨m, hml, j4.symm, by omega⟩))]; exact j4⟩ (by show c.r.length - (i + 1) < c.r.length - i; omega)
      · exact RndI.mk (i + 1, m + 1, _, u, _, _, _, _) rfl ⟨hi, by simp [n1, j2], by simp, by rw [chs_no hi (by simp [*])]; exact j4⟩ (by show c.r.length - (i + 1) < c.r.length - i; omega)
      · exact RndI.mk (i + 1, m + 1, _, u, _, _, _, _) rfl ⟨hi, by simp [n1, j2], by simp, by rw [chs_no hi (by simp [*])]; exact j4⟩ (by show c.r.length - (i + 1) < c.r.length - i; omega)
  · have : i = c.r.length := by omega
    subst this
    subst j4
    simp [hi, j2]
theorem p4 (c : Cl) (h : okCl 140737488355328 c) : Pure Try.prog 4 [clV c] (· = Bo true) := by
  refine Pure.intro mo Try.func4 rfl (by show 1 ≤ 27; omega) _ rfl [0, 1, 2, 3, 4, 5, 6, 11, 21, 26] (by kernel_rfl) ?_
  simp [Try.f4]
  refine callR isFn8 (q8 c 1048576 h (by omega)) ?_
  rintro _ ⟨n, rfl, e1, e2, e3⟩
  simp
  intro h0
  have hl := e3 h0
  refine call0 isFn10 (p10 _ hl) ?_
  simp
  refine call0 isFn13 (p13 _ hl) ?_
  simp
  refine call0 isFn10 (p10 _ hl) ?_
  simp
  refine call0 isFn14 (p14 _ hl) ?_
  simp
  refine ⟨[false, false, false, true, true], by kernel_rfl, ?_⟩
  simp
  first | refine call0 isFn10 (p10 _ hl) ?_ | refine qcall0 isFn10 (p10 _ hl) ?_
  simp
  first | refine call0 isFn12 (p12 _ hl) ?_ | refine qcall0 isFn12 (p12 _ hl) ?_
  simp
end Go.Proofs
