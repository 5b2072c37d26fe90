/- What a server keeps: is it right, its last entry. -/
import Derived.Test.YtcjjklbonobepaaA2
set_option linter.unusedVariables false
set_option linter.unusedSimpArgs false
set_option maxRecDepth 100000
namespace Go.Proofs
open Go VC

/-- Entries whose terms never fall. -/
def tok : List Ent → Int → Int → Bool
  | [], _, _ => true
  | e :: r, lo, hi => eok e && decide (lo ≤ e.term) && decide (e.term ≤ hi) && tok r e.term hi
theorem p57 (l : List Ent) (lo hi : Int) (h : l.length ≤ 1048576) (hb : ∀ e ∈ l, bytes e.data) : Pure Try.prog 57 [ents l, I lo, I hi] (· = Bo (tok l lo hi)) := by
  refine Pure.intro mo Try.func57 rfl (by show 3 ≤ 29; omega) _ rfl [0, 1, 2, 6, 8, 9, 10, 11, 12, 25] (by kernel_rfl) ?_
  simp [Try.f57]
  refine loopI (fun ((i, m, x, y, z, L, n) : Nat × Int × AV × AV × AV × List (Nat × Blk) × Nat) => ⟨[(0, ents l), (1, I m), (2, I hi), (6, Bo false), (8, x), (9, ents l), (10, I l.length), (11, I (i : Nat)), (12, y), (25, z)], L, [], n, 2⟩)
    (fun (i, m, _) => i ≤ l.length ∧ tok (l.drop i) m hi = tok l lo hi) (fun (i, _) => l.length - i) (0, lo, .no, .no, .no, [], 0) rfl ?_ ?_
  · exact ⟨Nat.zero_le _, rfl⟩
  rintro ⟨i, m, x, y, z, L, n⟩ ⟨j1, j2⟩
  by_cases hlt : i < l.length
  · rw [List.drop_eq_getElem_cons hlt, tok] at j2
    have hbi := hb _ (List.getElem_mem hlt)
    have hw : IntKind.i64.wrap ((i : Int) + 1) = ((i + 1 : Nat) : Int) := wn _ (by omega)
    simp [hlt, ec]
    refine call0 isFn80 (p80 l[i] hbi) ?_
    simp
    refine ⟨fun h1 => ?_, fun h1 => by rw [h1] at j2; simpa using j2.symm⟩
    refine call0 isFn50 (p50 _ _ _) ?_
    simp
    rw [hw]
    refine ⟨fun h2 => ?_, fun h2 h3 => ?_⟩
    · rw [← j2]; simp only [h1]; grind
    · rw [h1, decide_eq_true h2, decide_eq_true h3] at j2
      exact RndI.mk (i + 1, _, _, _, _, _, _) rfl ⟨hlt, j2⟩ (by show l.length - (i + 1) < l.length - i; omega)
  · rw [List.drop_eq_nil_of_le (by omega), tok] at j2
    simp [hlt, j2]
/-- What is kept, and right. -/
def kok (k : Kp) : Bool :=
  decide (0 ≤ k.term) && decide (k.term ≤ 1000000) && decide (0 ≤ k.vote) && decide (k.vote ≤ 7) && decide (0 ≤ k.base) && decide (k.base ≤ 1000000 - k.log.length) && decide (0 ≤ k.baseTerm) && decide (k.baseTerm ≤ k.term) &&
    (decide (k.base = 0) == decide (k.baseTerm = 0)) && grpOk k.now k.next && decide (k.snap.length ≤ 20000) && !(decide (k.base = 0) && decide (0 < k.snap.length)) && decide (k.log.length ≤ 120) && tok k.log k.baseTerm k.term
def Kp.bytes (k : Kp) : Prop := ∀ e ∈ k.log, Proofs.bytes e.data
theorem p45 (k : Kp) (h : k.low) (hb : -1000000000 ≤ k.base ∧ k.base ≤ 1000000000) : Pure Try.prog 45 [kp k] (· = I (k.base + k.log.length)) := by
  refine Pure.intro mo Try.func45 rfl (by show 1 ≤ 9; omega) _ rfl [0, 1, 2] (by kernel_rfl) ?_
  have := h.log
  simp [Try.f45]
  exact wi _ (by omega)
def kokP (k : Kp) : Prop :=
  0 ≤ k.term ∧ k.term ≤ 1000000 ∧ 0 ≤ k.vote ∧ k.vote ≤ 7 ∧ 0 ≤ k.base ∧ k.base ≤ 1000000 - k.log.length ∧ 0 ≤ k.baseTerm ∧ k.baseTerm ≤ k.term ∧
    (k.base = 0 ↔ k.baseTerm = 0) ∧ grpOk k.now k.next = true ∧ k.snap.length ≤ 20000 ∧ (k.base = 0 → k.snap.length = 0) ∧ k.log.length ≤ 120 ∧ tok k.log k.baseTerm k.term = true
theorem kok_iff {k : Kp} : kok k = true ↔ kokP k := by
  unfold kok kokP
  simp only [Bool.and_eq_true, decide_eq_true_eq, Bool.not_eq_true', Bool.and_eq_false_iff, decide_eq_false_iff_not, beq_iff_eq, decide_eq_decide]
  constructor
  · rintro ⟨⟨⟨⟨⟨⟨⟨⟨⟨⟨⟨⟨⟨h1, h2⟩, h3⟩, h4⟩, h5⟩, h6⟩, h7⟩, h8⟩, h9⟩, h10⟩, h11⟩, h12⟩, h13⟩, h14⟩
    exact ⟨h1, h2, h3, h4, h5, h6, h7, h8, h9, h10, h11, fun h => by omega, h13, h14⟩
  · rintro ⟨h1, h2, h3, h4, h5, h6, h7, h8, h9, h10, h11, h12, h13, h14⟩
    exact ⟨⟨⟨⟨⟨⟨⟨⟨⟨⟨⟨⟨⟨h1, h2⟩, h3⟩, h4⟩, h5⟩, h6⟩, h7⟩, h8⟩, h9⟩, h10⟩, h11⟩, by omega⟩, h13⟩, h14⟩
theorem kok_no {k : Kp} (h : kokP k → False) : kok k = false := by
  cases hk : kok k with
  | false => rfl
  | true => exact (h (kok_iff.1 hk)).elim
theorem p44 (k : Kp) (h : k.low) (hb : k.bytes) : Pure Try.prog 44 [kp k] (· = Bo (kok k)) := by
  refine Pure.intro mo Try.func44 rfl (by show 1 ≤ 80; omega) _ rfl [0, 1, 2, 45, 72] (by kernel_rfl) ?_
  have hl := h.log
  have hs := h.snap
  simp [Try.f44]
  refine call0 isFn50 (p50 _ _ _) ?_
  simp
  refine ⟨fun h1 h2 => ?_, fun h1 => kok_no (by rintro ⟨k1, k2, k3⟩; omega)⟩
  refine call0 isFn50 (p50 _ _ _) ?_
  simp
  refine ⟨fun h3 h4 => ?_, fun h3 => kok_no (by rintro ⟨k1, k2, k3⟩; omega)⟩
  refine call0 isFn50 (p50 _ _ _) ?_
  simp
  refine ⟨fun h5 h6 => ?_, fun h5 => kok_no (by rintro ⟨k1, k2, k3⟩; omega)⟩
  refine call0 isFn58 (p58 _ _ h.now h.next) ?_
  have hw := wi (k.base + k.log.length) (by omega)
  by_cases hz : k.base = 0
  · simp [hw, eq_true hz, eq_false (show ¬ 0 < k.base by omega)]
    refine ⟨fun h7 => ⟨fun h8 => ⟨fun h9 => ⟨fun h10 => kok_no (by unfold kokP; omega), fun h10 => ⟨fun h11 => ⟨fun h12 => ?_, fun h12 => kok_no (by unfold kokP; omega)⟩, fun h11 => kok_no (by unfold kokP; omega)⟩⟩, fun h9 => kok_no (by unfold kokP; omega)⟩, fun h8 => kok_no (by unfold kokP; omega)⟩, fun h7 => kok_no (by unfold kokP; rw [h7]; simp)⟩
    refine call0 isFn57 (p57 _ _ _ hl hb) ?_
    have hs0 : k.snap.length = 0 := by rw [h12]; rfl
    simp
    rw [Bool.eq_iff_iff, kok_iff]
    exact ⟨fun h => ⟨h1, h2, h3, h4, by omega, by omega, by omega, by omega, by omega, h7, by omega, by omega, by omega, h⟩, fun h => h.2.2.2.2.2.2.2.2.2.2.2.2.2⟩
  · simp [hw, eq_false hz, eq_true (show 0 < k.base by omega)]
    refine ⟨fun h7 => ⟨fun h8 => ⟨fun h9 => ⟨fun h10 => kok_no (by unfold kokP; omega), fun h10 => ?_⟩, fun h9 => kok_no (by unfold kokP; omega)⟩, fun h8 => kok_no (by unfold kokP; omega)⟩, fun h7 => kok_no (by unfold kokP; rw [h7]; simp)⟩
    refine call0 isFn50 (p50 _ _ _) ?_
    simp
    refine ⟨fun h11 => kok_no (by unfold kokP; omega), fun h11 h12 => ?_⟩
    refine call0 isFn57 (p57 _ _ _ hl hb) ?_
    simp
    rw [Bool.eq_iff_iff, kok_iff]
    exact ⟨fun h => ⟨h1, h2, h3, h4, by omega, by omega, by omega, by omega, by omega, h7, by omega, by omega, by omega, h⟩, fun h => h.2.2.2.2.2.2.2.2.2.2.2.2.2⟩
theorem p39 (k : Kp) (h : k.low) (hb : k.bytes) : Pure Try.prog 39 [kp k] (· = Bo (kok k)) := by
  refine Pure.intro mo Try.func39 rfl (by show 1 ≤ 106; omega) _ rfl [0, 1, 2, 3, 4, 70, 77, 99] (by kernel_rfl) ?_
  have hl := h.log
  have hs := h.snap
  have hw := wi (1000000 - k.log.length) (by omega)
  simp [Try.f39]
  refine call0 isFn51 (p51 _ _ _) ?_
  simp
  refine ⟨fun h1 h2 => ?_, fun h1 => kok_no (by rintro ⟨k1, k2, k3⟩; omega)⟩
  refine call0 isFn51 (p51 _ _ _) ?_
  simp
  refine ⟨fun h3 h4 => ?_, fun h3 => kok_no (by rintro ⟨k1, k2, k3⟩; omega)⟩
  rw [hw]
  refine call0 isFn51 (p51 _ _ _) ?_
  simp
  refine ⟨fun h5 h6 => ?_, fun h5 => kok_no (by rintro ⟨k1, k2, k3⟩; omega)⟩
  refine call0 isFn51 (p51 _ _ _) ?_
  simp
  refine ⟨fun h7 h8 => ?_, fun h7 => kok_no (by rintro ⟨k1, k2, k3⟩; omega)⟩
  refine ⟨fun h9 => ?_, fun h9 => kok_no (fun hk => h9 hk.2.2.2.2.2.2.2.2.1)⟩
  refine call0 isFn54 (p54 _ _ h.now h.next) ?_
  simp
  refine ⟨fun h10 => ?_, fun h10 => kok_no (by unfold kokP; rw [h10]; simp)⟩
  refine ⟨fun h11 => ?_, fun h11 => kok_no (by unfold kokP; omega)⟩
  refine ⟨fun hz => ⟨fun hs0 => ⟨fun h12 => kok_no (by unfold kokP; omega), fun h12 => ?_⟩, fun hs0 => kok_no (by unfold kokP; omega)⟩, fun hz => ⟨fun h12 => kok_no (by unfold kokP; omega), fun h12 => ?_⟩⟩
  all_goals
    have hb0 : k.base = 0 → k.snap.length = 0 := by first | (intro _; rw [hs0]; rfl) | (intro h'; exact absurd h' hz)
    have hfin : kok k = tok k.log k.baseTerm k.term := by
      rw [Bool.eq_iff_iff, kok_iff]
      exact ⟨fun h => h.2.2.2.2.2.2.2.2.2.2.2.2.2, fun h => ⟨h1, h2, h3, h4, by omega, by omega, by omega, by omega, by omega, h10, by omega, hb0, by omega, h⟩⟩
    rw [hfin]
    refine loopI (fun ((i, m, x, y, z) : Nat × Int × AV × AV × AV) => ⟨[(0, kp k), (1, .ptr 0 0), (2, Bo false), (3, I m), (4, I (i : Nat)), (70, x), (77, y), (99, z)], [(0, .box [I k.term, I k.vote, I k.base, I k.baseTerm, ints k.now, ints k.next, byts k.snap, ents k.log])], [], 1, 2⟩)
      (fun (i, m, _) => i ≤ k.log.length ∧ tok (k.log.drop i) m k.term = tok k.log k.baseTerm k.term) (fun (i, _) => k.log.length - i) (0, k.baseTerm, _, _, _) rfl ?_ ?_
    · exact ⟨Nat.zero_le _, rfl⟩
    rintro ⟨i, m, x, y, z⟩ ⟨j1, j2⟩
    by_cases hlt : i < k.log.length
    · rw [List.drop_eq_getElem_cons hlt, tok] at j2
      have hbi := hb _ (List.getElem_mem hlt)
      have hw : IntKind.i64.wrap ((i : Int) + 1) = ((i + 1 : Nat) : Int) := wn _ (by omega)
      simp [hlt, ec]
      refine ⟨[false, false, false, true, true, true, true, true, false, false, false, false, false, false, false, false, false, true, true, true], by kernel_rfl, ?_⟩
      simp [hlt, ec]
      first | refine call0 isFn52 (p52 k.log[i] hbi) ?_ | refine qcall0 isFn52 (p52 k.log[i] hbi) ?_
      simp [hlt, ec]
      refine ⟨fun e1 => ?_, fun e1 => by rw [e1] at j2; simpa using j2.symm⟩
      first | refine call0 isFn51 (p51 _ _ _) ?_ | refine qcall0 isFn51 (p51 _ _ _) ?_
      simp [hlt, ec]
      rw [hw]
      refine ⟨fun e2 => ?_, fun e2 e3 => ?_⟩
      · rw [← j2]; simp only [e1]; grind
      · rw [e1, decide_eq_true e2, decide_eq_true e3] at j2
        exact RndI.mk (i + 1, _, _, _, _) rfl ⟨hlt, j2⟩ (by show k.log.length - (i + 1) < k.log.length - i; omega)
    · rw [List.drop_eq_nil_of_le (by omega), tok] at j2
      simp [hlt, ← j2]

/-- The term at an index. -/
def tat (k : Kp) (x : Int) : Int := if x = k.base then k.baseTerm else (k.log.getD (x - k.base - 1).toNat .zero).term
theorem p46 (k : Kp) (x : Int) (h : kokP k) (hx : k.base ≤ x ∧ x ≤ k.base + k.log.length) : Pure Try.prog 46 [kp k, I x] (· = I (tat k x)) := by
  refine Pure.intro mo Try.func46 rfl (by show 2 ≤ 21; omega) _ rfl [0, 1, 2, 4, 8] (by kernel_rfl) ?_
  obtain ⟨h1, h2, h3, h4, h5, h6, h7, h8, h9, h10, h11, h12, h13, h14⟩ := h
  by_cases hz : x = k.base
  · simp [Try.f46, hz, tat]
  · obtain ⟨n, hn⟩ : ∃ n : Nat, x - k.base - 1 = n := ⟨(x - k.base - 1).toNat, by omega⟩
    have hw1 := wi (x - k.base) (by omega)
    have hw2 := wi (x - k.base - 1) (by omega)
    have hlt : n < k.log.length := by omega
    have hw3 : IntKind.i64.wrap (n : Int) = n := wi _ (by omega)
    simp [Try.f46, hz, hw1, hw2, hn, hlt, hw3, ec, tat]
theorem tat_last (k : Kp) (h : ¬ k.log = []) : tat k (k.base + k.log.length) = (k.log.getD (k.log.length - 1) .zero).term := by
  have : 0 < k.log.length := List.length_pos_iff.2 h
  rw [tat, if_neg (by omega)]
  congr 2
  omega
theorem p40 (k : Kp) (h : kokP k) : Pure Try.prog 40 [kp k] (· = .tup [I (k.base + k.log.length), I (tat k (k.base + k.log.length))]) := by
  refine Pure.intro mo Try.func40 rfl (by show 1 ≤ 25; omega) _ rfl [0, 1, 2, 3, 4, 9] (by kernel_rfl) ?_
  obtain ⟨h1, h2, h3, h4, h5, h6, h7, h8, h9, h10, h11, h12, h13, h14⟩ := h
  by_cases hz : k.log = []
  · simp [Try.f40, hz]
    refine ⟨[false, false, false, false, false, true], by kernel_rfl, ?_⟩
    simp [tat]
  · have hl : 0 < k.log.length := List.length_pos_iff.2 hz
    have hlt : k.log.length - 1 < k.log.length := by omega
    have hw1 := wi (k.base + k.log.length) (by omega)
    have hw2 : IntKind.i64.wrap ((k.log.length : Int) - 1) = ((k.log.length - 1 : Nat) : Int) := by rw [wi _ (by omega)]; omega
    simp [Try.f40, hz]
    refine ⟨[false, false, false, false, false, false, false, false, false, false, false, false, true], by kernel_rfl, ?_⟩
    rw [tat_last k hz]
    generalize hm : k.log.length - 1 = m at *
    simp [hw1, hw2, hlt, ec]
theorem p10 (k : Kp) (h : k.low) (hb : k.bytes) : Pure Try.prog 10 [kp k] (· = .tup [I (if kok k = true then k.base + k.log.length else 0), I (if kok k = true then tat k (k.base + k.log.length) else 0)]) := by
  refine Pure.intro mo Try.func10 rfl (by show 1 ≤ 11; omega) _ rfl [0, 1, 2, 3, 6] (by kernel_rfl) ?_
  simp [Try.f10]
  refine call0 isFn39 (p39 _ h hb) ?_
  simp
  refine ⟨fun h1 => by simp [h1], fun h1 => ?_⟩
  refine call0 isFn40 (p40 _ (kok_iff.1 h1)) ?_
  simp [h1]
theorem p12 (k : Kp) (h : k.low) (hb : k.bytes) : Pure Try.prog 12 [kp k] (· = .tup [I (if kok k = true then k.base + k.log.length else 0), I (if kok k = true then tat k (k.base + k.log.length) else 0)]) := by
  refine Pure.intro mo Try.func12 rfl (by show 1 ≤ 13; omega) _ rfl [0, 1, 2, 3, 6] (by kernel_rfl) ?_
  simp [Try.f12]
  refine call0 isFn44 (p44 _ h hb) ?_
  simp
  refine ⟨fun h1 => by simp [h1], fun h1 => ?_⟩
  have hk := kok_iff.1 h1
  have hk0 := hk
  obtain ⟨k1, k2, k3, k4, k5, k6, _⟩ := hk0
  refine ⟨[false, false, false, false, false, true, true, true], by kernel_rfl, ?_⟩
  simp
  first | refine call0 isFn45 (p45 k h ⟨by omega, by omega⟩) ?_ | refine qcall0 isFn45 (p45 k h ⟨by omega, by omega⟩) ?_
  simp
  first | refine call0 isFn45 (p45 k h ⟨by omega, by omega⟩) ?_ | refine qcall0 isFn45 (p45 k h ⟨by omega, by omega⟩) ?_
  simp
  first | refine call0 isFn46 (p46 k (k.base + k.log.length) hk ⟨by omega, by omega⟩) ?_ | refine qcall0 isFn46 (p46 k (k.base + k.log.length) hk ⟨by omega, by omega⟩) ?_
  simp [h1]
theorem szl_le {left n : Int} (h : 0 ≤ szl left n) : n ≤ left ∧ szl left n = left - n := by unfold szl at *; split at h <;> grind
theorem szE_le : ∀ (l : List Ent) (left : Int), left ≤ 1048576 → 0 ≤ szE l left → ∀ e ∈ l, e.data.length ≤ 1048576
  | [], _, _, _, _, he => by cases he
  | d :: l, left, hl, h, e, he => by
    rw [szE] at h
    split at h
    · omega
    · have h1 := szl_le (left := left) (n := d.data.length) (by omega)
      rcases List.mem_cons.1 he with rfl | he
      · omega
      · exact szE_le l _ (by omega) h e he
theorem szK_low {k : Kp} (h : 0 ≤ szK k) : k.low := by
  unfold szK at h
  simp only at h
  by_cases h1 : szl 1048576 k.now.length < 0
  · rw [if_pos h1] at h; simp at h
  rw [if_neg h1] at h
  have e1 := szl_le (Int.not_lt.1 h1)
  by_cases h2 : szl (szl 1048576 k.now.length) k.next.length < 0
  · rw [if_pos h2] at h; simp at h
  rw [if_neg h2] at h
  have e2 := szl_le (Int.not_lt.1 h2)
  generalize szl (szl 1048576 k.now.length) k.next.length = A at *
  by_cases h3 : szl A k.snap.length < 0
  · rw [if_pos h3] at h; simp at h
  rw [if_neg h3] at h
  have e3 := szl_le (Int.not_lt.1 h3)
  generalize szl A k.snap.length = B at *
  by_cases h4 : szl B k.log.length < 0
  · rw [if_pos h4] at h; simp at h
  rw [if_neg h4] at h
  have e4 := szl_le (Int.not_lt.1 h4)
  by_cases h5 : szE k.log (szl B k.log.length) < 0
  · rw [if_pos h5] at h; simp at h
  exact ⟨by omega, by omega, by omega, by omega, szE_le _ _ (by omega) (Int.not_lt.1 h5)⟩
theorem p3 (k : Kp) (h : k.small) (hb : k.bytes) : Pure Try.prog 3 [kp k] (· = Bo true) := by
  refine Pure.intro mo Try.func3 rfl (by show 1 ≤ 40; omega) _ rfl [0, 1, 2, 3, 4, 5, 6, 7, 8, 13, 34, 39] (by kernel_rfl) ?_
  simp [Try.f3]
  refine call0 isFn9 (p9 _ h) ?_
  simp
  intro h0
  have hl := szK_low h0
  refine call0 isFn11 (p11 _ hl) ?_
  simp
  refine call0 isFn10 (p10 _ hl hb) ?_
  simp
  refine call0 isFn11 (p11 _ hl) ?_
  simp
  refine call0 isFn12 (p12 _ hl hb) ?_
  simp
  refine ⟨[false, false, false, true, true], by kernel_rfl, ?_⟩
  simp
  first | refine call0 isFn11 (p11 _ hl) ?_ | refine qcall0 isFn11 (p11 _ hl) ?_
  simp
  first | refine call0 isFn13 (p13 _ hl) ?_ | refine qcall0 isFn13 (p13 _ hl) ?_
  simp
end Go.Proofs
