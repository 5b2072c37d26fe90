/- What a server keeps: is it right, its last entry. -/
import Derived.Test.YtknllghkpjncoaaA2
set_option linter.unusedVariables false
set_option linter.unusedSimpArgs false
set_option maxRecDepth 100000
namespace Go.Proofs
open Go VC

/-- Entries whose terms never fall. -/
def tok : List Ent → Int → Int → Bool
  | [], _, _ => true
  | e :: r, lo, hi => eok e && decide (lo ≤ e.term) && decide (e.term ≤ hi) && tok r e.term hi
/-- What is kept, and right. -/
def kok (k : Kp) : Bool :=
  decide (0 ≤ k.term) && decide (k.term ≤ 1000000) && decide (0 ≤ k.vote) && decide (k.vote ≤ 7) && decide (0 ≤ k.base) && decide (k.base ≤ 1000000 - k.log.length) && decide (0 ≤ k.baseTerm) && decide (k.baseTerm ≤ k.term) &&
    (decide (k.base = 0) == decide (k.baseTerm = 0)) && grpOk k.now k.next && decide (k.snap.length ≤ 20000) && !(decide (k.base = 0) && decide (0 < k.snap.length)) && decide (k.log.length ≤ 120) && tok k.log k.baseTerm k.term
def Kp.bytes (k : Kp) : Prop := ∀ e ∈ k.log, Proofs.bytes e.data
theorem p63 (k : Kp) (h : k.low) (hb : -1000000000 ≤ k.base ∧ k.base ≤ 1000000000) : Pure Try.prog 63 [kp k] (· = I (k.base + k.log.length)) := by
  refine Pure.intro mo Try.func63 rfl (by show 1 ≤ 9; omega) _ rfl [0, 1, 2] (by kernel_rfl) ?_
  have := h.log
  simp [Try.f63]
  exact wi _ (by omega)
def kokP (k : Kp) : Prop :=
  0 ≤ k.term ∧ k.term ≤ 1000000 ∧ 0 ≤ k.vote ∧ k.vote ≤ 7 ∧ 0 ≤ k.base ∧ k.base ≤ 1000000 - k.log.length ∧ 0 ≤ k.baseTerm ∧ k.baseTerm ≤ k.term ∧
    (k.base = 0 ↔ k.baseTerm = 0) ∧ grpOk k.now k.next = true ∧ k.snap.length ≤ 20000 ∧ (k.base = 0 → k.snap.length = 0) ∧ k.log.length ≤ 120 ∧ tok k.log k.baseTerm k.term = true
theorem kok_iff {k : Kp} : kok k = true ↔ kokP k := by
  unfold kok kokP
  simp only [Bool.and_eq_true, decide_eq_true_eq, Bool.not_eq_true', Bool.and_eq_false_iff, decide_eq_false_iff_not, beq_iff_eq, decide_eq_decide]
  constructor
  · rintro ⟨⟨⟨⟨⟨⟨⟨⟨⟨⟨⟨⟨⟨h1, h2⟩, h3⟩, h4⟩, h5⟩, h6⟩, h7⟩, h8⟩, h9⟩, h10⟩, h11⟩, h12⟩, h13⟩, h14⟩
    exact ⟨h1, h2, h3, h4, h5, h6, h7, h8, h9, h10, h11, fun h => by omega, h13, h14⟩
  · rintro ⟨h1, h2, h3, h4, h5, h6, h7, h8, h9, h10, h11, h12, h13, h14⟩
    exact ⟨⟨⟨⟨⟨⟨⟨⟨⟨⟨⟨⟨⟨h1, h2⟩, h3⟩, h4⟩, h5⟩, h6⟩, h7⟩, h8⟩, h9⟩, h10⟩, h11⟩, by omega⟩, h13⟩, h14⟩
theorem kok_no {k : Kp} (h : kokP k → False) : kok k = false := by
  cases hk : kok k with
  | false => rfl
  | true => exact (h (kok_iff.1 hk)).elim
/-- The term at an index. -/
def tat (k : Kp) (x : Int) : Int := if x = k.base then k.baseTerm else (k.log.getD (x - k.base - 1).toNat .zero).term
theorem tat_last (k : Kp) (h : ¬ k.log = []) : tat k (k.base + k.log.length) = (k.log.getD (k.log.length - 1) .zero).term := by
  have : 0 < k.log.length := List.length_pos_iff.2 h
  rw [tat, if_neg (by omega)]
  congr 2
  omega
theorem szl_le {left n : Int} (h : 0 ≤ szl left n) : n ≤ left ∧ szl left n = left - n := by unfold szl at *; split at h <;> grind
theorem szE_le : ∀ (l : List Ent) (left : Int), left ≤ 1048576 → 0 ≤ szE l left → ∀ e ∈ l, e.data.length ≤ 1048576
  | [], _, _, _, _, he => by cases he
  | d :: l, left, hl, h, e, he => by
    rw [szE] at h
    split at h
    · omega
    · have h1 := szl_le (left := left) (n := d.data.length) (by omega)
      rcases List.mem_cons.1 he with rfl | he
      · omega
      · exact szE_le l _ (by omega) h e he
theorem szK_low {k : Kp} (h : 0 ≤ szK k) : k.low := by
  unfold szK at h
  simp only at h
  by_cases h1 : szl 1048576 k.now.length < 0
  · rw [if_pos h1] at h; simp at h
  rw [if_neg h1] at h
  have e1 := szl_le (Int.not_lt.1 h1)
  by_cases h2 : szl (szl 1048576 k.now.length) k.next.length < 0
  · rw [if_pos h2] at h; simp at h
  rw [if_neg h2] at h
  have e2 := szl_le (Int.not_lt.1 h2)
  generalize szl (szl 1048576 k.now.length) k.next.length = A at *
  by_cases h3 : szl A k.snap.length < 0
  · rw [if_pos h3] at h; simp at h
  rw [if_neg h3] at h
  have e3 := szl_le (Int.not_lt.1 h3)
  generalize szl A k.snap.length = B at *
  by_cases h4 : szl B k.log.length < 0
  · rw [if_pos h4] at h; simp at h
  rw [if_neg h4] at h
  have e4 := szl_le (Int.not_lt.1 h4)
  by_cases h5 : szE k.log (szl B k.log.length) < 0
  · rw [if_pos h5] at h; simp at h
  exact ⟨by omega, by omega, by omega, by omega, szE_le _ _ (by omega) (Int.not_lt.1 h5)⟩
end Go.Proofs
