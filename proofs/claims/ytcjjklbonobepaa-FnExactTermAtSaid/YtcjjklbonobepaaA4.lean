/- The term at an index: what is asked, and what is built, answer alike. -/
import Derived.Test.YtcjjklbonobepaaA3
set_option linter.unusedVariables false
set_option linter.unusedSimpArgs false
set_option maxRecDepth 100000
namespace Go.Proofs
open Go VC

/-- Is the index between the base and the last entry? -/
def tin (k : Kp) (x : Int) : Bool := decide (k.base ≤ x) && decide (x ≤ k.base + k.log.length)
theorem p49 (k : Kp) (x : Int) (h : kokP k) (hx : -9223372036854775808 ≤ x ∧ x ≤ 9223372036854775807) : Pure Try.prog 49 [kp k, I x] (· = .tup [I (if tin k x = true then tat k x else 0), Bo (tin k x)]) := by
  refine Pure.intro mo Try.func49 rfl (by show 2 ≤ 38; omega) _ rfl [0, 1, 2, 4, 5, 6, 13] (by kernel_rfl) ?_
  obtain ⟨h1, h2, h3, h4, h5, h6, h7, h8, h9, h10, h11, h12, h13, h14⟩ := h
  by_cases hz : x = k.base
  · simp [Try.f49, hz, tat, tin]
    exact ⟨fun h => by omega, by omega⟩
  · by_cases hg : k.base < x
    · have hw1 := wi (x - k.base) (by omega)
      have hw2 := wi (x - k.base - 1) (by omega)
      obtain ⟨n, hn⟩ : ∃ n : Nat, x - k.base - 1 = n := ⟨(x - k.base - 1).toNat, by omega⟩
      have hw3 : IntKind.i64.wrap (n : Int) = n := wi _ (by omega)
      by_cases hl : n < k.log.length
      · have ht : tin k x = true := by simp [tin]; omega
        have hc : x - k.base ≤ (k.log.length : Int) := by omega
        simp [Try.f49, hz, hg, hw1, hw2, hw3, hn, hl, hc, ht, ec, tat]
      · have ht : tin k x = false := by simp [tin]; omega
        have hc : ¬ x - k.base ≤ (k.log.length : Int) := by omega
        simp [Try.f49, hz, hg, hw1, hw2, hn, hl, hc, ht]
    · have ht : tin k x = false := by simp [tin]; omega
      simp [Try.f49, hz, hg, ht]
theorem p14 (k : Kp) (x : Int) (h : k.low) (hb : k.bytes) (hx : -9223372036854775808 ≤ x ∧ x ≤ 9223372036854775807) : Pure Try.prog 14 [kp k, I x] (· = .tup [I (if kok k = true ∧ tin k x = true then tat k x else 0), Bo (kok k && tin k x)]) := by
  refine Pure.intro mo Try.func14 rfl (by show 2 ≤ 14; omega) _ rfl [0, 1, 2, 4, 5, 8] (by kernel_rfl) ?_
  simp [Try.f14]
  refine call0 isFn39 (p39 _ h hb) ?_
  simp
  refine ⟨fun h1 => by simp [h1], fun h1 => ?_⟩
  refine call0 isFn49 (p49 _ _ (kok_iff.1 h1) hx) ?_
  simp [h1]
theorem p15 (k : Kp) (x : Int) (h : k.low) (hb : k.bytes) (hx : -9223372036854775808 ≤ x ∧ x ≤ 9223372036854775807) : Pure Try.prog 15 [kp k, I x] (· = .tup [I (if kok k = true ∧ tin k x = true then tat k x else 0), Bo (kok k && tin k x)]) := by
  refine Pure.intro mo Try.func15 rfl (by show 2 ≤ 21; omega) _ rfl [0, 1, 2, 4, 5, 17] (by kernel_rfl) ?_
  simp [Try.f15]
  refine ⟨[true, true, true, true, false, false, false, false, false, true, true, true], by kernel_rfl, ?_⟩
  simp
  first | refine call0 isFn44 (p44 _ h hb) ?_ | refine qcall0 isFn44 (p44 _ h hb) ?_
  simp
  refine ⟨fun h1 => ?_, fun h1 => by simp [h1]⟩
  have hk := kok_iff.1 h1
  have hk0 := hk
  obtain ⟨k1, k2, k3, k4, k5, k6, _⟩ := hk0
  first | refine call0 isFn45 (p45 k h ⟨by omega, by omega⟩) ?_ | refine qcall0 isFn45 (p45 k h ⟨by omega, by omega⟩) ?_
  simp
  first | refine call0 isFn50 (p50 _ _ _) ?_ | refine qcall0 isFn50 (p50 _ _ _) ?_
  simp
  refine ⟨fun h2 => ?_, fun h2 h3 => ?_⟩
  · have ht : tin k x = false := by simp [tin]; omega
    simp [ht]
  · have ht : tin k x = true := by simp [tin]; omega
    refine call0 isFn46 (p46 k x hk ⟨h2, h3⟩) ?_
    simp [h1, ht]
theorem p4 (k : Kp) (x : Int) (h : k.small) (hb : k.bytes) (hx : -9223372036854775808 ≤ x ∧ x ≤ 9223372036854775807) : Pure Try.prog 4 [kp k, I x] (· = Bo true) := by
  refine Pure.intro mo Try.func4 rfl (by show 2 ≤ 44; omega) _ rfl [0, 1, 2, 4, 5, 6, 7, 8, 9, 10, 15, 38, 43] (by kernel_rfl) ?_
  simp [Try.f4]
  refine call0 isFn9 (p9 _ h) ?_
  simp
  intro h0
  have hl := szK_low h0
  refine call0 isFn11 (p11 _ hl) ?_
  simp
  refine call0 isFn14 (p14 _ _ hl hb hx) ?_
  simp
  refine call0 isFn11 (p11 _ hl) ?_
  simp
  refine call0 isFn15 (p15 _ _ hl hb hx) ?_
  simp
  refine ⟨[false, false, false, true, true], by kernel_rfl, ?_⟩
  simp
  first | refine call0 isFn11 (p11 _ hl) ?_ | refine qcall0 isFn11 (p11 _ hl) ?_
  simp
  first | refine call0 isFn13 (p13 _ hl) ?_ | refine qcall0 isFn13 (p13 _ hl) ?_
  simp
end Go.Proofs
