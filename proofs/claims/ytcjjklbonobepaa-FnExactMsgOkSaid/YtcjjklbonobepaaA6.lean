/- Messages: what is asked of one. -/
import Derived.Test.YtcjjklbonobepaaA5
set_option linter.unusedVariables false
set_option linter.unusedSimpArgs false
set_option maxRecDepth 100000
namespace Go.Proofs
open Go VC

set_option maxHeartbeats 4000000 in
theorem p17 (m : Mg) (h : m.low) (hb : m.bytes) : Pure Try.prog 17 [mg m] (· = Bo (mok m)) := by
  refine Pure.intro mo Try.func17 rfl (by show 1 ≤ 113; omega) _ rfl [0, 1, 2, 3, 4, 5, 59, 66, 88] (by kernel_rfl) ?_
  have hl := h.log
  have hd := h.snap
  simp [Try.f17]
  all_goals (try (refine call0 isFn51 (p51 _ _ _) ?_; simp))
  all_goals (repeat' (first | with_reducible intro _ | with_reducible apply And.intro))
  all_goals first | (exact mok_no (by unfold mokP; omega)) | skip
  all_goals (try (refine call0 isFn51 (p51 _ _ _) ?_; simp))
  all_goals (repeat' (first | with_reducible intro _ | with_reducible apply And.intro))
  all_goals first | (exact mok_no (by unfold mokP; omega)) | skip
  all_goals (try (refine call0 isFn51 (p51 _ _ _) ?_; simp))
  all_goals (repeat' (first | with_reducible intro _ | with_reducible apply And.intro))
  all_goals first | (exact mok_no (by unfold mokP; omega)) | skip
  all_goals (try (refine call0 isFn51 (p51 _ _ _) ?_; simp))
  all_goals (repeat' (first | with_reducible intro _ | with_reducible apply And.intro))
  all_goals first | (exact mok_no (by unfold mokP; omega)) | skip
  all_goals (try (refine call0 isFn51 (p51 _ _ _) ?_; simp))
  all_goals (repeat' (first | with_reducible intro _ | with_reducible apply And.intro))
  all_goals first | (exact mok_no (by unfold mokP; omega)) | skip
  all_goals (try (refine call0 isFn51 (p51 _ _ _) ?_; simp))
  all_goals (repeat' (first | with_reducible intro _ | with_reducible apply And.intro))
  all_goals first | (exact mok_no (by unfold mokP; omega)) | skip
  all_goals (try (refine call0 isFn51 (p51 _ _ _) ?_; simp))
  all_goals (repeat' (first | with_reducible intro _ | with_reducible apply And.intro))
  all_goals first | (exact mok_no (by unfold mokP; omega)) | skip
  rename_i g1 g2 g3 g4 g5 g6 g7 g8 g9 g10 g11 g12 g13 g14 g15 g16
  refine loopI (fun ((i, x3, x5, x66, x88) : Nat × Int × AV × AV × AV) => ⟨[(0, mg m), (1, .ptr 0 0), (2, Bo false), (3, I x3), (4, I (i : Nat)), (5, x5), (59, .sc (.bool (decide ((20000 : Int) < m.data.length)))), (66, x66), (88, x88)], [(0, .box [I m.kind, I m.frm, I m.dest, I m.term, I m.index, I m.logTerm, ents m.entries, I m.commit, Bo m.ok, byts m.data, ints m.now, ints m.next])], [], 1, 2⟩)
    (fun (i, x3, _) => i ≤ m.entries.length ∧ tok (m.entries.drop i) x3 m.term = tok m.entries m.logTerm m.term) (fun (i, _) => m.entries.length - i) (0, m.logTerm, _, _, _) rfl ?_ ?_
  · exact ⟨Nat.zero_le _, rfl⟩
  rintro ⟨i, x3, x5, x66, x88⟩ ⟨j1, j2⟩
  have hno : tok m.entries m.logTerm m.term = false → mok m = false := fun h => mok_no (fun hk => by have h17 := hk.2.2.2.2.2.2.2.2.2.2.2.2.2.2.2.2.1; rw [h] at h17; cases h17)
  by_cases hlt : i < m.entries.length
  · rw [List.drop_eq_getElem_cons hlt, tok] at j2
    have hbi := hb _ (List.getElem_mem hlt)
    have hw : IntKind.i64.wrap ((i : Int) + 1) = ((i + 1 : Nat) : Int) := wn _ (by omega)
    simp [hlt, ec]
    refine ⟨[false, false, false, true, true, true, true, true, false, false, false, false, false, false, false, false, false, true, true, true], by kernel_rfl, ?_⟩
    simp [hlt, ec]
    first | refine call0 isFn52 (p52 m.entries[i] hbi) ?_ | refine qcall0 isFn52 (p52 m.entries[i] hbi) ?_
    simp [hlt, ec]
    refine ⟨fun e1 => ?_, fun e1 => hno (by rw [e1] at j2; simpa using j2.symm)⟩
    first | refine call0 isFn51 (p51 _ _ _) ?_ | refine qcall0 isFn51 (p51 _ _ _) ?_
    simp [hlt, ec]
    rw [hw]
    refine ⟨fun e2 => hno ?_, fun e2 e3 => ?_⟩
    · rw [← j2]; simp only [e1]; grind
    · rw [e1, decide_eq_true e2, decide_eq_true e3] at j2
      exact RndI.mk (i + 1, _, _, _, _) rfl ⟨hlt, j2⟩ (by show m.entries.length - (i + 1) < m.entries.length - i; omega)
  · rw [List.drop_eq_nil_of_le (by omega), tok] at j2
    rw [mok_kind ⟨g1, g2, g3, g4, g5, g6, g7, g8, g9, g10, g11, g12, g13, g14, by omega, by omega, j2.symm⟩]
    simp [hlt]
    have hk : m.kind = 1 ∨ m.kind = 2 ∨ m.kind = 3 ∨ m.kind = 4 ∨ m.kind = 5 := by omega
    rcases hk with hk | hk | hk | hk | hk
    · refine ⟨[false, false, false, false, false, false, true, true, true, true, true, true, true, true, true, true, true, true], by kernel_rfl, ?_⟩
      simp [hk]
      first | refine call0 isFn53 (p53 { m with kind := 1 } ⟨#[105]⟩ (of_decide_eq_true (by kernel_rfl)) true false false false false h53_i (by simp)) ?_ | refine qcall0 isFn53 (p53 { m with kind := 1 } ⟨#[105]⟩ (of_decide_eq_true (by kernel_rfl)) true false false false false h53_i (by simp)) ?_
      simp [hk]
      simp [kindB, hk, zer]
    · refine ⟨[false, false, false, false, false, false, true, true, true, true, true, true, true, true, true, true, true, true], by kernel_rfl, ?_⟩
      simp [hk]
      first | refine call0 isFn53 (p53 { m with kind := 2 } ⟨#[111]⟩ (of_decide_eq_true (by kernel_rfl)) false false false true false h53_o (by simp)) ?_ | refine qcall0 isFn53 (p53 { m with kind := 2 } ⟨#[111]⟩ (of_decide_eq_true (by kernel_rfl)) false false false true false h53_o (by simp)) ?_
      simp [hk]
      simp [kindB, hk, zer]
    · refine ⟨[false, false, false, false, false, false, true, true, true, true, true, true, true, true, true, true, true, true], by kernel_rfl, ?_⟩
      simp [hk]
      first | refine call0 isFn53 (p53 { m with kind := 3 } ⟨#[105, 101]⟩ (of_decide_eq_true (by kernel_rfl)) true false true false false h53_ie (by simp)) ?_ | refine qcall0 isFn53 (p53 { m with kind := 3 } ⟨#[105, 101]⟩ (of_decide_eq_true (by kernel_rfl)) true false true false false h53_ie (by simp)) ?_
      simp [hk]
      simp [kindB, hk, zer]
    · refine ⟨[false, false, false, false, false, false, true, true, true, true, true, true, true, true, true, true, true, true], by kernel_rfl, ?_⟩
      simp [hk]
      first | refine call0 isFn53 (p53 { m with kind := 4 } ⟨#[111, 110]⟩ (of_decide_eq_true (by kernel_rfl)) false true false true false h53_on (by simp)) ?_ | refine qcall0 isFn53 (p53 { m with kind := 4 } ⟨#[111, 110]⟩ (of_decide_eq_true (by kernel_rfl)) false true false true false h53_on (by simp)) ?_
      simp [hk]
      simp [kindB, hk, zer]
    · refine ⟨[false, false, false, false, false, false, true, true, true, true, true, true, true, true, true, true, true, true], by kernel_rfl, ?_⟩
      simp [hk]
      first | refine call0 isFn53 (p53 { m with kind := 5 } ⟨#[105, 100]⟩ (of_decide_eq_true (by kernel_rfl)) true false false false true h53_id (by simp)) ?_ | refine qcall0 isFn53 (p53 { m with kind := 5 } ⟨#[105, 100]⟩ (of_decide_eq_true (by kernel_rfl)) true false false false true h53_id (by simp)) ?_
      simp [hk]
      refine ⟨fun e1 => ?_, fun e1 => ?_⟩
      · refine call0 isFn54 (p54 _ _ h.now h.next) ?_
        have e2 : zer m true false false false true = true := e1
        simp [kindB, hk, e2]
      · have e2 : zer m true false false false true = false := e1
        simp [kindB, hk, e2]
theorem p5 (m : Mg) (h : m.small) (hb : m.bytes) : Pure Try.prog 5 [mg m] (· = Bo true) := by
  refine Pure.intro mo Try.func5 rfl (by show 1 ≤ 27; omega) _ rfl [0, 1, 2, 3, 4, 5, 6, 11, 21, 26] (by kernel_rfl) ?_
  simp [Try.f5]
  refine call0 isFn16 (p16 _ h) ?_
  simp
  intro h0
  have hl := szM_low h0
  refine call0 isFn18 (p18 _ hl) ?_
  simp
  refine call0 isFn17 (p17 _ hl hb) ?_
  simp
  refine call0 isFn18 (p18 _ hl) ?_
  simp
  refine call0 isFn19 (p19 _ hl hb) ?_
  simp
  refine ⟨[false, false, false, true, true], by kernel_rfl, ?_⟩
  simp
  first | refine call0 isFn18 (p18 _ hl) ?_ | refine qcall0 isFn18 (p18 _ hl) ?_
  simp
  first | refine call0 isFn20 (p20 _ hl) ?_ | refine qcall0 isFn20 (p20 _ hl) ?_
  simp
end Go.Proofs
