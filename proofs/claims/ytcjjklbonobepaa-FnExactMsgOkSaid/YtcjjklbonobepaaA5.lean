/- Messages: is one right. -/
import Derived.Test.YtcjjklbonobepaaA3
set_option linter.unusedVariables false
set_option linter.unusedSimpArgs false
set_option maxRecDepth 100000
namespace Go.Proofs
open Go VC

structure Mg where
  kind : Int
  frm : Int
  dest : Int
  term : Int
  index : Int
  logTerm : Int
  entries : List Ent
  commit : Int
  ok : Bool
  data : List Int
  now : List Int
  next : List Int
abbrev mg (m : Mg) : AV := .agg [I m.kind, I m.frm, I m.dest, I m.term, I m.index, I m.logTerm, ents m.entries, I m.commit, Bo m.ok, byts m.data, ints m.now, ints m.next]
structure Mg.small (m : Mg) : Prop where
  now : m.now.length ≤ 140737488355328
  next : m.next.length ≤ 140737488355328
  snap : m.data.length ≤ 140737488355328
  log : m.entries.length ≤ 140737488355328
  data : ∀ e ∈ m.entries, e.data.length ≤ 140737488355328
structure Mg.low (m : Mg) : Prop where
  now : m.now.length ≤ 1048576
  next : m.next.length ≤ 1048576
  snap : m.data.length ≤ 1048576
  log : m.entries.length ≤ 1048576
  data : ∀ e ∈ m.entries, e.data.length ≤ 1048576
def Mg.bytes (m : Mg) : Prop := ∀ e ∈ m.entries, Proofs.bytes e.data
def szM (m : Mg) : Int :=
  let a := if szl 1048576 m.entries.length < 0 then -1 else szE m.entries (szl 1048576 m.entries.length)
  if a < 0 then -1 else
  let b := szl a m.data.length
  if b < 0 then -1 else
  let c := if szl b m.now.length < 0 then -1 else szl (szl b m.now.length) m.next.length
  if c < 0 then -1 else c
theorem szE_in : ∀ (l : List Ent) (left : Int), -1 ≤ left ∧ left ≤ 1048576 → -1 ≤ szE l left ∧ szE l left ≤ 1048576
  | [], _, h => h
  | d :: l, left, h => by
    rw [szE]
    split
    · omega
    · exact szE_in l _ (szl_in h (Int.natCast_nonneg _))
theorem szM_low {m : Mg} (h : 0 ≤ szM m) : m.low := by
  unfold szM at h
  simp only at h
  by_cases h4 : szl 1048576 m.entries.length < 0
  · rw [if_pos h4] at h; simp at h
  rw [if_neg h4] at h
  have e4 := szl_le (Int.not_lt.1 h4)
  have e0 := szE_in m.entries (szl 1048576 m.entries.length) (szl_in (by omega) (Int.natCast_nonneg _))
  by_cases h5 : szE m.entries (szl 1048576 m.entries.length) < 0
  · rw [if_pos h5] at h; simp at h
  rw [if_neg h5] at h
  have e5 := szE_le _ _ (by omega) (Int.not_lt.1 h5)
  generalize szE m.entries (szl 1048576 m.entries.length) = A at *
  by_cases h3 : szl A m.data.length < 0
  · rw [if_pos h3] at h; simp at h
  rw [if_neg h3] at h
  have e3 := szl_le (Int.not_lt.1 h3)
  generalize szl A m.data.length = B at *
  by_cases h1 : szl B m.now.length < 0
  · rw [if_pos h1] at h; simp at h
  rw [if_neg h1] at h
  have e1 := szl_le (Int.not_lt.1 h1)
  by_cases h2 : szl (szl B m.now.length) m.next.length < 0
  · rw [if_pos h2] at h; simp at h
  have e2 := szl_le (Int.not_lt.1 h2)
  exact ⟨by omega, by omega, by omega, by omega, e5⟩
theorem p16 (m : Mg) (h : m.small) : Pure Try.prog 16 [mg m, I 1048576] (· = I (szM m)) := by
  refine Pure.intro mo Try.func16 rfl (by show 2 ≤ 24; omega) _ rfl [0, 1, 2, 4, 10, 16, 22] (by kernel_rfl) ?_
  simp [Try.f16]
  refine call0 isFn38 (p38 _ _ h.log h.data (by omega)) ?_
  have ha : -1 ≤ (if szl 1048576 m.entries.length < 0 then -1 else szE m.entries (szl 1048576 m.entries.length)) ∧ (if szl 1048576 m.entries.length < 0 then -1 else szE m.entries (szl 1048576 m.entries.length)) ≤ 1048576 := by
    split
    · omega
    · exact szE_in _ _ (szl_in (by omega) (Int.natCast_nonneg _))
  simp
  rw [szM]
  generalize hA : (if szl 1048576 (m.entries.length : Int) < 0 then -1 else szE m.entries (szl 1048576 m.entries.length)) = A at *
  refine ⟨fun h1 => by grind, fun h1 => ?_⟩
  refine call0 isFn37 (p37 _ _ h.snap ha) ?_
  have hb := szl_in ha (Int.natCast_nonneg m.data.length)
  simp
  generalize hB : szl A m.data.length = B at *
  refine ⟨fun h1 => by grind, fun h1 => ?_⟩
  refine call0 isFn36 (p36 _ _ _ h.now h.next hb) ?_
  simp
  grind
theorem p18 (m : Mg) (h : m.low) : Pure Try.prog 18 [mg m] (· = mg m) := by
  refine Pure.intro mo Try.func18 rfl (by show 1 ≤ 41; omega) _ rfl [0, 1, 2, 3] (by kernel_rfl) ?_
  simp [Try.f18]
  refine call0 isFn43 (p43 _ h.log h.data) ?_
  simp
  refine call0 isFn42 (p42 _ h.snap) ?_
  simp
  refine call0 isFn41 (p41 _ _ h.now h.next) ?_
  simp
theorem p20 (m : Mg) (h : m.low) : Pure Try.prog 20 [mg m, mg m] (· = Bo true) := by
  refine Pure.intro mo Try.func20 rfl (by show 2 ≤ 63; omega) _ rfl [0, 1, 2, 3, 4, 9, 14, 19, 24, 29, 34, 40, 45, 50, 56, 62] (by kernel_rfl) ?_
  have h1 := h.snap
  have h2 := h.now
  have h3 := h.next
  have h4 := h.log
  have h5 := h.data
  simp [Try.f20]
  refine call0 isFn48 (p48 _ (by omega) (fun e he => by have := h5 e he; omega)) ?_
  simp
  refine call0 isFn47 (p47 _ (by omega)) ?_
  simp
  refine call0 isFn23 (p23 _ _ (by omega) (by omega)) ?_
  simp
/-- Is a byte in a text? -/
def hasB (s : ByteArray) (c : Int) : Bool := (List.range s.size).any fun i => decide (((s.data.getD i 0).toNat : Int) = c)
theorem hasB_iff {s : ByteArray} {c : Int} : hasB s c = true ↔ ∃ i, i < s.size ∧ ((s.data.getD i 0).toNat : Int) = c := by
  unfold hasB
  simp only [List.any_eq_true, List.mem_range, decide_eq_true_eq]
theorem p79 (s : ByteArray) (c : Int) (h : s.size ≤ 1000) : Pure Try.prog 79 [.sc (.string s), By c] (· = Bo (hasB s c)) := by
  refine Pure.intro mo Try.func79 rfl (by show 2 ≤ 17; omega) _ rfl [0, 1, 4, 5, 9, 16] (by kernel_rfl) ?_
  simp [Try.f79]
  refine loopI (fun ((i, x, y) : Nat × AV × AV) => ⟨[(0, .sc (.string s)), (1, By c), (4, Bo false), (5, I (i : Nat)), (9, x), (16, y)], [], [], 0, 2⟩)
    (fun ((i, _, _) : Nat × AV × AV) => i ≤ s.size ∧ ∀ j, j < i → ¬ ((s.data.getD j 0).toNat : Int) = c) (fun (i, _) => s.size - i) (0, _, _) rfl ?_ ?_
  · exact ⟨Nat.zero_le _, fun j hj => absurd hj (Nat.not_lt_zero _)⟩
  rintro ⟨i, x, y⟩ ⟨j1, j2⟩
  by_cases hi : i < s.size
  · have hw : IntKind.i64.wrap ((i : Int) + 1) = ((i + 1 : Nat) : Int) := wn _ (by omega)
    have hd : s.data.getD i 0 = s.data[i] := by
      have : i < s.data.size := hi
      rw [Array.getD_eq_getD_getElem?, Array.getElem?_eq_getElem this]; rfl
    simp [hi]
    rw [hw]
    refine ⟨fun h1 => hasB_iff.2 ⟨i, hi, by rw [hd]; exact h1⟩, fun h1 => ?_⟩
    refine RndI.mk (i + 1, _, _) rfl ⟨hi, fun j hj => ?_⟩ (by show s.size - (i + 1) < s.size - i; omega)
    by_cases hji : j = i
    · subst hji; rw [← Array.getD_eq_getD_getElem?, hd]; exact h1
    · rw [← Array.getD_eq_getD_getElem?]
      exact j2 j (by have hj' : j < i + 1 := hj; omega)
  · simp [hi]
    cases hb : hasB s c with
    | false => rfl
    | true =>
      obtain ⟨j, k1, k2⟩ := hasB_iff.1 hb
      exact absurd k2 (j2 j (by omega))
/-- What a message of a kind may hold. -/
def zer (m : Mg) (i n e o d : Bool) : Bool :=
  (i || (n || decide (m.index = 0)) && decide (m.logTerm = 0)) && (e || decide (m.entries = []) && decide (m.commit = 0)) && (o || !m.ok) && (d || decide (m.data = []) && decide (m.now = []) && decide (m.next = []))
theorem h53_i : hasB ⟨#[105]⟩ 105 = true ∧ hasB ⟨#[105]⟩ 110 = false ∧ hasB ⟨#[105]⟩ 101 = false ∧ hasB ⟨#[105]⟩ 111 = false ∧ hasB ⟨#[105]⟩ 100 = false := ⟨by kernel_rfl, by kernel_rfl, by kernel_rfl, by kernel_rfl, by kernel_rfl⟩
theorem h53_o : hasB ⟨#[111]⟩ 105 = false ∧ hasB ⟨#[111]⟩ 110 = false ∧ hasB ⟨#[111]⟩ 101 = false ∧ hasB ⟨#[111]⟩ 111 = true ∧ hasB ⟨#[111]⟩ 100 = false := ⟨by kernel_rfl, by kernel_rfl, by kernel_rfl, by kernel_rfl, by kernel_rfl⟩
theorem h53_ie : hasB ⟨#[105, 101]⟩ 105 = true ∧ hasB ⟨#[105, 101]⟩ 110 = false ∧ hasB ⟨#[105, 101]⟩ 101 = true ∧ hasB ⟨#[105, 101]⟩ 111 = false ∧ hasB ⟨#[105, 101]⟩ 100 = false := ⟨by kernel_rfl, by kernel_rfl, by kernel_rfl, by kernel_rfl, by kernel_rfl⟩
theorem h53_on : hasB ⟨#[111, 110]⟩ 105 = false ∧ hasB ⟨#[111, 110]⟩ 110 = true ∧ hasB ⟨#[111, 110]⟩ 101 = false ∧ hasB ⟨#[111, 110]⟩ 111 = true ∧ hasB ⟨#[111, 110]⟩ 100 = false := ⟨by kernel_rfl, by kernel_rfl, by kernel_rfl, by kernel_rfl, by kernel_rfl⟩
theorem h53_id : hasB ⟨#[105, 100]⟩ 105 = true ∧ hasB ⟨#[105, 100]⟩ 110 = false ∧ hasB ⟨#[105, 100]⟩ 101 = false ∧ hasB ⟨#[105, 100]⟩ 111 = false ∧ hasB ⟨#[105, 100]⟩ 100 = true := ⟨by kernel_rfl, by kernel_rfl, by kernel_rfl, by kernel_rfl, by kernel_rfl⟩

theorem p53 (m : Mg) (s : ByteArray) (h : s.size ≤ 1000) (i n e o d : Bool) (hi : hasB s 105 = i ∧ hasB s 110 = n ∧ hasB s 101 = e ∧ hasB s 111 = o ∧ hasB s 100 = d) (hc : (i = true ∧ n = false) ∨ (i = false)) : Pure Try.prog 53 [mg m, .sc (.string s)] (· = Bo (zer m i n e o d)) := by
  obtain ⟨h1, h2, h3, h4, h5⟩ := hi
  subst h1; subst h2; subst h3; subst h4; subst h5
  refine Pure.intro mo Try.func53 rfl (by show 2 ≤ 77; omega) _ rfl [0, 1, 2, 4, 5, 8, 30, 45, 53] (by kernel_rfl) ?_
  simp [Try.f53]
  refine call0 isFn79 (p79 _ _ h) ?_
  cases hi : hasB s 105 <;> simp <;> refine call0 isFn79 (p79 _ _ h) ?_ <;> simp
  all_goals (repeat' (first | with_reducible intro _ | with_reducible apply And.intro))
  all_goals first | (simp_all [zer, List.length_pos_iff]; done) | skip
  all_goals (try (refine call0 isFn79 (p79 _ _ h) ?_; simp))
  all_goals (repeat' (first | with_reducible intro _ | with_reducible apply And.intro))
  all_goals first | (simp_all [zer, List.length_pos_iff]; done) | skip
  all_goals (try (refine call0 isFn79 (p79 _ _ h) ?_; simp))
  all_goals (repeat' (first | with_reducible intro _ | with_reducible apply And.intro))
  all_goals first | (simp_all [zer, List.length_pos_iff]; done) | skip
  all_goals (try (refine call0 isFn79 (p79 _ _ h) ?_; simp))
  all_goals (repeat' (first | with_reducible intro _ | with_reducible apply And.intro))
  all_goals first | (simp_all [zer, List.length_pos_iff]; done) | skip
  all_goals (try (refine call0 isFn79 (p79 _ _ h) ?_; simp))
  all_goals (repeat' (first | with_reducible intro _ | with_reducible apply And.intro))
  all_goals first | (simp_all [zer, List.length_pos_iff]; done) | skip
/-- What a message of its kind may hold. -/
def kindB (m : Mg) : Bool :=
  if m.kind = 1 then zer m true false false false false else if m.kind = 2 then zer m false false false true false else if m.kind = 3 then zer m true false true false false else
    if m.kind = 4 then zer m false true false true false else zer m true false false false true && grpOk m.now m.next
def mokP (m : Mg) : Prop :=
  1 ≤ m.kind ∧ m.kind ≤ 5 ∧ 1 ≤ m.frm ∧ m.frm ≤ 7 ∧ 1 ≤ m.dest ∧ m.dest ≤ 7 ∧ 1 ≤ m.term ∧ m.term ≤ 1000000 ∧ 0 ≤ m.index ∧ m.index ≤ 1000000 ∧ 0 ≤ m.logTerm ∧ m.logTerm ≤ m.term ∧ 0 ≤ m.commit ∧ m.commit ≤ 1000000 ∧
    m.entries.length ≤ 8 ∧ m.data.length ≤ 20000 ∧ tok m.entries m.logTerm m.term = true ∧ kindB m = true
noncomputable def mok (m : Mg) : Bool := @decide (mokP m) (Classical.propDecidable _)
theorem mok_iff {m : Mg} : mok m = true ↔ mokP m := by unfold mok; exact @decide_eq_true_iff _ (Classical.propDecidable _)
theorem mok_no {m : Mg} (h : mokP m → False) : mok m = false := by
  cases hk : mok m with
  | false => rfl
  | true => exact (h (mok_iff.1 hk)).elim
/-- All but what hangs on the kind. -/
def mokR (m : Mg) : Prop :=
  1 ≤ m.kind ∧ m.kind ≤ 5 ∧ 1 ≤ m.frm ∧ m.frm ≤ 7 ∧ 1 ≤ m.dest ∧ m.dest ≤ 7 ∧ 1 ≤ m.term ∧ m.term ≤ 1000000 ∧ 0 ≤ m.index ∧ m.index ≤ 1000000 ∧ 0 ≤ m.logTerm ∧ m.logTerm ≤ m.term ∧ 0 ≤ m.commit ∧ m.commit ≤ 1000000 ∧
    m.entries.length ≤ 8 ∧ m.data.length ≤ 20000 ∧ tok m.entries m.logTerm m.term = true
theorem mok_kind {m : Mg} (h : mokR m) : mok m = kindB m := by
  obtain ⟨h1, h2, h3, h4, h5, h6, h7, h8, h9, h10, h11, h12, h13, h14, h15, h16, h17⟩ := h
  rw [Bool.eq_iff_iff, mok_iff]
  exact ⟨fun h => h.2.2.2.2.2.2.2.2.2.2.2.2.2.2.2.2.2, fun h => ⟨h1, h2, h3, h4, h5, h6, h7, h8, h9, h10, h11, h12, h13, h14, h15, h16, h17, h⟩⟩
theorem sum0 {a b c : List Int} : ((a.length : Int) + b.length + c.length = 0) ↔ (a = [] ∧ b = [] ∧ c = []) := by
  rw [← List.length_eq_zero_iff, ← List.length_eq_zero_iff, ← List.length_eq_zero_iff]
  omega
set_option maxHeartbeats 4000000 in
theorem p19 (m : Mg) (h : m.low) (hb : m.bytes) : Pure Try.prog 19 [mg m] (· = Bo (mok m)) := by
  refine Pure.intro mo Try.func19 rfl (by show 1 ≤ 153; omega) _ rfl [0, 1, 2, 3, 4, 5, 6, 70, 101, 102, 113, 125, 133] (by kernel_rfl) ?_
  have hl := h.log
  have hn := h.now
  have hx := h.next
  have hd := h.snap
  have hw1 := wi ((m.data.length : Int) + m.now.length) (by omega)
  have hw2 := wi ((m.data.length : Int) + m.now.length + m.next.length) (by omega)
  simp [Try.f19]
  refine call0 isFn50 (p50 _ _ _) ?_
  simp
  all_goals (repeat' (first | with_reducible intro _ | with_reducible apply And.intro))
  all_goals first | (exact mok_no (by unfold mokP; omega)) | skip
  all_goals (try (refine call0 isFn55 (p55 _) ?_; simp))
  all_goals (repeat' (first | with_reducible intro _ | with_reducible apply And.intro))
  all_goals first | (exact mok_no (by unfold mokP; omega)) | skip
  all_goals (try (refine call0 isFn55 (p55 _) ?_; simp))
  all_goals (repeat' (first | with_reducible intro _ | with_reducible apply And.intro))
  all_goals first | (exact mok_no (by unfold mokP; omega)) | skip
  all_goals (try (refine call0 isFn56 (p56 _) ?_; simp))
  all_goals (repeat' (first | with_reducible intro _ | with_reducible apply And.intro))
  all_goals first | (exact mok_no (by unfold mokP; omega)) | skip
  all_goals (try (refine call0 isFn50 (p50 _ _ _) ?_; simp))
  all_goals (repeat' (first | with_reducible intro _ | with_reducible apply And.intro))
  all_goals first | (exact mok_no (by unfold mokP; omega)) | skip
  all_goals (try (refine call0 isFn50 (p50 _ _ _) ?_; simp))
  all_goals (repeat' (first | with_reducible intro _ | with_reducible apply And.intro))
  all_goals first | (exact mok_no (by unfold mokP; omega)) | skip
  all_goals (try (refine call0 isFn50 (p50 _ _ _) ?_; simp))
  all_goals (repeat' (first | with_reducible intro _ | with_reducible apply And.intro))
  all_goals first | (exact mok_no (by unfold mokP; omega)) | skip
  all_goals (try (refine call0 isFn57 (p57 _ _ _ h.log hb) ?_; simp [hw1, hw2, sum0]))
  all_goals (repeat' (first | with_reducible intro _ | with_reducible apply And.intro))
  all_goals first | (exact mok_no (by unfold mokP; omega)) | skip
  all_goals first | (rw [mok_kind (by unfold mokR; refine ⟨?_, ?_, ?_, ?_, ?_, ?_, ?_, ?_, ?_, ?_, ?_, ?_, ?_, ?_, ?_, ?_, ?_⟩ <;> first | assumption | omega)]; unfold kindB zer; simp_all; done) | skip
  all_goals (try (refine call0 isFn58 (p58 _ _ h.now h.next) ?_; simp))
  all_goals (repeat' (first | with_reducible intro _ | with_reducible apply And.intro))
  all_goals first | (rw [mok_kind (by unfold mokR; refine ⟨?_, ?_, ?_, ?_, ?_, ?_, ?_, ?_, ?_, ?_, ?_, ?_, ?_, ?_, ?_, ?_, ?_⟩ <;> first | assumption | omega)]; unfold kindB zer; simp_all; done) | skip
  all_goals first | (exact mok_no (fun hk => by have h17 := hk.2.2.2.2.2.2.2.2.2.2.2.2.2.2.2.2.1; simp_all; done)) | skip
  all_goals (rw [mok_kind (by unfold mokR; refine ⟨?_, ?_, ?_, ?_, ?_, ?_, ?_, ?_, ?_, ?_, ?_, ?_, ?_, ?_, ?_, ?_, ?_⟩ <;> first | assumption | omega)]; unfold kindB zer; simp_all [Bool.and_assoc])
end Go.Proofs
