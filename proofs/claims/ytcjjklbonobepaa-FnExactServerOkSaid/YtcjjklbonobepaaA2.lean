/- Who votes: lists of ids, groups and their bytes. -/
import Derived.Test.YtcjjklbonobepaaA1
set_option linter.unusedVariables false
set_option linter.unusedSimpArgs false
set_option maxRecDepth 100000
namespace Go.Proofs
open Go VC

/-- Ids, ascending. -/
def ids (l : List Int) : Bool := (List.range l.length).all fun i => decide (1 ≤ l.getD i 0) && decide (l.getD i 0 ≤ 7) && (i == 0 || decide (l.getD (i - 1) 0 < l.getD i 0))
theorem ids_iff {l : List Int} : ids l = true ↔ ∀ i (h : i < l.length), 1 ≤ l[i] ∧ l[i] ≤ 7 ∧ (0 < i → l[i - 1] < l[i]) := by
  rw [ids, List.all_eq_true]
  constructor
  · intro h i hi
    have := h i (List.mem_range.2 hi)
    have hi' : i - 1 < l.length := by omega
    simp [List.getD_eq_getElem?_getD, hi, hi'] at this
    exact ⟨by omega, by omega, fun h0 => by omega⟩
  · intro h i hi
    have hi := List.mem_range.1 hi
    have hi' : i - 1 < l.length := by omega
    have := h i hi
    simp [List.getD_eq_getElem?_getD, hi, hi']
    omega
theorem ids_not {l : List Int} {i : Nat} (h : i < l.length) (h' : ¬ (1 ≤ l[i] ∧ l[i] ≤ 7 ∧ (0 < i → l[i - 1] < l[i]))) : ids l = false := by
  cases hb : ids l with
  | false => rfl
  | true => exact absurd (ids_iff.1 hb i h) h'
theorem p67 (l : List Int) (h : l.length ≤ 1048576) : Pure Try.prog 67 [ints l] (· = Bo (ids l)) := by
  refine Pure.intro mo Try.func67 rfl (by show 1 ≤ 32; omega) _ rfl [0, 2, 3, 7, 31] (by kernel_rfl) ?_
  simp [Try.f67]
  refine loopI (fun ((i, x, y) : Nat × AV × AV) => ⟨[(0, ints l), (2, Bo false), (3, I (i : Nat)), (7, x), (31, y)], [], [], 0, 2⟩)
    (fun ((i, _, _) : Nat × AV × AV) => i ≤ l.length ∧ ∀ j (hj : j < l.length), j < i → 1 ≤ l[j] ∧ l[j] ≤ 7 ∧ (0 < j → l[j - 1] < l[j])) (fun (i, _) => l.length - i) (0, _, _) rfl ?_ ?_
  · exact ⟨Nat.zero_le _, fun j hj h0 => absurd h0 (Nat.not_lt_zero _)⟩
  rintro ⟨i, x, y⟩ ⟨j1, j2⟩
  by_cases hi : i < l.length
  · have hn := ids_not hi
    have hm : 1 ≤ l[i] ∧ l[i] ≤ 7 ∧ (0 < i → l[i - 1] < l[i]) → ∀ j (hj : j < l.length), j < i + 1 → 1 ≤ l[j] ∧ l[j] ≤ 7 ∧ (0 < j → l[j - 1] < l[j]) := by
      intro h1 j hj hji
      by_cases h2 : j = i
      · subst h2; exact h1
      · exact j2 j hj (by omega)
    have hw : IntKind.i64.wrap ((i : Int) + 1) = ((i + 1 : Nat) : Int) := wn _ (by omega)
    by_cases h0 : i = 0
    · subst h0
      simp [hi, ic]
      refine ⟨[false, false, true, true, true, true, true, true, true, true, false, false, false, false, false, false, false, false, false, true, true, true], by kernel_rfl, ?_⟩
      simp [hi, ic]
      refine call0 isFn51 (p51 _ _ _) ?_
      simp [hi, ic]
      refine ⟨fun h1 h2 => ?_, fun h1 => hn (by omega)⟩
      exact RndI.mk (1, _, _) rfl ⟨hi, hm (by omega)⟩ (by show l.length - 1 < l.length - 0; omega)
    · obtain ⟨k, hk⟩ : ∃ k, k + 1 = i := ⟨i - 1, by omega⟩
      have hkl : k < l.length := by omega
      have hw' : IntKind.i64.wrap ((i : Int) - 1) = k := by rw [wi _ (by omega)]; omega
      have hp : 0 < i := by omega
      have hs : i - 1 = k := by omega
      simp only [hs] at hn hm
      simp [hi, ic]
      refine ⟨[false, false, true, true, true, true, true, true, true, true, false, false, false, false, false, false, false, false, false, true, true, true], by kernel_rfl, ?_⟩
      simp [hi, ic]
      refine call0 isFn51 (p51 _ _ _) ?_
      simp [hi, hkl, hw', hp, ic]
      refine ⟨fun h1 h2 => ⟨fun h3 => hn (by omega), fun h3 => ?_⟩, fun h1 => hn (by omega)⟩
      rw [hw]
      exact RndI.mk (i + 1, _, _) rfl ⟨hi, hm (by omega)⟩ (by show l.length - (i + 1) < l.length - i; omega)
  · simp [hi]
    refine ids_iff.2 fun j hj => ?_
    exact j2 j hj (by omega)
theorem p70 (l : List Int) (h : l.length ≤ 1048576) : Pure Try.prog 70 [ints l] (· = Bo (ids l)) := by
  refine Pure.intro mo Try.func70 rfl (by show 1 ≤ 29; omega) _ rfl [0, 2, 3, 4, 5, 6, 7, 8, 27] (by kernel_rfl) ?_
  simp [Try.f70]
  refine loopI (fun ((i, a, b, c, d) : Nat × AV × AV × AV × AV) => ⟨[(0, ints l), (2, Bo false), (3, a), (4, b), (5, ints l), (6, I l.length), (7, I (i : Nat)), (8, c), (27, d)], [], [], 0, 2⟩)
    (fun ((i, _) : Nat × AV × AV × AV × AV) => i ≤ l.length ∧ ∀ j (hj : j < l.length), j < i → 1 ≤ l[j] ∧ l[j] ≤ 7 ∧ (0 < j → l[j - 1] < l[j])) (fun (i, _) => l.length - i) (0, _, _, _, _) rfl ?_ ?_
  · exact ⟨Nat.zero_le _, fun j hj h0 => absurd h0 (Nat.not_lt_zero _)⟩
  rintro ⟨i, a, b, c, d⟩ ⟨j1, j2⟩
  by_cases hi : i < l.length
  · have hn := ids_not hi
    have hm : 1 ≤ l[i] ∧ l[i] ≤ 7 ∧ (0 < i → l[i - 1] < l[i]) → ∀ j (hj : j < l.length), j < i + 1 → 1 ≤ l[j] ∧ l[j] ≤ 7 ∧ (0 < j → l[j - 1] < l[j]) := by
      intro h1 j hj hji
      by_cases h2 : j = i
      · subst h2; exact h1
      · exact j2 j hj (by omega)
    have hw : IntKind.i64.wrap ((i : Int) + 1) = ((i + 1 : Nat) : Int) := wn _ (by omega)
    by_cases h0 : i = 0
    · subst h0
      simp [hi, ic]
      refine call0 isFn55 (p55 _) ?_
      simp [hi, ic]
      refine ⟨fun h1 h2 => ?_, fun h1 => hn (by omega)⟩
      exact RndI.mk (1, _, _, _, _) rfl ⟨hi, hm (by omega)⟩ (by show l.length - 1 < l.length - 0; omega)
    · obtain ⟨k, hk⟩ : ∃ k, k + 1 = i := ⟨i - 1, by omega⟩
      have hkl : k < l.length := by omega
      have hw' : IntKind.i64.wrap ((i : Int) - 1) = k := by rw [wi _ (by omega)]; omega
      have hp : 0 < i := by omega
      have hs : i - 1 = k := by omega
      simp only [hs] at hn hm
      simp [hi, ic]
      refine call0 isFn55 (p55 _) ?_
      simp [hi, hkl, hw', hp, ic]
      refine ⟨fun h1 h2 => ⟨fun h3 => hn (by omega), fun h3 => ?_⟩, fun h1 => hn (by omega)⟩
      rw [hw]
      exact RndI.mk (i + 1, _, _, _, _) rfl ⟨hi, hm (by omega)⟩ (by show l.length - (i + 1) < l.length - i; omega)
  · simp [hi]
    refine ids_iff.2 fun j hj => ?_
    exact j2 j hj (by omega)

def grpOk (now next : List Int) : Bool := ids now && ids next && decide (0 < now.length)
theorem p54 (now next : List Int) (h1 : now.length ≤ 1048576) (h2 : next.length ≤ 1048576) : Pure Try.prog 54 [grp now next] (· = Bo (grpOk now next)) := by
  refine Pure.intro mo Try.func54 rfl (by show 1 ≤ 17; omega) _ rfl [0, 1, 2] (by kernel_rfl) ?_
  simp [Try.f54]
  refine call0 isFn67 (p67 _ h1) ?_
  simp
  refine ⟨fun h => ?_, fun h => by simp [grpOk, h]⟩
  refine call0 isFn67 (p67 _ h2) ?_
  simp
  exact ⟨fun h' => by simp [grpOk, h, h'], fun h' => by simp [grpOk, h']⟩
theorem p58 (now next : List Int) (h1 : now.length ≤ 1048576) (h2 : next.length ≤ 1048576) : Pure Try.prog 58 [grp now next] (· = Bo (grpOk now next)) := by
  refine Pure.intro mo Try.func58 rfl (by show 1 ≤ 17; omega) _ rfl [0, 1, 2] (by kernel_rfl) ?_
  simp [Try.f58]
  refine call0 isFn70 (p70 _ h1) ?_
  simp
  refine ⟨fun h => ?_, fun h => by simp [grpOk, h]⟩
  refine call0 isFn70 (p70 _ h2) ?_
  simp
  exact ⟨fun h' => by simp [grpOk, h, h'], fun h' => by simp [grpOk, h']⟩
/-- The ids of a sum of bits, up to one. -/
def idl (b : Nat) : Nat → List Int
  | 0 => []
  | n + 1 => if b.testBit n = true then idl b n ++ [(n : Int) + 1] else idl b n
theorem idl_length (b : Nat) : ∀ n, (idl b n).length ≤ n
  | 0 => Nat.le_refl _
  | n + 1 => by
    have := idl_length b n
    unfold idl
    split
    · simp; omega
    · omega
theorem bit_all : ((List.range 256).all fun b => (List.range 8).all fun n => decide (iand .u8 ((b : Int).fdiv (2 ^ n)) 1 = 1) == b.testBit n) = true := by kernel_rfl
theorem bit_iff {b n : Nat} (h : b < 256) (hn : n < 8) : iand .u8 ((b : Int).fdiv (2 ^ n)) 1 = 1 ↔ b.testBit n = true := by
  have := List.all_eq_true.1 (List.all_eq_true.1 bit_all b (List.mem_range.2 h)) n (List.mem_range.2 hn)
  simp only [beq_iff_eq] at this
  rw [← this]
  simp only [decide_eq_true_eq]
theorem or_all : ((List.range 128).all fun a => (List.range 7).all fun n => decide (ior .i64 (a : Int) (IntKind.i64.wrap (2 ^ n)) = ((a ||| 2 ^ n : Nat) : Int)) && decide (a ||| 2 ^ n < 128)) = true := by kernel_rfl
theorem or_lt {a n : Nat} (h : a < 128) (hn : n < 7) : ior .i64 (a : Int) (IntKind.i64.wrap (2 ^ n)) = ((a ||| 2 ^ n : Nat) : Int) ∧ a ||| 2 ^ n < 128 := by
  have := List.all_eq_true.1 (List.all_eq_true.1 or_all a (List.mem_range.2 h)) n (List.mem_range.2 hn)
  simpa only [Bool.and_eq_true, decide_eq_true_eq] using this
theorem p90 (b : Nat) (h : b < 256) : Pure Try.prog 90 [By b] (· = ints (idl b 7)) := by
  refine Pure.intro mo Try.func90 rfl (by show 1 ≤ 22; omega) _ rfl [0, 2, 3, 4, 7, 16] (by kernel_rfl) ?_
  simp [Try.f90]
  refine loopI (fun ((n, x, y, tk, l) : Nat × AV × AV × Nat × _) => ⟨[(0, By b), (2, .sl 1 []), (3, .sl tk ((idl b n).map ic)), (4, I ((n : Int) + 1)), (7, x), (16, y)], [], (tk, some (3, 1)) :: l, 0, tk + 1⟩)
    (fun (n, _) => n ≤ 7) (fun (n, _) => 7 - n) (0, .no, .no, 2, []) rfl ?_ ?_
  · exact Nat.zero_le _
  rintro ⟨n, x, y, tk, l⟩ (j1 : n ≤ 7)
  by_cases hi : n < 7
  · have hc : (n : Int) + 1 ≤ 7 := by omega
    have hw : IntKind.i64.wrap (n : Int) = n := wi _ (by omega)
    have hu : IntKind.u64.wrap (n : Int) = n := IntWalk.u64_in _ (by omega)
    have hm : min n 8 = n := by omega
    have hz : ¬ (n : Int) < 0 := by omega
    have hl := idl_length b n
    have hs : IntKind.i64.wrap ((n : Int) + 1 + 1) = ((n + 1 : Nat) : Int) + 1 := by rw [wi _ (by omega)]; omega
    simp [hi, ic, hc, hw, hu, hz, IntKind.bits, hm]
    rw [hs]
    refine ⟨fun h1 => ⟨by omega, by omega, ?_⟩, fun h1 => ?_⟩
    · have hd : idl b (n + 1) = idl b n ++ [(n : Int) + 1] := if_pos ((bit_iff h (by omega)).1 h1)
      exact RndI.mk (n + 1, _, _, _, _) (by rw [hd, List.map_append]; rfl) hi (by show 7 - (n + 1) < 7 - n; omega)
    · have hd : idl b (n + 1) = idl b n := if_neg (fun h2 => h1 ((bit_iff h (by omega)).2 h2))
      exact RndI.mk (n + 1, _, _, _, _) (by rw [hd]) hi (by show 7 - (n + 1) < 7 - n; omega)
  · have : n = 7 := by omega
    subst this
    simp
theorem p93 (b : Nat) (h : b < 256) : Pure Try.prog 93 [By b] (· = ints (idl b 8)) := by
  refine Pure.intro mo Try.func93 rfl (by show 1 ≤ 21; omega) _ rfl [0, 2, 3, 4, 7, 15] (by kernel_rfl) ?_
  simp [Try.f93]
  refine loopI (fun ((n, x, y, tk, l) : Nat × AV × AV × Nat × _) => ⟨[(0, By b), (2, .sl 1 []), (3, .sl tk ((idl b n).map ic)), (4, I ((n : Int) + 1)), (7, x), (15, y)], [], (tk, some (3, 1)) :: l, 0, tk + 1⟩)
    (fun (n, _) => n ≤ 8) (fun (n, _) => 8 - n) (0, .no, .no, 2, []) rfl ?_ ?_
  · exact Nat.zero_le _
  rintro ⟨n, x, y, tk, l⟩ (j1 : n ≤ 8)
  by_cases hi : n < 8
  · have hc : (n : Int) + 1 ≤ 8 := by omega
    have hw : IntKind.i64.wrap (n : Int) = n := wi _ (by omega)
    have hu : IntKind.u64.wrap (n : Int) = n := IntWalk.u64_in _ (by omega)
    have hm : min n 8 = n := by omega
    have hz : ¬ (n : Int) < 0 := by omega
    have hl := idl_length b n
    have hs : IntKind.i64.wrap ((n : Int) + 1 + 1) = ((n + 1 : Nat) : Int) + 1 := by rw [wi _ (by omega)]; omega
    simp [hi, ic, hc, hw, hu, hz, IntKind.bits, hm]
    rw [hs]
    refine ⟨fun h1 => ⟨by omega, by omega, ?_⟩, fun h1 => ?_⟩
    · have hd : idl b (n + 1) = idl b n ++ [(n : Int) + 1] := if_pos ((bit_iff h (by omega)).1 h1)
      exact RndI.mk (n + 1, _, _, _, _) (by rw [hd, List.map_append]; rfl) hi (by show 8 - (n + 1) < 8 - n; omega)
    · have hd : idl b (n + 1) = idl b n := if_neg (fun h2 => h1 ((bit_iff h (by omega)).2 h2))
      exact RndI.mk (n + 1, _, _, _, _) (by rw [hd]) hi (by show 8 - (n + 1) < 8 - n; omega)
  · have : n = 8 := by omega
    subst this
    simp

/-- A sum of bits. -/
def bitsOf : List Int → Nat → Nat
  | [], a => a
  | x :: r, a => bitsOf r (a ||| 2 ^ (x - 1).toNat)
theorem p95 (l : List Int) (h : l.length ≤ 1048576) (hi : ids l = true) : Pure Try.prog 95 [ints l] (· = By (bitsOf l 0)) := by
  refine Pure.intro mo Try.func95 rfl (by show 1 ≤ 22; omega) _ rfl [0, 2, 3, 4, 8] (by kernel_rfl) ?_
  have hids := ids_iff.1 hi
  simp [Try.f95]
  refine loopI (fun ((i, a, x) : Nat × Nat × AV) => ⟨[(0, ints l), (2, By 0), (3, I (a : Nat)), (4, I (i : Nat)), (8, x)], [], [], 0, 2⟩)
    (fun (i, a, _) => i ≤ l.length ∧ a < 128 ∧ bitsOf (l.drop i) a = bitsOf l 0) (fun (i, _) => l.length - i) (0, 0, _) rfl ?_ ?_
  · exact ⟨Nat.zero_le _, by omega, rfl⟩
  rintro ⟨i, a, x⟩ ⟨j1, j2, j3⟩
  by_cases hi : i < l.length
  · obtain ⟨h1, h2, h3⟩ := hids i hi
    obtain ⟨k, hk⟩ : ∃ k : Nat, l[i] = (k : Int) + 1 := ⟨(l[i] - 1).toNat, by omega⟩
    have hw : IntKind.i64.wrap (k : Int) = k := wi _ (by omega)
    have hu : IntKind.u64.wrap (k : Int) = k := IntWalk.u64_in _ (by omega)
    have hz : ¬ (k : Int) < 0 := by omega
    have hm : min k 64 = k := by omega
    simp [hi, ic, hk, hw, hu, hz, IntKind.bits, hm]
    obtain ⟨o1, o2⟩ := or_lt j2 (show k < 7 by omega)
    rw [List.drop_eq_getElem_cons hi, bitsOf, hk] at j3
    have he : ((k : Int) + 1 - 1).toNat = k := by omega
    rw [he] at j3
    rw [o1, wn _ (by omega)]
    exact RndI.mk (i + 1, a ||| 2 ^ k, _) rfl ⟨hi, o2, j3⟩ (by show l.length - (i + 1) < l.length - i; omega)
  · simp [hi]
    rw [List.drop_eq_nil_of_le (by omega), bitsOf] at j3
    rw [wb _ (by omega), j3]
theorem p91 (a b : List Int) (h : a.length ≤ 1048576) : Pure Try.prog 91 [byts a, byts b] (· = Bo (decide (a = b))) := by
  refine Pure.intro mo Try.func91 rfl (by show 2 ≤ 26; omega) _ rfl [0, 1, 4, 5, 10, 14, 25] (by kernel_rfl) ?_
  simp [Try.f91]
  refine ⟨fun h h' => h (by rw [h']), fun h0 => ?_⟩
  refine loopI (fun ((i, x, y, z) : Nat × AV × AV × AV) => ⟨[(0, byts a), (1, byts b), (4, Bo false), (5, I (i : Nat)), (10, x), (14, y), (25, z)], [], [], 0, 2⟩)
    (fun (i, _) => i ≤ a.length ∧ ∀ j, j < i → a[j]? = b[j]?) (fun (i, _) => a.length - i) (0, _, _, _) rfl ?_ ?_
  · exact ⟨Nat.zero_le _, fun j hj => absurd hj (Nat.not_lt_zero _)⟩
  rintro ⟨i, x, y, z⟩ ⟨j1, j2⟩
  have hlen : a.length = b.length := by omega
  by_cases hi : i < a.length
  · have hi' : i < b.length := by omega
    simp [hi, bc]
    refine ⟨[false, false, false, false, false, false, false, false, true], by kernel_rfl, ?_⟩
    simp [hi, hi', bc]
    refine ⟨fun h1 h2 => h1 (by subst h2; rfl), fun h1 => ?_⟩
    rw [wn _ (by omega)]
    refine RndI.mk (i + 1, _, _, _) rfl ⟨hi, fun j hj => ?_⟩ (by show a.length - (i + 1) < a.length - i; omega)
    by_cases h2 : j = i
    · subst h2; simp [hi, hi', h1]
    · exact j2 j (by omega)
  · simp [hi]
    refine List.ext_getElem? fun j => ?_
    by_cases hj : j < a.length
    · exact j2 j (by omega)
    · rw [List.getElem?_eq_none (by omega), List.getElem?_eq_none (by omega)]
theorem p92 (now next : List Int) (h1 : now.length ≤ 1048576) (h2 : next.length ≤ 1048576) (h : grpOk now next = true) : Pure Try.prog 92 [grp now next] (· = byts [(bitsOf now 0 : Int), (bitsOf next 0 : Int)]) := by
  refine Pure.intro mo Try.func92 rfl (by show 1 ≤ 14; omega) _ rfl [0, 1, 2, 5] (by kernel_rfl) ?_
  obtain ⟨⟨k1, k2⟩, k3⟩ : (ids now = true ∧ ids next = true) ∧ 0 < now.length := by simpa [grpOk] using h
  simp [Try.f92]
  refine call0 isFn54 (p54 _ _ h1 h2) ?_
  simp [h]
  refine ⟨[false, false, false, false, false, true, true, true], by kernel_rfl, ?_⟩
  simp
  first | refine call0 isFn95 (p95 _ h1 k1) ?_ | refine qcall0 isFn95 (p95 _ h1 k1) ?_
  simp
  first | refine call0 isFn95 (p95 _ h2 k2) ?_ | refine qcall0 isFn95 (p95 _ h2 k2) ?_
  simp [bc]
theorem idl_all : ((List.range 256).all fun b => (ids (idl b 8) == decide (b < 128)) && ids (idl b 7) && (bitsOf (idl b 7) 0 == b % 128) && (decide (0 < (idl b 8).length) == decide (1 ≤ b)) && (decide (0 < (idl b 7).length) == decide (1 ≤ b % 128)) &&
    (decide (128 ≤ b) || decide (idl b 8 = idl b 7))) = true := by kernel_rfl
theorem idl_facts {b : Nat} (h : b < 256) : ids (idl b 8) = decide (b < 128) ∧ ids (idl b 7) = true ∧ bitsOf (idl b 7) 0 = b % 128 ∧ (0 < (idl b 8).length ↔ 1 ≤ b) ∧ (0 < (idl b 7).length ↔ 1 ≤ b % 128) ∧ (b < 128 → idl b 8 = idl b 7) := by
  have := List.all_eq_true.1 idl_all b (List.mem_range.2 h)
  simp only [Bool.and_eq_true, beq_iff_eq, Bool.or_eq_true, decide_eq_true_eq, decide_eq_decide] at this
  obtain ⟨⟨⟨⟨⟨h1, h2⟩, h3⟩, h4⟩, h5⟩, h6⟩ := this
  exact ⟨h1, h2, h3, h4, h5, fun hb => h6.resolve_left (by omega)⟩
def gok : List Int → Bool
  | [x, y] => decide (1 ≤ x) && decide (x < 128) && decide (y < 128)
  | _ => false
def gnow (d : List Int) : List Int := if gok d = true then idl (d.getD 0 0).toNat 7 else []
def gnext (d : List Int) : List Int := if gok d = true then idl (d.getD 1 0).toNat 7 else []
theorem two {d : List Int} (hb : ∀ x ∈ d, 0 ≤ x ∧ x ≤ 255) (h : d.length = 2) : ∃ a b : Nat, a < 256 ∧ b < 256 ∧ d = [(a : Int), (b : Int)] := by
  match d, h with
  | [x, y], _ =>
    have h1 := hb x (by simp)
    have h2 := hb y (by simp)
    exact ⟨x.toNat, y.toNat, by omega, by omega, by rw [Int.toNat_of_nonneg h1.1, Int.toNat_of_nonneg h2.1]⟩
theorem gok_len {d : List Int} (h : ¬ d.length = 2) : gok d = false := by
  unfold gok
  split
  · exact absurd rfl h
  · rfl
theorem p82 (d : List Int) (hb : ∀ x ∈ d, 0 ≤ x ∧ x ≤ 255) : Pure Try.prog 82 [byts d] (· = .tup [grp (gnow d) (gnext d), Bo (gok d)]) := by
  refine Pure.intro mo Try.func82 rfl (by show 1 ≤ 23; omega) _ rfl [0, 2, 3, 4, 7, 20] (by kernel_rfl) ?_
  by_cases hd : d.length = 2
  · obtain ⟨a, b, ha, hb', rfl⟩ := two hb hd
    obtain ⟨a1, a2, a3, a4, a5, a6⟩ := idl_facts ha
    obtain ⟨b1, b2, b3, b4, b5, b6⟩ := idl_facts hb'
    have la := idl_length a 8
    have lb := idl_length b 8
    have hg : grpOk (idl a 8) (idl b 8) = gok [(a : Int), (b : Int)] := by
      rw [Bool.eq_iff_iff]
      simp only [grpOk, gok, a1, b1, Bool.and_eq_true, decide_eq_true_eq, a4]
      omega
    simp [Try.f82, bc]
    refine ⟨[false, false, false, false, false, false, false, false, false, false, true], by kernel_rfl, ?_⟩
    simp [bc]
    first | refine call0 isFn93 (p93 _ ha) ?_ | refine qcall0 isFn93 (p93 _ ha) ?_
    simp [bc]
    first | refine call0 isFn93 (p93 _ hb') ?_ | refine qcall0 isFn93 (p93 _ hb') ?_
    simp
    refine call0 isFn58 (p58 (idl a 8) (idl b 8) (by omega) (by omega)) ?_
    rw [hg]
    simp
    refine ⟨fun h => ?_, fun h => ?_⟩
    · simp [gnow, gnext, h]
    · have : a < 128 ∧ b < 128 := by simp only [gok, Bool.and_eq_true, decide_eq_true_eq] at h; omega
      simp [gnow, gnext, h, a6 this.1, b6 this.2]
  · have hd' : ¬ (d.length : Int) = 2 := by omega
    simp [Try.f82, hd', gok_len hd, gnow, gnext]
theorem p78 (d : List Int) (hb : ∀ x ∈ d, 0 ≤ x ∧ x ≤ 255) : Pure Try.prog 78 [byts d] (· = .tup [grp (gnow d) (gnext d), Bo (gok d)]) := by
  refine Pure.intro mo Try.func78 rfl (by show 1 ≤ 30; omega) _ rfl [0, 2, 3, 4, 7, 27] (by kernel_rfl) ?_
  by_cases hd : d.length = 2
  · obtain ⟨a, b, ha, hb', rfl⟩ := two hb hd
    obtain ⟨a1, a2, a3, a4, a5, a6⟩ := idl_facts ha
    obtain ⟨b1, b2, b3, b4, b5, b6⟩ := idl_facts hb'
    have la := idl_length a 7
    have lb := idl_length b 7
    simp [Try.f78, bc]
    refine ⟨[false, false, false, false, false, false, false, false, false, false, true], by kernel_rfl, ?_⟩
    simp [bc]
    first | refine call0 isFn90 (p90 _ ha) ?_ | refine qcall0 isFn90 (p90 _ ha) ?_
    simp [bc]
    first | refine call0 isFn90 (p90 _ hb') ?_ | refine qcall0 isFn90 (p90 _ hb') ?_
    simp
    have hg : gok [(a : Int), (b : Int)] = true ↔ grpOk (idl a 7) (idl b 7) = true ∧ a < 128 ∧ b < 128 := by
      simp only [grpOk, gok, a2, b2, Bool.and_eq_true, decide_eq_true_eq, a5, true_and]
      omega
    refine call0 isFn54 (p54 (idl a 7) (idl b 7) (by omega) (by omega)) ?_
    simp
    refine ⟨fun h => ?_, fun h => ?_⟩
    · refine call0 isFn92 (p92 (idl a 7) (idl b 7) (by omega) (by omega) h) ?_
      simp
      refine call0 isFn91 (p91 [(bitsOf (idl a 7) 0 : Int), (bitsOf (idl b 7) 0 : Int)] [(a : Int), (b : Int)] (by simp)) ?_
      simp
      rw [a3, b3]
      cases hk : gok [(a : Int), (b : Int)] with
      | true =>
        have := hg.1 hk
        refine ⟨fun h1 => by omega, fun h1 h2 => ?_⟩
        simp [gnow, gnext, hk]
      | false =>
        have : ¬ (a < 128 ∧ b < 128) := fun h1 => by rw [hg.2 ⟨h, h1⟩] at hk; cases hk
        refine ⟨fun h1 => ?_, fun h1 h2 => by omega⟩
        simp [gnow, gnext, hk]
    · have hf : gok [(a : Int), (b : Int)] = false := by
        cases hb : gok [(a : Int), (b : Int)] with
        | false => rfl
        | true => rw [hg, h] at hb; cases hb.1
      simp [gnow, gnext, hf]
  · have hd' : ¬ (d.length : Int) = 2 := by omega
    simp [Try.f78, hd', gok_len hd, gnow, gnext]

/-- An entry that is right. -/
def eok (e : Ent) : Bool :=
  decide (1 ≤ e.term) && decide (e.term ≤ 1000000) && (if e.kind = 1 then decide (e.data.length = 0) else if e.kind = 2 then decide (e.data.length ≤ 400) else if e.kind = 3 then gok e.data else false)
def bytes (d : List Int) : Prop := ∀ x ∈ d, 0 ≤ x ∧ x ≤ 255
theorem p80 (e : Ent) (hb : bytes e.data) : Pure Try.prog 80 [ent e] (· = Bo (eok e)) := by
  refine Pure.intro mo Try.func80 rfl (by show 1 ≤ 32; omega) _ rfl [0, 1, 2, 4, 8, 10, 11, 17, 23] (by kernel_rfl) ?_
  simp [Try.f80]
  refine call0 isFn56 (p56 _) ?_
  simp
  refine ⟨fun h => ?_, fun h1 h2 => ⟨fun h3 => ?_, fun h3 => ⟨fun h4 => ?_, fun h4 => ⟨fun h5 => ?_, fun h5 => ?_⟩⟩⟩⟩
  · have : ¬ (1 ≤ e.term ∧ e.term ≤ 1000000) := by omega
    simp only [eok]; grind
  · simp [eok, h1, h2, h3]
  · simp [eok, h1, h2, h4]; omega
  · refine call0 isFn82 (p82 _ hb) ?_
    simp [eok, h1, h2, h5]
  · simp [eok, h1, h2, h3, h4, h5]
theorem p52 (e : Ent) (hb : bytes e.data) : Pure Try.prog 52 [ent e] (· = Bo (eok e)) := by
  refine Pure.intro mo Try.func52 rfl (by show 1 ≤ 32; omega) _ rfl [0, 1, 2, 4, 8, 10, 11, 17, 23] (by kernel_rfl) ?_
  simp [Try.f52]
  refine call0 isFn51 (p51 _ _ _) ?_
  simp
  refine ⟨fun h => ?_, fun h1 h2 => ⟨fun h3 => ?_, fun h3 => ⟨fun h4 => ?_, fun h4 => ⟨fun h5 => ?_, fun h5 => ?_⟩⟩⟩⟩
  · have : ¬ (1 ≤ e.term ∧ e.term ≤ 1000000) := by omega
    simp only [eok]; grind
  · simp [eok, h1, h2, h3]
  · simp [eok, h1, h2, h4]; omega
  · refine call0 isFn78 (p78 _ hb) ?_
    simp [eok, h1, h2, h5]
  · simp [eok, h1, h2, h3, h4, h5]
end Go.Proofs
