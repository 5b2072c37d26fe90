/- Who votes: lists of ids, groups and their bytes. -/
import Derived.Test.YtknllghkpjncoaaA1
set_option linter.unusedVariables false
set_option linter.unusedSimpArgs false
set_option maxRecDepth 100000
namespace Go.Proofs
open Go VC

/-- Ids, ascending. -/
def ids (l : List Int) : Bool := (List.range l.length).all fun i => decide (1 ≤ l.getD i 0) && decide (l.getD i 0 ≤ 7) && (i == 0 || decide (l.getD (i - 1) 0 < l.getD i 0))
theorem ids_iff {l : List Int} : ids l = true ↔ ∀ i (h : i < l.length), 1 ≤ l[i] ∧ l[i] ≤ 7 ∧ (0 < i → l[i - 1] < l[i]) := by
  rw [ids, List.all_eq_true]
  constructor
  · intro h i hi
    have := h i (List.mem_range.2 hi)
    have hi' : i - 1 < l.length := by omega
    simp [List.getD_eq_getElem?_getD, hi, hi'] at this
    exact ⟨by omega, by omega, fun h0 => by omega⟩
  · intro h i hi
    have hi := List.mem_range.1 hi
    have hi' : i - 1 < l.length := by omega
    have := h i hi
    simp [List.getD_eq_getElem?_getD, hi, hi']
    omega
theorem ids_not {l : List Int} {i : Nat} (h : i < l.length) (h' : ¬ (1 ≤ l[i] ∧ l[i] ≤ 7 ∧ (0 < i → l[i - 1] < l[i]))) : ids l = false := by
  cases hb : ids l with
  | false => rfl
  | true => exact absurd (ids_iff.1 hb i h) h'
def grpOk (now next : List Int) : Bool := ids now && ids next && decide (0 < now.length)
/-- The ids of a sum of bits, up to one. -/
def idl (b : Nat) : Nat → List Int
  | 0 => []
  | n + 1 => if b.testBit n = true then idl b n ++ [(n : Int) + 1] else idl b n
theorem idl_length (b : Nat) : ∀ n, (idl b n).length ≤ n
  | 0 => Nat.le_refl _
  | n + 1 => by
    have := idl_length b n
    unfold idl
    split
    · simp; omega
    · omega
theorem bit_all : ((List.range 256).all fun b => (List.range 8).all fun n => decide (iand .u8 ((b : Int).fdiv (2 ^ n)) 1 = 1) == b.testBit n) = true := by kernel_rfl
theorem bit_iff {b n : Nat} (h : b < 256) (hn : n < 8) : iand .u8 ((b : Int).fdiv (2 ^ n)) 1 = 1 ↔ b.testBit n = true := by
  have := List.all_eq_true.1 (List.all_eq_true.1 bit_all b (List.mem_range.2 h)) n (List.mem_range.2 hn)
  simp only [beq_iff_eq] at this
  rw [← this]
  simp only [decide_eq_true_eq]
theorem or_all : ((List.range 128).all fun a => (List.range 7).all fun n => decide (ior .i64 (a : Int) (IntKind.i64.wrap (2 ^ n)) = ((a ||| 2 ^ n : Nat) : Int)) && decide (a ||| 2 ^ n < 128)) = true := by kernel_rfl
theorem or_lt {a n : Nat} (h : a < 128) (hn : n < 7) : ior .i64 (a : Int) (IntKind.i64.wrap (2 ^ n)) = ((a ||| 2 ^ n : Nat) : Int) ∧ a ||| 2 ^ n < 128 := by
  have := List.all_eq_true.1 (List.all_eq_true.1 or_all a (List.mem_range.2 h)) n (List.mem_range.2 hn)
  simpa only [Bool.and_eq_true, decide_eq_true_eq] using this
/-- A sum of bits. -/
def bitsOf : List Int → Nat → Nat
  | [], a => a
  | x :: r, a => bitsOf r (a ||| 2 ^ (x - 1).toNat)
theorem p78 (a b : List Int) (h : a.length ≤ 1048576) : Pure Try.prog 78 [byts a, byts b] (· = Bo (decide (a = b))) := by
  refine Pure.intro mo Try.func78 rfl (by show 2 ≤ 26; omega) _ rfl [0, 1, 4, 5, 10, 14, 25] (by kernel_rfl) ?_
  simp [Try.f78]
  refine ⟨fun h h' => h (by rw [h']), fun h0 => ?_⟩
  refine loopI (fun ((i, x, y, z) : Nat × AV × AV × AV) => ⟨[(0, byts a), (1, byts b), (4, Bo false), (5, I (i : Nat)), (10, x), (14, y), (25, z)], [], [], 0, 2⟩)
    (fun (i, _) => i ≤ a.length ∧ ∀ j, j < i → a[j]? = b[j]?) (fun (i, _) => a.length - i) (0, _, _, _) rfl ?_ ?_
  · exact ⟨Nat.zero_le _, fun j hj => absurd hj (Nat.not_lt_zero _)⟩
  rintro ⟨i, x, y, z⟩ ⟨j1, j2⟩
  have hlen : a.length = b.length := by omega
  by_cases hi : i < a.length
  · have hi' : i < b.length := by omega
    simp [hi, bc]
    refine ⟨[false, false, false, false, false, false, false, false, true], by kernel_rfl, ?_⟩
    simp [hi, hi', bc]
    refine ⟨fun h1 h2 => h1 (by subst h2; rfl), fun h1 => ?_⟩
    rw [wn _ (by omega)]
    refine RndI.mk (i + 1, _, _, _) rfl ⟨hi, fun j hj => ?_⟩ (by show a.length - (i + 1) < a.length - i; omega)
    by_cases h2 : j = i
    · subst h2; simp [hi, hi', h1]
    · exact j2 j (by omega)
  · simp [hi]
    refine List.ext_getElem? fun j => ?_
    by_cases hj : j < a.length
    · exact j2 j (by omega)
    · rw [List.getElem?_eq_none (by omega), List.getElem?_eq_none (by omega)]
theorem idl_all : ((List.range 256).all fun b => (ids (idl b 8) == decide (b < 128)) && ids (idl b 7) && (bitsOf (idl b 7) 0 == b % 128) && (decide (0 < (idl b 8).length) == decide (1 ≤ b)) && (decide (0 < (idl b 7).length) == decide (1 ≤ b % 128)) &&
    (decide (128 ≤ b) || decide (idl b 8 = idl b 7))) = true := by kernel_rfl
theorem idl_facts {b : Nat} (h : b < 256) : ids (idl b 8) = decide (b < 128) ∧ ids (idl b 7) = true ∧ bitsOf (idl b 7) 0 = b % 128 ∧ (0 < (idl b 8).length ↔ 1 ≤ b) ∧ (0 < (idl b 7).length ↔ 1 ≤ b % 128) ∧ (b < 128 → idl b 8 = idl b 7) := by
  have := List.all_eq_true.1 idl_all b (List.mem_range.2 h)
  simp only [Bool.and_eq_true, beq_iff_eq, Bool.or_eq_true, decide_eq_true_eq, decide_eq_decide] at this
  obtain ⟨⟨⟨⟨⟨h1, h2⟩, h3⟩, h4⟩, h5⟩, h6⟩ := this
  exact ⟨h1, h2, h3, h4, h5, fun hb => h6.resolve_left (by omega)⟩
def gok : List Int → Bool
  | [x, y] => decide (1 ≤ x) && decide (x < 128) && decide (y < 128)
  | _ => false
def gnow (d : List Int) : List Int := if gok d = true then idl (d.getD 0 0).toNat 7 else []
def gnext (d : List Int) : List Int := if gok d = true then idl (d.getD 1 0).toNat 7 else []
theorem two {d : List Int} (hb : ∀ x ∈ d, 0 ≤ x ∧ x ≤ 255) (h : d.length = 2) : ∃ a b : Nat, a < 256 ∧ b < 256 ∧ d = [(a : Int), (b : Int)] := by
  match d, h with
  | [x, y], _ =>
    have h1 := hb x (by simp)
    have h2 := hb y (by simp)
    exact ⟨x.toNat, y.toNat, by omega, by omega, by rw [Int.toNat_of_nonneg h1.1, Int.toNat_of_nonneg h2.1]⟩
theorem gok_len {d : List Int} (h : ¬ d.length = 2) : gok d = false := by
  unfold gok
  split
  · exact absurd rfl h
  · rfl
/-- An entry that is right. -/
def eok (e : Ent) : Bool :=
  decide (1 ≤ e.term) && decide (e.term ≤ 1000000) && (if e.kind = 1 then decide (e.data.length = 0) else if e.kind = 2 then decide (e.data.length ≤ 400) else if e.kind = 3 then gok e.data else false)
def bytes (d : List Int) : Prop := ∀ x ∈ d, 0 ≤ x ∧ x ≤ 255
end Go.Proofs
