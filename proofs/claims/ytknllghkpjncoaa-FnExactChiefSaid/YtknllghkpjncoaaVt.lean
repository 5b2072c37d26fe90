/- From a reading to trees: arrays. -/
import Derived.Test.YtknllghkpjncoaaVs
import Derived.OpenShut
set_option linter.unusedVariables false
set_option maxRecDepth 10000
namespace VC
open Go Go.RowKit
section
variable {P : Program} {w : World} {t e : TypeId} {α β : Type}
theorem Rd.map2 {g : α → List Tr} {Ok : α → Prop} {g' : β → List Tr} {Ok' : β → Prop} (h : Rd P w t g Ok) (f : α → β) (hg : ∀ a, Ok a → g' (f a) = g a) (ho : ∀ a, Ok a → Ok' (f a)) : Rd P w t g' Ok' := by
  intro H enc base fuel sp cs d ps h1 h2
  obtain ⟨a, k1, k2, k3⟩ := h H enc base fuel sp cs d ps h1 h2
  exact ⟨f a, ho a k1, by rw [hg a k1]; exact k2, by rw [hg a k1]; exact k3⟩
theorem flatG {g : α → List Tr} {z : Nat} (hz : 0 < z) : ∀ (l : List α), (∀ a ∈ l, (g a).length = z) → (l.map g).flatten.length = l.length * z ∧ ∀ j, (l.map g).flatten[j]? = (l[j / z]?).bind fun a => (g a)[j % z]?
  | [], _ => ⟨by simp, fun j => by simp⟩
  | a :: l, h => by
    obtain ⟨h1, h2⟩ := flatG hz l (fun b hb => h b (List.mem_cons_of_mem _ hb))
    have ha := h a (List.mem_cons_self ..)
    refine ⟨by simp only [List.map_cons, List.flatten_cons, List.length_append, h1, ha, List.length_cons, Nat.add_mul, Nat.one_mul]; omega, fun j => ?_⟩
    simp only [List.map_cons, List.flatten_cons]
    by_cases hj : j < z
    · rw [List.getElem?_append_left (by omega), Nat.div_eq_of_lt hj, Nat.mod_eq_of_lt hj]
      rfl
    · rw [List.getElem?_append_right (by omega), ha, h2]
      obtain ⟨m, rfl⟩ : ∃ m, j = m + z := ⟨j - z, by omega⟩
      rw [Nat.add_sub_cancel, Nat.add_div_right _ hz, Nat.add_mod_right]
      rfl
theorem rd_array {n : Nat} {g : α → List Tr} {Ok : α → Prop} (ht : P.underlying t = some (.array n e)) (hz : 0 < P.cellsOf e) (hs : n * P.cellsOf e = P.cellsOf t) (he : Rd P w e g Ok) :
    Rd P w t (fun l : List α => (l.map g).flatten) (fun l => l.length = n ∧ ∀ a ∈ l, Ok a) := by
  intro H enc base fuel sp cs d ps h hw
  obtain ⟨xs, m, rfl, hx, hl, hxl, hE⟩ := DataW.trod_array ht h
  cases hx
  have hW : ∀ x ∈ DataW.weightsAll P e (xs.map (·.1)), x ≤ reachBytes := by
    intro x hx
    refine hw x ?_
    unfold DataW.weights
    simp only [ht]
    exact hx
  have key : ∀ i, i < n → ∃ b, Ok b ∧ (g b).length = P.cellsOf e ∧ ∀ (j : Nat) (tr : Tr) (v : Value), (g b)[j]? = some tr → cs[i * P.cellsOf e + j]? = some v → Tr.R Nay w tr v := by
    intro i hi
    have h1 := hE i hi
    have hi' : i < xs.length := by omega
    rw [List.getElem?_eq_getElem hi'] at h1
    obtain ⟨b, k1, k2, k3⟩ := he H enc base m sp _ xs[i].1 xs[i].2 h1 (fun x hx => hW x (weightsAll_mem (List.mem_map.2 ⟨_, List.getElem_mem hi', rfl⟩) hx))
    have hle : (i + 1) * P.cellsOf e ≤ n * P.cellsOf e := Nat.mul_le_mul_right _ hi
    rw [Nat.add_mul] at hle
    have hlen : (g b).length = P.cellsOf e := by rw [k2]; simp; omega
    refine ⟨b, k1, hlen, fun j tr v hj hv => k3 j tr v hj ?_⟩
    have hjl : j < P.cellsOf e := by rw [← hlen]; exact (List.getElem?_eq_some_iff.1 hj).1
    rw [List.getElem?_take, if_pos hjl, List.getElem?_drop]
    exact hv
  obtain ⟨l, l1, l2⟩ := listOf n key
  have hm : ∀ a ∈ l, Ok a ∧ (g a).length = P.cellsOf e := by
    intro a ha
    obtain ⟨i, hi, rfl⟩ := List.mem_iff_getElem.1 ha
    obtain ⟨q1, q2, _⟩ := l2 i _ (List.getElem?_eq_getElem hi)
    exact ⟨q1, q2⟩
  obtain ⟨f1, f2⟩ := flatG (g := g) hz l (fun a ha => (hm a ha).2)
  refine ⟨l, ⟨l1, fun a ha => (hm a ha).1⟩, by rw [f1, l1]; omega, fun j tr v hj hv => ?_⟩
  simp only at hj
  rw [f2] at hj
  simp only [Option.bind_eq_some_iff] at hj
  obtain ⟨a, ha, hj⟩ := hj
  exact (l2 _ a ha).2.2 _ tr v hj (by rw [Nat.div_add_mod' j]; exact hv)
end
end VC
