/- The law 'laws.FnExactOneLeader' answers true at every input, and what it is handed reads behind the call as it read before. Conditions: none. -/
import Derived.Test.YtknllghkpjncoaaRows
import Derived.Test.YtknllghkpjncoaaD2
import Derived.Test.YtknllghkpjncoaaR0
set_option linter.unusedVariables false
set_option linter.unusedSimpArgs false
namespace Go.Proofs.LawsE
open Go.Proofs.LawsR
open Go Go.ChangeShapes Go.WideShapes Go.ChangeAt Go.RowKit VC Go.Proofs

set_option maxRecDepth 100000 in
theorem lifted (os : Os) (started : os.Started) (H : Type) (enc : TypeId × Value → H) :
    ReturnsInHanded {} Try.checked os 5 .any (Ytknllghkpjncoaa.Rows.fnExactOneLeaderSpec.pre6 enc Try.prog Try.f5 Ytknllghkpjncoaa.Rows.fnExactOneLeaderRow.domain false) (Ytknllghkpjncoaa.Rows.fnExactOneLeaderSpec.post enc Try.prog Try.f5 false true false false) := by
  refine returnsInHanded_of_change_sized (C := Try.checked) own started (by kernel_rfl) Try.func5
    (ChangeSpec.witness6 (enc := enc) (C := Try.checked) false ⟨#[], #[.agg #[.slice none 0 0, .slice none 0 0, .slice none 0 0, .slice none 0 0, .slice none 0 0, .slice none 0 0, .slice none 0 0, .bool false]], []⟩ 8 (by kernel_rfl) (by kernel_rfl) (by kernel_rfl) (by kernel_rfl)) ?_
  intro W base args ds gs before hval0 hW hcnd hsz0 _
  have hsz : (DataW.weightsEach Try.prog (Try.f5.params.toList ++ Ytknllghkpjncoaa.Rows.fnExactOneLeaderSpec.plain.varTypes Try.prog) (ds ++ gs)).all (· ≤ reachBytes) = true := hsz0
  have hval : ∀ (j : Nat) t v, Try.f5.params[j]? = some t → args[j]? = some v → Value.okWide Try.prog W .any base t v := hval0
  have hW' := hW
  obtain ⟨p, q, hA0, hV, rfl, hfz, hnd⟩ := hW
  have hA : DataW.TrodAll enc Try.prog W 0 (fun _ => true) true Try.f5.params.toList args.toList ds p := hA0
  rw [Try.params5] at hA hval hsz
  obtain ⟨v0, vs0, d0, ds0, p0, q0, hargs, rfl, rfl, h0, r0⟩ := trodAll_cons hA
  obtain ⟨rfl, rfl, rfl⟩ := trodAll_nil r0
  obtain rfl : args = #[v0] := by cases args; simp_all
  obtain ⟨rfl, rfl⟩ := trodVars_none hV
  obtain ⟨cs0, rfl, hc0⟩ := okWide_struct Try.underlying31 (hval 0 31 v0 rfl rfl)
  have k0 := h0
  have lt0 : ∀ x ∈ p0, x.block < W.heap.size := by obtain ⟨m, hm⟩ := k0; exact DataW.trod_lt m _ _ _ hm
  obtain ⟨m, hm⟩ := h0
  obtain ⟨k, hk1, hk3, hk4⟩ := rd_Cl H enc 0 m (fun _ => true) _ d0 p0 hm (fun x hx => by
    have := List.all_eq_true.1 hsz x (by
      show x ∈ d0.weights Try.prog 31 ++ _
      exact List.mem_append_left _ hx)
    simpa using this)
  clear hA0 hval0 hsz0 hsz
  refine (Pure.law (f := 5) (args := [clV k]) (vals := [.agg cs0]) (p5 k hk1) rfl (fun j x v h1 h2 => ?_)).mono fun e W' ⟨he, bel⟩ => ?_
  · cases j with
    | zero => cases h1; cases h2; exact agg_R (ts := clT k) hk3 hk4
    | succ j => cases h1
  · subst he
    exact ⟨_, rfl, _, _, _, [], _, [], hW', trodAll_mk1 (shut_bool Try.underlying4 _), (trodAll_cons_mk (Below.trod laidOut (by kernel_rfl) (of_decide_eq_true (by kernel_rfl)) k0 bel lt0) trodAll_mk0), rfl, bel.frame _, fun h => by cases h⟩

theorem over : Ytknllghkpjncoaa.Rows.fnExactOneLeaderRow.holds Ytknllghkpjncoaa.Try.pinned (OpenSpec.ofChange Ytknllghkpjncoaa.Rows.fnExactOneLeaderSpec) :=
  OpenClaim.holds_of_wide 5 Try.f5 rfl rfl rfl rfl rfl rfl rfl ⟨rfl, rfl, rfl, rfl, rfl⟩ rfl rfl rfl rfl rfl (by kernel_rfl) Try.func5 (by kernel_rfl)
    (of_decide_eq_true (by kernel_rfl)) (by unfold Func.isWrapper; first | (rw [if_pos (by decide +kernel)]; kernel_rfl) | (rw [if_neg (by decide +kernel)]; exact ⟨rfl, rfl⟩))
    (fun os started H enc _ => lifted os started H enc)
end Go.Proofs.LawsE
namespace Go.Proofs
/-- The law, as it is said. -/
theorem Ytknllghkpjncoaa.oneLeader_holds : Ytknllghkpjncoaa.Rows.FnExactOneLeaderSaid := LawsE.over
end Go.Proofs
