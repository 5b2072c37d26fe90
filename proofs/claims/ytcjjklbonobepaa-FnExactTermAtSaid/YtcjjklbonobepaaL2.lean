/- The law 'laws.FnExactTermAt' answers true at every input, and what it is handed reads behind the call as it read before. Conditions: none. -/
import Derived.Test.YtcjjklbonobepaaRows
import Derived.Test.YtcjjklbonobepaaA4
import Derived.Test.YtcjjklbonobepaaL1
import Derived.Test.YtcjjklbonobepaaVs
import Derived.WalkKit
import Derived.ProofKit
import Derived.OpenShut
import Derived.ShutString
import Derived.ChangeOld
import Derived.Below
import Derived.SizedLaws
set_option linter.unusedVariables false
set_option linter.unusedSimpArgs false
namespace Go.Proofs.LawsB
open Go.Proofs.LawsA
open Go Go.ChangeShapes Go.WideShapes Go.ChangeAt Go.RowKit VC Go.Proofs


set_option maxRecDepth 100000 in
theorem lifted (os : Os) (started : os.Started) (H : Type) (enc : TypeId × Value → H) :
    ReturnsInHanded {} Try.checked os 4 .any (Ytcjjklbonobepaa.Rows.fnExactTermAtSpec.pre6 enc Try.prog Try.f4 Ytcjjklbonobepaa.Rows.fnExactTermAtRow.domain false) (Ytcjjklbonobepaa.Rows.fnExactTermAtSpec.post enc Try.prog Try.f4 false true false false) := by
  refine returnsInHanded_of_change_sized (C := Try.checked) own started (by kernel_rfl) Try.func4
    (ChangeSpec.witness6 (enc := enc) (C := Try.checked) false ⟨#[], #[.agg #[.int .i64 0, .int .i64 0, .int .i64 0, .int .i64 0, .slice none 0 0, .slice none 0 0, .slice none 0 0, .slice none 0 0], .int .i64 0], []⟩ 8 (by kernel_rfl) (by kernel_rfl) (by kernel_rfl) (by kernel_rfl)) ?_
  intro W base args ds gs before hval0 hW hcnd hsz0 _
  have hsz : (DataW.weightsEach Try.prog (Try.f4.params.toList ++ Ytcjjklbonobepaa.Rows.fnExactTermAtSpec.plain.varTypes Try.prog) (ds ++ gs)).all (· ≤ reachBytes) = true := hsz0
  have hval : ∀ (j : Nat) t v, Try.f4.params[j]? = some t → args[j]? = some v → Value.okWide Try.prog W .any base t v := hval0
  have hW' := hW
  obtain ⟨p, q, hA0, hV, rfl, hfz, hnd⟩ := hW
  have hA : DataW.TrodAll enc Try.prog W 0 (fun _ => true) true Try.f4.params.toList args.toList ds p := hA0
  rw [Try.params4] at hA hval hsz
  obtain ⟨v0, vs0, d0, ds0, p0, q0, hargs, rfl, rfl, h0, r0⟩ := trodAll_cons hA
  obtain ⟨v1, vs1, d1, ds1, p1, q1, rfl, rfl, rfl, h1, r1⟩ := trodAll_cons r0
  obtain ⟨rfl, rfl, rfl⟩ := trodAll_nil r1
  obtain rfl : args = #[v0, v1] := by cases args; simp_all
  obtain ⟨rfl, rfl⟩ := trodVars_none hV
  obtain ⟨cs0, rfl, hc0⟩ := okWide_struct Try.underlying28 (hval 0 28 v0 rfl rfl)
  obtain ⟨a1, rfl, rfl, rfl, w1⟩ := open_int Try.underlying3 (hval 1 3 v1 rfl rfl) h1
  have k0 := h0
  have lt0 : ∀ x ∈ p0, x.block < W.heap.size := by obtain ⟨m, hm⟩ := k0; exact DataW.trod_lt m _ _ _ hm
  obtain ⟨m, hm⟩ := h0
  obtain ⟨k, ⟨hk1, hk2⟩, hk3, hk4⟩ := rd_keep H enc 0 m (fun _ => true) _ d0 p0 hm (fun x hx => by
    have := List.all_eq_true.1 hsz x (by
      show x ∈ d0.weights Try.prog 28 ++ _
      exact List.mem_append_left _ hx)
    simpa using this)
  clear hA0 hval0 hsz0 hsz
  have wr : -9223372036854775808 ≤ a1 ∧ a1 ≤ 9223372036854775807 := by
    have w2 := w1
    simp [Lit.wf, IntKind.has, IntKind.min, IntKind.max, IntKind.bits, IntKind.signed] at w2
    omega
  refine (Pure.law (f := 4) (args := [kp k, I a1]) (vals := [.agg cs0, .int .i64 a1]) (p4 k a1 hk1 hk2 wr) rfl (fun j x v h1 h2 => ?_)).mono fun e W' ⟨he, bel⟩ => ?_
  · rcases j with _ | _ | j
    · cases h1; cases h2; exact agg_R (ts := kpc k) hk3 hk4
    · cases h1; cases h2; exact .sc _
    · cases h1
  · subst he
    exact ⟨_, rfl, _, _, _, [], _, [], hW', trodAll_mk1 (shut_bool Try.underlying4 _), (trodAll_cons_mk (Below.trod laidOut (by kernel_rfl) (of_decide_eq_true (by kernel_rfl)) k0 bel lt0) (trodAll_cons_mk (shut_int Try.underlying3 w1) trodAll_mk0)), rfl, bel.frame _, fun h => by cases h⟩

theorem over : Ytcjjklbonobepaa.Rows.fnExactTermAtRow.holds Ytcjjklbonobepaa.Try.pinned (OpenSpec.ofChange Ytcjjklbonobepaa.Rows.fnExactTermAtSpec) :=
  OpenClaim.holds_of_wide 4 Try.f4 rfl rfl rfl rfl rfl rfl rfl ⟨rfl, rfl, rfl, rfl, rfl⟩ rfl rfl rfl rfl rfl (by kernel_rfl) Try.func4 (by kernel_rfl)
    (of_decide_eq_true (by kernel_rfl)) (by unfold Func.isWrapper; first | (rw [if_pos (by decide +kernel)]; kernel_rfl) | (rw [if_neg (by decide +kernel)]; exact ⟨rfl, rfl⟩))
    (fun os started H enc _ => lifted os started H enc)
end Go.Proofs.LawsB
namespace Go.Proofs
/-- The law, as it is said. -/
theorem Ytcjjklbonobepaa.termAt_holds : Ytcjjklbonobepaa.Rows.FnExactTermAtSaid := LawsB.over
end Go.Proofs
