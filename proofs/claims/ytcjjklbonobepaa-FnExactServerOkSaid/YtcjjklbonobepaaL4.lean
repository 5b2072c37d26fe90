/- The law 'laws.FnExactServerOk' answers true at every input, and what it is handed reads behind the call as it read before. Conditions: none. -/
import Derived.Test.YtcjjklbonobepaaRows
import Derived.Test.YtcjjklbonobepaaA9
import Derived.Test.YtcjjklbonobepaaL1
import Derived.Test.YtcjjklbonobepaaVt
import Derived.WalkKit
import Derived.ProofKit
import Derived.OpenShut
import Derived.ShutString
import Derived.ChangeOld
import Derived.Below
import Derived.SizedLaws
set_option linter.unusedVariables false
set_option linter.unusedSimpArgs false
namespace Go.Proofs.LawsD
open Go.Proofs.LawsA
open Go Go.ChangeShapes Go.WideShapes Go.ChangeAt Go.RowKit VC Go.Proofs


section
variable {w : World}
def svt (s : Sv) : List Tr := [.sc (.int .i64 s.id), .sc (.int .i64 s.k.term), .sc (.int .i64 s.k.vote), .sc (.int .i64 s.k.base), .sc (.int .i64 s.k.baseTerm), .sl (s.k.now.map ic), .sl (s.k.next.map ic), .sl (s.k.snap.map bc), .sl (s.k.log.map ec), .sc (.int .i64 s.role), .sc (.int .i64 s.lead), .sc (.int .i64 s.commit), .sl (s.votes.map ic),
  .sc (.int .i64 (s.next 0)), .sc (.int .i64 (s.next 1)), .sc (.int .i64 (s.next 2)), .sc (.int .i64 (s.next 3)), .sc (.int .i64 (s.next 4)), .sc (.int .i64 (s.next 5)), .sc (.int .i64 (s.next 6)), .sc (.int .i64 (s.next 7)),
  .sc (.int .i64 (s.mat 0)), .sc (.int .i64 (s.mat 1)), .sc (.int .i64 (s.mat 2)), .sc (.int .i64 (s.mat 3)), .sc (.int .i64 (s.mat 4)), .sc (.int .i64 (s.mat 5)), .sc (.int .i64 (s.mat 6)), .sc (.int .i64 (s.mat 7)), .sc (.int .i64 s.elapsed), .sc (.int .i64 s.wait)]
def t8 (f : Nat → Int) : List Tr := [.sc (.int .i64 (f 0)), .sc (.int .i64 (f 1)), .sc (.int .i64 (f 2)), .sc (.int .i64 (f 3)), .sc (.int .i64 (f 4)), .sc (.int .i64 (f 5)), .sc (.int .i64 (f 6)), .sc (.int .i64 (f 7))]
theorem t8_of : ∀ (l : List Int), l.length = 8 → t8 (fun j => l.getD j 0) = (l.map ic).flatten
  | [a, b, c, d, e, f, g, h], _ => rfl
theorem rd_a8 : Rd Try.prog w 55 t8 (fun _ => True) :=
  (rd_array (w := w) Try.underlying55 (of_decide_eq_true (by kernel_rfl)) (by kernel_rfl) rd_n).map2 (fun l j => l.getD j 0) (fun l h => t8_of l h.1) (fun _ _ => trivial)
theorem rd_server : Rd Try.prog w 57 svt (fun s => s.small ∧ s.bytes) := by
  have h := rd_struct (w := w) Try.underlying57 (by kernel_rfl) (rds_cons (by kernel_rfl) rd_n (rds_cons (by kernel_rfl) rd_keep (rds_cons (by kernel_rfl) rd_n (rds_cons (by kernel_rfl) rd_n (rds_cons (by kernel_rfl) rd_n (rds_cons (by kernel_rfl) rd_ints (rds_cons (by kernel_rfl) rd_a8 (rds_cons (by kernel_rfl) rd_a8 (rds_cons (by kernel_rfl) rd_n (rds_cons (by kernel_rfl) rd_n rds_nil))))))))))
  refine h.map (fun p => ⟨p.1, p.2.1, p.2.2.1, p.2.2.2.1, p.2.2.2.2.1, p.2.2.2.2.2.1, p.2.2.2.2.2.2.1, p.2.2.2.2.2.2.2.1, p.2.2.2.2.2.2.2.2.1, p.2.2.2.2.2.2.2.2.2.1⟩) (fun _ => rfl) ?_
  rintro _ ⟨_, hk, _, _, _, hv, _⟩
  exact ⟨⟨hk.1, Nat.le_trans hv.1 (of_decide_eq_true (by kernel_rfl))⟩, hk.2⟩
end

set_option maxRecDepth 100000 in
theorem lifted (os : Os) (started : os.Started) (H : Type) (enc : TypeId × Value → H) :
    ReturnsInHanded {} Try.checked os 7 .any (Ytcjjklbonobepaa.Rows.fnExactServerOkSpec.pre6 enc Try.prog Try.f7 Ytcjjklbonobepaa.Rows.fnExactServerOkRow.domain false) (Ytcjjklbonobepaa.Rows.fnExactServerOkSpec.post enc Try.prog Try.f7 false true false false) := by
  refine returnsInHanded_of_change_sized (C := Try.checked) own started (by kernel_rfl) Try.func7
    (ChangeSpec.witness6 (enc := enc) (C := Try.checked) false ⟨#[], #[.agg #[.int .i64 0, .int .i64 0, .int .i64 0, .int .i64 0, .int .i64 0, .slice none 0 0, .slice none 0 0, .slice none 0 0, .slice none 0 0, .int .i64 0, .int .i64 0, .int .i64 0, .slice none 0 0, .int .i64 0, .int .i64 0, .int .i64 0, .int .i64 0, .int .i64 0, .int .i64 0, .int .i64 0, .int .i64 0, .int .i64 0, .int .i64 0, .int .i64 0, .int .i64 0, .int .i64 0, .int .i64 0, .int .i64 0, .int .i64 0, .int .i64 0, .int .i64 0]], []⟩ 8 (by kernel_rfl) (by kernel_rfl) (by kernel_rfl) (by kernel_rfl)) ?_
  intro W base args ds gs before hval0 hW hcnd hsz0 _
  have hsz : (DataW.weightsEach Try.prog (Try.f7.params.toList ++ Ytcjjklbonobepaa.Rows.fnExactServerOkSpec.plain.varTypes Try.prog) (ds ++ gs)).all (· ≤ reachBytes) = true := hsz0
  have hval : ∀ (j : Nat) t v, Try.f7.params[j]? = some t → args[j]? = some v → Value.okWide Try.prog W .any base t v := hval0
  have hW' := hW
  obtain ⟨p, q, hA0, hV, rfl, hfz, hnd⟩ := hW
  have hA : DataW.TrodAll enc Try.prog W 0 (fun _ => true) true Try.f7.params.toList args.toList ds p := hA0
  rw [Try.params7] at hA hval hsz
  obtain ⟨v0, vs0, d0, ds0, p0, q0, hargs, rfl, rfl, h0, r0⟩ := trodAll_cons hA
  obtain ⟨rfl, rfl, rfl⟩ := trodAll_nil r0
  obtain rfl : args = #[v0] := by cases args; simp_all
  obtain ⟨rfl, rfl⟩ := trodVars_none hV
  obtain ⟨cs0, rfl, hc0⟩ := okWide_struct Try.underlying57 (hval 0 57 v0 rfl rfl)
  have k0 := h0
  have lt0 : ∀ x ∈ p0, x.block < W.heap.size := by obtain ⟨m, hm⟩ := k0; exact DataW.trod_lt m _ _ _ hm
  obtain ⟨m, hm⟩ := h0
  obtain ⟨k, ⟨hk1, hk2⟩, hk3, hk4⟩ := rd_server H enc 0 m (fun _ => true) _ d0 p0 hm (fun x hx => by
    have := List.all_eq_true.1 hsz x (by
      show x ∈ d0.weights Try.prog 57 ++ _
      exact List.mem_append_left _ hx)
    simpa using this)
  clear hA0 hval0 hsz0 hsz
  refine (Pure.law (f := 7) (args := [sv k]) (vals := [.agg cs0]) (p7 k hk1 hk2) rfl (fun j x v h1 h2 => ?_)).mono fun e W' ⟨he, bel⟩ => ?_
  · cases j with
    | zero => cases h1; cases h2; exact agg_R (ts := svt k) hk3 hk4
    | succ j => cases h1
  · subst he
    exact ⟨_, rfl, _, _, _, [], _, [], hW', trodAll_mk1 (shut_bool Try.underlying4 _), (trodAll_cons_mk (Below.trod laidOut (by kernel_rfl) (of_decide_eq_true (by kernel_rfl)) k0 bel lt0) trodAll_mk0), rfl, bel.frame _, fun h => by cases h⟩

theorem over : Ytcjjklbonobepaa.Rows.fnExactServerOkRow.holds Ytcjjklbonobepaa.Try.pinned (OpenSpec.ofChange Ytcjjklbonobepaa.Rows.fnExactServerOkSpec) :=
  OpenClaim.holds_of_wide 7 Try.f7 rfl rfl rfl rfl rfl rfl rfl ⟨rfl, rfl, rfl, rfl, rfl⟩ rfl rfl rfl rfl rfl (by kernel_rfl) Try.func7 (by kernel_rfl)
    (of_decide_eq_true (by kernel_rfl)) (by unfold Func.isWrapper; first | (rw [if_pos (by decide +kernel)]; kernel_rfl) | (rw [if_neg (by decide +kernel)]; exact ⟨rfl, rfl⟩))
    (fun os started H enc _ => lifted os started H enc)
end Go.Proofs.LawsD
namespace Go.Proofs
/-- The law, as it is said. -/
theorem Ytcjjklbonobepaa.serverOk_holds : Ytcjjklbonobepaa.Rows.FnExactServerOkSaid := LawsD.over
end Go.Proofs
