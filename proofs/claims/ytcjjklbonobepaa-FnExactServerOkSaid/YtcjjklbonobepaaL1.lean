/- The law 'laws.FnExactLastEntry' answers true at every input, and what it is handed reads behind the call as it read before. Conditions: none. -/
import Derived.Test.YtcjjklbonobepaaRows
import Derived.Test.YtcjjklbonobepaaA3
import Derived.Test.YtcjjklbonobepaaVs
import Derived.WalkKit
import Derived.ProofKit
import Derived.OpenShut
import Derived.ShutString
import Derived.ChangeOld
import Derived.Below
import Derived.SizedLaws
set_option linter.unusedVariables false
set_option linter.unusedSimpArgs false
namespace Go.Proofs.LawsA
open Go Go.ChangeShapes Go.WideShapes Go.ChangeAt Go.RowKit VC Go.Proofs

theorem own : ownKnob Try.prog.godebug = none := by kernel_rfl
theorem laidOut : laidOutB Try.prog = true := by kernel_rfl

section
variable {w : World}
def kpc (k : Kp) : List Tr := [.sc (.int .i64 k.term), .sc (.int .i64 k.vote), .sc (.int .i64 k.base), .sc (.int .i64 k.baseTerm), .sl (k.now.map ic), .sl (k.next.map ic), .sl (k.snap.map bc), .sl (k.log.map ec)]
theorem rd_n : Rd Try.prog w 3 ic (fun n => (Lit.int .i64 n).wf = true) := rd_int Try.underlying3
theorem rd_b : Rd Try.prog w 5 bc (fun n => (Lit.int .u8 n).wf = true) := rd_int Try.underlying5
theorem rd_ints : Rd Try.prog w 22 (fun l : List Int => [.sl (l.map ic)]) (fun l : List Int => l.length ≤ reachBytes ∧ ∀ a ∈ l, (Lit.int .i64 a).wf = true) := rd_slice Try.underlying22 (of_decide_eq_true (by kernel_rfl)) (of_decide_eq_true (by kernel_rfl)) rd_n
theorem rd_bytes : Rd Try.prog w 25 (fun l : List Int => [.sl (l.map bc)]) (fun l : List Int => l.length ≤ reachBytes ∧ ∀ a ∈ l, (Lit.int .u8 a).wf = true) := rd_slice Try.underlying25 (of_decide_eq_true (by kernel_rfl)) (of_decide_eq_true (by kernel_rfl)) rd_b
theorem wf_byte {a : Int} (h : (Lit.int .u8 a).wf = true) : 0 ≤ a ∧ a ≤ 255 := by
  simp [Lit.wf, IntKind.has, IntKind.min, IntKind.max, IntKind.bits, IntKind.signed] at h
  omega
theorem rd_ent : Rd Try.prog w 98 ec (fun e => e.data.length ≤ reachBytes ∧ bytes e.data) := by
  have h := rd_struct (w := w) Try.underlying98 (by kernel_rfl) (rds_cons (by kernel_rfl) rd_n (rds_cons (by kernel_rfl) rd_n (rds_cons (by kernel_rfl) rd_bytes rds_nil)))
  exact h.map
    (fun p => ⟨p.1, p.2.1, p.2.2.1⟩) (fun _ => rfl) (fun _ h => ⟨h.2.2.1.1, fun x hx => wf_byte (h.2.2.1.2 x hx)⟩)
theorem rd_ents : Rd Try.prog w 26 (fun l : List Ent => [.sl (l.map ec)]) (fun l : List Ent => l.length ≤ reachBytes ∧ ∀ a ∈ l, a.data.length ≤ reachBytes ∧ bytes a.data) := rd_slice Try.underlying26 (of_decide_eq_true (by kernel_rfl)) (of_decide_eq_true (by kernel_rfl)) rd_ent
def gc (p : List Int × List Int) : List Tr := [.sl (p.1.map ic), .sl (p.2.map ic)]
theorem rd_grp : Rd Try.prog w 24 gc (fun p => p.1.length ≤ reachBytes ∧ p.2.length ≤ reachBytes) := by
  have h := rd_struct (w := w) Try.underlying24 (by kernel_rfl) (rds_cons (by kernel_rfl) rd_ints (rds_cons (by kernel_rfl) rd_ints rds_nil))
  exact h.map
    (fun p => (p.1, p.2.1)) (fun _ => rfl) (fun _ h => ⟨h.1.1, h.2.1.1⟩)
theorem rd_keep : Rd Try.prog w 28 kpc (fun k => k.small ∧ k.bytes) := by
  have h := rd_struct (w := w) Try.underlying28 (by kernel_rfl) (rds_cons (by kernel_rfl) rd_n (rds_cons (by kernel_rfl) rd_n (rds_cons (by kernel_rfl) rd_n (rds_cons (by kernel_rfl) rd_n (rds_cons (by kernel_rfl) rd_grp (rds_cons (by kernel_rfl) rd_bytes (rds_cons (by kernel_rfl) rd_ents rds_nil)))))))
  exact h.map
    (fun p => ⟨p.1, p.2.1, p.2.2.1, p.2.2.2.1, p.2.2.2.2.1.1, p.2.2.2.2.1.2, p.2.2.2.2.2.1, p.2.2.2.2.2.2.1⟩) (fun _ => rfl)
    (fun _ h => ⟨⟨Nat.le_trans h.2.2.2.2.1.1 (of_decide_eq_true (by kernel_rfl)), Nat.le_trans h.2.2.2.2.1.2 (of_decide_eq_true (by kernel_rfl)), Nat.le_trans h.2.2.2.2.2.1.1 (of_decide_eq_true (by kernel_rfl)), Nat.le_trans h.2.2.2.2.2.2.1.1 (of_decide_eq_true (by kernel_rfl)), fun e he => Nat.le_trans (h.2.2.2.2.2.2.1.2 e he).1 (of_decide_eq_true (by kernel_rfl))⟩, fun e he => (h.2.2.2.2.2.2.1.2 e he).2⟩)
end

set_option maxRecDepth 100000 in
theorem lifted (os : Os) (started : os.Started) (H : Type) (enc : TypeId × Value → H) :
    ReturnsInHanded {} Try.checked os 3 .any (Ytcjjklbonobepaa.Rows.fnExactLastEntrySpec.pre6 enc Try.prog Try.f3 Ytcjjklbonobepaa.Rows.fnExactLastEntryRow.domain false) (Ytcjjklbonobepaa.Rows.fnExactLastEntrySpec.post enc Try.prog Try.f3 false true false false) := by
  refine returnsInHanded_of_change_sized (C := Try.checked) own started (by kernel_rfl) Try.func3
    (ChangeSpec.witness6 (enc := enc) (C := Try.checked) false ⟨#[], #[.agg #[.int .i64 0, .int .i64 0, .int .i64 0, .int .i64 0, .slice none 0 0, .slice none 0 0, .slice none 0 0, .slice none 0 0]], []⟩ 8 (by kernel_rfl) (by kernel_rfl) (by kernel_rfl) (by kernel_rfl)) ?_
  intro W base args ds gs before hval0 hW hcnd hsz0 _
  have hsz : (DataW.weightsEach Try.prog (Try.f3.params.toList ++ Ytcjjklbonobepaa.Rows.fnExactLastEntrySpec.plain.varTypes Try.prog) (ds ++ gs)).all (· ≤ reachBytes) = true := hsz0
  have hval : ∀ (j : Nat) t v, Try.f3.params[j]? = some t → args[j]? = some v → Value.okWide Try.prog W .any base t v := hval0
  have hW' := hW
  obtain ⟨p, q, hA0, hV, rfl, hfz, hnd⟩ := hW
  have hA : DataW.TrodAll enc Try.prog W 0 (fun _ => true) true Try.f3.params.toList args.toList ds p := hA0
  rw [Try.params3] at hA hval hsz
  obtain ⟨v0, vs0, d0, ds0, p0, q0, hargs, rfl, rfl, h0, r0⟩ := trodAll_cons hA
  obtain ⟨rfl, rfl, rfl⟩ := trodAll_nil r0
  obtain rfl : args = #[v0] := by cases args; simp_all
  obtain ⟨rfl, rfl⟩ := trodVars_none hV
  obtain ⟨cs0, rfl, hc0⟩ := okWide_struct Try.underlying28 (hval 0 28 v0 rfl rfl)
  have k0 := h0
  have lt0 : ∀ x ∈ p0, x.block < W.heap.size := by obtain ⟨m, hm⟩ := k0; exact DataW.trod_lt m _ _ _ hm
  obtain ⟨m, hm⟩ := h0
  obtain ⟨k, ⟨hk1, hk2⟩, hk3, hk4⟩ := rd_keep H enc 0 m (fun _ => true) _ d0 p0 hm (fun x hx => by
    have := List.all_eq_true.1 hsz x (by
      show x ∈ d0.weights Try.prog 28 ++ _
      exact List.mem_append_left _ hx)
    simpa using this)
  clear hA0 hval0 hsz0 hsz
  refine (Pure.law (f := 3) (args := [kp k]) (vals := [.agg cs0]) (p3 k hk1 hk2) rfl (fun j x v h1 h2 => ?_)).mono fun e W' ⟨he, bel⟩ => ?_
  · cases j with
    | zero => cases h1; cases h2; exact agg_R (ts := kpc k) hk3 hk4
    | succ j => cases h1
  · subst he
    exact ⟨_, rfl, _, _, _, [], _, [], hW', trodAll_mk1 (shut_bool Try.underlying4 _), (trodAll_cons_mk (Below.trod laidOut (by kernel_rfl) (of_decide_eq_true (by kernel_rfl)) k0 bel lt0) trodAll_mk0), rfl, bel.frame _, fun h => by cases h⟩

theorem over : Ytcjjklbonobepaa.Rows.fnExactLastEntryRow.holds Ytcjjklbonobepaa.Try.pinned (OpenSpec.ofChange Ytcjjklbonobepaa.Rows.fnExactLastEntrySpec) :=
  OpenClaim.holds_of_wide 3 Try.f3 rfl rfl rfl rfl rfl rfl rfl ⟨rfl, rfl, rfl, rfl, rfl⟩ rfl rfl rfl rfl rfl (by kernel_rfl) Try.func3 (by kernel_rfl)
    (of_decide_eq_true (by kernel_rfl)) (by unfold Func.isWrapper; first | (rw [if_pos (by decide +kernel)]; kernel_rfl) | (rw [if_neg (by decide +kernel)]; exact ⟨rfl, rfl⟩))
    (fun os started H enc _ => lifted os started H enc)
end Go.Proofs.LawsA
namespace Go.Proofs
/-- The law, as it is said. -/
theorem Ytcjjklbonobepaa.lastEntry_holds : Ytcjjklbonobepaa.Rows.FnExactLastEntrySaid := LawsA.over
end Go.Proofs
