/-
  No cell of these rows narrows 'for every input' (looked for: loops, veiled, ifaces, maps, wideKeys, modest, calm, conditions, laid).
  DERIVED. THE GIVEN ROWS OF THIS SEAT. 6 by the template 'for every input the law returns true; each argument reads behind the call as it read before'; 0 by the template 'total and deterministic' (their statements: YtcjjklbonobepaaTotals.lean).
  GIVEN WITH THE SEED: the statements are not yours to turn. If you find one false, say at which input.
  Laid BY PROGRAM, IN A SANDBOX (cutbox-rows.mjs): the forced cells as the released guide's own fill.sh prints them over the translation c57c7360100d2811… (all of the seat's roots in one cut). By AI agents, Wed Nov 11 2026. No macro, syntax, notation, axiom, sorry.
-/
import Derived.Test.YtcjjklbonobepaaChecked
import GoSem.Claim
import GoSem.ClaimJoined
import GoSem.ClaimMapViews
import Derived.JoinedTies
import Derived.KernelRfl
namespace Go.Proofs.Ytcjjklbonobepaa
/- THE CELL 'sum', in the pinned program and in every row, IS THE sha256 OF THE DUMP (.gsa) THAT YtcjjklbonobepaaProg.lean LOADS. Nothing in Lean hashes anything: it is a label: what it is worth is what the hold of that sum in a sandbox is worth. -/
noncomputable def Try.pinned : Pinned := { name := "ytcjjklbonobepaa", sum := "c57c7360100d2811a3de927e7123e23807868e8af13299d351c76aa1b591d64a", checked := Try.checked }
namespace Rows
def none {H : Type} : Left H := { results := [], args := [] }

/-- 'laws.FnExactLastEntry': WHATEVER THE INPUT: true; the input reads as it did. -/
def fnExactLastEntrySpec : ChangeSpec := { name := "fnExactLastEntry", fn := fun _ => fun
  | [d] => { results := [.lit (.bool true)], args := [d] }
  | _ => none }
def fnExactLastEntryRow : OpenClaim := { program := "ytcjjklbonobepaa", sum := "c57c7360100d2811a3de927e7123e23807868e8af13299d351c76aa1b591d64a", func := "loop.example/g00113/laws.FnExactLastEntry", spec := "fnExactLastEntry", apart := false }
def FnExactLastEntrySaid : Prop := fnExactLastEntryRow.holds Try.pinned (OpenSpec.ofChange fnExactLastEntrySpec)

/-- ITS FALSE NEIGHBOUR: 'it returns false'. Refute it at one input. -/
def fnExactLastEntryWrong : ChangeSpec := { name := "fnExactLastEntry", fn := fun _ => fun
  | [d] => { results := [.lit (.bool false)], args := [d] }
  | _ => none }
def FnExactLastEntryWrongFalsely : Prop := fnExactLastEntryRow.holds Try.pinned (OpenSpec.ofChange fnExactLastEntryWrong)

/-- 'laws.FnExactTermAt': WHATEVER THE INPUT: true; the input reads as it did. -/
def fnExactTermAtSpec : ChangeSpec := { name := "fnExactTermAt", fn := fun _ => fun
  | [d1, d2] => { results := [.lit (.bool true)], args := [d1, d2] }
  | _ => none }
def fnExactTermAtRow : OpenClaim := { program := "ytcjjklbonobepaa", sum := "c57c7360100d2811a3de927e7123e23807868e8af13299d351c76aa1b591d64a", func := "loop.example/g00113/laws.FnExactTermAt", spec := "fnExactTermAt", apart := false }
def FnExactTermAtSaid : Prop := fnExactTermAtRow.holds Try.pinned (OpenSpec.ofChange fnExactTermAtSpec)

/-- ITS FALSE NEIGHBOUR: 'it returns false'. Refute it at one input. -/
def fnExactTermAtWrong : ChangeSpec := { name := "fnExactTermAt", fn := fun _ => fun
  | [d1, d2] => { results := [.lit (.bool false)], args := [d1, d2] }
  | _ => none }
def FnExactTermAtWrongFalsely : Prop := fnExactTermAtRow.holds Try.pinned (OpenSpec.ofChange fnExactTermAtWrong)

/-- 'laws.FnExactMsgOk': WHATEVER THE INPUT: true; the input reads as it did. -/
def fnExactMsgOkSpec : ChangeSpec := { name := "fnExactMsgOk", fn := fun _ => fun
  | [d] => { results := [.lit (.bool true)], args := [d] }
  | _ => none }
def fnExactMsgOkRow : OpenClaim := { program := "ytcjjklbonobepaa", sum := "c57c7360100d2811a3de927e7123e23807868e8af13299d351c76aa1b591d64a", func := "loop.example/g00113/laws.FnExactMsgOk", spec := "fnExactMsgOk", apart := false }
def FnExactMsgOkSaid : Prop := fnExactMsgOkRow.holds Try.pinned (OpenSpec.ofChange fnExactMsgOkSpec)

/-- ITS FALSE NEIGHBOUR: 'it returns false'. Refute it at one input. -/
def fnExactMsgOkWrong : ChangeSpec := { name := "fnExactMsgOk", fn := fun _ => fun
  | [d] => { results := [.lit (.bool false)], args := [d] }
  | _ => none }
def FnExactMsgOkWrongFalsely : Prop := fnExactMsgOkRow.holds Try.pinned (OpenSpec.ofChange fnExactMsgOkWrong)

/-- 'laws.FnExactGroupOf': WHATEVER THE INPUT: true; the input reads as it did. -/
def fnExactGroupOfSpec : ChangeSpec := { name := "fnExactGroupOf", fn := fun _ => fun
  | [d] => { results := [.lit (.bool true)], args := [d] }
  | _ => none }
def fnExactGroupOfRow : OpenClaim := { program := "ytcjjklbonobepaa", sum := "c57c7360100d2811a3de927e7123e23807868e8af13299d351c76aa1b591d64a", func := "loop.example/g00113/laws.FnExactGroupOf", spec := "fnExactGroupOf", apart := false }
def FnExactGroupOfSaid : Prop := fnExactGroupOfRow.holds Try.pinned (OpenSpec.ofChange fnExactGroupOfSpec)

/-- ITS FALSE NEIGHBOUR: 'it returns false'. Refute it at one input. -/
def fnExactGroupOfWrong : ChangeSpec := { name := "fnExactGroupOf", fn := fun _ => fun
  | [d] => { results := [.lit (.bool false)], args := [d] }
  | _ => none }
def FnExactGroupOfWrongFalsely : Prop := fnExactGroupOfRow.holds Try.pinned (OpenSpec.ofChange fnExactGroupOfWrong)

/-- 'laws.FnExactServerOk': WHATEVER THE INPUT: true; the input reads as it did. -/
def fnExactServerOkSpec : ChangeSpec := { name := "fnExactServerOk", fn := fun _ => fun
  | [d] => { results := [.lit (.bool true)], args := [d] }
  | _ => none }
def fnExactServerOkRow : OpenClaim := { program := "ytcjjklbonobepaa", sum := "c57c7360100d2811a3de927e7123e23807868e8af13299d351c76aa1b591d64a", func := "loop.example/g00113/laws.FnExactServerOk", spec := "fnExactServerOk", apart := false }
def FnExactServerOkSaid : Prop := fnExactServerOkRow.holds Try.pinned (OpenSpec.ofChange fnExactServerOkSpec)

/-- ITS FALSE NEIGHBOUR: 'it returns false'. Refute it at one input. -/
def fnExactServerOkWrong : ChangeSpec := { name := "fnExactServerOk", fn := fun _ => fun
  | [d] => { results := [.lit (.bool false)], args := [d] }
  | _ => none }
def FnExactServerOkWrongFalsely : Prop := fnExactServerOkRow.holds Try.pinned (OpenSpec.ofChange fnExactServerOkWrong)

/-- 'laws.FnExactRestart': WHATEVER THE INPUT: true; the input reads as it did. -/
def fnExactRestartSpec : ChangeSpec := { name := "fnExactRestart", fn := fun _ => fun
  | [d1, d2] => { results := [.lit (.bool true)], args := [d1, d2] }
  | _ => none }
def fnExactRestartRow : OpenClaim := { program := "ytcjjklbonobepaa", sum := "c57c7360100d2811a3de927e7123e23807868e8af13299d351c76aa1b591d64a", func := "loop.example/g00113/laws.FnExactRestart", spec := "fnExactRestart", apart := false }
def FnExactRestartSaid : Prop := fnExactRestartRow.holds Try.pinned (OpenSpec.ofChange fnExactRestartSpec)

/-- ITS FALSE NEIGHBOUR: 'it returns false'. Refute it at one input. -/
def fnExactRestartWrong : ChangeSpec := { name := "fnExactRestart", fn := fun _ => fun
  | [d1, d2] => { results := [.lit (.bool false)], args := [d1, d2] }
  | _ => none }
def FnExactRestartWrongFalsely : Prop := fnExactRestartRow.holds Try.pinned (OpenSpec.ofChange fnExactRestartWrong)

/- THE SECOND FORM. 'bulk': how many values and letters a reading holds, each counted each time it is reached (what is shared counts as often as it is met; a slice's spare places count too). A statement '..UptoSaid' is the law's where the arguments, and the package variables that the reading takes, are together of bulk at most 1048576: NARROWER than '..Said'. Prove '..Said' where nothing that the law and all that it calls make is longer than what came in: it says more and counts as full. Else prove '..UptoSaid'. A law counts once. -/
mutual
def uptoBulk {H : Type} : DataW H → Nat
  | .lit (.string bytes) => bytes.length + 1
  | .lit _ => 1
  | .nil => 1
  | .ptr d => uptoBulk d + 1
  | .slice elems spare => uptoBulkAll elems + uptoBulkAll spare + 1
  | .agg parts => uptoBulkAll parts + 1
  | .iface _ d => uptoBulk d + 1
  | .map entries => uptoBulkEntries entries + 1
  | .held _ => 1
def uptoBulkAll {H : Type} : List (DataW H) → Nat
  | [] => 0
  | d :: r => uptoBulk d + uptoBulkAll r
def uptoBulkEntries {H : Type} : List (Lit × DataW H) → Nat
  | [] => 0
  | x :: r => uptoBulkEntry x + uptoBulkEntries r
def uptoBulkEntry {H : Type} : Lit × DataW H → Nat
  | (.string bytes, d) => bytes.length + uptoBulk d + 1
  | (_, d) => uptoBulk d + 1
 end
def uptoSmall : (H : Type) → List (DataW H) → Bool := fun _ ds => decide (uptoBulkAll ds ≤ 1048576)
def OpenSpec.upto (s : _root_.Go.ChangeSpec) : _root_.Go.OpenSpec := { _root_.Go.OpenSpec.ofChange s with cond := some uptoSmall }

/-- 'laws.FnExactLastEntry', WHERE WHAT IT READS IS OF BULK AT MOST 1048576: true; the input reads as it did. -/
def fnExactLastEntryUptoRow : OpenClaim := { program := "ytcjjklbonobepaa", sum := "c57c7360100d2811a3de927e7123e23807868e8af13299d351c76aa1b591d64a", func := "loop.example/g00113/laws.FnExactLastEntry", spec := "fnExactLastEntry", apart := false, narrowed := true }
def FnExactLastEntryUptoSaid : Prop := fnExactLastEntryUptoRow.holds Try.pinned (OpenSpec.upto fnExactLastEntrySpec)

/-- 'laws.FnExactTermAt', WHERE WHAT IT READS IS OF BULK AT MOST 1048576: true; the input reads as it did. -/
def fnExactTermAtUptoRow : OpenClaim := { program := "ytcjjklbonobepaa", sum := "c57c7360100d2811a3de927e7123e23807868e8af13299d351c76aa1b591d64a", func := "loop.example/g00113/laws.FnExactTermAt", spec := "fnExactTermAt", apart := false, narrowed := true }
def FnExactTermAtUptoSaid : Prop := fnExactTermAtUptoRow.holds Try.pinned (OpenSpec.upto fnExactTermAtSpec)

/-- 'laws.FnExactMsgOk', WHERE WHAT IT READS IS OF BULK AT MOST 1048576: true; the input reads as it did. -/
def fnExactMsgOkUptoRow : OpenClaim := { program := "ytcjjklbonobepaa", sum := "c57c7360100d2811a3de927e7123e23807868e8af13299d351c76aa1b591d64a", func := "loop.example/g00113/laws.FnExactMsgOk", spec := "fnExactMsgOk", apart := false, narrowed := true }
def FnExactMsgOkUptoSaid : Prop := fnExactMsgOkUptoRow.holds Try.pinned (OpenSpec.upto fnExactMsgOkSpec)

/-- 'laws.FnExactGroupOf', WHERE WHAT IT READS IS OF BULK AT MOST 1048576: true; the input reads as it did. -/
def fnExactGroupOfUptoRow : OpenClaim := { program := "ytcjjklbonobepaa", sum := "c57c7360100d2811a3de927e7123e23807868e8af13299d351c76aa1b591d64a", func := "loop.example/g00113/laws.FnExactGroupOf", spec := "fnExactGroupOf", apart := false, narrowed := true }
def FnExactGroupOfUptoSaid : Prop := fnExactGroupOfUptoRow.holds Try.pinned (OpenSpec.upto fnExactGroupOfSpec)

/-- 'laws.FnExactServerOk', WHERE WHAT IT READS IS OF BULK AT MOST 1048576: true; the input reads as it did. -/
def fnExactServerOkUptoRow : OpenClaim := { program := "ytcjjklbonobepaa", sum := "c57c7360100d2811a3de927e7123e23807868e8af13299d351c76aa1b591d64a", func := "loop.example/g00113/laws.FnExactServerOk", spec := "fnExactServerOk", apart := false, narrowed := true }
def FnExactServerOkUptoSaid : Prop := fnExactServerOkUptoRow.holds Try.pinned (OpenSpec.upto fnExactServerOkSpec)

/-- 'laws.FnExactRestart', WHERE WHAT IT READS IS OF BULK AT MOST 1048576: true; the input reads as it did. -/
def fnExactRestartUptoRow : OpenClaim := { program := "ytcjjklbonobepaa", sum := "c57c7360100d2811a3de927e7123e23807868e8af13299d351c76aa1b591d64a", func := "loop.example/g00113/laws.FnExactRestart", spec := "fnExactRestart", apart := false, narrowed := true }
def FnExactRestartUptoSaid : Prop := fnExactRestartUptoRow.holds Try.pinned (OpenSpec.upto fnExactRestartSpec)

end Rows
end Go.Proofs.Ytcjjklbonobepaa
