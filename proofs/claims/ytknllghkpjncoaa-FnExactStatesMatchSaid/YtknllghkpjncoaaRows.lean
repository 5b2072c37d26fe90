/-
  No cell of these rows narrows 'for every input' (looked for: loops, veiled, ifaces, maps, wideKeys, modest, calm, conditions, laid).
  DERIVED. THE GIVEN ROWS OF THIS SEAT. 5 by the template 'for every input the law returns true; each argument reads behind the call as it read before'; 0 by the template 'total and deterministic' (their statements: YtknllghkpjncoaaTotals.lean).
  GIVEN WITH THE SEED: the statements are not yours to turn. If you find one false, say at which input.
  Laid BY PROGRAM, IN A SANDBOX (cutbox-rows.mjs): the forced cells as the released guide's own fill.sh prints them over the translation 77ac7aad8f2506b1… (all of the seat's roots in one cut). By AI agents, Wed Nov 11 2026. No macro, syntax, notation, axiom, sorry.
-/
import Derived.Test.YtknllghkpjncoaaChecked
import GoSem.Claim
import GoSem.ClaimJoined
import GoSem.ClaimMapViews
import Derived.JoinedTies
import Derived.KernelRfl
namespace Go.Proofs.Ytknllghkpjncoaa
/- THE CELL 'sum', in the pinned program and in every row, IS THE sha256 OF THE DUMP (.gsa) THAT YtknllghkpjncoaaProg.lean LOADS. Nothing in Lean hashes anything: it is a label: what it is worth is what the hold of that sum in a sandbox is worth. -/
noncomputable def Try.pinned : Pinned := { name := "ytknllghkpjncoaa", sum := "77ac7aad8f2506b1f16d0b63379e54927f196ea972c552f9cfe8d45a1a03b3f4", checked := Try.checked }
namespace Rows
def none {H : Type} : Left H := { results := [], args := [] }

/-- 'laws.FnExactAhead': WHATEVER THE INPUT: true; the input reads as it did. -/
def fnExactAheadSpec : ChangeSpec := { name := "fnExactAhead", fn := fun _ => fun
  | [d] => { results := [.lit (.bool true)], args := [d] }
  | _ => none }
def fnExactAheadRow : OpenClaim := { program := "ytknllghkpjncoaa", sum := "77ac7aad8f2506b1f16d0b63379e54927f196ea972c552f9cfe8d45a1a03b3f4", func := "loop.example/g00113/laws.FnExactAhead", spec := "fnExactAhead", apart := false }
def FnExactAheadSaid : Prop := fnExactAheadRow.holds Try.pinned (OpenSpec.ofChange fnExactAheadSpec)

/-- ITS FALSE NEIGHBOUR: 'it returns false'. Refute it at one input. -/
def fnExactAheadWrong : ChangeSpec := { name := "fnExactAhead", fn := fun _ => fun
  | [d] => { results := [.lit (.bool false)], args := [d] }
  | _ => none }
def FnExactAheadWrongFalsely : Prop := fnExactAheadRow.holds Try.pinned (OpenSpec.ofChange fnExactAheadWrong)

/-- 'laws.FnExactChief': WHATEVER THE INPUT: true; the input reads as it did. -/
def fnExactChiefSpec : ChangeSpec := { name := "fnExactChief", fn := fun _ => fun
  | [d] => { results := [.lit (.bool true)], args := [d] }
  | _ => none }
def fnExactChiefRow : OpenClaim := { program := "ytknllghkpjncoaa", sum := "77ac7aad8f2506b1f16d0b63379e54927f196ea972c552f9cfe8d45a1a03b3f4", func := "loop.example/g00113/laws.FnExactChief", spec := "fnExactChief", apart := false }
def FnExactChiefSaid : Prop := fnExactChiefRow.holds Try.pinned (OpenSpec.ofChange fnExactChiefSpec)

/-- ITS FALSE NEIGHBOUR: 'it returns false'. Refute it at one input. -/
def fnExactChiefWrong : ChangeSpec := { name := "fnExactChief", fn := fun _ => fun
  | [d] => { results := [.lit (.bool false)], args := [d] }
  | _ => none }
def FnExactChiefWrongFalsely : Prop := fnExactChiefRow.holds Try.pinned (OpenSpec.ofChange fnExactChiefWrong)

/-- 'laws.FnExactOneLeader': WHATEVER THE INPUT: true; the input reads as it did. -/
def fnExactOneLeaderSpec : ChangeSpec := { name := "fnExactOneLeader", fn := fun _ => fun
  | [d] => { results := [.lit (.bool true)], args := [d] }
  | _ => none }
def fnExactOneLeaderRow : OpenClaim := { program := "ytknllghkpjncoaa", sum := "77ac7aad8f2506b1f16d0b63379e54927f196ea972c552f9cfe8d45a1a03b3f4", func := "loop.example/g00113/laws.FnExactOneLeader", spec := "fnExactOneLeader", apart := false }
def FnExactOneLeaderSaid : Prop := fnExactOneLeaderRow.holds Try.pinned (OpenSpec.ofChange fnExactOneLeaderSpec)

/-- ITS FALSE NEIGHBOUR: 'it returns false'. Refute it at one input. -/
def fnExactOneLeaderWrong : ChangeSpec := { name := "fnExactOneLeader", fn := fun _ => fun
  | [d] => { results := [.lit (.bool false)], args := [d] }
  | _ => none }
def FnExactOneLeaderWrongFalsely : Prop := fnExactOneLeaderRow.holds Try.pinned (OpenSpec.ofChange fnExactOneLeaderWrong)

/-- 'laws.FnExactStatesMatch': WHATEVER THE INPUT: true; the input reads as it did. -/
def fnExactStatesMatchSpec : ChangeSpec := { name := "fnExactStatesMatch", fn := fun _ => fun
  | [d] => { results := [.lit (.bool true)], args := [d] }
  | _ => none }
def fnExactStatesMatchRow : OpenClaim := { program := "ytknllghkpjncoaa", sum := "77ac7aad8f2506b1f16d0b63379e54927f196ea972c552f9cfe8d45a1a03b3f4", func := "loop.example/g00113/laws.FnExactStatesMatch", spec := "fnExactStatesMatch", apart := false }
def FnExactStatesMatchSaid : Prop := fnExactStatesMatchRow.holds Try.pinned (OpenSpec.ofChange fnExactStatesMatchSpec)

/-- ITS FALSE NEIGHBOUR: 'it returns false'. Refute it at one input. -/
def fnExactStatesMatchWrong : ChangeSpec := { name := "fnExactStatesMatch", fn := fun _ => fun
  | [d] => { results := [.lit (.bool false)], args := [d] }
  | _ => none }
def FnExactStatesMatchWrongFalsely : Prop := fnExactStatesMatchRow.holds Try.pinned (OpenSpec.ofChange fnExactStatesMatchWrong)

/-- 'laws.FnExactLogsMatch': WHATEVER THE INPUT: true; the input reads as it did. -/
def fnExactLogsMatchSpec : ChangeSpec := { name := "fnExactLogsMatch", fn := fun _ => fun
  | [d] => { results := [.lit (.bool true)], args := [d] }
  | _ => none }
def fnExactLogsMatchRow : OpenClaim := { program := "ytknllghkpjncoaa", sum := "77ac7aad8f2506b1f16d0b63379e54927f196ea972c552f9cfe8d45a1a03b3f4", func := "loop.example/g00113/laws.FnExactLogsMatch", spec := "fnExactLogsMatch", apart := false }
def FnExactLogsMatchSaid : Prop := fnExactLogsMatchRow.holds Try.pinned (OpenSpec.ofChange fnExactLogsMatchSpec)

/-- ITS FALSE NEIGHBOUR: 'it returns false'. Refute it at one input. -/
def fnExactLogsMatchWrong : ChangeSpec := { name := "fnExactLogsMatch", fn := fun _ => fun
  | [d] => { results := [.lit (.bool false)], args := [d] }
  | _ => none }
def FnExactLogsMatchWrongFalsely : Prop := fnExactLogsMatchRow.holds Try.pinned (OpenSpec.ofChange fnExactLogsMatchWrong)

/- THE SECOND FORM. 'bulk': how many values and letters a reading holds, each counted each time it is reached (what is shared counts as often as it is met; a slice's spare places count too). A statement '..UptoSaid' is the law's where the arguments, and the package variables that the reading takes, are together of bulk at most 1048576: NARROWER than '..Said'. Prove '..Said' where nothing that the law and all that it calls make is longer than what came in: it says more and counts as full. Else prove '..UptoSaid'. A law counts once. -/
mutual
def uptoBulk {H : Type} : DataW H → Nat
  | .lit (.string bytes) => bytes.length + 1
  | .lit _ => 1
  | .nil => 1
  | .ptr d => uptoBulk d + 1
  | .slice elems spare => uptoBulkAll elems + uptoBulkAll spare + 1
  | .agg parts => uptoBulkAll parts + 1
  | .iface _ d => uptoBulk d + 1
  | .map entries => uptoBulkEntries entries + 1
  | .held _ => 1
def uptoBulkAll {H : Type} : List (DataW H) → Nat
  | [] => 0
  | d :: r => uptoBulk d + uptoBulkAll r
def uptoBulkEntries {H : Type} : List (Lit × DataW H) → Nat
  | [] => 0
  | x :: r => uptoBulkEntry x + uptoBulkEntries r
def uptoBulkEntry {H : Type} : Lit × DataW H → Nat
  | (.string bytes, d) => bytes.length + uptoBulk d + 1
  | (_, d) => uptoBulk d + 1
 end
def uptoSmall : (H : Type) → List (DataW H) → Bool := fun _ ds => decide (uptoBulkAll ds ≤ 1048576)
def OpenSpec.upto (s : _root_.Go.ChangeSpec) : _root_.Go.OpenSpec := { _root_.Go.OpenSpec.ofChange s with cond := some uptoSmall }

/-- 'laws.FnExactAhead', WHERE WHAT IT READS IS OF BULK AT MOST 1048576: true; the input reads as it did. -/
def fnExactAheadUptoRow : OpenClaim := { program := "ytknllghkpjncoaa", sum := "77ac7aad8f2506b1f16d0b63379e54927f196ea972c552f9cfe8d45a1a03b3f4", func := "loop.example/g00113/laws.FnExactAhead", spec := "fnExactAhead", apart := false, narrowed := true }
def FnExactAheadUptoSaid : Prop := fnExactAheadUptoRow.holds Try.pinned (OpenSpec.upto fnExactAheadSpec)

/-- 'laws.FnExactChief', WHERE WHAT IT READS IS OF BULK AT MOST 1048576: true; the input reads as it did. -/
def fnExactChiefUptoRow : OpenClaim := { program := "ytknllghkpjncoaa", sum := "77ac7aad8f2506b1f16d0b63379e54927f196ea972c552f9cfe8d45a1a03b3f4", func := "loop.example/g00113/laws.FnExactChief", spec := "fnExactChief", apart := false, narrowed := true }
def FnExactChiefUptoSaid : Prop := fnExactChiefUptoRow.holds Try.pinned (OpenSpec.upto fnExactChiefSpec)

/-- 'laws.FnExactOneLeader', WHERE WHAT IT READS IS OF BULK AT MOST 1048576: true; the input reads as it did. -/
def fnExactOneLeaderUptoRow : OpenClaim := { program := "ytknllghkpjncoaa", sum := "77ac7aad8f2506b1f16d0b63379e54927f196ea972c552f9cfe8d45a1a03b3f4", func := "loop.example/g00113/laws.FnExactOneLeader", spec := "fnExactOneLeader", apart := false, narrowed := true }
def FnExactOneLeaderUptoSaid : Prop := fnExactOneLeaderUptoRow.holds Try.pinned (OpenSpec.upto fnExactOneLeaderSpec)

/-- 'laws.FnExactStatesMatch', WHERE WHAT IT READS IS OF BULK AT MOST 1048576: true; the input reads as it did. -/
def fnExactStatesMatchUptoRow : OpenClaim := { program := "ytknllghkpjncoaa", sum := "77ac7aad8f2506b1f16d0b63379e54927f196ea972c552f9cfe8d45a1a03b3f4", func := "loop.example/g00113/laws.FnExactStatesMatch", spec := "fnExactStatesMatch", apart := false, narrowed := true }
def FnExactStatesMatchUptoSaid : Prop := fnExactStatesMatchUptoRow.holds Try.pinned (OpenSpec.upto fnExactStatesMatchSpec)

/-- 'laws.FnExactLogsMatch', WHERE WHAT IT READS IS OF BULK AT MOST 1048576: true; the input reads as it did. -/
def fnExactLogsMatchUptoRow : OpenClaim := { program := "ytknllghkpjncoaa", sum := "77ac7aad8f2506b1f16d0b63379e54927f196ea972c552f9cfe8d45a1a03b3f4", func := "loop.example/g00113/laws.FnExactLogsMatch", spec := "fnExactLogsMatch", apart := false, narrowed := true }
def FnExactLogsMatchUptoSaid : Prop := fnExactLogsMatchUptoRow.holds Try.pinned (OpenSpec.upto fnExactLogsMatchSpec)

end Rows
end Go.Proofs.Ytknllghkpjncoaa
