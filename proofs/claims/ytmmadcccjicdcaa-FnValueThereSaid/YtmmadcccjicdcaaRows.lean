/-
  No cell of these rows narrows 'for every input' (looked for: loops, veiled, ifaces, maps, wideKeys, modest, calm, conditions, laid).
  DERIVED. THE GIVEN ROWS OF THIS SEAT. 5 by the template 'for every input the law returns true; each argument reads behind the call as it read before'; 0 by the template 'total and deterministic' (their statements: YtmmadcccjicdcaaTotals.lean).
  GIVEN WITH THE SEED: the statements are not yours to turn. If you find one false, say at which input.
  Laid BY PROGRAM, IN A SANDBOX (cutbox-rows.mjs): the forced cells as the released guide's own fill.sh prints them over the translation 1895ece4ab8576ea… (all of the seat's roots in one cut). By AI agents, Wed Nov 11 2026. No macro, syntax, notation, axiom, sorry.
-/
import Derived.Test.YtmmadcccjicdcaaChecked
import GoSem.Claim
import GoSem.ClaimJoined
import GoSem.ClaimMapViews
import Derived.JoinedTies
import Derived.KernelRfl
namespace Go.Proofs.Ytmmadcccjicdcaa
/- THE CELL 'sum', in the pinned program and in every row, IS THE sha256 OF THE DUMP (.gsa) THAT YtmmadcccjicdcaaProg.lean LOADS. Nothing in Lean hashes anything: it is a label: what it is worth is what the hold of that sum in a sandbox is worth. -/
noncomputable def Try.pinned : Pinned := { name := "ytmmadcccjicdcaa", sum := "1895ece4ab8576ea1f8ff9acffe7624f3c7348c9304f4b9af05cf9c0248e6edc", checked := Try.checked }
namespace Rows
def none {H : Type} : Left H := { results := [], args := [] }

/-- 'laws.FnTwoEach': WHATEVER THE INPUT: true; the input reads as it did. -/
def fnTwoEachSpec : ChangeSpec := { name := "fnTwoEach", fn := fun _ => fun
  | [d] => { results := [.lit (.bool true)], args := [d] }
  | _ => none }
def fnTwoEachRow : OpenClaim := { program := "ytmmadcccjicdcaa", sum := "1895ece4ab8576ea1f8ff9acffe7624f3c7348c9304f4b9af05cf9c0248e6edc", func := "loop.example/localglobal/laws.FnTwoEach", spec := "fnTwoEach", unfollowed := true, recurses := true, apart := false }
def FnTwoEachSaid : Prop := fnTwoEachRow.holds Try.pinned (OpenSpec.ofChange fnTwoEachSpec)

/-- ITS FALSE NEIGHBOUR: 'it returns false'. Refute it at one input. -/
def fnTwoEachWrong : ChangeSpec := { name := "fnTwoEach", fn := fun _ => fun
  | [d] => { results := [.lit (.bool false)], args := [d] }
  | _ => none }
def FnTwoEachWrongFalsely : Prop := fnTwoEachRow.holds Try.pinned (OpenSpec.ofChange fnTwoEachWrong)

/-- 'laws.FnValueMany': WHATEVER THE INPUT: true; the input reads as it did. -/
def fnValueManySpec : ChangeSpec := { name := "fnValueMany", fn := fun _ => fun
  | [d] => { results := [.lit (.bool true)], args := [d] }
  | _ => none }
def fnValueManyRow : OpenClaim := { program := "ytmmadcccjicdcaa", sum := "1895ece4ab8576ea1f8ff9acffe7624f3c7348c9304f4b9af05cf9c0248e6edc", func := "loop.example/localglobal/laws.FnValueMany", spec := "fnValueMany", unfollowed := true, recurses := true, apart := false }
def FnValueManySaid : Prop := fnValueManyRow.holds Try.pinned (OpenSpec.ofChange fnValueManySpec)

/-- ITS FALSE NEIGHBOUR: 'it returns false'. Refute it at one input. -/
def fnValueManyWrong : ChangeSpec := { name := "fnValueMany", fn := fun _ => fun
  | [d] => { results := [.lit (.bool false)], args := [d] }
  | _ => none }
def FnValueManyWrongFalsely : Prop := fnValueManyRow.holds Try.pinned (OpenSpec.ofChange fnValueManyWrong)

/-- 'laws.FnRest': WHATEVER THE INPUT: true; the input reads as it did. -/
def fnRestSpec : ChangeSpec := { name := "fnRest", fn := fun _ => fun
  | [d] => { results := [.lit (.bool true)], args := [d] }
  | _ => none }
def fnRestRow : OpenClaim := { program := "ytmmadcccjicdcaa", sum := "1895ece4ab8576ea1f8ff9acffe7624f3c7348c9304f4b9af05cf9c0248e6edc", func := "loop.example/localglobal/laws.FnRest", spec := "fnRest", recurses := true, apart := false }
def FnRestSaid : Prop := fnRestRow.holds Try.pinned (OpenSpec.ofChange fnRestSpec)

/-- ITS FALSE NEIGHBOUR: 'it returns false'. Refute it at one input. -/
def fnRestWrong : ChangeSpec := { name := "fnRest", fn := fun _ => fun
  | [d] => { results := [.lit (.bool false)], args := [d] }
  | _ => none }
def FnRestWrongFalsely : Prop := fnRestRow.holds Try.pinned (OpenSpec.ofChange fnRestWrong)

/-- 'laws.FnValueFind': WHATEVER THE INPUT: true; the input reads as it did. -/
def fnValueFindSpec : ChangeSpec := { name := "fnValueFind", fn := fun _ => fun
  | [d] => { results := [.lit (.bool true)], args := [d] }
  | _ => none }
def fnValueFindRow : OpenClaim := { program := "ytmmadcccjicdcaa", sum := "1895ece4ab8576ea1f8ff9acffe7624f3c7348c9304f4b9af05cf9c0248e6edc", func := "loop.example/localglobal/laws.FnValueFind", spec := "fnValueFind", recurses := true, apart := false }
def FnValueFindSaid : Prop := fnValueFindRow.holds Try.pinned (OpenSpec.ofChange fnValueFindSpec)

/-- ITS FALSE NEIGHBOUR: 'it returns false'. Refute it at one input. -/
def fnValueFindWrong : ChangeSpec := { name := "fnValueFind", fn := fun _ => fun
  | [d] => { results := [.lit (.bool false)], args := [d] }
  | _ => none }
def FnValueFindWrongFalsely : Prop := fnValueFindRow.holds Try.pinned (OpenSpec.ofChange fnValueFindWrong)

/-- 'laws.FnValueThere': WHATEVER THE INPUT: true; the input reads as it did. -/
def fnValueThereSpec : ChangeSpec := { name := "fnValueThere", fn := fun _ => fun
  | [d] => { results := [.lit (.bool true)], args := [d] }
  | _ => none }
def fnValueThereRow : OpenClaim := { program := "ytmmadcccjicdcaa", sum := "1895ece4ab8576ea1f8ff9acffe7624f3c7348c9304f4b9af05cf9c0248e6edc", func := "loop.example/localglobal/laws.FnValueThere", spec := "fnValueThere", recurses := true, apart := false }
def FnValueThereSaid : Prop := fnValueThereRow.holds Try.pinned (OpenSpec.ofChange fnValueThereSpec)

/-- ITS FALSE NEIGHBOUR: 'it returns false'. Refute it at one input. -/
def fnValueThereWrong : ChangeSpec := { name := "fnValueThere", fn := fun _ => fun
  | [d] => { results := [.lit (.bool false)], args := [d] }
  | _ => none }
def FnValueThereWrongFalsely : Prop := fnValueThereRow.holds Try.pinned (OpenSpec.ofChange fnValueThereWrong)

/- THE SECOND FORM. 'bulk': how many values and letters a reading holds, each counted each time it is reached (what is shared counts as often as it is met; a slice's spare places count too). A statement '..UptoSaid' is the law's where the arguments, and the package variables that the reading takes, are together of bulk at most 1048576: NARROWER than '..Said'. Prove '..Said' where nothing that the law and all that it calls make is longer than what came in: it says more and counts as full. Else prove '..UptoSaid'. A law counts once. -/
mutual
def uptoBulk {H : Type} : DataW H → Nat
  | .lit (.string bytes) => bytes.length + 1
  | .lit _ => 1
  | .nil => 1
  | .ptr d => uptoBulk d + 1
  | .slice elems spare => uptoBulkAll elems + uptoBulkAll spare + 1
  | .agg parts => uptoBulkAll parts + 1
  | .iface _ d => uptoBulk d + 1
  | .map entries => uptoBulkEntries entries + 1
  | .held _ => 1
def uptoBulkAll {H : Type} : List (DataW H) → Nat
  | [] => 0
  | d :: r => uptoBulk d + uptoBulkAll r
def uptoBulkEntries {H : Type} : List (Lit × DataW H) → Nat
  | [] => 0
  | x :: r => uptoBulkEntry x + uptoBulkEntries r
def uptoBulkEntry {H : Type} : Lit × DataW H → Nat
  | (.string bytes, d) => bytes.length + uptoBulk d + 1
  | (_, d) => uptoBulk d + 1
 end
def uptoSmall : (H : Type) → List (DataW H) → Bool := fun _ ds => decide (uptoBulkAll ds ≤ 1048576)
def OpenSpec.upto (s : _root_.Go.ChangeSpec) : _root_.Go.OpenSpec := { _root_.Go.OpenSpec.ofChange s with cond := some uptoSmall }

/-- 'laws.FnTwoEach', WHERE WHAT IT READS IS OF BULK AT MOST 1048576: true; the input reads as it did. -/
def fnTwoEachUptoRow : OpenClaim := { program := "ytmmadcccjicdcaa", sum := "1895ece4ab8576ea1f8ff9acffe7624f3c7348c9304f4b9af05cf9c0248e6edc", func := "loop.example/localglobal/laws.FnTwoEach", spec := "fnTwoEach", unfollowed := true, recurses := true, apart := false, narrowed := true }
def FnTwoEachUptoSaid : Prop := fnTwoEachUptoRow.holds Try.pinned (OpenSpec.upto fnTwoEachSpec)

/-- 'laws.FnValueMany', WHERE WHAT IT READS IS OF BULK AT MOST 1048576: true; the input reads as it did. -/
def fnValueManyUptoRow : OpenClaim := { program := "ytmmadcccjicdcaa", sum := "1895ece4ab8576ea1f8ff9acffe7624f3c7348c9304f4b9af05cf9c0248e6edc", func := "loop.example/localglobal/laws.FnValueMany", spec := "fnValueMany", unfollowed := true, recurses := true, apart := false, narrowed := true }
def FnValueManyUptoSaid : Prop := fnValueManyUptoRow.holds Try.pinned (OpenSpec.upto fnValueManySpec)

/-- 'laws.FnRest', WHERE WHAT IT READS IS OF BULK AT MOST 1048576: true; the input reads as it did. -/
def fnRestUptoRow : OpenClaim := { program := "ytmmadcccjicdcaa", sum := "1895ece4ab8576ea1f8ff9acffe7624f3c7348c9304f4b9af05cf9c0248e6edc", func := "loop.example/localglobal/laws.FnRest", spec := "fnRest", recurses := true, apart := false, narrowed := true }
def FnRestUptoSaid : Prop := fnRestUptoRow.holds Try.pinned (OpenSpec.upto fnRestSpec)

/-- 'laws.FnValueFind', WHERE WHAT IT READS IS OF BULK AT MOST 1048576: true; the input reads as it did. -/
def fnValueFindUptoRow : OpenClaim := { program := "ytmmadcccjicdcaa", sum := "1895ece4ab8576ea1f8ff9acffe7624f3c7348c9304f4b9af05cf9c0248e6edc", func := "loop.example/localglobal/laws.FnValueFind", spec := "fnValueFind", recurses := true, apart := false, narrowed := true }
def FnValueFindUptoSaid : Prop := fnValueFindUptoRow.holds Try.pinned (OpenSpec.upto fnValueFindSpec)

/-- 'laws.FnValueThere', WHERE WHAT IT READS IS OF BULK AT MOST 1048576: true; the input reads as it did. -/
def fnValueThereUptoRow : OpenClaim := { program := "ytmmadcccjicdcaa", sum := "1895ece4ab8576ea1f8ff9acffe7624f3c7348c9304f4b9af05cf9c0248e6edc", func := "loop.example/localglobal/laws.FnValueThere", spec := "fnValueThere", recurses := true, apart := false, narrowed := true }
def FnValueThereUptoSaid : Prop := fnValueThereUptoRow.holds Try.pinned (OpenSpec.upto fnValueThereSpec)

end Rows
end Go.Proofs.Ytmmadcccjicdcaa
