/-
  No cell of these rows narrows 'for every input' (looked for: loops, veiled, ifaces, maps, wideKeys, modest, calm, conditions, laid).
  DERIVED. THE GIVEN ROWS OF THIS SEAT. 2 by the template 'for every input the law returns true; each argument reads behind the call as it read before'; 0 by the template 'total and deterministic' (their statements: YtbmbagamffgnnaaTotals.lean).
  GIVEN WITH THE SEED: the statements are not yours to turn. If you find one false, say at which input.
  Laid BY PROGRAM, IN A SANDBOX (cutbox-rows.mjs): the forced cells as the released guide's own fill.sh prints them over the translation 10b41617119082dc… (all of the seat's roots in one cut). By AI agents, Wed Nov 11 2026. No macro, syntax, notation, axiom, sorry.
-/
import Derived.Test.YtbmbagamffgnnaaChecked
import GoSem.Claim
import GoSem.ClaimJoined
import GoSem.ClaimMapViews
import Derived.JoinedTies
import Derived.KernelRfl
namespace Go.Proofs.Ytbmbagamffgnnaa
/- THE CELL 'sum', in the pinned program and in every row, IS THE sha256 OF THE DUMP (.gsa) THAT YtbmbagamffgnnaaProg.lean LOADS. Nothing in Lean hashes anything: it is a label: what it is worth is what the hold of that sum in a sandbox is worth. -/
noncomputable def Try.pinned : Pinned := { name := "ytbmbagamffgnnaa", sum := "10b41617119082dca058b8ccd29cf84d0b54fffaad58f34c16f6f2d3366645f8", checked := Try.checked }
namespace Rows
def none {H : Type} : Left H := { results := [], args := [] }

/-- 'davitlaw11.LexAlone': WHATEVER THE INPUT: true; the input reads as it did. -/
def lexAloneSpec : ChangeSpec := { name := "lexAlone", fn := fun _ => fun
  | [d1, d2] => { results := [.lit (.bool true)], args := [d1, d2] }
  | _ => none }
def lexAloneRow : OpenClaim := { program := "ytbmbagamffgnnaa", sum := "10b41617119082dca058b8ccd29cf84d0b54fffaad58f34c16f6f2d3366645f8", func := "davit/davitlaw11.LexAlone", spec := "lexAlone", unfollowed := true, recurses := true, apart := false }
def LexAloneSaid : Prop := lexAloneRow.holds Try.pinned (OpenSpec.ofChange lexAloneSpec)

/-- ITS FALSE NEIGHBOUR: 'it returns false'. Refute it at one input. -/
def lexAloneWrong : ChangeSpec := { name := "lexAlone", fn := fun _ => fun
  | [d1, d2] => { results := [.lit (.bool false)], args := [d1, d2] }
  | _ => none }
def LexAloneWrongFalsely : Prop := lexAloneRow.holds Try.pinned (OpenSpec.ofChange lexAloneWrong)

/-- 'davitlaw12.RunbookJoins': WHATEVER THE INPUT: true; the input reads as it did. -/
def runbookJoinsSpec : ChangeSpec := { name := "runbookJoins", fn := fun _ => fun
  | [d1, d2] => { results := [.lit (.bool true)], args := [d1, d2] }
  | _ => none }
def runbookJoinsRow : OpenClaim := { program := "ytbmbagamffgnnaa", sum := "10b41617119082dca058b8ccd29cf84d0b54fffaad58f34c16f6f2d3366645f8", func := "davit/davitlaw12.RunbookJoins", spec := "runbookJoins", unfollowed := true, recurses := true, apart := false }
def RunbookJoinsSaid : Prop := runbookJoinsRow.holds Try.pinned (OpenSpec.ofChange runbookJoinsSpec)

/-- ITS FALSE NEIGHBOUR: 'it returns false'. Refute it at one input. -/
def runbookJoinsWrong : ChangeSpec := { name := "runbookJoins", fn := fun _ => fun
  | [d1, d2] => { results := [.lit (.bool false)], args := [d1, d2] }
  | _ => none }
def RunbookJoinsWrongFalsely : Prop := runbookJoinsRow.holds Try.pinned (OpenSpec.ofChange runbookJoinsWrong)

/- THE SECOND FORM. 'bulk': how many values and letters a reading holds, each counted each time it is reached (what is shared counts as often as it is met; a slice's spare places count too). A statement '..UptoSaid' is the law's where the arguments, and the package variables that the reading takes, are together of bulk at most 1048576: NARROWER than '..Said'. Prove '..Said' where nothing that the law and all that it calls make is longer than what came in: it says more and counts as full. Else prove '..UptoSaid'. A law counts once. -/
mutual
def uptoBulk {H : Type} : DataW H → Nat
  | .lit (.string bytes) => bytes.length + 1
  | .lit _ => 1
  | .nil => 1
  | .ptr d => uptoBulk d + 1
  | .slice elems spare => uptoBulkAll elems + uptoBulkAll spare + 1
  | .agg parts => uptoBulkAll parts + 1
  | .iface _ d => uptoBulk d + 1
  | .map entries => uptoBulkEntries entries + 1
  | .held _ => 1
def uptoBulkAll {H : Type} : List (DataW H) → Nat
  | [] => 0
  | d :: r => uptoBulk d + uptoBulkAll r
def uptoBulkEntries {H : Type} : List (Lit × DataW H) → Nat
  | [] => 0
  | x :: r => uptoBulkEntry x + uptoBulkEntries r
def uptoBulkEntry {H : Type} : Lit × DataW H → Nat
  | (.string bytes, d) => bytes.length + uptoBulk d + 1
  | (_, d) => uptoBulk d + 1
 end
def uptoSmall : (H : Type) → List (DataW H) → Bool := fun _ ds => decide (uptoBulkAll ds ≤ 1048576)
def OpenSpec.upto (s : _root_.Go.ChangeSpec) : _root_.Go.OpenSpec := { _root_.Go.OpenSpec.ofChange s with cond := some uptoSmall }

/-- 'davitlaw11.LexAlone', WHERE WHAT IT READS IS OF BULK AT MOST 1048576: true; the input reads as it did. -/
def lexAloneUptoRow : OpenClaim := { program := "ytbmbagamffgnnaa", sum := "10b41617119082dca058b8ccd29cf84d0b54fffaad58f34c16f6f2d3366645f8", func := "davit/davitlaw11.LexAlone", spec := "lexAlone", unfollowed := true, recurses := true, apart := false, narrowed := true }
def LexAloneUptoSaid : Prop := lexAloneUptoRow.holds Try.pinned (OpenSpec.upto lexAloneSpec)

/-- 'davitlaw12.RunbookJoins', WHERE WHAT IT READS IS OF BULK AT MOST 1048576: true; the input reads as it did. -/
def runbookJoinsUptoRow : OpenClaim := { program := "ytbmbagamffgnnaa", sum := "10b41617119082dca058b8ccd29cf84d0b54fffaad58f34c16f6f2d3366645f8", func := "davit/davitlaw12.RunbookJoins", spec := "runbookJoins", unfollowed := true, recurses := true, apart := false, narrowed := true }
def RunbookJoinsUptoSaid : Prop := runbookJoinsUptoRow.holds Try.pinned (OpenSpec.upto runbookJoinsSpec)

end Rows
end Go.Proofs.Ytbmbagamffgnnaa
