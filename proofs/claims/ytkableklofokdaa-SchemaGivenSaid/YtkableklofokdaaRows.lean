/-
  No cell of these rows narrows 'for every input' (looked for: loops, veiled, ifaces, maps, wideKeys, modest, calm, conditions, laid).
  DERIVED. THE GIVEN ROWS OF THIS SEAT. 4 by the template 'for every input the law returns true; each argument reads behind the call as it read before'; 0 by the template 'total and deterministic' (their statements: YtkableklofokdaaTotals.lean).
  GIVEN WITH THE SEED: the statements are not yours to turn. If you find one false, say at which input.
  Laid BY PROGRAM, IN A SANDBOX (cutbox-rows.mjs): the forced cells as the released guide's own fill.sh prints them over the translation 7ace0e2e85c0aab1… (all of the seat's roots in one cut). By AI agents, Wed Nov 11 2026. No macro, syntax, notation, axiom, sorry.
-/
import Derived.Test.YtkableklofokdaaChecked
import GoSem.Claim
import GoSem.ClaimJoined
import GoSem.ClaimMapViews
import Derived.JoinedTies
import Derived.KernelRfl
namespace Go.Proofs.Ytkableklofokdaa
/- THE CELL 'sum', in the pinned program and in every row, IS THE sha256 OF THE DUMP (.gsa) THAT YtkableklofokdaaProg.lean LOADS. Nothing in Lean hashes anything: it is a label: what it is worth is what the hold of that sum in a sandbox is worth. -/
noncomputable def Try.pinned : Pinned := { name := "ytkableklofokdaa", sum := "7ace0e2e85c0aab10189fa369b5ea1a4358de485c1505f47769414b69396c6f2", checked := Try.checked }
namespace Rows
def none {H : Type} : Left H := { results := [], args := [] }

/-- 'tribunallaw07.SchemaGiven': WHATEVER THE INPUT: true; the input reads as it did. -/
def schemaGivenSpec : ChangeSpec := { name := "schemaGiven", fn := fun _ => fun
  | [d] => { results := [.lit (.bool true)], args := [d] }
  | _ => none }
def schemaGivenRow : OpenClaim := { program := "ytkableklofokdaa", sum := "7ace0e2e85c0aab10189fa369b5ea1a4358de485c1505f47769414b69396c6f2", func := "tribunal/tribunallaw07.SchemaGiven", spec := "schemaGiven", inPlace := ["gosem.stop:tribunal/rat.Right", "gosem.stop:tribunal/digits.Right", "gosem.stop:tribunal/value.Members"], unfollowed := true, recurses := true, apart := false }
def SchemaGivenSaid : Prop := schemaGivenRow.holds Try.pinned (OpenSpec.ofChange schemaGivenSpec)

/-- ITS FALSE NEIGHBOUR: 'it returns false'. Refute it at one input. -/
def schemaGivenWrong : ChangeSpec := { name := "schemaGiven", fn := fun _ => fun
  | [d] => { results := [.lit (.bool false)], args := [d] }
  | _ => none }
def SchemaGivenWrongFalsely : Prop := schemaGivenRow.holds Try.pinned (OpenSpec.ofChange schemaGivenWrong)

/-- 'tribunallaw07.SchemaOwn': WHATEVER THE INPUT: true; the input reads as it did. -/
def schemaOwnSpec : ChangeSpec := { name := "schemaOwn", fn := fun _ => fun
  | [d] => { results := [.lit (.bool true)], args := [d] }
  | _ => none }
def schemaOwnRow : OpenClaim := { program := "ytkableklofokdaa", sum := "7ace0e2e85c0aab10189fa369b5ea1a4358de485c1505f47769414b69396c6f2", func := "tribunal/tribunallaw07.SchemaOwn", spec := "schemaOwn", inPlace := ["gosem.stop:tribunal/rat.Right", "gosem.stop:tribunal/digits.Right", "gosem.stop:tribunal/value.Members"], unfollowed := true, recurses := true, apart := false }
def SchemaOwnSaid : Prop := schemaOwnRow.holds Try.pinned (OpenSpec.ofChange schemaOwnSpec)

/-- ITS FALSE NEIGHBOUR: 'it returns false'. Refute it at one input. -/
def schemaOwnWrong : ChangeSpec := { name := "schemaOwn", fn := fun _ => fun
  | [d] => { results := [.lit (.bool false)], args := [d] }
  | _ => none }
def SchemaOwnWrongFalsely : Prop := schemaOwnRow.holds Try.pinned (OpenSpec.ofChange schemaOwnWrong)

/-- 'tribunallaw07.SchemaNames': WHATEVER THE INPUT: true; the input reads as it did. -/
def schemaNamesSpec : ChangeSpec := { name := "schemaNames", fn := fun _ => fun
  | [d1, d2] => { results := [.lit (.bool true)], args := [d1, d2] }
  | _ => none }
def schemaNamesRow : OpenClaim := { program := "ytkableklofokdaa", sum := "7ace0e2e85c0aab10189fa369b5ea1a4358de485c1505f47769414b69396c6f2", func := "tribunal/tribunallaw07.SchemaNames", spec := "schemaNames", inPlace := ["gosem.stop:tribunal/rat.Right", "gosem.stop:tribunal/digits.Right", "gosem.stop:tribunal/value.Members"], unfollowed := true, recurses := true, apart := false }
def SchemaNamesSaid : Prop := schemaNamesRow.holds Try.pinned (OpenSpec.ofChange schemaNamesSpec)

/-- ITS FALSE NEIGHBOUR: 'it returns false'. Refute it at one input. -/
def schemaNamesWrong : ChangeSpec := { name := "schemaNames", fn := fun _ => fun
  | [d1, d2] => { results := [.lit (.bool false)], args := [d1, d2] }
  | _ => none }
def SchemaNamesWrongFalsely : Prop := schemaNamesRow.holds Try.pinned (OpenSpec.ofChange schemaNamesWrong)

/-- 'tribunallaw07.SchemaFirst': WHATEVER THE INPUT: true; the input reads as it did. -/
def schemaFirstSpec : ChangeSpec := { name := "schemaFirst", fn := fun _ => fun
  | [d1, d2] => { results := [.lit (.bool true)], args := [d1, d2] }
  | _ => none }
def schemaFirstRow : OpenClaim := { program := "ytkableklofokdaa", sum := "7ace0e2e85c0aab10189fa369b5ea1a4358de485c1505f47769414b69396c6f2", func := "tribunal/tribunallaw07.SchemaFirst", spec := "schemaFirst", inPlace := ["gosem.stop:tribunal/rat.Right", "gosem.stop:tribunal/digits.Right", "gosem.stop:tribunal/value.Members"], unfollowed := true, recurses := true, apart := false }
def SchemaFirstSaid : Prop := schemaFirstRow.holds Try.pinned (OpenSpec.ofChange schemaFirstSpec)

/-- ITS FALSE NEIGHBOUR: 'it returns false'. Refute it at one input. -/
def schemaFirstWrong : ChangeSpec := { name := "schemaFirst", fn := fun _ => fun
  | [d1, d2] => { results := [.lit (.bool false)], args := [d1, d2] }
  | _ => none }
def SchemaFirstWrongFalsely : Prop := schemaFirstRow.holds Try.pinned (OpenSpec.ofChange schemaFirstWrong)

/- THE SECOND FORM. 'bulk': how many values and letters a reading holds, each counted each time it is reached (what is shared counts as often as it is met; a slice's spare places count too). A statement '..UptoSaid' is the law's where the arguments, and the package variables that the reading takes, are together of bulk at most 1048576: NARROWER than '..Said'. Prove '..Said' where nothing that the law and all that it calls make is longer than what came in: it says more and counts as full. Else prove '..UptoSaid'. A law counts once. -/
mutual
def uptoBulk {H : Type} : DataW H → Nat
  | .lit (.string bytes) => bytes.length + 1
  | .lit _ => 1
  | .nil => 1
  | .ptr d => uptoBulk d + 1
  | .slice elems spare => uptoBulkAll elems + uptoBulkAll spare + 1
  | .agg parts => uptoBulkAll parts + 1
  | .iface _ d => uptoBulk d + 1
  | .map entries => uptoBulkEntries entries + 1
  | .held _ => 1
def uptoBulkAll {H : Type} : List (DataW H) → Nat
  | [] => 0
  | d :: r => uptoBulk d + uptoBulkAll r
def uptoBulkEntries {H : Type} : List (Lit × DataW H) → Nat
  | [] => 0
  | x :: r => uptoBulkEntry x + uptoBulkEntries r
def uptoBulkEntry {H : Type} : Lit × DataW H → Nat
  | (.string bytes, d) => bytes.length + uptoBulk d + 1
  | (_, d) => uptoBulk d + 1
 end
def uptoSmall : (H : Type) → List (DataW H) → Bool := fun _ ds => decide (uptoBulkAll ds ≤ 1048576)
def OpenSpec.upto (s : _root_.Go.ChangeSpec) : _root_.Go.OpenSpec := { _root_.Go.OpenSpec.ofChange s with cond := some uptoSmall }

/-- 'tribunallaw07.SchemaGiven', WHERE WHAT IT READS IS OF BULK AT MOST 1048576: true; the input reads as it did. -/
def schemaGivenUptoRow : OpenClaim := { program := "ytkableklofokdaa", sum := "7ace0e2e85c0aab10189fa369b5ea1a4358de485c1505f47769414b69396c6f2", func := "tribunal/tribunallaw07.SchemaGiven", spec := "schemaGiven", inPlace := ["gosem.stop:tribunal/rat.Right", "gosem.stop:tribunal/digits.Right", "gosem.stop:tribunal/value.Members"], unfollowed := true, recurses := true, apart := false, narrowed := true }
def SchemaGivenUptoSaid : Prop := schemaGivenUptoRow.holds Try.pinned (OpenSpec.upto schemaGivenSpec)

/-- 'tribunallaw07.SchemaOwn', WHERE WHAT IT READS IS OF BULK AT MOST 1048576: true; the input reads as it did. -/
def schemaOwnUptoRow : OpenClaim := { program := "ytkableklofokdaa", sum := "7ace0e2e85c0aab10189fa369b5ea1a4358de485c1505f47769414b69396c6f2", func := "tribunal/tribunallaw07.SchemaOwn", spec := "schemaOwn", inPlace := ["gosem.stop:tribunal/rat.Right", "gosem.stop:tribunal/digits.Right", "gosem.stop:tribunal/value.Members"], unfollowed := true, recurses := true, apart := false, narrowed := true }
def SchemaOwnUptoSaid : Prop := schemaOwnUptoRow.holds Try.pinned (OpenSpec.upto schemaOwnSpec)

/-- 'tribunallaw07.SchemaNames', WHERE WHAT IT READS IS OF BULK AT MOST 1048576: true; the input reads as it did. -/
def schemaNamesUptoRow : OpenClaim := { program := "ytkableklofokdaa", sum := "7ace0e2e85c0aab10189fa369b5ea1a4358de485c1505f47769414b69396c6f2", func := "tribunal/tribunallaw07.SchemaNames", spec := "schemaNames", inPlace := ["gosem.stop:tribunal/rat.Right", "gosem.stop:tribunal/digits.Right", "gosem.stop:tribunal/value.Members"], unfollowed := true, recurses := true, apart := false, narrowed := true }
def SchemaNamesUptoSaid : Prop := schemaNamesUptoRow.holds Try.pinned (OpenSpec.upto schemaNamesSpec)

/-- 'tribunallaw07.SchemaFirst', WHERE WHAT IT READS IS OF BULK AT MOST 1048576: true; the input reads as it did. -/
def schemaFirstUptoRow : OpenClaim := { program := "ytkableklofokdaa", sum := "7ace0e2e85c0aab10189fa369b5ea1a4358de485c1505f47769414b69396c6f2", func := "tribunal/tribunallaw07.SchemaFirst", spec := "schemaFirst", inPlace := ["gosem.stop:tribunal/rat.Right", "gosem.stop:tribunal/digits.Right", "gosem.stop:tribunal/value.Members"], unfollowed := true, recurses := true, apart := false, narrowed := true }
def SchemaFirstUptoSaid : Prop := schemaFirstUptoRow.holds Try.pinned (OpenSpec.upto schemaFirstSpec)

end Rows
end Go.Proofs.Ytkableklofokdaa
