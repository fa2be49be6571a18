/-
  No cell of these rows narrows 'for every input' (looked for: loops, veiled, ifaces, maps, wideKeys, modest, calm, conditions, laid).
  DERIVED. THE GIVEN ROWS OF THIS SEAT. 6 by the template 'for every input the law returns true; each argument reads behind the call as it read before'; 0 by the template 'total and deterministic' (their statements: YtbkmnghnjajdmaaTotals.lean).
  GIVEN WITH THE SEED: the statements are not yours to turn. If you find one false, say at which input.
  Laid BY PROGRAM, IN A SANDBOX (cutbox-rows.mjs): the forced cells as the released guide's own fill.sh prints them over the translation 99105e7237409117… (all of the seat's roots in one cut). By AI agents, Wed Nov 11 2026. No macro, syntax, notation, axiom, sorry.
-/
import Derived.Test.YtbkmnghnjajdmaaChecked
import GoSem.Claim
import GoSem.ClaimJoined
import GoSem.ClaimMapViews
import Derived.JoinedTies
import Derived.KernelRfl
namespace Go.Proofs.Ytbkmnghnjajdmaa
/- THE CELL 'sum', in the pinned program and in every row, IS THE sha256 OF THE DUMP (.gsa) THAT YtbkmnghnjajdmaaProg.lean LOADS. Nothing in Lean hashes anything: it is a label: what it is worth is what the hold of that sum in a sandbox is worth. -/
noncomputable def Try.pinned : Pinned := { name := "ytbkmnghnjajdmaa", sum := "99105e7237409117b94394e09c85ecad9b611957f271ca80099f38e8811556e8", checked := Try.checked }
namespace Rows
def none {H : Type} : Left H := { results := [], args := [] }

/-- 'colletlaw02.DigestForms': WHATEVER THE INPUT: true; the input reads as it did. -/
def digestFormsSpec : ChangeSpec := { name := "digestForms", fn := fun _ => fun
  | [d1, d2, d3] => { results := [.lit (.bool true)], args := [d1, d2, d3] }
  | _ => none }
def digestFormsRow : OpenClaim := { program := "ytbkmnghnjajdmaa", sum := "99105e7237409117b94394e09c85ecad9b611957f271ca80099f38e8811556e8", func := "collet/colletlaw02.DigestForms", spec := "digestForms", unfollowed := true, recurses := true, apart := false }
def DigestFormsSaid : Prop := digestFormsRow.holds Try.pinned (OpenSpec.ofChange digestFormsSpec)

/-- ITS FALSE NEIGHBOUR: 'it returns false'. Refute it at one input. -/
def digestFormsWrong : ChangeSpec := { name := "digestForms", fn := fun _ => fun
  | [d1, d2, d3] => { results := [.lit (.bool false)], args := [d1, d2, d3] }
  | _ => none }
def DigestFormsWrongFalsely : Prop := digestFormsRow.holds Try.pinned (OpenSpec.ofChange digestFormsWrong)

/-- 'colletlaw02.DigestTrees': WHATEVER THE INPUT: true; the input reads as it did. -/
def digestTreesSpec : ChangeSpec := { name := "digestTrees", fn := fun _ => fun
  | [d1, d2, d3] => { results := [.lit (.bool true)], args := [d1, d2, d3] }
  | _ => none }
def digestTreesRow : OpenClaim := { program := "ytbkmnghnjajdmaa", sum := "99105e7237409117b94394e09c85ecad9b611957f271ca80099f38e8811556e8", func := "collet/colletlaw02.DigestTrees", spec := "digestTrees", unfollowed := true, recurses := true, apart := false }
def DigestTreesSaid : Prop := digestTreesRow.holds Try.pinned (OpenSpec.ofChange digestTreesSpec)

/-- ITS FALSE NEIGHBOUR: 'it returns false'. Refute it at one input. -/
def digestTreesWrong : ChangeSpec := { name := "digestTrees", fn := fun _ => fun
  | [d1, d2, d3] => { results := [.lit (.bool false)], args := [d1, d2, d3] }
  | _ => none }
def DigestTreesWrongFalsely : Prop := digestTreesRow.holds Try.pinned (OpenSpec.ofChange digestTreesWrong)

/-- 'colletlaw02.DigestDiffer': WHATEVER THE INPUT: true; the input reads as it did. -/
def digestDifferSpec : ChangeSpec := { name := "digestDiffer", fn := fun _ => fun
  | [d1, d2, d3, d4] => { results := [.lit (.bool true)], args := [d1, d2, d3, d4] }
  | _ => none }
def digestDifferRow : OpenClaim := { program := "ytbkmnghnjajdmaa", sum := "99105e7237409117b94394e09c85ecad9b611957f271ca80099f38e8811556e8", func := "collet/colletlaw02.DigestDiffer", spec := "digestDiffer", unfollowed := true, recurses := true, apart := false }
def DigestDifferSaid : Prop := digestDifferRow.holds Try.pinned (OpenSpec.ofChange digestDifferSpec)

/-- ITS FALSE NEIGHBOUR: 'it returns false'. Refute it at one input. -/
def digestDifferWrong : ChangeSpec := { name := "digestDiffer", fn := fun _ => fun
  | [d1, d2, d3, d4] => { results := [.lit (.bool false)], args := [d1, d2, d3, d4] }
  | _ => none }
def DigestDifferWrongFalsely : Prop := digestDifferRow.holds Try.pinned (OpenSpec.ofChange digestDifferWrong)

/-- 'colletlaw02.DigestKeys': WHATEVER THE INPUT: true; the input reads as it did. -/
def digestKeysSpec : ChangeSpec := { name := "digestKeys", fn := fun _ => fun
  | [d1, d2, d3, d4] => { results := [.lit (.bool true)], args := [d1, d2, d3, d4] }
  | _ => none }
def digestKeysRow : OpenClaim := { program := "ytbkmnghnjajdmaa", sum := "99105e7237409117b94394e09c85ecad9b611957f271ca80099f38e8811556e8", func := "collet/colletlaw02.DigestKeys", spec := "digestKeys", unfollowed := true, recurses := true, apart := false }
def DigestKeysSaid : Prop := digestKeysRow.holds Try.pinned (OpenSpec.ofChange digestKeysSpec)

/-- ITS FALSE NEIGHBOUR: 'it returns false'. Refute it at one input. -/
def digestKeysWrong : ChangeSpec := { name := "digestKeys", fn := fun _ => fun
  | [d1, d2, d3, d4] => { results := [.lit (.bool false)], args := [d1, d2, d3, d4] }
  | _ => none }
def DigestKeysWrongFalsely : Prop := digestKeysRow.holds Try.pinned (OpenSpec.ofChange digestKeysWrong)

/-- 'colletlaw02.DigestHalves': WHATEVER THE INPUT: true; the input reads as it did. -/
def digestHalvesSpec : ChangeSpec := { name := "digestHalves", fn := fun _ => fun
  | [d1, d2] => { results := [.lit (.bool true)], args := [d1, d2] }
  | _ => none }
def digestHalvesRow : OpenClaim := { program := "ytbkmnghnjajdmaa", sum := "99105e7237409117b94394e09c85ecad9b611957f271ca80099f38e8811556e8", func := "collet/colletlaw02.DigestHalves", spec := "digestHalves", unfollowed := true, recurses := true, apart := false }
def DigestHalvesSaid : Prop := digestHalvesRow.holds Try.pinned (OpenSpec.ofChange digestHalvesSpec)

/-- ITS FALSE NEIGHBOUR: 'it returns false'. Refute it at one input. -/
def digestHalvesWrong : ChangeSpec := { name := "digestHalves", fn := fun _ => fun
  | [d1, d2] => { results := [.lit (.bool false)], args := [d1, d2] }
  | _ => none }
def DigestHalvesWrongFalsely : Prop := digestHalvesRow.holds Try.pinned (OpenSpec.ofChange digestHalvesWrong)

/-- 'colletlaw02.DigestBinds': WHATEVER THE INPUT: true; the input reads as it did. -/
def digestBindsSpec : ChangeSpec := { name := "digestBinds", fn := fun _ => fun
  | [d1, d2, d3] => { results := [.lit (.bool true)], args := [d1, d2, d3] }
  | _ => none }
def digestBindsRow : OpenClaim := { program := "ytbkmnghnjajdmaa", sum := "99105e7237409117b94394e09c85ecad9b611957f271ca80099f38e8811556e8", func := "collet/colletlaw02.DigestBinds", spec := "digestBinds", unfollowed := true, recurses := true, apart := false }
def DigestBindsSaid : Prop := digestBindsRow.holds Try.pinned (OpenSpec.ofChange digestBindsSpec)

/-- ITS FALSE NEIGHBOUR: 'it returns false'. Refute it at one input. -/
def digestBindsWrong : ChangeSpec := { name := "digestBinds", fn := fun _ => fun
  | [d1, d2, d3] => { results := [.lit (.bool false)], args := [d1, d2, d3] }
  | _ => none }
def DigestBindsWrongFalsely : Prop := digestBindsRow.holds Try.pinned (OpenSpec.ofChange digestBindsWrong)

/- THE SECOND FORM. 'bulk': how many values and letters a reading holds, each counted each time it is reached (what is shared counts as often as it is met; a slice's spare places count too). A statement '..UptoSaid' is the law's where the arguments, and the package variables that the reading takes, are together of bulk at most 1048576: NARROWER than '..Said'. Prove '..Said' where nothing that the law and all that it calls make is longer than what came in: it says more and counts as full. Else prove '..UptoSaid'. A law counts once. -/
mutual
def uptoBulk {H : Type} : DataW H → Nat
  | .lit (.string bytes) => bytes.length + 1
  | .lit _ => 1
  | .nil => 1
  | .ptr d => uptoBulk d + 1
  | .slice elems spare => uptoBulkAll elems + uptoBulkAll spare + 1
  | .agg parts => uptoBulkAll parts + 1
  | .iface _ d => uptoBulk d + 1
  | .map entries => uptoBulkEntries entries + 1
  | .held _ => 1
def uptoBulkAll {H : Type} : List (DataW H) → Nat
  | [] => 0
  | d :: r => uptoBulk d + uptoBulkAll r
def uptoBulkEntries {H : Type} : List (Lit × DataW H) → Nat
  | [] => 0
  | x :: r => uptoBulkEntry x + uptoBulkEntries r
def uptoBulkEntry {H : Type} : Lit × DataW H → Nat
  | (.string bytes, d) => bytes.length + uptoBulk d + 1
  | (_, d) => uptoBulk d + 1
 end
def uptoSmall : (H : Type) → List (DataW H) → Bool := fun _ ds => decide (uptoBulkAll ds ≤ 1048576)
def OpenSpec.upto (s : _root_.Go.ChangeSpec) : _root_.Go.OpenSpec := { _root_.Go.OpenSpec.ofChange s with cond := some uptoSmall }

/-- 'colletlaw02.DigestForms', WHERE WHAT IT READS IS OF BULK AT MOST 1048576: true; the input reads as it did. -/
def digestFormsUptoRow : OpenClaim := { program := "ytbkmnghnjajdmaa", sum := "99105e7237409117b94394e09c85ecad9b611957f271ca80099f38e8811556e8", func := "collet/colletlaw02.DigestForms", spec := "digestForms", unfollowed := true, recurses := true, apart := false, narrowed := true }
def DigestFormsUptoSaid : Prop := digestFormsUptoRow.holds Try.pinned (OpenSpec.upto digestFormsSpec)

/-- 'colletlaw02.DigestTrees', WHERE WHAT IT READS IS OF BULK AT MOST 1048576: true; the input reads as it did. -/
def digestTreesUptoRow : OpenClaim := { program := "ytbkmnghnjajdmaa", sum := "99105e7237409117b94394e09c85ecad9b611957f271ca80099f38e8811556e8", func := "collet/colletlaw02.DigestTrees", spec := "digestTrees", unfollowed := true, recurses := true, apart := false, narrowed := true }
def DigestTreesUptoSaid : Prop := digestTreesUptoRow.holds Try.pinned (OpenSpec.upto digestTreesSpec)

/-- 'colletlaw02.DigestDiffer', WHERE WHAT IT READS IS OF BULK AT MOST 1048576: true; the input reads as it did. -/
def digestDifferUptoRow : OpenClaim := { program := "ytbkmnghnjajdmaa", sum := "99105e7237409117b94394e09c85ecad9b611957f271ca80099f38e8811556e8", func := "collet/colletlaw02.DigestDiffer", spec := "digestDiffer", unfollowed := true, recurses := true, apart := false, narrowed := true }
def DigestDifferUptoSaid : Prop := digestDifferUptoRow.holds Try.pinned (OpenSpec.upto digestDifferSpec)

/-- 'colletlaw02.DigestKeys', WHERE WHAT IT READS IS OF BULK AT MOST 1048576: true; the input reads as it did. -/
def digestKeysUptoRow : OpenClaim := { program := "ytbkmnghnjajdmaa", sum := "99105e7237409117b94394e09c85ecad9b611957f271ca80099f38e8811556e8", func := "collet/colletlaw02.DigestKeys", spec := "digestKeys", unfollowed := true, recurses := true, apart := false, narrowed := true }
def DigestKeysUptoSaid : Prop := digestKeysUptoRow.holds Try.pinned (OpenSpec.upto digestKeysSpec)

/-- 'colletlaw02.DigestHalves', WHERE WHAT IT READS IS OF BULK AT MOST 1048576: true; the input reads as it did. -/
def digestHalvesUptoRow : OpenClaim := { program := "ytbkmnghnjajdmaa", sum := "99105e7237409117b94394e09c85ecad9b611957f271ca80099f38e8811556e8", func := "collet/colletlaw02.DigestHalves", spec := "digestHalves", unfollowed := true, recurses := true, apart := false, narrowed := true }
def DigestHalvesUptoSaid : Prop := digestHalvesUptoRow.holds Try.pinned (OpenSpec.upto digestHalvesSpec)

/-- 'colletlaw02.DigestBinds', WHERE WHAT IT READS IS OF BULK AT MOST 1048576: true; the input reads as it did. -/
def digestBindsUptoRow : OpenClaim := { program := "ytbkmnghnjajdmaa", sum := "99105e7237409117b94394e09c85ecad9b611957f271ca80099f38e8811556e8", func := "collet/colletlaw02.DigestBinds", spec := "digestBinds", unfollowed := true, recurses := true, apart := false, narrowed := true }
def DigestBindsUptoSaid : Prop := digestBindsUptoRow.holds Try.pinned (OpenSpec.upto digestBindsSpec)

end Rows
end Go.Proofs.Ytbkmnghnjajdmaa
