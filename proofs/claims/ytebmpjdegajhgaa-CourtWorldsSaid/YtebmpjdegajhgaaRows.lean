/-
  No cell of these rows narrows 'for every input' (looked for: loops, veiled, ifaces, maps, wideKeys, modest, calm, conditions, laid).
  DERIVED. THE GIVEN ROWS OF THIS SEAT. 5 by the template 'for every input the law returns true; each argument reads behind the call as it read before'; 0 by the template 'total and deterministic' (their statements: YtebmpjdegajhgaaTotals.lean).
  GIVEN WITH THE SEED: the statements are not yours to turn. If you find one false, say at which input.
  Laid BY PROGRAM, IN A SANDBOX (cutbox-rows.mjs): the forced cells as the released guide's own fill.sh prints them over the translation a02a12fb892268b3… (all of the seat's roots in one cut). By AI agents, Wed Nov 11 2026. No macro, syntax, notation, axiom, sorry.
-/
import Derived.Test.YtebmpjdegajhgaaChecked
import GoSem.Claim
import GoSem.ClaimJoined
import GoSem.ClaimMapViews
import Derived.JoinedTies
import Derived.KernelRfl
namespace Go.Proofs.Ytebmpjdegajhgaa
/- THE CELL 'sum', in the pinned program and in every row, IS THE sha256 OF THE DUMP (.gsa) THAT YtebmpjdegajhgaaProg.lean LOADS. Nothing in Lean hashes anything: it is a label: what it is worth is what the hold of that sum in a sandbox is worth. -/
noncomputable def Try.pinned : Pinned := { name := "ytebmpjdegajhgaa", sum := "a02a12fb892268b39da31512c3ad549741db4e38d267e8be7d167895ed30c763", checked := Try.checked }
namespace Rows
def none {H : Type} : Left H := { results := [], args := [] }

/-- 'colletlaw43.CourtForms': WHATEVER THE INPUT: true; the input reads as it did. -/
def courtFormsSpec : ChangeSpec := { name := "courtForms", fn := fun _ => fun
  | [d1, d2, d3, d4, d5, d6] => { results := [.lit (.bool true)], args := [d1, d2, d3, d4, d5, d6] }
  | _ => none }
def courtFormsRow : OpenClaim := { program := "ytebmpjdegajhgaa", sum := "a02a12fb892268b39da31512c3ad549741db4e38d267e8be7d167895ed30c763", func := "collet/colletlaw43.CourtForms", spec := "courtForms", unfollowed := true, recurses := true, plainKeys := false, apart := false }
def CourtFormsSaid : Prop := courtFormsRow.holds Try.pinned (OpenSpec.ofChange courtFormsSpec)

/-- ITS FALSE NEIGHBOUR: 'it returns false'. Refute it at one input. -/
def courtFormsWrong : ChangeSpec := { name := "courtForms", fn := fun _ => fun
  | [d1, d2, d3, d4, d5, d6] => { results := [.lit (.bool false)], args := [d1, d2, d3, d4, d5, d6] }
  | _ => none }
def CourtFormsWrongFalsely : Prop := courtFormsRow.holds Try.pinned (OpenSpec.ofChange courtFormsWrong)

/-- 'colletlaw43.CourtWorlds': WHATEVER THE INPUT: true; the input reads as it did. -/
def courtWorldsSpec : ChangeSpec := { name := "courtWorlds", fn := fun _ => fun
  | [d] => { results := [.lit (.bool true)], args := [d] }
  | _ => none }
def courtWorldsRow : OpenClaim := { program := "ytebmpjdegajhgaa", sum := "a02a12fb892268b39da31512c3ad549741db4e38d267e8be7d167895ed30c763", func := "collet/colletlaw43.CourtWorlds", spec := "courtWorlds", unfollowed := true, recurses := true, plainKeys := false, apart := false }
def CourtWorldsSaid : Prop := courtWorldsRow.holds Try.pinned (OpenSpec.ofChange courtWorldsSpec)

/-- ITS FALSE NEIGHBOUR: 'it returns false'. Refute it at one input. -/
def courtWorldsWrong : ChangeSpec := { name := "courtWorlds", fn := fun _ => fun
  | [d] => { results := [.lit (.bool false)], args := [d] }
  | _ => none }
def CourtWorldsWrongFalsely : Prop := courtWorldsRow.holds Try.pinned (OpenSpec.ofChange courtWorldsWrong)

/-- 'colletlaw43.CourtTrue': WHATEVER THE INPUT: true; the input reads as it did. -/
def courtTrueSpec : ChangeSpec := { name := "courtTrue", fn := fun _ => fun
  | [d1, d2, d3, d4] => { results := [.lit (.bool true)], args := [d1, d2, d3, d4] }
  | _ => none }
def courtTrueRow : OpenClaim := { program := "ytebmpjdegajhgaa", sum := "a02a12fb892268b39da31512c3ad549741db4e38d267e8be7d167895ed30c763", func := "collet/colletlaw43.CourtTrue", spec := "courtTrue", unfollowed := true, recurses := true, plainKeys := false, apart := false }
def CourtTrueSaid : Prop := courtTrueRow.holds Try.pinned (OpenSpec.ofChange courtTrueSpec)

/-- ITS FALSE NEIGHBOUR: 'it returns false'. Refute it at one input. -/
def courtTrueWrong : ChangeSpec := { name := "courtTrue", fn := fun _ => fun
  | [d1, d2, d3, d4] => { results := [.lit (.bool false)], args := [d1, d2, d3, d4] }
  | _ => none }
def CourtTrueWrongFalsely : Prop := courtTrueRow.holds Try.pinned (OpenSpec.ofChange courtTrueWrong)

/-- 'colletlaw43.CourtLeast': WHATEVER THE INPUT: true; the input reads as it did. -/
def courtLeastSpec : ChangeSpec := { name := "courtLeast", fn := fun _ => fun
  | [d1, d2] => { results := [.lit (.bool true)], args := [d1, d2] }
  | _ => none }
def courtLeastRow : OpenClaim := { program := "ytebmpjdegajhgaa", sum := "a02a12fb892268b39da31512c3ad549741db4e38d267e8be7d167895ed30c763", func := "collet/colletlaw43.CourtLeast", spec := "courtLeast", unfollowed := true, recurses := true, plainKeys := false, apart := false }
def CourtLeastSaid : Prop := courtLeastRow.holds Try.pinned (OpenSpec.ofChange courtLeastSpec)

/-- ITS FALSE NEIGHBOUR: 'it returns false'. Refute it at one input. -/
def courtLeastWrong : ChangeSpec := { name := "courtLeast", fn := fun _ => fun
  | [d1, d2] => { results := [.lit (.bool false)], args := [d1, d2] }
  | _ => none }
def CourtLeastWrongFalsely : Prop := courtLeastRow.holds Try.pinned (OpenSpec.ofChange courtLeastWrong)

/-- 'colletlaw43.CourtMore': WHATEVER THE INPUT: true; the input reads as it did. -/
def courtMoreSpec : ChangeSpec := { name := "courtMore", fn := fun _ => fun
  | [d1, d2, d3, d4, d5] => { results := [.lit (.bool true)], args := [d1, d2, d3, d4, d5] }
  | _ => none }
def courtMoreRow : OpenClaim := { program := "ytebmpjdegajhgaa", sum := "a02a12fb892268b39da31512c3ad549741db4e38d267e8be7d167895ed30c763", func := "collet/colletlaw43.CourtMore", spec := "courtMore", unfollowed := true, recurses := true, plainKeys := false, apart := false }
def CourtMoreSaid : Prop := courtMoreRow.holds Try.pinned (OpenSpec.ofChange courtMoreSpec)

/-- ITS FALSE NEIGHBOUR: 'it returns false'. Refute it at one input. -/
def courtMoreWrong : ChangeSpec := { name := "courtMore", fn := fun _ => fun
  | [d1, d2, d3, d4, d5] => { results := [.lit (.bool false)], args := [d1, d2, d3, d4, d5] }
  | _ => none }
def CourtMoreWrongFalsely : Prop := courtMoreRow.holds Try.pinned (OpenSpec.ofChange courtMoreWrong)

/- THE SECOND FORM. 'bulk': how many values and letters a reading holds, each counted each time it is reached (what is shared counts as often as it is met; a slice's spare places count too). A statement '..UptoSaid' is the law's where the arguments, and the package variables that the reading takes, are together of bulk at most 1048576: NARROWER than '..Said'. Prove '..Said' where nothing that the law and all that it calls make is longer than what came in: it says more and counts as full. Else prove '..UptoSaid'. A law counts once. -/
mutual
def uptoBulk {H : Type} : DataW H → Nat
  | .lit (.string bytes) => bytes.length + 1
  | .lit _ => 1
  | .nil => 1
  | .ptr d => uptoBulk d + 1
  | .slice elems spare => uptoBulkAll elems + uptoBulkAll spare + 1
  | .agg parts => uptoBulkAll parts + 1
  | .iface _ d => uptoBulk d + 1
  | .map entries => uptoBulkEntries entries + 1
  | .held _ => 1
def uptoBulkAll {H : Type} : List (DataW H) → Nat
  | [] => 0
  | d :: r => uptoBulk d + uptoBulkAll r
def uptoBulkEntries {H : Type} : List (Lit × DataW H) → Nat
  | [] => 0
  | x :: r => uptoBulkEntry x + uptoBulkEntries r
def uptoBulkEntry {H : Type} : Lit × DataW H → Nat
  | (.string bytes, d) => bytes.length + uptoBulk d + 1
  | (_, d) => uptoBulk d + 1
 end
def uptoSmall : (H : Type) → List (DataW H) → Bool := fun _ ds => decide (uptoBulkAll ds ≤ 1048576)
def OpenSpec.upto (s : _root_.Go.ChangeSpec) : _root_.Go.OpenSpec := { _root_.Go.OpenSpec.ofChange s with cond := some uptoSmall }

/-- 'colletlaw43.CourtForms', WHERE WHAT IT READS IS OF BULK AT MOST 1048576: true; the input reads as it did. -/
def courtFormsUptoRow : OpenClaim := { program := "ytebmpjdegajhgaa", sum := "a02a12fb892268b39da31512c3ad549741db4e38d267e8be7d167895ed30c763", func := "collet/colletlaw43.CourtForms", spec := "courtForms", unfollowed := true, recurses := true, plainKeys := false, apart := false, narrowed := true }
def CourtFormsUptoSaid : Prop := courtFormsUptoRow.holds Try.pinned (OpenSpec.upto courtFormsSpec)

/-- 'colletlaw43.CourtWorlds', WHERE WHAT IT READS IS OF BULK AT MOST 1048576: true; the input reads as it did. -/
def courtWorldsUptoRow : OpenClaim := { program := "ytebmpjdegajhgaa", sum := "a02a12fb892268b39da31512c3ad549741db4e38d267e8be7d167895ed30c763", func := "collet/colletlaw43.CourtWorlds", spec := "courtWorlds", unfollowed := true, recurses := true, plainKeys := false, apart := false, narrowed := true }
def CourtWorldsUptoSaid : Prop := courtWorldsUptoRow.holds Try.pinned (OpenSpec.upto courtWorldsSpec)

/-- 'colletlaw43.CourtTrue', WHERE WHAT IT READS IS OF BULK AT MOST 1048576: true; the input reads as it did. -/
def courtTrueUptoRow : OpenClaim := { program := "ytebmpjdegajhgaa", sum := "a02a12fb892268b39da31512c3ad549741db4e38d267e8be7d167895ed30c763", func := "collet/colletlaw43.CourtTrue", spec := "courtTrue", unfollowed := true, recurses := true, plainKeys := false, apart := false, narrowed := true }
def CourtTrueUptoSaid : Prop := courtTrueUptoRow.holds Try.pinned (OpenSpec.upto courtTrueSpec)

/-- 'colletlaw43.CourtLeast', WHERE WHAT IT READS IS OF BULK AT MOST 1048576: true; the input reads as it did. -/
def courtLeastUptoRow : OpenClaim := { program := "ytebmpjdegajhgaa", sum := "a02a12fb892268b39da31512c3ad549741db4e38d267e8be7d167895ed30c763", func := "collet/colletlaw43.CourtLeast", spec := "courtLeast", unfollowed := true, recurses := true, plainKeys := false, apart := false, narrowed := true }
def CourtLeastUptoSaid : Prop := courtLeastUptoRow.holds Try.pinned (OpenSpec.upto courtLeastSpec)

/-- 'colletlaw43.CourtMore', WHERE WHAT IT READS IS OF BULK AT MOST 1048576: true; the input reads as it did. -/
def courtMoreUptoRow : OpenClaim := { program := "ytebmpjdegajhgaa", sum := "a02a12fb892268b39da31512c3ad549741db4e38d267e8be7d167895ed30c763", func := "collet/colletlaw43.CourtMore", spec := "courtMore", unfollowed := true, recurses := true, plainKeys := false, apart := false, narrowed := true }
def CourtMoreUptoSaid : Prop := courtMoreUptoRow.holds Try.pinned (OpenSpec.upto courtMoreSpec)

end Rows
end Go.Proofs.Ytebmpjdegajhgaa
