/-
  No cell of these rows narrows 'for every input' (looked for: loops, veiled, ifaces, maps, wideKeys, modest, calm, conditions, laid).
  DERIVED. THE GIVEN ROWS OF THIS SEAT. 11 by the template 'for every input the law returns true; each argument reads behind the call as it read before'; 0 by the template 'total and deterministic' (their statements: YtkbipbfncbopnaaTotals.lean).
  GIVEN WITH THE SEED: the statements are not yours to turn. If you find one false, say at which input.
  Laid BY PROGRAM, IN A SANDBOX (cutbox-rows.mjs): the forced cells as the released guide's own fill.sh prints them over the translation 10c1a448765e7c0f… (all of the seat's roots in one cut). By AI agents, Wed Nov 11 2026. No macro, syntax, notation, axiom, sorry.
-/
import Derived.Test.YtkbipbfncbopnaaChecked
import GoSem.Claim
import GoSem.ClaimJoined
import GoSem.ClaimMapViews
import Derived.JoinedTies
import Derived.KernelRfl
namespace Go.Proofs.Ytkbipbfncbopnaa
/- THE CELL 'sum', in the pinned program and in every row, IS THE sha256 OF THE DUMP (.gsa) THAT YtkbipbfncbopnaaProg.lean LOADS. Nothing in Lean hashes anything: it is a label: what it is worth is what the hold of that sum in a sandbox is worth. -/
noncomputable def Try.pinned : Pinned := { name := "ytkbipbfncbopnaa", sum := "10c1a448765e7c0f58a82dcb150f01eaf2a8c0f9c0b14ac3e236705f2237bb95", checked := Try.checked }
namespace Rows
def none {H : Type} : Left H := { results := [], args := [] }

/-- 'colletlaw37.PassportForms': WHATEVER THE INPUT: true; the input reads as it did. -/
def passportFormsSpec : ChangeSpec := { name := "passportForms", fn := fun _ => fun
  | [d1, d2, d3] => { results := [.lit (.bool true)], args := [d1, d2, d3] }
  | _ => none }
def passportFormsRow : OpenClaim := { program := "ytkbipbfncbopnaa", sum := "10c1a448765e7c0f58a82dcb150f01eaf2a8c0f9c0b14ac3e236705f2237bb95", func := "collet/colletlaw37.PassportForms", spec := "passportForms", inPlace := ["internal/abi.NoEscape"], unfollowed := true, recurses := true, apart := false }
def PassportFormsSaid : Prop := passportFormsRow.holds Try.pinned (OpenSpec.ofChange passportFormsSpec)

/-- ITS FALSE NEIGHBOUR: 'it returns false'. Refute it at one input. -/
def passportFormsWrong : ChangeSpec := { name := "passportForms", fn := fun _ => fun
  | [d1, d2, d3] => { results := [.lit (.bool false)], args := [d1, d2, d3] }
  | _ => none }
def PassportFormsWrongFalsely : Prop := passportFormsRow.holds Try.pinned (OpenSpec.ofChange passportFormsWrong)

/-- 'colletlaw37.PassportChecks': WHATEVER THE INPUT: true; the input reads as it did. -/
def passportChecksSpec : ChangeSpec := { name := "passportChecks", fn := fun _ => fun
  | [d1, d2, d3, d4, d5, d6] => { results := [.lit (.bool true)], args := [d1, d2, d3, d4, d5, d6] }
  | _ => none }
def passportChecksRow : OpenClaim := { program := "ytkbipbfncbopnaa", sum := "10c1a448765e7c0f58a82dcb150f01eaf2a8c0f9c0b14ac3e236705f2237bb95", func := "collet/colletlaw37.PassportChecks", spec := "passportChecks", inPlace := ["internal/abi.NoEscape"], unfollowed := true, recurses := true, apart := false }
def PassportChecksSaid : Prop := passportChecksRow.holds Try.pinned (OpenSpec.ofChange passportChecksSpec)

/-- ITS FALSE NEIGHBOUR: 'it returns false'. Refute it at one input. -/
def passportChecksWrong : ChangeSpec := { name := "passportChecks", fn := fun _ => fun
  | [d1, d2, d3, d4, d5, d6] => { results := [.lit (.bool false)], args := [d1, d2, d3, d4, d5, d6] }
  | _ => none }
def PassportChecksWrongFalsely : Prop := passportChecksRow.holds Try.pinned (OpenSpec.ofChange passportChecksWrong)

/-- 'colletlaw37.PassportGrows': WHATEVER THE INPUT: true; the input reads as it did. -/
def passportGrowsSpec : ChangeSpec := { name := "passportGrows", fn := fun _ => fun
  | [d1, d2] => { results := [.lit (.bool true)], args := [d1, d2] }
  | _ => none }
def passportGrowsRow : OpenClaim := { program := "ytkbipbfncbopnaa", sum := "10c1a448765e7c0f58a82dcb150f01eaf2a8c0f9c0b14ac3e236705f2237bb95", func := "collet/colletlaw37.PassportGrows", spec := "passportGrows", inPlace := ["internal/abi.NoEscape"], unfollowed := true, recurses := true, apart := false }
def PassportGrowsSaid : Prop := passportGrowsRow.holds Try.pinned (OpenSpec.ofChange passportGrowsSpec)

/-- ITS FALSE NEIGHBOUR: 'it returns false'. Refute it at one input. -/
def passportGrowsWrong : ChangeSpec := { name := "passportGrows", fn := fun _ => fun
  | [d1, d2] => { results := [.lit (.bool false)], args := [d1, d2] }
  | _ => none }
def PassportGrowsWrongFalsely : Prop := passportGrowsRow.holds Try.pinned (OpenSpec.ofChange passportGrowsWrong)

/-- 'colletlaw37.PassportBinds': WHATEVER THE INPUT: true; the input reads as it did. -/
def passportBindsSpec : ChangeSpec := { name := "passportBinds", fn := fun _ => fun
  | [d1, d2, d3, d4, d5] => { results := [.lit (.bool true)], args := [d1, d2, d3, d4, d5] }
  | _ => none }
def passportBindsRow : OpenClaim := { program := "ytkbipbfncbopnaa", sum := "10c1a448765e7c0f58a82dcb150f01eaf2a8c0f9c0b14ac3e236705f2237bb95", func := "collet/colletlaw37.PassportBinds", spec := "passportBinds", inPlace := ["internal/abi.NoEscape"], unfollowed := true, recurses := true, apart := false }
def PassportBindsSaid : Prop := passportBindsRow.holds Try.pinned (OpenSpec.ofChange passportBindsSpec)

/-- ITS FALSE NEIGHBOUR: 'it returns false'. Refute it at one input. -/
def passportBindsWrong : ChangeSpec := { name := "passportBinds", fn := fun _ => fun
  | [d1, d2, d3, d4, d5] => { results := [.lit (.bool false)], args := [d1, d2, d3, d4, d5] }
  | _ => none }
def PassportBindsWrongFalsely : Prop := passportBindsRow.holds Try.pinned (OpenSpec.ofChange passportBindsWrong)

/-- 'colletlaw37.PassportForks': WHATEVER THE INPUT: true; the input reads as it did. -/
def passportForksSpec : ChangeSpec := { name := "passportForks", fn := fun _ => fun
  | [d1, d2, d3, d4, d5] => { results := [.lit (.bool true)], args := [d1, d2, d3, d4, d5] }
  | _ => none }
def passportForksRow : OpenClaim := { program := "ytkbipbfncbopnaa", sum := "10c1a448765e7c0f58a82dcb150f01eaf2a8c0f9c0b14ac3e236705f2237bb95", func := "collet/colletlaw37.PassportForks", spec := "passportForks", inPlace := ["internal/abi.NoEscape"], unfollowed := true, recurses := true, apart := false }
def PassportForksSaid : Prop := passportForksRow.holds Try.pinned (OpenSpec.ofChange passportForksSpec)

/-- ITS FALSE NEIGHBOUR: 'it returns false'. Refute it at one input. -/
def passportForksWrong : ChangeSpec := { name := "passportForks", fn := fun _ => fun
  | [d1, d2, d3, d4, d5] => { results := [.lit (.bool false)], args := [d1, d2, d3, d4, d5] }
  | _ => none }
def PassportForksWrongFalsely : Prop := passportForksRow.holds Try.pinned (OpenSpec.ofChange passportForksWrong)

/-- 'colletlaw32.CoreSets': WHATEVER THE INPUT: true; the input reads as it did. -/
def coreSetsSpec : ChangeSpec := { name := "coreSets", fn := fun _ => fun
  | [d1, d2] => { results := [.lit (.bool true)], args := [d1, d2] }
  | _ => none }
def coreSetsRow : OpenClaim := { program := "ytkbipbfncbopnaa", sum := "10c1a448765e7c0f58a82dcb150f01eaf2a8c0f9c0b14ac3e236705f2237bb95", func := "collet/colletlaw32.CoreSets", spec := "coreSets", unfollowed := true, recurses := true, apart := false }
def CoreSetsSaid : Prop := coreSetsRow.holds Try.pinned (OpenSpec.ofChange coreSetsSpec)

/-- ITS FALSE NEIGHBOUR: 'it returns false'. Refute it at one input. -/
def coreSetsWrong : ChangeSpec := { name := "coreSets", fn := fun _ => fun
  | [d1, d2] => { results := [.lit (.bool false)], args := [d1, d2] }
  | _ => none }
def CoreSetsWrongFalsely : Prop := coreSetsRow.holds Try.pinned (OpenSpec.ofChange coreSetsWrong)

/-- 'colletlaw32.CoreConflicts': WHATEVER THE INPUT: true; the input reads as it did. -/
def coreConflictsSpec : ChangeSpec := { name := "coreConflicts", fn := fun _ => fun
  | [d1, d2, d3, d4] => { results := [.lit (.bool true)], args := [d1, d2, d3, d4] }
  | _ => none }
def coreConflictsRow : OpenClaim := { program := "ytkbipbfncbopnaa", sum := "10c1a448765e7c0f58a82dcb150f01eaf2a8c0f9c0b14ac3e236705f2237bb95", func := "collet/colletlaw32.CoreConflicts", spec := "coreConflicts", unfollowed := true, recurses := true, apart := false }
def CoreConflictsSaid : Prop := coreConflictsRow.holds Try.pinned (OpenSpec.ofChange coreConflictsSpec)

/-- ITS FALSE NEIGHBOUR: 'it returns false'. Refute it at one input. -/
def coreConflictsWrong : ChangeSpec := { name := "coreConflicts", fn := fun _ => fun
  | [d1, d2, d3, d4] => { results := [.lit (.bool false)], args := [d1, d2, d3, d4] }
  | _ => none }
def CoreConflictsWrongFalsely : Prop := coreConflictsRow.holds Try.pinned (OpenSpec.ofChange coreConflictsWrong)

/-- 'colletlaw32.CoreDuality': WHATEVER THE INPUT: true; the input reads as it did. -/
def coreDualitySpec : ChangeSpec := { name := "coreDuality", fn := fun _ => fun
  | [d1, d2] => { results := [.lit (.bool true)], args := [d1, d2] }
  | _ => none }
def coreDualityRow : OpenClaim := { program := "ytkbipbfncbopnaa", sum := "10c1a448765e7c0f58a82dcb150f01eaf2a8c0f9c0b14ac3e236705f2237bb95", func := "collet/colletlaw32.CoreDuality", spec := "coreDuality", unfollowed := true, recurses := true, apart := false }
def CoreDualitySaid : Prop := coreDualityRow.holds Try.pinned (OpenSpec.ofChange coreDualitySpec)

/-- ITS FALSE NEIGHBOUR: 'it returns false'. Refute it at one input. -/
def coreDualityWrong : ChangeSpec := { name := "coreDuality", fn := fun _ => fun
  | [d1, d2] => { results := [.lit (.bool false)], args := [d1, d2] }
  | _ => none }
def CoreDualityWrongFalsely : Prop := coreDualityRow.holds Try.pinned (OpenSpec.ofChange coreDualityWrong)

/-- 'colletlaw32.CoreHits': WHATEVER THE INPUT: true; the input reads as it did. -/
def coreHitsSpec : ChangeSpec := { name := "coreHits", fn := fun _ => fun
  | [d1, d2, d3] => { results := [.lit (.bool true)], args := [d1, d2, d3] }
  | _ => none }
def coreHitsRow : OpenClaim := { program := "ytkbipbfncbopnaa", sum := "10c1a448765e7c0f58a82dcb150f01eaf2a8c0f9c0b14ac3e236705f2237bb95", func := "collet/colletlaw32.CoreHits", spec := "coreHits", unfollowed := true, recurses := true, apart := false }
def CoreHitsSaid : Prop := coreHitsRow.holds Try.pinned (OpenSpec.ofChange coreHitsSpec)

/-- ITS FALSE NEIGHBOUR: 'it returns false'. Refute it at one input. -/
def coreHitsWrong : ChangeSpec := { name := "coreHits", fn := fun _ => fun
  | [d1, d2, d3] => { results := [.lit (.bool false)], args := [d1, d2, d3] }
  | _ => none }
def CoreHitsWrongFalsely : Prop := coreHitsRow.holds Try.pinned (OpenSpec.ofChange coreHitsWrong)

/-- 'colletlaw32.CoreRefuses': WHATEVER THE INPUT: true; the input reads as it did. -/
def coreRefusesSpec : ChangeSpec := { name := "coreRefuses", fn := fun _ => fun
  | [d1, d2, d3] => { results := [.lit (.bool true)], args := [d1, d2, d3] }
  | _ => none }
def coreRefusesRow : OpenClaim := { program := "ytkbipbfncbopnaa", sum := "10c1a448765e7c0f58a82dcb150f01eaf2a8c0f9c0b14ac3e236705f2237bb95", func := "collet/colletlaw32.CoreRefuses", spec := "coreRefuses", unfollowed := true, recurses := true, apart := false }
def CoreRefusesSaid : Prop := coreRefusesRow.holds Try.pinned (OpenSpec.ofChange coreRefusesSpec)

/-- ITS FALSE NEIGHBOUR: 'it returns false'. Refute it at one input. -/
def coreRefusesWrong : ChangeSpec := { name := "coreRefuses", fn := fun _ => fun
  | [d1, d2, d3] => { results := [.lit (.bool false)], args := [d1, d2, d3] }
  | _ => none }
def CoreRefusesWrongFalsely : Prop := coreRefusesRow.holds Try.pinned (OpenSpec.ofChange coreRefusesWrong)

/-- 'colletlaw32.CoreLeasts': WHATEVER THE INPUT: true; the input reads as it did. -/
def coreLeastsSpec : ChangeSpec := { name := "coreLeasts", fn := fun _ => fun
  | [d] => { results := [.lit (.bool true)], args := [d] }
  | _ => none }
def coreLeastsRow : OpenClaim := { program := "ytkbipbfncbopnaa", sum := "10c1a448765e7c0f58a82dcb150f01eaf2a8c0f9c0b14ac3e236705f2237bb95", func := "collet/colletlaw32.CoreLeasts", spec := "coreLeasts", unfollowed := true, recurses := true, apart := false }
def CoreLeastsSaid : Prop := coreLeastsRow.holds Try.pinned (OpenSpec.ofChange coreLeastsSpec)

/-- ITS FALSE NEIGHBOUR: 'it returns false'. Refute it at one input. -/
def coreLeastsWrong : ChangeSpec := { name := "coreLeasts", fn := fun _ => fun
  | [d] => { results := [.lit (.bool false)], args := [d] }
  | _ => none }
def CoreLeastsWrongFalsely : Prop := coreLeastsRow.holds Try.pinned (OpenSpec.ofChange coreLeastsWrong)

/- THE SECOND FORM. 'bulk': how many values and letters a reading holds, each counted each time it is reached (what is shared counts as often as it is met; a slice's spare places count too). A statement '..UptoSaid' is the law's where the arguments, and the package variables that the reading takes, are together of bulk at most 1048576: NARROWER than '..Said'. Prove '..Said' where nothing that the law and all that it calls make is longer than what came in: it says more and counts as full. Else prove '..UptoSaid'. A law counts once. -/
mutual
def uptoBulk {H : Type} : DataW H → Nat
  | .lit (.string bytes) => bytes.length + 1
  | .lit _ => 1
  | .nil => 1
  | .ptr d => uptoBulk d + 1
  | .slice elems spare => uptoBulkAll elems + uptoBulkAll spare + 1
  | .agg parts => uptoBulkAll parts + 1
  | .iface _ d => uptoBulk d + 1
  | .map entries => uptoBulkEntries entries + 1
  | .held _ => 1
def uptoBulkAll {H : Type} : List (DataW H) → Nat
  | [] => 0
  | d :: r => uptoBulk d + uptoBulkAll r
def uptoBulkEntries {H : Type} : List (Lit × DataW H) → Nat
  | [] => 0
  | x :: r => uptoBulkEntry x + uptoBulkEntries r
def uptoBulkEntry {H : Type} : Lit × DataW H → Nat
  | (.string bytes, d) => bytes.length + uptoBulk d + 1
  | (_, d) => uptoBulk d + 1
 end
def uptoSmall : (H : Type) → List (DataW H) → Bool := fun _ ds => decide (uptoBulkAll ds ≤ 1048576)
def OpenSpec.upto (s : _root_.Go.ChangeSpec) : _root_.Go.OpenSpec := { _root_.Go.OpenSpec.ofChange s with cond := some uptoSmall }

/-- 'colletlaw37.PassportForms', WHERE WHAT IT READS IS OF BULK AT MOST 1048576: true; the input reads as it did. -/
def passportFormsUptoRow : OpenClaim := { program := "ytkbipbfncbopnaa", sum := "10c1a448765e7c0f58a82dcb150f01eaf2a8c0f9c0b14ac3e236705f2237bb95", func := "collet/colletlaw37.PassportForms", spec := "passportForms", inPlace := ["internal/abi.NoEscape"], unfollowed := true, recurses := true, apart := false, narrowed := true }
def PassportFormsUptoSaid : Prop := passportFormsUptoRow.holds Try.pinned (OpenSpec.upto passportFormsSpec)

/-- 'colletlaw37.PassportChecks', WHERE WHAT IT READS IS OF BULK AT MOST 1048576: true; the input reads as it did. -/
def passportChecksUptoRow : OpenClaim := { program := "ytkbipbfncbopnaa", sum := "10c1a448765e7c0f58a82dcb150f01eaf2a8c0f9c0b14ac3e236705f2237bb95", func := "collet/colletlaw37.PassportChecks", spec := "passportChecks", inPlace := ["internal/abi.NoEscape"], unfollowed := true, recurses := true, apart := false, narrowed := true }
def PassportChecksUptoSaid : Prop := passportChecksUptoRow.holds Try.pinned (OpenSpec.upto passportChecksSpec)

/-- 'colletlaw37.PassportGrows', WHERE WHAT IT READS IS OF BULK AT MOST 1048576: true; the input reads as it did. -/
def passportGrowsUptoRow : OpenClaim := { program := "ytkbipbfncbopnaa", sum := "10c1a448765e7c0f58a82dcb150f01eaf2a8c0f9c0b14ac3e236705f2237bb95", func := "collet/colletlaw37.PassportGrows", spec := "passportGrows", inPlace := ["internal/abi.NoEscape"], unfollowed := true, recurses := true, apart := false, narrowed := true }
def PassportGrowsUptoSaid : Prop := passportGrowsUptoRow.holds Try.pinned (OpenSpec.upto passportGrowsSpec)

/-- 'colletlaw37.PassportBinds', WHERE WHAT IT READS IS OF BULK AT MOST 1048576: true; the input reads as it did. -/
def passportBindsUptoRow : OpenClaim := { program := "ytkbipbfncbopnaa", sum := "10c1a448765e7c0f58a82dcb150f01eaf2a8c0f9c0b14ac3e236705f2237bb95", func := "collet/colletlaw37.PassportBinds", spec := "passportBinds", inPlace := ["internal/abi.NoEscape"], unfollowed := true, recurses := true, apart := false, narrowed := true }
def PassportBindsUptoSaid : Prop := passportBindsUptoRow.holds Try.pinned (OpenSpec.upto passportBindsSpec)

/-- 'colletlaw37.PassportForks', WHERE WHAT IT READS IS OF BULK AT MOST 1048576: true; the input reads as it did. -/
def passportForksUptoRow : OpenClaim := { program := "ytkbipbfncbopnaa", sum := "10c1a448765e7c0f58a82dcb150f01eaf2a8c0f9c0b14ac3e236705f2237bb95", func := "collet/colletlaw37.PassportForks", spec := "passportForks", inPlace := ["internal/abi.NoEscape"], unfollowed := true, recurses := true, apart := false, narrowed := true }
def PassportForksUptoSaid : Prop := passportForksUptoRow.holds Try.pinned (OpenSpec.upto passportForksSpec)

/-- 'colletlaw32.CoreSets', WHERE WHAT IT READS IS OF BULK AT MOST 1048576: true; the input reads as it did. -/
def coreSetsUptoRow : OpenClaim := { program := "ytkbipbfncbopnaa", sum := "10c1a448765e7c0f58a82dcb150f01eaf2a8c0f9c0b14ac3e236705f2237bb95", func := "collet/colletlaw32.CoreSets", spec := "coreSets", unfollowed := true, recurses := true, apart := false, narrowed := true }
def CoreSetsUptoSaid : Prop := coreSetsUptoRow.holds Try.pinned (OpenSpec.upto coreSetsSpec)

/-- 'colletlaw32.CoreConflicts', WHERE WHAT IT READS IS OF BULK AT MOST 1048576: true; the input reads as it did. -/
def coreConflictsUptoRow : OpenClaim := { program := "ytkbipbfncbopnaa", sum := "10c1a448765e7c0f58a82dcb150f01eaf2a8c0f9c0b14ac3e236705f2237bb95", func := "collet/colletlaw32.CoreConflicts", spec := "coreConflicts", unfollowed := true, recurses := true, apart := false, narrowed := true }
def CoreConflictsUptoSaid : Prop := coreConflictsUptoRow.holds Try.pinned (OpenSpec.upto coreConflictsSpec)

/-- 'colletlaw32.CoreDuality', WHERE WHAT IT READS IS OF BULK AT MOST 1048576: true; the input reads as it did. -/
def coreDualityUptoRow : OpenClaim := { program := "ytkbipbfncbopnaa", sum := "10c1a448765e7c0f58a82dcb150f01eaf2a8c0f9c0b14ac3e236705f2237bb95", func := "collet/colletlaw32.CoreDuality", spec := "coreDuality", unfollowed := true, recurses := true, apart := false, narrowed := true }
def CoreDualityUptoSaid : Prop := coreDualityUptoRow.holds Try.pinned (OpenSpec.upto coreDualitySpec)

/-- 'colletlaw32.CoreHits', WHERE WHAT IT READS IS OF BULK AT MOST 1048576: true; the input reads as it did. -/
def coreHitsUptoRow : OpenClaim := { program := "ytkbipbfncbopnaa", sum := "10c1a448765e7c0f58a82dcb150f01eaf2a8c0f9c0b14ac3e236705f2237bb95", func := "collet/colletlaw32.CoreHits", spec := "coreHits", unfollowed := true, recurses := true, apart := false, narrowed := true }
def CoreHitsUptoSaid : Prop := coreHitsUptoRow.holds Try.pinned (OpenSpec.upto coreHitsSpec)

/-- 'colletlaw32.CoreRefuses', WHERE WHAT IT READS IS OF BULK AT MOST 1048576: true; the input reads as it did. -/
def coreRefusesUptoRow : OpenClaim := { program := "ytkbipbfncbopnaa", sum := "10c1a448765e7c0f58a82dcb150f01eaf2a8c0f9c0b14ac3e236705f2237bb95", func := "collet/colletlaw32.CoreRefuses", spec := "coreRefuses", unfollowed := true, recurses := true, apart := false, narrowed := true }
def CoreRefusesUptoSaid : Prop := coreRefusesUptoRow.holds Try.pinned (OpenSpec.upto coreRefusesSpec)

/-- 'colletlaw32.CoreLeasts', WHERE WHAT IT READS IS OF BULK AT MOST 1048576: true; the input reads as it did. -/
def coreLeastsUptoRow : OpenClaim := { program := "ytkbipbfncbopnaa", sum := "10c1a448765e7c0f58a82dcb150f01eaf2a8c0f9c0b14ac3e236705f2237bb95", func := "collet/colletlaw32.CoreLeasts", spec := "coreLeasts", unfollowed := true, recurses := true, apart := false, narrowed := true }
def CoreLeastsUptoSaid : Prop := coreLeastsUptoRow.holds Try.pinned (OpenSpec.upto coreLeastsSpec)

end Rows
end Go.Proofs.Ytkbipbfncbopnaa
