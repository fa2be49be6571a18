/-
  No cell of these rows narrows 'for every input' (looked for: loops, veiled, ifaces, maps, wideKeys, modest, calm, conditions, laid).
  DERIVED. THE GIVEN ROWS OF THIS SEAT. 10 by the template 'for every input the law returns true; each argument reads behind the call as it read before'; 0 by the template 'total and deterministic' (their statements: YtieglkoekhbdpaaGreatTotals.lean).
  GIVEN WITH THE SEED: the statements are not yours to turn. If you find one false, say at which input.
  Laid BY PROGRAM, IN A SANDBOX (cutbox-rows.mjs): the forced cells as the released guide's own fill.sh prints them over the translation c0817fe37e039b5d… (all of the seat's roots in one cut). By AI agents, Wed Nov 11 2026. No macro, syntax, notation, axiom, sorry.
-/
import Derived.Test.YtieglkoekhbdpaaGreatChecked
import GoSem.Claim
import GoSem.ClaimJoined
import GoSem.ClaimMapViews
import Derived.JoinedTies
import Derived.KernelRfl
namespace Go.Proofs.YtieglkoekhbdpaaGreat
/- THE CELL 'sum', in the pinned program and in every row, IS THE sha256 OF THE DUMP (.gsa) THAT YtieglkoekhbdpaaGreatProg.lean LOADS. Nothing in Lean hashes anything: it is a label: what it is worth is what the hold of that sum in a sandbox is worth. -/
noncomputable def Tryz.pinned : Pinned := { name := "ytieglkoekhbdpaagreat", sum := "c0817fe37e039b5d4a17421d703b79abbb8ad28b6895aa6930b0abfec72f2aaf", checked := Tryz.checked }
namespace Rows
def none {H : Type} : Left H := { results := [], args := [] }

/-- 'colletlaw40.AmendForms': WHATEVER THE INPUT: true; the input reads as it did. -/
def amendFormsSpec : ChangeSpec := { name := "amendForms", fn := fun _ => fun
  | [d1, d2, d3, d4] => { results := [.lit (.bool true)], args := [d1, d2, d3, d4] }
  | _ => none }
def amendFormsRow : OpenClaim := { program := "ytieglkoekhbdpaagreat", sum := "c0817fe37e039b5d4a17421d703b79abbb8ad28b6895aa6930b0abfec72f2aaf", func := "collet/colletlaw40.AmendForms", spec := "amendForms", unfollowed := true, recurses := true, plainKeys := false, apart := false }
def AmendFormsSaid : Prop := amendFormsRow.holds Tryz.pinned (OpenSpec.ofChange amendFormsSpec)

/-- ITS FALSE NEIGHBOUR: 'it returns false'. Refute it at one input. -/
def amendFormsWrong : ChangeSpec := { name := "amendForms", fn := fun _ => fun
  | [d1, d2, d3, d4] => { results := [.lit (.bool false)], args := [d1, d2, d3, d4] }
  | _ => none }
def AmendFormsWrongFalsely : Prop := amendFormsRow.holds Tryz.pinned (OpenSpec.ofChange amendFormsWrong)

/-- 'colletlaw40.AmendEnds': WHATEVER THE INPUT: true; the input reads as it did. -/
def amendEndsSpec : ChangeSpec := { name := "amendEnds", fn := fun _ => fun
  | [d1, d2, d3] => { results := [.lit (.bool true)], args := [d1, d2, d3] }
  | _ => none }
def amendEndsRow : OpenClaim := { program := "ytieglkoekhbdpaagreat", sum := "c0817fe37e039b5d4a17421d703b79abbb8ad28b6895aa6930b0abfec72f2aaf", func := "collet/colletlaw40.AmendEnds", spec := "amendEnds", unfollowed := true, recurses := true, plainKeys := false, apart := false }
def AmendEndsSaid : Prop := amendEndsRow.holds Tryz.pinned (OpenSpec.ofChange amendEndsSpec)

/-- ITS FALSE NEIGHBOUR: 'it returns false'. Refute it at one input. -/
def amendEndsWrong : ChangeSpec := { name := "amendEnds", fn := fun _ => fun
  | [d1, d2, d3] => { results := [.lit (.bool false)], args := [d1, d2, d3] }
  | _ => none }
def AmendEndsWrongFalsely : Prop := amendEndsRow.holds Tryz.pinned (OpenSpec.ofChange amendEndsWrong)

/-- 'colletlaw40.AmendMeasured': WHATEVER THE INPUT: true; the input reads as it did. -/
def amendMeasuredSpec : ChangeSpec := { name := "amendMeasured", fn := fun _ => fun
  | [d1, d2, d3, d4] => { results := [.lit (.bool true)], args := [d1, d2, d3, d4] }
  | _ => none }
def amendMeasuredRow : OpenClaim := { program := "ytieglkoekhbdpaagreat", sum := "c0817fe37e039b5d4a17421d703b79abbb8ad28b6895aa6930b0abfec72f2aaf", func := "collet/colletlaw40.AmendMeasured", spec := "amendMeasured", unfollowed := true, recurses := true, plainKeys := false, apart := false }
def AmendMeasuredSaid : Prop := amendMeasuredRow.holds Tryz.pinned (OpenSpec.ofChange amendMeasuredSpec)

/-- ITS FALSE NEIGHBOUR: 'it returns false'. Refute it at one input. -/
def amendMeasuredWrong : ChangeSpec := { name := "amendMeasured", fn := fun _ => fun
  | [d1, d2, d3, d4] => { results := [.lit (.bool false)], args := [d1, d2, d3, d4] }
  | _ => none }
def AmendMeasuredWrongFalsely : Prop := amendMeasuredRow.holds Tryz.pinned (OpenSpec.ofChange amendMeasuredWrong)

/-- 'colletlaw40.AmendFate': WHATEVER THE INPUT: true; the input reads as it did. -/
def amendFateSpec : ChangeSpec := { name := "amendFate", fn := fun _ => fun
  | [d] => { results := [.lit (.bool true)], args := [d] }
  | _ => none }
def amendFateRow : OpenClaim := { program := "ytieglkoekhbdpaagreat", sum := "c0817fe37e039b5d4a17421d703b79abbb8ad28b6895aa6930b0abfec72f2aaf", func := "collet/colletlaw40.AmendFate", spec := "amendFate", unfollowed := true, recurses := true, plainKeys := false, apart := false }
def AmendFateSaid : Prop := amendFateRow.holds Tryz.pinned (OpenSpec.ofChange amendFateSpec)

/-- ITS FALSE NEIGHBOUR: 'it returns false'. Refute it at one input. -/
def amendFateWrong : ChangeSpec := { name := "amendFate", fn := fun _ => fun
  | [d] => { results := [.lit (.bool false)], args := [d] }
  | _ => none }
def AmendFateWrongFalsely : Prop := amendFateRow.holds Tryz.pinned (OpenSpec.ofChange amendFateWrong)

/-- 'colletlaw33.OfferPlans': WHATEVER THE INPUT: true; the input reads as it did. -/
def offerPlansSpec : ChangeSpec := { name := "offerPlans", fn := fun _ => fun
  | [d1, d2, d3, d4] => { results := [.lit (.bool true)], args := [d1, d2, d3, d4] }
  | _ => none }
def offerPlansRow : OpenClaim := { program := "ytieglkoekhbdpaagreat", sum := "c0817fe37e039b5d4a17421d703b79abbb8ad28b6895aa6930b0abfec72f2aaf", func := "collet/colletlaw33.OfferPlans", spec := "offerPlans", unfollowed := true, recurses := true, plainKeys := false, apart := false }
def OfferPlansSaid : Prop := offerPlansRow.holds Tryz.pinned (OpenSpec.ofChange offerPlansSpec)

/-- ITS FALSE NEIGHBOUR: 'it returns false'. Refute it at one input. -/
def offerPlansWrong : ChangeSpec := { name := "offerPlans", fn := fun _ => fun
  | [d1, d2, d3, d4] => { results := [.lit (.bool false)], args := [d1, d2, d3, d4] }
  | _ => none }
def OfferPlansWrongFalsely : Prop := offerPlansRow.holds Tryz.pinned (OpenSpec.ofChange offerPlansWrong)

/-- 'colletlaw33.OfferRefuses': WHATEVER THE INPUT: true; the input reads as it did. -/
def offerRefusesSpec : ChangeSpec := { name := "offerRefuses", fn := fun _ => fun
  | [d1, d2] => { results := [.lit (.bool true)], args := [d1, d2] }
  | _ => none }
def offerRefusesRow : OpenClaim := { program := "ytieglkoekhbdpaagreat", sum := "c0817fe37e039b5d4a17421d703b79abbb8ad28b6895aa6930b0abfec72f2aaf", func := "collet/colletlaw33.OfferRefuses", spec := "offerRefuses", unfollowed := true, recurses := true, plainKeys := false, apart := false }
def OfferRefusesSaid : Prop := offerRefusesRow.holds Tryz.pinned (OpenSpec.ofChange offerRefusesSpec)

/-- ITS FALSE NEIGHBOUR: 'it returns false'. Refute it at one input. -/
def offerRefusesWrong : ChangeSpec := { name := "offerRefuses", fn := fun _ => fun
  | [d1, d2] => { results := [.lit (.bool false)], args := [d1, d2] }
  | _ => none }
def OfferRefusesWrongFalsely : Prop := offerRefusesRow.holds Tryz.pinned (OpenSpec.ofChange offerRefusesWrong)

/-- 'colletlaw33.OfferAccepts': WHATEVER THE INPUT: true; the input reads as it did. -/
def offerAcceptsSpec : ChangeSpec := { name := "offerAccepts", fn := fun _ => fun
  | [d1, d2, d3, d4] => { results := [.lit (.bool true)], args := [d1, d2, d3, d4] }
  | _ => none }
def offerAcceptsRow : OpenClaim := { program := "ytieglkoekhbdpaagreat", sum := "c0817fe37e039b5d4a17421d703b79abbb8ad28b6895aa6930b0abfec72f2aaf", func := "collet/colletlaw33.OfferAccepts", spec := "offerAccepts", unfollowed := true, recurses := true, plainKeys := false, apart := false }
def OfferAcceptsSaid : Prop := offerAcceptsRow.holds Tryz.pinned (OpenSpec.ofChange offerAcceptsSpec)

/-- ITS FALSE NEIGHBOUR: 'it returns false'. Refute it at one input. -/
def offerAcceptsWrong : ChangeSpec := { name := "offerAccepts", fn := fun _ => fun
  | [d1, d2, d3, d4] => { results := [.lit (.bool false)], args := [d1, d2, d3, d4] }
  | _ => none }
def OfferAcceptsWrongFalsely : Prop := offerAcceptsRow.holds Tryz.pinned (OpenSpec.ofChange offerAcceptsWrong)

/-- 'colletlaw33.OfferContradicts': WHATEVER THE INPUT: true; the input reads as it did. -/
def offerContradictsSpec : ChangeSpec := { name := "offerContradicts", fn := fun _ => fun
  | [d] => { results := [.lit (.bool true)], args := [d] }
  | _ => none }
def offerContradictsRow : OpenClaim := { program := "ytieglkoekhbdpaagreat", sum := "c0817fe37e039b5d4a17421d703b79abbb8ad28b6895aa6930b0abfec72f2aaf", func := "collet/colletlaw33.OfferContradicts", spec := "offerContradicts", unfollowed := true, recurses := true, plainKeys := false, apart := false }
def OfferContradictsSaid : Prop := offerContradictsRow.holds Tryz.pinned (OpenSpec.ofChange offerContradictsSpec)

/-- ITS FALSE NEIGHBOUR: 'it returns false'. Refute it at one input. -/
def offerContradictsWrong : ChangeSpec := { name := "offerContradicts", fn := fun _ => fun
  | [d] => { results := [.lit (.bool false)], args := [d] }
  | _ => none }
def OfferContradictsWrongFalsely : Prop := offerContradictsRow.holds Tryz.pinned (OpenSpec.ofChange offerContradictsWrong)

/-- 'colletlaw33.OfferChecked': WHATEVER THE INPUT: true; the input reads as it did. -/
def offerCheckedSpec : ChangeSpec := { name := "offerChecked", fn := fun _ => fun
  | [d1, d2] => { results := [.lit (.bool true)], args := [d1, d2] }
  | _ => none }
def offerCheckedRow : OpenClaim := { program := "ytieglkoekhbdpaagreat", sum := "c0817fe37e039b5d4a17421d703b79abbb8ad28b6895aa6930b0abfec72f2aaf", func := "collet/colletlaw33.OfferChecked", spec := "offerChecked", unfollowed := true, recurses := true, plainKeys := false, apart := false }
def OfferCheckedSaid : Prop := offerCheckedRow.holds Tryz.pinned (OpenSpec.ofChange offerCheckedSpec)

/-- ITS FALSE NEIGHBOUR: 'it returns false'. Refute it at one input. -/
def offerCheckedWrong : ChangeSpec := { name := "offerChecked", fn := fun _ => fun
  | [d1, d2] => { results := [.lit (.bool false)], args := [d1, d2] }
  | _ => none }
def OfferCheckedWrongFalsely : Prop := offerCheckedRow.holds Tryz.pinned (OpenSpec.ofChange offerCheckedWrong)

/-- 'colletlaw33.OfferMore': WHATEVER THE INPUT: true; the input reads as it did. -/
def offerMoreSpec : ChangeSpec := { name := "offerMore", fn := fun _ => fun
  | [d1, d2] => { results := [.lit (.bool true)], args := [d1, d2] }
  | _ => none }
def offerMoreRow : OpenClaim := { program := "ytieglkoekhbdpaagreat", sum := "c0817fe37e039b5d4a17421d703b79abbb8ad28b6895aa6930b0abfec72f2aaf", func := "collet/colletlaw33.OfferMore", spec := "offerMore", unfollowed := true, recurses := true, plainKeys := false, apart := false }
def OfferMoreSaid : Prop := offerMoreRow.holds Tryz.pinned (OpenSpec.ofChange offerMoreSpec)

/-- ITS FALSE NEIGHBOUR: 'it returns false'. Refute it at one input. -/
def offerMoreWrong : ChangeSpec := { name := "offerMore", fn := fun _ => fun
  | [d1, d2] => { results := [.lit (.bool false)], args := [d1, d2] }
  | _ => none }
def OfferMoreWrongFalsely : Prop := offerMoreRow.holds Tryz.pinned (OpenSpec.ofChange offerMoreWrong)

/- THE SECOND FORM. 'bulk': how many values and letters a reading holds, each counted each time it is reached (what is shared counts as often as it is met; a slice's spare places count too). A statement '..UptoSaid' is the law's where the arguments, and the package variables that the reading takes, are together of bulk at most 1048576: NARROWER than '..Said'. Prove '..Said' where nothing that the law and all that it calls make is longer than what came in: it says more and counts as full. Else prove '..UptoSaid'. A law counts once. -/
mutual
def uptoBulk {H : Type} : DataW H → Nat
  | .lit (.string bytes) => bytes.length + 1
  | .lit _ => 1
  | .nil => 1
  | .ptr d => uptoBulk d + 1
  | .slice elems spare => uptoBulkAll elems + uptoBulkAll spare + 1
  | .agg parts => uptoBulkAll parts + 1
  | .iface _ d => uptoBulk d + 1
  | .map entries => uptoBulkEntries entries + 1
  | .held _ => 1
def uptoBulkAll {H : Type} : List (DataW H) → Nat
  | [] => 0
  | d :: r => uptoBulk d + uptoBulkAll r
def uptoBulkEntries {H : Type} : List (Lit × DataW H) → Nat
  | [] => 0
  | x :: r => uptoBulkEntry x + uptoBulkEntries r
def uptoBulkEntry {H : Type} : Lit × DataW H → Nat
  | (.string bytes, d) => bytes.length + uptoBulk d + 1
  | (_, d) => uptoBulk d + 1
 end
def uptoSmall : (H : Type) → List (DataW H) → Bool := fun _ ds => decide (uptoBulkAll ds ≤ 1048576)
def OpenSpec.upto (s : _root_.Go.ChangeSpec) : _root_.Go.OpenSpec := { _root_.Go.OpenSpec.ofChange s with cond := some uptoSmall }

/-- 'colletlaw40.AmendForms', WHERE WHAT IT READS IS OF BULK AT MOST 1048576: true; the input reads as it did. -/
def amendFormsUptoRow : OpenClaim := { program := "ytieglkoekhbdpaagreat", sum := "c0817fe37e039b5d4a17421d703b79abbb8ad28b6895aa6930b0abfec72f2aaf", func := "collet/colletlaw40.AmendForms", spec := "amendForms", unfollowed := true, recurses := true, plainKeys := false, apart := false, narrowed := true }
def AmendFormsUptoSaid : Prop := amendFormsUptoRow.holds Tryz.pinned (OpenSpec.upto amendFormsSpec)

/-- 'colletlaw40.AmendEnds', WHERE WHAT IT READS IS OF BULK AT MOST 1048576: true; the input reads as it did. -/
def amendEndsUptoRow : OpenClaim := { program := "ytieglkoekhbdpaagreat", sum := "c0817fe37e039b5d4a17421d703b79abbb8ad28b6895aa6930b0abfec72f2aaf", func := "collet/colletlaw40.AmendEnds", spec := "amendEnds", unfollowed := true, recurses := true, plainKeys := false, apart := false, narrowed := true }
def AmendEndsUptoSaid : Prop := amendEndsUptoRow.holds Tryz.pinned (OpenSpec.upto amendEndsSpec)

/-- 'colletlaw40.AmendMeasured', WHERE WHAT IT READS IS OF BULK AT MOST 1048576: true; the input reads as it did. -/
def amendMeasuredUptoRow : OpenClaim := { program := "ytieglkoekhbdpaagreat", sum := "c0817fe37e039b5d4a17421d703b79abbb8ad28b6895aa6930b0abfec72f2aaf", func := "collet/colletlaw40.AmendMeasured", spec := "amendMeasured", unfollowed := true, recurses := true, plainKeys := false, apart := false, narrowed := true }
def AmendMeasuredUptoSaid : Prop := amendMeasuredUptoRow.holds Tryz.pinned (OpenSpec.upto amendMeasuredSpec)

/-- 'colletlaw40.AmendFate', WHERE WHAT IT READS IS OF BULK AT MOST 1048576: true; the input reads as it did. -/
def amendFateUptoRow : OpenClaim := { program := "ytieglkoekhbdpaagreat", sum := "c0817fe37e039b5d4a17421d703b79abbb8ad28b6895aa6930b0abfec72f2aaf", func := "collet/colletlaw40.AmendFate", spec := "amendFate", unfollowed := true, recurses := true, plainKeys := false, apart := false, narrowed := true }
def AmendFateUptoSaid : Prop := amendFateUptoRow.holds Tryz.pinned (OpenSpec.upto amendFateSpec)

/-- 'colletlaw33.OfferPlans', WHERE WHAT IT READS IS OF BULK AT MOST 1048576: true; the input reads as it did. -/
def offerPlansUptoRow : OpenClaim := { program := "ytieglkoekhbdpaagreat", sum := "c0817fe37e039b5d4a17421d703b79abbb8ad28b6895aa6930b0abfec72f2aaf", func := "collet/colletlaw33.OfferPlans", spec := "offerPlans", unfollowed := true, recurses := true, plainKeys := false, apart := false, narrowed := true }
def OfferPlansUptoSaid : Prop := offerPlansUptoRow.holds Tryz.pinned (OpenSpec.upto offerPlansSpec)

/-- 'colletlaw33.OfferRefuses', WHERE WHAT IT READS IS OF BULK AT MOST 1048576: true; the input reads as it did. -/
def offerRefusesUptoRow : OpenClaim := { program := "ytieglkoekhbdpaagreat", sum := "c0817fe37e039b5d4a17421d703b79abbb8ad28b6895aa6930b0abfec72f2aaf", func := "collet/colletlaw33.OfferRefuses", spec := "offerRefuses", unfollowed := true, recurses := true, plainKeys := false, apart := false, narrowed := true }
def OfferRefusesUptoSaid : Prop := offerRefusesUptoRow.holds Tryz.pinned (OpenSpec.upto offerRefusesSpec)

/-- 'colletlaw33.OfferAccepts', WHERE WHAT IT READS IS OF BULK AT MOST 1048576: true; the input reads as it did. -/
def offerAcceptsUptoRow : OpenClaim := { program := "ytieglkoekhbdpaagreat", sum := "c0817fe37e039b5d4a17421d703b79abbb8ad28b6895aa6930b0abfec72f2aaf", func := "collet/colletlaw33.OfferAccepts", spec := "offerAccepts", unfollowed := true, recurses := true, plainKeys := false, apart := false, narrowed := true }
def OfferAcceptsUptoSaid : Prop := offerAcceptsUptoRow.holds Tryz.pinned (OpenSpec.upto offerAcceptsSpec)

/-- 'colletlaw33.OfferContradicts', WHERE WHAT IT READS IS OF BULK AT MOST 1048576: true; the input reads as it did. -/
def offerContradictsUptoRow : OpenClaim := { program := "ytieglkoekhbdpaagreat", sum := "c0817fe37e039b5d4a17421d703b79abbb8ad28b6895aa6930b0abfec72f2aaf", func := "collet/colletlaw33.OfferContradicts", spec := "offerContradicts", unfollowed := true, recurses := true, plainKeys := false, apart := false, narrowed := true }
def OfferContradictsUptoSaid : Prop := offerContradictsUptoRow.holds Tryz.pinned (OpenSpec.upto offerContradictsSpec)

/-- 'colletlaw33.OfferChecked', WHERE WHAT IT READS IS OF BULK AT MOST 1048576: true; the input reads as it did. -/
def offerCheckedUptoRow : OpenClaim := { program := "ytieglkoekhbdpaagreat", sum := "c0817fe37e039b5d4a17421d703b79abbb8ad28b6895aa6930b0abfec72f2aaf", func := "collet/colletlaw33.OfferChecked", spec := "offerChecked", unfollowed := true, recurses := true, plainKeys := false, apart := false, narrowed := true }
def OfferCheckedUptoSaid : Prop := offerCheckedUptoRow.holds Tryz.pinned (OpenSpec.upto offerCheckedSpec)

/-- 'colletlaw33.OfferMore', WHERE WHAT IT READS IS OF BULK AT MOST 1048576: true; the input reads as it did. -/
def offerMoreUptoRow : OpenClaim := { program := "ytieglkoekhbdpaagreat", sum := "c0817fe37e039b5d4a17421d703b79abbb8ad28b6895aa6930b0abfec72f2aaf", func := "collet/colletlaw33.OfferMore", spec := "offerMore", unfollowed := true, recurses := true, plainKeys := false, apart := false, narrowed := true }
def OfferMoreUptoSaid : Prop := offerMoreUptoRow.holds Tryz.pinned (OpenSpec.upto offerMoreSpec)

end Rows
end Go.Proofs.YtieglkoekhbdpaaGreat
