/-
  No cell of these rows narrows 'for every input' (looked for: loops, veiled, ifaces, maps, wideKeys, modest, calm, conditions, laid).
  DERIVED. THE GIVEN ROWS OF THIS SEAT. 11 by the template 'for every input the law returns true; each argument reads behind the call as it read before'; 0 by the template 'total and deterministic' (their statements: YtknbpncolbmoaaaGreatTotals.lean).
  GIVEN WITH THE SEED: the statements are not yours to turn. If you find one false, say at which input.
  Laid BY PROGRAM, IN A SANDBOX (cutbox-rows.mjs): the forced cells as the released guide's own fill.sh prints them over the translation 5def6460b6764a4f… (all of the seat's roots in one cut). By AI agents, Wed Nov 11 2026. No macro, syntax, notation, axiom, sorry.
-/
import Derived.Test.YtknbpncolbmoaaaGreatChecked
import GoSem.Claim
import GoSem.ClaimJoined
import GoSem.ClaimMapViews
import Derived.JoinedTies
import Derived.KernelRfl
namespace Go.Proofs.YtknbpncolbmoaaaGreat
/- THE CELL 'sum', in the pinned program and in every row, IS THE sha256 OF THE DUMP (.gsa) THAT YtknbpncolbmoaaaGreatProg.lean LOADS. Nothing in Lean hashes anything: it is a label: what it is worth is what the hold of that sum in a sandbox is worth. -/
noncomputable def Tryz.pinned : Pinned := { name := "ytknbpncolbmoaaagreat", sum := "5def6460b6764a4f84635e01a5a63897fe264bf34097759105a046e846536582", checked := Tryz.checked }
namespace Rows
def none {H : Type} : Left H := { results := [], args := [] }

/-- 'colletlaw41.BillVains': WHATEVER THE INPUT: true; the input reads as it did. -/
def billVainsSpec : ChangeSpec := { name := "billVains", fn := fun _ => fun
  | [d1, d2, d3, d4, d5] => { results := [.lit (.bool true)], args := [d1, d2, d3, d4, d5] }
  | _ => none }
def billVainsRow : OpenClaim := { program := "ytknbpncolbmoaaagreat", sum := "5def6460b6764a4f84635e01a5a63897fe264bf34097759105a046e846536582", func := "collet/colletlaw41.BillVains", spec := "billVains", unfollowed := true, recurses := true, plainKeys := false, apart := false }
def BillVainsSaid : Prop := billVainsRow.holds Tryz.pinned (OpenSpec.ofChange billVainsSpec)

/-- ITS FALSE NEIGHBOUR: 'it returns false'. Refute it at one input. -/
def billVainsWrong : ChangeSpec := { name := "billVains", fn := fun _ => fun
  | [d1, d2, d3, d4, d5] => { results := [.lit (.bool false)], args := [d1, d2, d3, d4, d5] }
  | _ => none }
def BillVainsWrongFalsely : Prop := billVainsRow.holds Tryz.pinned (OpenSpec.ofChange billVainsWrong)

/-- 'colletlaw41.BillCharges': WHATEVER THE INPUT: true; the input reads as it did. -/
def billChargesSpec : ChangeSpec := { name := "billCharges", fn := fun _ => fun
  | [d1, d2, d3, d4, d5, d6] => { results := [.lit (.bool true)], args := [d1, d2, d3, d4, d5, d6] }
  | _ => none }
def billChargesRow : OpenClaim := { program := "ytknbpncolbmoaaagreat", sum := "5def6460b6764a4f84635e01a5a63897fe264bf34097759105a046e846536582", func := "collet/colletlaw41.BillCharges", spec := "billCharges", unfollowed := true, recurses := true, plainKeys := false, apart := false }
def BillChargesSaid : Prop := billChargesRow.holds Tryz.pinned (OpenSpec.ofChange billChargesSpec)

/-- ITS FALSE NEIGHBOUR: 'it returns false'. Refute it at one input. -/
def billChargesWrong : ChangeSpec := { name := "billCharges", fn := fun _ => fun
  | [d1, d2, d3, d4, d5, d6] => { results := [.lit (.bool false)], args := [d1, d2, d3, d4, d5, d6] }
  | _ => none }
def BillChargesWrongFalsely : Prop := billChargesRow.holds Tryz.pinned (OpenSpec.ofChange billChargesWrong)

/-- 'colletlaw41.BillSums': WHATEVER THE INPUT: true; the input reads as it did. -/
def billSumsSpec : ChangeSpec := { name := "billSums", fn := fun _ => fun
  | [d1, d2, d3, d4] => { results := [.lit (.bool true)], args := [d1, d2, d3, d4] }
  | _ => none }
def billSumsRow : OpenClaim := { program := "ytknbpncolbmoaaagreat", sum := "5def6460b6764a4f84635e01a5a63897fe264bf34097759105a046e846536582", func := "collet/colletlaw41.BillSums", spec := "billSums", unfollowed := true, recurses := true, plainKeys := false, apart := false }
def BillSumsSaid : Prop := billSumsRow.holds Tryz.pinned (OpenSpec.ofChange billSumsSpec)

/-- ITS FALSE NEIGHBOUR: 'it returns false'. Refute it at one input. -/
def billSumsWrong : ChangeSpec := { name := "billSums", fn := fun _ => fun
  | [d1, d2, d3, d4] => { results := [.lit (.bool false)], args := [d1, d2, d3, d4] }
  | _ => none }
def BillSumsWrongFalsely : Prop := billSumsRow.holds Tryz.pinned (OpenSpec.ofChange billSumsWrong)

/-- 'colletlaw41.BillWants': WHATEVER THE INPUT: true; the input reads as it did. -/
def billWantsSpec : ChangeSpec := { name := "billWants", fn := fun _ => fun
  | [d1, d2] => { results := [.lit (.bool true)], args := [d1, d2] }
  | _ => none }
def billWantsRow : OpenClaim := { program := "ytknbpncolbmoaaagreat", sum := "5def6460b6764a4f84635e01a5a63897fe264bf34097759105a046e846536582", func := "collet/colletlaw41.BillWants", spec := "billWants", unfollowed := true, recurses := true, plainKeys := false, apart := false }
def BillWantsSaid : Prop := billWantsRow.holds Tryz.pinned (OpenSpec.ofChange billWantsSpec)

/-- ITS FALSE NEIGHBOUR: 'it returns false'. Refute it at one input. -/
def billWantsWrong : ChangeSpec := { name := "billWants", fn := fun _ => fun
  | [d1, d2] => { results := [.lit (.bool false)], args := [d1, d2] }
  | _ => none }
def BillWantsWrongFalsely : Prop := billWantsRow.holds Tryz.pinned (OpenSpec.ofChange billWantsWrong)

/-- 'colletlaw31.PlanForms': WHATEVER THE INPUT: true; the input reads as it did. -/
def planFormsSpec : ChangeSpec := { name := "planForms", fn := fun _ => fun
  | [d1, d2, d3, d4] => { results := [.lit (.bool true)], args := [d1, d2, d3, d4] }
  | _ => none }
def planFormsRow : OpenClaim := { program := "ytknbpncolbmoaaagreat", sum := "5def6460b6764a4f84635e01a5a63897fe264bf34097759105a046e846536582", func := "collet/colletlaw31.PlanForms", spec := "planForms", unfollowed := true, recurses := true, plainKeys := false, apart := false }
def PlanFormsSaid : Prop := planFormsRow.holds Tryz.pinned (OpenSpec.ofChange planFormsSpec)

/-- ITS FALSE NEIGHBOUR: 'it returns false'. Refute it at one input. -/
def planFormsWrong : ChangeSpec := { name := "planForms", fn := fun _ => fun
  | [d1, d2, d3, d4] => { results := [.lit (.bool false)], args := [d1, d2, d3, d4] }
  | _ => none }
def PlanFormsWrongFalsely : Prop := planFormsRow.holds Tryz.pinned (OpenSpec.ofChange planFormsWrong)

/-- 'colletlaw31.PlanBest': WHATEVER THE INPUT: true; the input reads as it did. -/
def planBestSpec : ChangeSpec := { name := "planBest", fn := fun _ => fun
  | [d1, d2] => { results := [.lit (.bool true)], args := [d1, d2] }
  | _ => none }
def planBestRow : OpenClaim := { program := "ytknbpncolbmoaaagreat", sum := "5def6460b6764a4f84635e01a5a63897fe264bf34097759105a046e846536582", func := "collet/colletlaw31.PlanBest", spec := "planBest", unfollowed := true, recurses := true, plainKeys := false, apart := false }
def PlanBestSaid : Prop := planBestRow.holds Tryz.pinned (OpenSpec.ofChange planBestSpec)

/-- ITS FALSE NEIGHBOUR: 'it returns false'. Refute it at one input. -/
def planBestWrong : ChangeSpec := { name := "planBest", fn := fun _ => fun
  | [d1, d2] => { results := [.lit (.bool false)], args := [d1, d2] }
  | _ => none }
def PlanBestWrongFalsely : Prop := planBestRow.holds Tryz.pinned (OpenSpec.ofChange planBestWrong)

/-- 'colletlaw31.PlanProves': WHATEVER THE INPUT: true; the input reads as it did. -/
def planProvesSpec : ChangeSpec := { name := "planProves", fn := fun _ => fun
  | [d1, d2, d3, d4, d5] => { results := [.lit (.bool true)], args := [d1, d2, d3, d4, d5] }
  | _ => none }
def planProvesRow : OpenClaim := { program := "ytknbpncolbmoaaagreat", sum := "5def6460b6764a4f84635e01a5a63897fe264bf34097759105a046e846536582", func := "collet/colletlaw31.PlanProves", spec := "planProves", unfollowed := true, recurses := true, plainKeys := false, apart := false }
def PlanProvesSaid : Prop := planProvesRow.holds Tryz.pinned (OpenSpec.ofChange planProvesSpec)

/-- ITS FALSE NEIGHBOUR: 'it returns false'. Refute it at one input. -/
def planProvesWrong : ChangeSpec := { name := "planProves", fn := fun _ => fun
  | [d1, d2, d3, d4, d5] => { results := [.lit (.bool false)], args := [d1, d2, d3, d4, d5] }
  | _ => none }
def PlanProvesWrongFalsely : Prop := planProvesRow.holds Tryz.pinned (OpenSpec.ofChange planProvesWrong)

/-- 'colletlaw31.PlanSound': WHATEVER THE INPUT: true; the input reads as it did. -/
def planSoundSpec : ChangeSpec := { name := "planSound", fn := fun _ => fun
  | [d1, d2, d3] => { results := [.lit (.bool true)], args := [d1, d2, d3] }
  | _ => none }
def planSoundRow : OpenClaim := { program := "ytknbpncolbmoaaagreat", sum := "5def6460b6764a4f84635e01a5a63897fe264bf34097759105a046e846536582", func := "collet/colletlaw31.PlanSound", spec := "planSound", unfollowed := true, recurses := true, plainKeys := false, apart := false }
def PlanSoundSaid : Prop := planSoundRow.holds Tryz.pinned (OpenSpec.ofChange planSoundSpec)

/-- ITS FALSE NEIGHBOUR: 'it returns false'. Refute it at one input. -/
def planSoundWrong : ChangeSpec := { name := "planSound", fn := fun _ => fun
  | [d1, d2, d3] => { results := [.lit (.bool false)], args := [d1, d2, d3] }
  | _ => none }
def PlanSoundWrongFalsely : Prop := planSoundRow.holds Tryz.pinned (OpenSpec.ofChange planSoundWrong)

/-- 'colletlaw31.PlanOffers': WHATEVER THE INPUT: true; the input reads as it did. -/
def planOffersSpec : ChangeSpec := { name := "planOffers", fn := fun _ => fun
  | [d1, d2, d3, d4] => { results := [.lit (.bool true)], args := [d1, d2, d3, d4] }
  | _ => none }
def planOffersRow : OpenClaim := { program := "ytknbpncolbmoaaagreat", sum := "5def6460b6764a4f84635e01a5a63897fe264bf34097759105a046e846536582", func := "collet/colletlaw31.PlanOffers", spec := "planOffers", unfollowed := true, recurses := true, plainKeys := false, apart := false }
def PlanOffersSaid : Prop := planOffersRow.holds Tryz.pinned (OpenSpec.ofChange planOffersSpec)

/-- ITS FALSE NEIGHBOUR: 'it returns false'. Refute it at one input. -/
def planOffersWrong : ChangeSpec := { name := "planOffers", fn := fun _ => fun
  | [d1, d2, d3, d4] => { results := [.lit (.bool false)], args := [d1, d2, d3, d4] }
  | _ => none }
def PlanOffersWrongFalsely : Prop := planOffersRow.holds Tryz.pinned (OpenSpec.ofChange planOffersWrong)

/-- 'colletlaw31.PlanMakes': WHATEVER THE INPUT: true; the input reads as it did. -/
def planMakesSpec : ChangeSpec := { name := "planMakes", fn := fun _ => fun
  | [d1, d2, d3] => { results := [.lit (.bool true)], args := [d1, d2, d3] }
  | _ => none }
def planMakesRow : OpenClaim := { program := "ytknbpncolbmoaaagreat", sum := "5def6460b6764a4f84635e01a5a63897fe264bf34097759105a046e846536582", func := "collet/colletlaw31.PlanMakes", spec := "planMakes", unfollowed := true, recurses := true, plainKeys := false, apart := false }
def PlanMakesSaid : Prop := planMakesRow.holds Tryz.pinned (OpenSpec.ofChange planMakesSpec)

/-- ITS FALSE NEIGHBOUR: 'it returns false'. Refute it at one input. -/
def planMakesWrong : ChangeSpec := { name := "planMakes", fn := fun _ => fun
  | [d1, d2, d3] => { results := [.lit (.bool false)], args := [d1, d2, d3] }
  | _ => none }
def PlanMakesWrongFalsely : Prop := planMakesRow.holds Tryz.pinned (OpenSpec.ofChange planMakesWrong)

/-- 'colletlaw41.BillBest': WHATEVER THE INPUT: true; the input reads as it did. -/
def billBestSpec : ChangeSpec := { name := "billBest", fn := fun _ => fun
  | [d] => { results := [.lit (.bool true)], args := [d] }
  | _ => none }
def billBestRow : OpenClaim := { program := "ytknbpncolbmoaaagreat", sum := "5def6460b6764a4f84635e01a5a63897fe264bf34097759105a046e846536582", func := "collet/colletlaw41.BillBest", spec := "billBest", unfollowed := true, recurses := true, plainKeys := false, apart := false }
def BillBestSaid : Prop := billBestRow.holds Tryz.pinned (OpenSpec.ofChange billBestSpec)

/-- ITS FALSE NEIGHBOUR: 'it returns false'. Refute it at one input. -/
def billBestWrong : ChangeSpec := { name := "billBest", fn := fun _ => fun
  | [d] => { results := [.lit (.bool false)], args := [d] }
  | _ => none }
def BillBestWrongFalsely : Prop := billBestRow.holds Tryz.pinned (OpenSpec.ofChange billBestWrong)

/- THE SECOND FORM. 'bulk': how many values and letters a reading holds, each counted each time it is reached (what is shared counts as often as it is met; a slice's spare places count too). A statement '..UptoSaid' is the law's where the arguments, and the package variables that the reading takes, are together of bulk at most 1048576: NARROWER than '..Said'. Prove '..Said' where nothing that the law and all that it calls make is longer than what came in: it says more and counts as full. Else prove '..UptoSaid'. A law counts once. -/
mutual
def uptoBulk {H : Type} : DataW H → Nat
  | .lit (.string bytes) => bytes.length + 1
  | .lit _ => 1
  | .nil => 1
  | .ptr d => uptoBulk d + 1
  | .slice elems spare => uptoBulkAll elems + uptoBulkAll spare + 1
  | .agg parts => uptoBulkAll parts + 1
  | .iface _ d => uptoBulk d + 1
  | .map entries => uptoBulkEntries entries + 1
  | .held _ => 1
def uptoBulkAll {H : Type} : List (DataW H) → Nat
  | [] => 0
  | d :: r => uptoBulk d + uptoBulkAll r
def uptoBulkEntries {H : Type} : List (Lit × DataW H) → Nat
  | [] => 0
  | x :: r => uptoBulkEntry x + uptoBulkEntries r
def uptoBulkEntry {H : Type} : Lit × DataW H → Nat
  | (.string bytes, d) => bytes.length + uptoBulk d + 1
  | (_, d) => uptoBulk d + 1
 end
def uptoSmall : (H : Type) → List (DataW H) → Bool := fun _ ds => decide (uptoBulkAll ds ≤ 1048576)
def OpenSpec.upto (s : _root_.Go.ChangeSpec) : _root_.Go.OpenSpec := { _root_.Go.OpenSpec.ofChange s with cond := some uptoSmall }

/-- 'colletlaw41.BillVains', WHERE WHAT IT READS IS OF BULK AT MOST 1048576: true; the input reads as it did. -/
def billVainsUptoRow : OpenClaim := { program := "ytknbpncolbmoaaagreat", sum := "5def6460b6764a4f84635e01a5a63897fe264bf34097759105a046e846536582", func := "collet/colletlaw41.BillVains", spec := "billVains", unfollowed := true, recurses := true, plainKeys := false, apart := false, narrowed := true }
def BillVainsUptoSaid : Prop := billVainsUptoRow.holds Tryz.pinned (OpenSpec.upto billVainsSpec)

/-- 'colletlaw41.BillCharges', WHERE WHAT IT READS IS OF BULK AT MOST 1048576: true; the input reads as it did. -/
def billChargesUptoRow : OpenClaim := { program := "ytknbpncolbmoaaagreat", sum := "5def6460b6764a4f84635e01a5a63897fe264bf34097759105a046e846536582", func := "collet/colletlaw41.BillCharges", spec := "billCharges", unfollowed := true, recurses := true, plainKeys := false, apart := false, narrowed := true }
def BillChargesUptoSaid : Prop := billChargesUptoRow.holds Tryz.pinned (OpenSpec.upto billChargesSpec)

/-- 'colletlaw41.BillSums', WHERE WHAT IT READS IS OF BULK AT MOST 1048576: true; the input reads as it did. -/
def billSumsUptoRow : OpenClaim := { program := "ytknbpncolbmoaaagreat", sum := "5def6460b6764a4f84635e01a5a63897fe264bf34097759105a046e846536582", func := "collet/colletlaw41.BillSums", spec := "billSums", unfollowed := true, recurses := true, plainKeys := false, apart := false, narrowed := true }
def BillSumsUptoSaid : Prop := billSumsUptoRow.holds Tryz.pinned (OpenSpec.upto billSumsSpec)

/-- 'colletlaw41.BillWants', WHERE WHAT IT READS IS OF BULK AT MOST 1048576: true; the input reads as it did. -/
def billWantsUptoRow : OpenClaim := { program := "ytknbpncolbmoaaagreat", sum := "5def6460b6764a4f84635e01a5a63897fe264bf34097759105a046e846536582", func := "collet/colletlaw41.BillWants", spec := "billWants", unfollowed := true, recurses := true, plainKeys := false, apart := false, narrowed := true }
def BillWantsUptoSaid : Prop := billWantsUptoRow.holds Tryz.pinned (OpenSpec.upto billWantsSpec)

/-- 'colletlaw31.PlanForms', WHERE WHAT IT READS IS OF BULK AT MOST 1048576: true; the input reads as it did. -/
def planFormsUptoRow : OpenClaim := { program := "ytknbpncolbmoaaagreat", sum := "5def6460b6764a4f84635e01a5a63897fe264bf34097759105a046e846536582", func := "collet/colletlaw31.PlanForms", spec := "planForms", unfollowed := true, recurses := true, plainKeys := false, apart := false, narrowed := true }
def PlanFormsUptoSaid : Prop := planFormsUptoRow.holds Tryz.pinned (OpenSpec.upto planFormsSpec)

/-- 'colletlaw31.PlanBest', WHERE WHAT IT READS IS OF BULK AT MOST 1048576: true; the input reads as it did. -/
def planBestUptoRow : OpenClaim := { program := "ytknbpncolbmoaaagreat", sum := "5def6460b6764a4f84635e01a5a63897fe264bf34097759105a046e846536582", func := "collet/colletlaw31.PlanBest", spec := "planBest", unfollowed := true, recurses := true, plainKeys := false, apart := false, narrowed := true }
def PlanBestUptoSaid : Prop := planBestUptoRow.holds Tryz.pinned (OpenSpec.upto planBestSpec)

/-- 'colletlaw31.PlanProves', WHERE WHAT IT READS IS OF BULK AT MOST 1048576: true; the input reads as it did. -/
def planProvesUptoRow : OpenClaim := { program := "ytknbpncolbmoaaagreat", sum := "5def6460b6764a4f84635e01a5a63897fe264bf34097759105a046e846536582", func := "collet/colletlaw31.PlanProves", spec := "planProves", unfollowed := true, recurses := true, plainKeys := false, apart := false, narrowed := true }
def PlanProvesUptoSaid : Prop := planProvesUptoRow.holds Tryz.pinned (OpenSpec.upto planProvesSpec)

/-- 'colletlaw31.PlanSound', WHERE WHAT IT READS IS OF BULK AT MOST 1048576: true; the input reads as it did. -/
def planSoundUptoRow : OpenClaim := { program := "ytknbpncolbmoaaagreat", sum := "5def6460b6764a4f84635e01a5a63897fe264bf34097759105a046e846536582", func := "collet/colletlaw31.PlanSound", spec := "planSound", unfollowed := true, recurses := true, plainKeys := false, apart := false, narrowed := true }
def PlanSoundUptoSaid : Prop := planSoundUptoRow.holds Tryz.pinned (OpenSpec.upto planSoundSpec)

/-- 'colletlaw31.PlanOffers', WHERE WHAT IT READS IS OF BULK AT MOST 1048576: true; the input reads as it did. -/
def planOffersUptoRow : OpenClaim := { program := "ytknbpncolbmoaaagreat", sum := "5def6460b6764a4f84635e01a5a63897fe264bf34097759105a046e846536582", func := "collet/colletlaw31.PlanOffers", spec := "planOffers", unfollowed := true, recurses := true, plainKeys := false, apart := false, narrowed := true }
def PlanOffersUptoSaid : Prop := planOffersUptoRow.holds Tryz.pinned (OpenSpec.upto planOffersSpec)

/-- 'colletlaw31.PlanMakes', WHERE WHAT IT READS IS OF BULK AT MOST 1048576: true; the input reads as it did. -/
def planMakesUptoRow : OpenClaim := { program := "ytknbpncolbmoaaagreat", sum := "5def6460b6764a4f84635e01a5a63897fe264bf34097759105a046e846536582", func := "collet/colletlaw31.PlanMakes", spec := "planMakes", unfollowed := true, recurses := true, plainKeys := false, apart := false, narrowed := true }
def PlanMakesUptoSaid : Prop := planMakesUptoRow.holds Tryz.pinned (OpenSpec.upto planMakesSpec)

/-- 'colletlaw41.BillBest', WHERE WHAT IT READS IS OF BULK AT MOST 1048576: true; the input reads as it did. -/
def billBestUptoRow : OpenClaim := { program := "ytknbpncolbmoaaagreat", sum := "5def6460b6764a4f84635e01a5a63897fe264bf34097759105a046e846536582", func := "collet/colletlaw41.BillBest", spec := "billBest", unfollowed := true, recurses := true, plainKeys := false, apart := false, narrowed := true }
def BillBestUptoSaid : Prop := billBestUptoRow.holds Tryz.pinned (OpenSpec.upto billBestSpec)

end Rows
end Go.Proofs.YtknbpncolbmoaaaGreat
