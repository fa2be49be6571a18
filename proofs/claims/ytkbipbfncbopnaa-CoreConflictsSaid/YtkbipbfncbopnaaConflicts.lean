/- For every list of numbers, every byte, every number of 16 bits and every list of booleans, CoreConflicts returns true, and its arguments read afterwards as before; no condition. -/
import Derived.Test.YtkbipbfncbopnaaCoLa3
import Derived.Test.YtkbipbfncbopnaaCoW
import Derived.Test.YtkbipbfncbopnaaLop
import Derived.Test.YtkbipbfncbopnaaRows
import Derived.WalkKit
import Derived.ProofKit
import Derived.OpenShut
import Derived.ShutString
import Derived.ChangeOld
import Derived.Below
import Derived.SliceStrings
import Derived.Lib.SmallJoins
namespace Go.Proofs.Ytkbipbfncbopnaa.coreConflictsDone
open Go Go.ChangeShapes Go.WideShapes Go.ChangeAt Go.RowKit Go.Eng Go.Lift Go.Joins
open Go.ChangeMaps (open_string shut_string)
set_option linter.unusedVariables false
theorem own : ownKnob Try.prog.godebug = none := by kernel_rfl
theorem laidOut : laidOutB Try.prog = true := by kernel_rfl
set_option maxRecDepth 100000 in
theorem lifted (os : Os) (started : os.Started) (H : Type) (enc : TypeId × Value → H) :
    ReturnsInHanded {} Try.checked os 9 .any (Rows.coreConflictsSpec.pre6 enc Try.prog Try.f9 Rows.coreConflictsRow.domain false) (Rows.coreConflictsSpec.post enc Try.prog Try.f9 false true false false) := by
  refine returnsInHanded_of_change (C := Try.checked) own started (by kernel_rfl) Try.func9
    (ChangeSpec.witness6 (enc := enc) (C := Try.checked) false ⟨#[], #[.slice none 0 0, .int .u8 0, .int .u16 0, .slice none 0 0], []⟩ 8 (by kernel_rfl) (by kernel_rfl) (by kernel_rfl) (by kernel_rfl)) ?_
  intro W base args ds gs before hval0 hW hcnd _
  have hval : ∀ (j : Nat) t v, Try.f9.params[j]? = some t → args[j]? = some v → Value.okWide Try.prog W .any base t v := hval0
  have hW' := hW
  obtain ⟨p, q, hA0, hV, rfl, hfz, hnd⟩ := hW
  have hA : DataW.TrodAll enc Try.prog W 0 (fun _ => true) true Try.f9.params.toList args.toList ds p := hA0
  rw [Try.params9] at hA hval
  obtain ⟨v0, vs0, d0, ds0, p0, q0, hargs, rfl, rfl, h0, r0⟩ := trodAll_cons hA
  obtain ⟨v1, vs1, d1, ds1, p1, q1, rfl, rfl, rfl, h1, r1⟩ := trodAll_cons r0
  obtain ⟨v2, vs2, d2, ds2, p2, q2, rfl, rfl, rfl, h2, r2⟩ := trodAll_cons r1
  obtain ⟨v3, vs3, d3, ds3, p3, q3, rfl, rfl, rfl, h3, r3⟩ := trodAll_cons r2
  obtain ⟨rfl, rfl, rfl⟩ := trodAll_nil r3
  obtain rfl : args = #[v0, v1, v2, v3] := by cases args; simp_all
  obtain ⟨rfl, rfl⟩ := trodVars_none hV
  have k0 := h0
  have lt0 : ∀ x ∈ p0, x.block < W.heap.size := by obtain ⟨m, hm⟩ := k0; exact DataW.trod_lt m _ _ _ hm
  have k1 := h1
  have lt1 : ∀ x ∈ p1, x.block < W.heap.size := by obtain ⟨m, hm⟩ := k1; exact DataW.trod_lt m _ _ _ hm
  have k2 := h2
  have lt2 : ∀ x ∈ p2, x.block < W.heap.size := by obtain ⟨m, hm⟩ := k2; exact DataW.trod_lt m _ _ _ hm
  have k3 := h3
  have lt3 : ∀ x ∈ p3, x.block < W.heap.size := by obtain ⟨m, hm⟩ := k3; exact DataW.trod_lt m _ _ _ hm
  obtain ⟨xs0, hr0, hq0, hl0⟩ := open_rsl Try.underlying58 (by kernel_rfl) (opens_int Try.underlying3 (by kernel_rfl)) (by decide) (hval 0 58 v0 rfl rfl) h0
  obtain ⟨n1, e1, _, _, hw1⟩ := open_int Try.underlying5 (hval 1 5 v1 rfl rfl) h1
  obtain ⟨n2, e2, _, _, hw2⟩ := open_int Try.underlying70 (hval 2 70 v2 rfl rfl) h2
  obtain ⟨xs3, hr3, hq3, hl3⟩ := open_rsl Try.underlying71 (by kernel_rfl) (opens_bool Try.underlying4 (by kernel_rfl)) (by decide) (hval 3 71 v3 rfl rfl) h3
  clear hA0 hval0
  obtain ⟨n_, hn_⟩ := Comp.val_some.1 (Go.Cor.law_CoreConflicts (l := xs0) (raw := xs3) hw1 hw2)
  have walk := ok_colletlaw32_CoreConflicts (w0 := W) okO_O0 hr0 hr3 hn_
  refine Calls.mono (R := fun e W' => e = .returned (.bool true) ∧ Below W.heap.size W W') ?_ fun e W' ⟨he, bel⟩ => ?_
  · rw [e1]; rw [e2]; exact Calls.mono walk fun e W' ⟨_, h1, h2, h3⟩ => ⟨by rw [h1]; exact congrArg _ h3, h2⟩
  · subst he
    exact ⟨_, rfl, _, _, _, [], _, [], hW', trodAll_mk1 (shut_bool Try.underlying4 _), (trodAll_cons_mk (Below.trod laidOut (by kernel_rfl) (of_decide_eq_true (by kernel_rfl)) k0 bel lt0) (trodAll_cons_mk (Below.trod laidOut (by kernel_rfl) (of_decide_eq_true (by kernel_rfl)) k1 bel lt1) (trodAll_cons_mk (Below.trod laidOut (by kernel_rfl) (of_decide_eq_true (by kernel_rfl)) k2 bel lt2) (trodAll_cons_mk (Below.trod laidOut (by kernel_rfl) (of_decide_eq_true (by kernel_rfl)) k3 bel lt3) trodAll_mk0)))), rfl, bel.frame _, fun h => by cases h⟩
theorem proved : Rows.CoreConflictsSaid :=
  OpenClaim.holds_of_wide 9 Try.f9 rfl rfl rfl rfl rfl rfl rfl ⟨rfl, rfl, rfl, rfl, rfl⟩ rfl rfl rfl rfl rfl (by kernel_rfl) Try.func9 (by kernel_rfl)
    (of_decide_eq_true (by kernel_rfl)) (by unfold Func.isWrapper; first | (rw [if_pos (by decide +kernel)]; kernel_rfl) | (rw [if_neg (by decide +kernel)]; exact ⟨rfl, rfl⟩))
    (fun os started H enc _ => lifted os started H enc)
#print axioms proved
end Go.Proofs.Ytkbipbfncbopnaa.coreConflictsDone
