/- For every case and byte, BillWants returns true, and its arguments read afterwards as before; no condition. -/
import Derived.Test.YtknbpncolbmoaaaGreatKBWantsE
import Derived.Test.YtknbpncolbmoaaaGreatProg
import Derived.Calls
import Derived.RunT
import Derived.Shelf.SlSortCmp.NoneTotal
import Derived.Ground.SlsfProg
import Derived.SliceStrings
import Derived.ChangeSlices
import Derived.Lib.SmallJoins
import Derived.OpenShut
import Derived.ShutString
import Derived.ChangeOld
import Derived.Test.YtknbpncolbmoaaaGreatRows
import Derived.WalkKit
import Derived.ProofKit
import Derived.Below
set_option linter.unusedSimpArgs false
set_option linter.unusedVariables false
noncomputable section
namespace Go.Dn
open Go Go.Proofs Go.RowKit Go.Eng Go.Lift Go.Den
abbrev prog : Program := Tryz.prog
theorem mixed : prog.follows .mixedOrders = true := by kernel_rfl
def t3 : Ty := .int .i64
def t4 : Ty := .bool
def t5 : Ty := .int .u8
def t9 : Ty := .str
def t23 : Ty := .sl t3
def t22 : Ty := .sl t23
def t25 : Ty := .cons t22 (.cons t23 (.cons t23 .nil))
def t26 : Ty := .arr 3 t3
def t104 : Ty := .cons t3 (.cons t3 (.cons t3 .nil))
def t106 : Ty := .cons t104 (.cons t3 .nil)
def t107 : Ty := .sl t106
def t28 : Ty := .sl t107
def t30 : Ty := .cons t9 (.cons t28 (.cons t23 .nil))
def t31 : Ty := .sl t4
def t33 : Ty := .cons t31 (.cons t31 (.cons t28 .nil))
def t62 : Ty := .cons t28 (.cons t28 (.cons t3 (.cons t23 .nil)))
def t34 : Ty := .sl t62
def t36 : Ty := .cons t30 (.cons t33 (.cons t34 .nil))
def t40 : Ty := .sl t36
def t41 : Ty := .arr 2 t23
def t42 : Ty := .sl t41
def t43 : Ty := .int .i64
def t48 : Ty := .arr 4 t3
def t50 : Ty := .cons t23 (.cons t23 (.cons t48 .nil))
def t60 : Ty := .cons t3 (.cons t3 (.cons t3 .nil))
def t51 : Ty := .sl t60
def t81 : Ty := .cons t3 (.cons t3 .nil)
def t73 : Ty := .sl t81
def t78 : Ty := .sl t5
def t83 : Ty := .sl t73
def t85 : Ty := .cons t3 (.cons t73 .nil)
def t87 : Ty := .sl t85
def t109 : Ty := .fn (.nil) (.cons t43 .nil)
def t112 : Ty := .sl t109
def t117 : Ty := .fn (.cons t3 .nil) (.cons t4 .nil)
def t122 : Ty := .mp t3 t3
def t130 : Ty := .cons t23 (.cons t3 .nil)
def t136 : Ty := .arr 8 t4
def t140 : Ty := .cons t36 (.cons t136 .nil)
def t147 : Ty := .fn (.cons t3 (.cons t136 .nil)) (.nil)
def t156 : Ty := .nil
def t158 : Ty := .fn (.cons t136 (.cons t136 .nil)) (.nil)
def t162 : Ty := .cons t30 (.cons t33 .nil)
def t163 : Ty := .cons t117 (.cons t43 .nil)
def t164 : Ty := .sl t163
def t166 : Ty := .fn (.cons t107 .nil) (.cons t4 .nil)
def t173 : Ty := .fn (.cons t3 (.cons t107 .nil)) (.cons t4 .nil)
def t185 : Ty := .fn (.cons t3 (.cons t136 (.cons t136 .nil))) (.nil)
def t189 : Ty := .sl t106
def t191 : Ty := .sl t28
def t198 : Ty := .fn (.cons t106 .nil) (.cons t4 .nil)
def t202 : Ty := .sl t104
def t208 : Ty := .cons t3 (.cons t3 (.cons t3 (.cons t3 .nil)))
def t203 : Ty := .sl t208
def t210 : Ty := .fn (.cons t208 .nil) (.cons t4 .nil)
def t220 : Ty := .mp t208 t4
def t224 : Ty := .arr 3 t106
def t233 : Ty := .fn (.cons t106 (.cons t106 .nil)) (.cons t3 .nil)
def t245 : Ty := .int .u64
def t246 : Ty := .arr 2 t3
def t247 : Ty := .sl t246
def t249 : Ty := .int .i64
def t257 : Ty := .int .u32
def t259 : Ty := .int .u64
def t260 : Ty := .int .u64
theorem eq3 : EqT prog 3 t3 1 := ZZ (z := .int .i64 0) (sz := 1) (by_ := 8) ⟨by kernel_rfl, by kernel_rfl⟩
def i3 : TI := ⟨.int .i64, .int .i64 0, 1, 8, [], t3, 1, true⟩
theorem ok3 : i3.ok prog 3 := zf ⟨by kernel_rfl, by kernel_rfl⟩ rfl (fun _ => ⟨eq3, by decide, fun _ => by kernel_rfl⟩) (fun _ => KeyB.int (z := .int .i64 0) (sz := 1) (by_ := 8) ⟨by kernel_rfl, by kernel_rfl⟩)
theorem eq4 : EqT prog 4 t4 1 := Bx (z := .bool false) (sz := 1) (by_ := 1) ⟨by kernel_rfl, by kernel_rfl⟩
def i4 : TI := ⟨.bool, .bool false, 1, 1, [], t4, 1, false⟩
theorem ok4 : i4.ok prog 4 := zf ⟨by kernel_rfl, by kernel_rfl⟩ rfl (fun _ => ⟨eq4, by decide, fun _ => by kernel_rfl⟩) (zz rfl)
theorem eq5 : EqT prog 5 t5 1 := ZZ (z := .int .u8 0) (sz := 1) (by_ := 1) ⟨by kernel_rfl, by kernel_rfl⟩
def i5 : TI := ⟨.int .u8, .int .u8 0, 1, 1, [], t5, 1, false⟩
theorem ok5 : i5.ok prog 5 := zf ⟨by kernel_rfl, by kernel_rfl⟩ rfl (fun _ => ⟨eq5, by decide, fun _ => by kernel_rfl⟩) (zz rfl)
theorem eq9 : EqT prog 9 t9 1 := GA (z := .string ⟨#[]⟩) (sz := 1) (by_ := 16) ⟨by kernel_rfl, by kernel_rfl⟩
def i9 : TI := ⟨.string, .string ⟨#[]⟩, 1, 16, [], t9, 1, false⟩
theorem ok9 : i9.ok prog 9 := zf ⟨by kernel_rfl, by kernel_rfl⟩ rfl (fun _ => ⟨eq9, by decide, fun _ => by kernel_rfl⟩) (zz rfl)
def i22 := iS 23 t22
theorem ok22 : i22.ok prog 22 := iS_ok ⟨by kernel_rfl, by kernel_rfl⟩
def i23 := iS 3 t23
theorem ok23 : i23.ok prog 23 := iS_ok ⟨by kernel_rfl, by kernel_rfl⟩
def i25 : TI := ⟨.struct (prog.fieldsOf 25), .agg #[.slice none 0 0, .slice none 0 0, .slice none 0 0], 3, 72, [(22, 0, 0), (23, 1, 0), (23, 2, 0)], t25, 0, false⟩
theorem ok25 : i25.ok prog 25 := yY ⟨by kernel_rfl, by kernel_rfl⟩ (⟨⟨by kernel_rfl, by kernel_rfl, by kernel_rfl⟩, ⟨⟨by kernel_rfl, by kernel_rfl, by kernel_rfl⟩, ⟨⟨by kernel_rfl, by kernel_rfl, by kernel_rfl⟩, trivial⟩⟩⟩) ⟨by kernel_rfl, fun w => by kernel_rfl⟩ (no_eq rfl) (zz rfl)
theorem eq26 : EqT prog 26 t26 2 := XY (z := .agg #[.int .i64 0, .int .i64 0, .int .i64 0]) (sz := 3) (by_ := 24) ⟨by kernel_rfl, by kernel_rfl⟩ (dd' := .int .i64) (z' := .int .i64 0) (k := 1) (by_' := 8) ⟨by kernel_rfl, by kernel_rfl⟩ rfl rfl eq3
def i26 : TI := ⟨.array 3 3, .agg #[.int .i64 0, .int .i64 0, .int .i64 0], 3, 24, [], t26, 2, false⟩
theorem ok26 : i26.ok prog 26 := zf ⟨by kernel_rfl, by kernel_rfl⟩ rfl (fun _ => ⟨eq26, by decide, fun _ => by kernel_rfl⟩) (zz rfl)
def i28 := iS 107 t28
theorem ok28 : i28.ok prog 28 := iS_ok ⟨by kernel_rfl, by kernel_rfl⟩
def i30 : TI := ⟨.struct (prog.fieldsOf 30), .agg #[.string ⟨#[]⟩, .slice none 0 0, .slice none 0 0], 3, 64, [(9, 0, 0), (28, 1, 0), (23, 2, 0)], t30, 0, false⟩
theorem ok30 : i30.ok prog 30 := yY ⟨by kernel_rfl, by kernel_rfl⟩ (⟨⟨by kernel_rfl, by kernel_rfl, by kernel_rfl⟩, ⟨⟨by kernel_rfl, by kernel_rfl, by kernel_rfl⟩, ⟨⟨by kernel_rfl, by kernel_rfl, by kernel_rfl⟩, trivial⟩⟩⟩) ⟨by kernel_rfl, fun w => by kernel_rfl⟩ (no_eq rfl) (zz rfl)
def i31 := iS 4 t31
theorem ok31 : i31.ok prog 31 := iS_ok ⟨by kernel_rfl, by kernel_rfl⟩
def i33 : TI := ⟨.struct (prog.fieldsOf 33), .agg #[.slice none 0 0, .slice none 0 0, .slice none 0 0], 3, 72, [(31, 0, 0), (31, 1, 0), (28, 2, 0)], t33, 0, false⟩
theorem ok33 : i33.ok prog 33 := yY ⟨by kernel_rfl, by kernel_rfl⟩ (⟨⟨by kernel_rfl, by kernel_rfl, by kernel_rfl⟩, ⟨⟨by kernel_rfl, by kernel_rfl, by kernel_rfl⟩, ⟨⟨by kernel_rfl, by kernel_rfl, by kernel_rfl⟩, trivial⟩⟩⟩) ⟨by kernel_rfl, fun w => by kernel_rfl⟩ (no_eq rfl) (zz rfl)
def i34 := iS 62 t34
theorem ok34 : i34.ok prog 34 := iS_ok ⟨by kernel_rfl, by kernel_rfl⟩
def i36 : TI := ⟨.struct (prog.fieldsOf 36), .agg #[.string ⟨#[]⟩, .slice none 0 0, .slice none 0 0, .slice none 0 0, .slice none 0 0, .slice none 0 0, .slice none 0 0], 7, 160, [(30, 0, 2), (33, 3, 2), (34, 6, 0)], t36, 0, false⟩
theorem ok36 : i36.ok prog 36 := yY ⟨by kernel_rfl, by kernel_rfl⟩ (⟨⟨by kernel_rfl, by kernel_rfl, by kernel_rfl⟩, ⟨⟨by kernel_rfl, by kernel_rfl, by kernel_rfl⟩, ⟨⟨by kernel_rfl, by kernel_rfl, by kernel_rfl⟩, trivial⟩⟩⟩) ⟨by kernel_rfl, fun w => by kernel_rfl⟩ (no_eq rfl) (zz rfl)
def i40 := iS 36 t40
theorem ok40 : i40.ok prog 40 := iS_ok ⟨by kernel_rfl, by kernel_rfl⟩
def i41 : TI := ⟨.array 2 23, .agg #[.slice none 0 0, .slice none 0 0], 2, 48, [], t41, 0, false⟩
theorem ok41 : i41.ok prog 41 := zf ⟨by kernel_rfl, by kernel_rfl⟩ rfl (no_eq rfl) (zz rfl)
def i42 := iS 41 t42
theorem ok42 : i42.ok prog 42 := iS_ok ⟨by kernel_rfl, by kernel_rfl⟩
theorem eq43 : EqT prog 43 t43 1 := ZZ (z := .int .i64 0) (sz := 1) (by_ := 8) ⟨by kernel_rfl, by kernel_rfl⟩
def i43 : TI := ⟨.int .i64, .int .i64 0, 1, 8, [], t43, 1, false⟩
theorem ok43 : i43.ok prog 43 := zf ⟨by kernel_rfl, by kernel_rfl⟩ rfl (fun _ => ⟨eq43, by decide, fun _ => by kernel_rfl⟩) (zz rfl)
theorem eq48 : EqT prog 48 t48 2 := XY (z := .agg #[.int .i64 0, .int .i64 0, .int .i64 0, .int .i64 0]) (sz := 4) (by_ := 32) ⟨by kernel_rfl, by kernel_rfl⟩ (dd' := .int .i64) (z' := .int .i64 0) (k := 1) (by_' := 8) ⟨by kernel_rfl, by kernel_rfl⟩ rfl rfl eq3
def i48 : TI := ⟨.array 4 3, .agg #[.int .i64 0, .int .i64 0, .int .i64 0, .int .i64 0], 4, 32, [], t48, 2, false⟩
theorem ok48 : i48.ok prog 48 := zf ⟨by kernel_rfl, by kernel_rfl⟩ rfl (fun _ => ⟨eq48, by decide, fun _ => by kernel_rfl⟩) (zz rfl)
def i50 : TI := ⟨.struct (prog.fieldsOf 50), .agg #[.slice none 0 0, .slice none 0 0, .int .i64 0, .int .i64 0, .int .i64 0, .int .i64 0], 6, 80, [(23, 0, 0), (23, 1, 0), (48, 2, 3)], t50, 0, false⟩
theorem ok50 : i50.ok prog 50 := yY ⟨by kernel_rfl, by kernel_rfl⟩ (⟨⟨by kernel_rfl, by kernel_rfl, by kernel_rfl⟩, ⟨⟨by kernel_rfl, by kernel_rfl, by kernel_rfl⟩, ⟨⟨by kernel_rfl, by kernel_rfl, by kernel_rfl⟩, trivial⟩⟩⟩) ⟨by kernel_rfl, fun w => by kernel_rfl⟩ (no_eq rfl) (zz rfl)
def i51 := iS 60 t51
theorem ok51 : i51.ok prog 51 := iS_ok ⟨by kernel_rfl, by kernel_rfl⟩
theorem eq60 : EqT prog 60 t60 2 := jZ (fs := prog.fieldsOf 60) (z := .agg #[.int .i64 0, .int .i64 0, .int .i64 0]) (sz := 3) (by_ := 24) ⟨by kernel_rfl, by kernel_rfl⟩ rfl rfl (by kernel_rfl) (Zx (D := 1) (ja eq3 (kW _)) (by kernel_rfl))
def i60 : TI := ⟨.struct (prog.fieldsOf 60), .agg #[.int .i64 0, .int .i64 0, .int .i64 0], 3, 24, [(3, 0, 0), (3, 1, 0), (3, 2, 0)], t60, 2, false⟩
theorem ok60 : i60.ok prog 60 := yY ⟨by kernel_rfl, by kernel_rfl⟩ (⟨⟨by kernel_rfl, by kernel_rfl, by kernel_rfl⟩, ⟨⟨by kernel_rfl, by kernel_rfl, by kernel_rfl⟩, ⟨⟨by kernel_rfl, by kernel_rfl, by kernel_rfl⟩, trivial⟩⟩⟩) ⟨by kernel_rfl, fun w => by kernel_rfl⟩ (fun _ => ⟨eq60, by decide, fun _ => by kernel_rfl⟩) (zz rfl)
def i62 : TI := ⟨.struct (prog.fieldsOf 62), .agg #[.slice none 0 0, .slice none 0 0, .int .i64 0, .slice none 0 0], 4, 80, [(28, 0, 0), (28, 1, 0), (3, 2, 0), (23, 3, 0)], t62, 0, false⟩
theorem ok62 : i62.ok prog 62 := yY ⟨by kernel_rfl, by kernel_rfl⟩ (⟨⟨by kernel_rfl, by kernel_rfl, by kernel_rfl⟩, ⟨⟨by kernel_rfl, by kernel_rfl, by kernel_rfl⟩, ⟨⟨by kernel_rfl, by kernel_rfl, by kernel_rfl⟩, ⟨⟨by kernel_rfl, by kernel_rfl, by kernel_rfl⟩, trivial⟩⟩⟩⟩) ⟨by kernel_rfl, fun w => by kernel_rfl⟩ (no_eq rfl) (zz rfl)
def i73 := iS 81 t73
theorem ok73 : i73.ok prog 73 := iS_ok ⟨by kernel_rfl, by kernel_rfl⟩
def i78 := iS 5 t78
theorem ok78 : i78.ok prog 78 := iS_ok ⟨by kernel_rfl, by kernel_rfl⟩
theorem eq81 : EqT prog 81 t81 2 := jZ (fs := prog.fieldsOf 81) (z := .agg #[.int .i64 0, .int .i64 0]) (sz := 2) (by_ := 16) ⟨by kernel_rfl, by kernel_rfl⟩ rfl rfl (by kernel_rfl) (Zx (D := 1) (ja eq3 (kW _)) (by kernel_rfl))
def i81 : TI := ⟨.struct (prog.fieldsOf 81), .agg #[.int .i64 0, .int .i64 0], 2, 16, [(3, 0, 0), (3, 1, 0)], t81, 2, false⟩
theorem ok81 : i81.ok prog 81 := yY ⟨by kernel_rfl, by kernel_rfl⟩ (⟨⟨by kernel_rfl, by kernel_rfl, by kernel_rfl⟩, ⟨⟨by kernel_rfl, by kernel_rfl, by kernel_rfl⟩, trivial⟩⟩) ⟨by kernel_rfl, fun w => by kernel_rfl⟩ (fun _ => ⟨eq81, by decide, fun _ => by kernel_rfl⟩) (zz rfl)
def i83 := iS 73 t83
theorem ok83 : i83.ok prog 83 := iS_ok ⟨by kernel_rfl, by kernel_rfl⟩
def i85 : TI := ⟨.struct (prog.fieldsOf 85), .agg #[.int .i64 0, .slice none 0 0], 2, 32, [(3, 0, 0), (73, 1, 0)], t85, 0, false⟩
theorem ok85 : i85.ok prog 85 := yY ⟨by kernel_rfl, by kernel_rfl⟩ (⟨⟨by kernel_rfl, by kernel_rfl, by kernel_rfl⟩, ⟨⟨by kernel_rfl, by kernel_rfl, by kernel_rfl⟩, trivial⟩⟩) ⟨by kernel_rfl, fun w => by kernel_rfl⟩ (no_eq rfl) (zz rfl)
def i87 := iS 85 t87
theorem ok87 : i87.ok prog 87 := iS_ok ⟨by kernel_rfl, by kernel_rfl⟩
theorem eq104 : EqT prog 104 t104 2 := jZ (fs := prog.fieldsOf 104) (z := .agg #[.int .i64 0, .int .i64 0, .int .i64 0]) (sz := 3) (by_ := 24) ⟨by kernel_rfl, by kernel_rfl⟩ rfl rfl (by kernel_rfl) (Zx (D := 1) (ja eq3 (kW _)) (by kernel_rfl))
def i104 : TI := ⟨.struct (prog.fieldsOf 104), .agg #[.int .i64 0, .int .i64 0, .int .i64 0], 3, 24, [(3, 0, 0), (3, 1, 0), (3, 2, 0)], t104, 2, false⟩
theorem ok104 : i104.ok prog 104 := yY ⟨by kernel_rfl, by kernel_rfl⟩ (⟨⟨by kernel_rfl, by kernel_rfl, by kernel_rfl⟩, ⟨⟨by kernel_rfl, by kernel_rfl, by kernel_rfl⟩, ⟨⟨by kernel_rfl, by kernel_rfl, by kernel_rfl⟩, trivial⟩⟩⟩) ⟨by kernel_rfl, fun w => by kernel_rfl⟩ (fun _ => ⟨eq104, by decide, fun _ => by kernel_rfl⟩) (zz rfl)
theorem eq106 : EqT prog 106 t106 3 := jZ (fs := prog.fieldsOf 106) (z := .agg #[.int .i64 0, .int .i64 0, .int .i64 0, .int .i64 0]) (sz := 4) (by_ := 32) ⟨by kernel_rfl, by kernel_rfl⟩ rfl rfl (by kernel_rfl) (Zx (D := 2) (ja eq3 (ja eq104 (kW _))) (by kernel_rfl))
def i106 : TI := ⟨.struct (prog.fieldsOf 106), .agg #[.int .i64 0, .int .i64 0, .int .i64 0, .int .i64 0], 4, 32, [(104, 0, 2), (3, 3, 0)], t106, 3, false⟩
theorem ok106 : i106.ok prog 106 := yY ⟨by kernel_rfl, by kernel_rfl⟩ (⟨⟨by kernel_rfl, by kernel_rfl, by kernel_rfl⟩, ⟨⟨by kernel_rfl, by kernel_rfl, by kernel_rfl⟩, trivial⟩⟩) ⟨by kernel_rfl, fun w => by kernel_rfl⟩ (fun _ => ⟨eq106, by decide, fun _ => by kernel_rfl⟩) (zz rfl)
def i107 := iS 106 t107
theorem ok107 : i107.ok prog 107 := iS_ok ⟨by kernel_rfl, by kernel_rfl⟩
def i109 : TI := ⟨.func #[] #[43] false, .nilFunc, 1, 8, [], t109, 0, false⟩
theorem ok109 : i109.ok prog 109 := zf ⟨by kernel_rfl, by kernel_rfl⟩ rfl (no_eq rfl) (zz rfl)
def i112 := iS 109 t112
theorem ok112 : i112.ok prog 112 := iS_ok ⟨by kernel_rfl, by kernel_rfl⟩
def i117 : TI := ⟨.func #[3] #[4] false, .nilFunc, 1, 8, [], t117, 0, false⟩
theorem ok117 : i117.ok prog 117 := zf ⟨by kernel_rfl, by kernel_rfl⟩ rfl (no_eq rfl) (zz rfl)
def i122 : TI := ⟨.map 3 3, .map none, 1, 8, [], t122, 0, false⟩
theorem ok122 : i122.ok prog 122 := zf ⟨by kernel_rfl, by kernel_rfl⟩ rfl (no_eq rfl) (zz rfl)
def i130 : TI := ⟨.struct (prog.fieldsOf 130), .agg #[.slice none 0 0, .int .i64 0], 2, 32, [(23, 0, 0), (3, 1, 0)], t130, 0, false⟩
theorem ok130 : i130.ok prog 130 := yY ⟨by kernel_rfl, by kernel_rfl⟩ (⟨⟨by kernel_rfl, by kernel_rfl, by kernel_rfl⟩, ⟨⟨by kernel_rfl, by kernel_rfl, by kernel_rfl⟩, trivial⟩⟩) ⟨by kernel_rfl, fun w => by kernel_rfl⟩ (no_eq rfl) (zz rfl)
theorem eq136 : EqT prog 136 t136 2 := XY (z := .agg #[.bool false, .bool false, .bool false, .bool false, .bool false, .bool false, .bool false, .bool false]) (sz := 8) (by_ := 8) ⟨by kernel_rfl, by kernel_rfl⟩ (dd' := .bool) (z' := .bool false) (k := 1) (by_' := 1) ⟨by kernel_rfl, by kernel_rfl⟩ rfl rfl eq4
def i136 : TI := ⟨.array 8 4, .agg #[.bool false, .bool false, .bool false, .bool false, .bool false, .bool false, .bool false, .bool false], 8, 8, [], t136, 2, false⟩
theorem ok136 : i136.ok prog 136 := zf ⟨by kernel_rfl, by kernel_rfl⟩ rfl (fun _ => ⟨eq136, by decide, fun _ => by kernel_rfl⟩) (zz rfl)
def i140 : TI := ⟨.struct (prog.fieldsOf 140), .agg #[.string ⟨#[]⟩, .slice none 0 0, .slice none 0 0, .slice none 0 0, .slice none 0 0, .slice none 0 0, .slice none 0 0, .bool false, .bool false, .bool false, .bool false, .bool false, .bool false, .bool false, .bool false], 15, 168, [(36, 0, 6), (136, 7, 7)], t140, 0, false⟩
theorem ok140 : i140.ok prog 140 := yY ⟨by kernel_rfl, by kernel_rfl⟩ (⟨⟨by kernel_rfl, by kernel_rfl, by kernel_rfl⟩, ⟨⟨by kernel_rfl, by kernel_rfl, by kernel_rfl⟩, trivial⟩⟩) ⟨by kernel_rfl, fun w => by kernel_rfl⟩ (no_eq rfl) (zz rfl)
def i147 : TI := ⟨.func #[3, 136] #[] false, .nilFunc, 1, 8, [], t147, 0, false⟩
theorem ok147 : i147.ok prog 147 := zf ⟨by kernel_rfl, by kernel_rfl⟩ rfl (no_eq rfl) (zz rfl)
theorem eq156 : EqT prog 156 t156 2 := jZ (fs := prog.fieldsOf 156) (z := .agg #[]) (sz := 0) (by_ := 0) ⟨by kernel_rfl, by kernel_rfl⟩ rfl rfl (by kernel_rfl) (Zx (D := 1) (kW _) (by kernel_rfl))
def i156 : TI := ⟨.struct (prog.fieldsOf 156), .agg #[], 0, 0, [], t156, 2, false⟩
theorem ok156 : i156.ok prog 156 := zf ⟨by kernel_rfl, by kernel_rfl⟩ rfl (fun _ => ⟨eq156, by decide, fun _ => by kernel_rfl⟩) (zz rfl)
def i158 : TI := ⟨.func #[136, 136] #[] false, .nilFunc, 1, 8, [], t158, 0, false⟩
theorem ok158 : i158.ok prog 158 := zf ⟨by kernel_rfl, by kernel_rfl⟩ rfl (no_eq rfl) (zz rfl)
def i162 : TI := ⟨.struct (prog.fieldsOf 162), .agg #[.string ⟨#[]⟩, .slice none 0 0, .slice none 0 0, .slice none 0 0, .slice none 0 0, .slice none 0 0], 6, 136, [(30, 0, 2), (33, 3, 2)], t162, 0, false⟩
theorem ok162 : i162.ok prog 162 := yY ⟨by kernel_rfl, by kernel_rfl⟩ (⟨⟨by kernel_rfl, by kernel_rfl, by kernel_rfl⟩, ⟨⟨by kernel_rfl, by kernel_rfl, by kernel_rfl⟩, trivial⟩⟩) ⟨by kernel_rfl, fun w => by kernel_rfl⟩ (no_eq rfl) (zz rfl)
def i163 : TI := ⟨.struct (prog.fieldsOf 163), .agg #[.nilFunc, .int .i64 0], 2, 16, [(117, 0, 0), (43, 1, 0)], t163, 0, false⟩
theorem ok163 : i163.ok prog 163 := yY ⟨by kernel_rfl, by kernel_rfl⟩ (⟨⟨by kernel_rfl, by kernel_rfl, by kernel_rfl⟩, ⟨⟨by kernel_rfl, by kernel_rfl, by kernel_rfl⟩, trivial⟩⟩) ⟨by kernel_rfl, fun w => by kernel_rfl⟩ (no_eq rfl) (zz rfl)
def i164 := iS 163 t164
theorem ok164 : i164.ok prog 164 := iS_ok ⟨by kernel_rfl, by kernel_rfl⟩
def i166 : TI := ⟨.func #[107] #[4] false, .nilFunc, 1, 8, [], t166, 0, false⟩
theorem ok166 : i166.ok prog 166 := zf ⟨by kernel_rfl, by kernel_rfl⟩ rfl (no_eq rfl) (zz rfl)
def i173 : TI := ⟨.func #[3, 107] #[4] false, .nilFunc, 1, 8, [], t173, 0, false⟩
theorem ok173 : i173.ok prog 173 := zf ⟨by kernel_rfl, by kernel_rfl⟩ rfl (no_eq rfl) (zz rfl)
def i185 : TI := ⟨.func #[3, 136, 136] #[] false, .nilFunc, 1, 8, [], t185, 0, false⟩
theorem ok185 : i185.ok prog 185 := zf ⟨by kernel_rfl, by kernel_rfl⟩ rfl (no_eq rfl) (zz rfl)
def i189 := iS 106 t189
theorem ok189 : i189.ok prog 189 := iS_ok ⟨by kernel_rfl, by kernel_rfl⟩
def i191 := iS 28 t191
theorem ok191 : i191.ok prog 191 := iS_ok ⟨by kernel_rfl, by kernel_rfl⟩
def i198 : TI := ⟨.func #[106] #[4] false, .nilFunc, 1, 8, [], t198, 0, false⟩
theorem ok198 : i198.ok prog 198 := zf ⟨by kernel_rfl, by kernel_rfl⟩ rfl (no_eq rfl) (zz rfl)
def i202 := iS 104 t202
theorem ok202 : i202.ok prog 202 := iS_ok ⟨by kernel_rfl, by kernel_rfl⟩
def i203 := iS 208 t203
theorem ok203 : i203.ok prog 203 := iS_ok ⟨by kernel_rfl, by kernel_rfl⟩
theorem eq208 : EqT prog 208 t208 2 := jZ (fs := prog.fieldsOf 208) (z := .agg #[.int .i64 0, .int .i64 0, .int .i64 0, .int .i64 0]) (sz := 4) (by_ := 32) ⟨by kernel_rfl, by kernel_rfl⟩ rfl rfl (by kernel_rfl) (Zx (D := 1) (ja eq3 (kW _)) (by kernel_rfl))
def i208 : TI := ⟨.struct (prog.fieldsOf 208), .agg #[.int .i64 0, .int .i64 0, .int .i64 0, .int .i64 0], 4, 32, [(3, 0, 0), (3, 1, 0), (3, 2, 0), (3, 3, 0)], t208, 2, true⟩
theorem ok208 : i208.ok prog 208 := yY ⟨by kernel_rfl, by kernel_rfl⟩ (⟨⟨by kernel_rfl, by kernel_rfl, by kernel_rfl⟩, ⟨⟨by kernel_rfl, by kernel_rfl, by kernel_rfl⟩, ⟨⟨by kernel_rfl, by kernel_rfl, by kernel_rfl⟩, ⟨⟨by kernel_rfl, by kernel_rfl, by kernel_rfl⟩, trivial⟩⟩⟩⟩) ⟨by kernel_rfl, fun w => by kernel_rfl⟩ (fun _ => ⟨eq208, by decide, fun _ => by kernel_rfl⟩) (fun _ => KeyB.agg eq208 (by decide) rfl rfl (dd := .struct (prog.fieldsOf 208)) (z := .agg #[.int .i64 0, .int .i64 0, .int .i64 0, .int .i64 0]) (sz := 4) (by_ := 32) ⟨by kernel_rfl, by kernel_rfl⟩ rfl (fun e x w => by kernel_rfl))
def i210 : TI := ⟨.func #[208] #[4] false, .nilFunc, 1, 8, [], t210, 0, false⟩
theorem ok210 : i210.ok prog 210 := zf ⟨by kernel_rfl, by kernel_rfl⟩ rfl (no_eq rfl) (zz rfl)
def i220 : TI := ⟨.map 208 4, .map none, 1, 8, [], t220, 0, false⟩
theorem ok220 : i220.ok prog 220 := zf ⟨by kernel_rfl, by kernel_rfl⟩ rfl (no_eq rfl) (zz rfl)
theorem eq224 : EqT prog 224 t224 4 := XY (z := .agg #[.int .i64 0, .int .i64 0, .int .i64 0, .int .i64 0, .int .i64 0, .int .i64 0, .int .i64 0, .int .i64 0, .int .i64 0, .int .i64 0, .int .i64 0, .int .i64 0]) (sz := 12) (by_ := 96) ⟨by kernel_rfl, by kernel_rfl⟩ (dd' := .struct (prog.fieldsOf 106)) (z' := .agg #[.int .i64 0, .int .i64 0, .int .i64 0, .int .i64 0]) (k := 4) (by_' := 32) ⟨by kernel_rfl, by kernel_rfl⟩ rfl rfl eq106
def i224 : TI := ⟨.array 3 106, .agg #[.int .i64 0, .int .i64 0, .int .i64 0, .int .i64 0, .int .i64 0, .int .i64 0, .int .i64 0, .int .i64 0, .int .i64 0, .int .i64 0, .int .i64 0, .int .i64 0], 12, 96, [], t224, 4, false⟩
theorem ok224 : i224.ok prog 224 := zf ⟨by kernel_rfl, by kernel_rfl⟩ rfl (fun _ => ⟨eq224, by decide, fun _ => by kernel_rfl⟩) (zz rfl)
def i233 : TI := ⟨.func #[106, 106] #[3] false, .nilFunc, 1, 8, [], t233, 0, false⟩
theorem ok233 : i233.ok prog 233 := zf ⟨by kernel_rfl, by kernel_rfl⟩ rfl (no_eq rfl) (zz rfl)
theorem eq245 : EqT prog 245 t245 1 := ZZ (z := .int .u64 0) (sz := 1) (by_ := 8) ⟨by kernel_rfl, by kernel_rfl⟩
def i245 : TI := ⟨.int .u64, .int .u64 0, 1, 8, [], t245, 1, false⟩
theorem ok245 : i245.ok prog 245 := zf ⟨by kernel_rfl, by kernel_rfl⟩ rfl (fun _ => ⟨eq245, by decide, fun _ => by kernel_rfl⟩) (zz rfl)
theorem eq246 : EqT prog 246 t246 2 := XY (z := .agg #[.int .i64 0, .int .i64 0]) (sz := 2) (by_ := 16) ⟨by kernel_rfl, by kernel_rfl⟩ (dd' := .int .i64) (z' := .int .i64 0) (k := 1) (by_' := 8) ⟨by kernel_rfl, by kernel_rfl⟩ rfl rfl eq3
def i246 : TI := ⟨.array 2 3, .agg #[.int .i64 0, .int .i64 0], 2, 16, [], t246, 2, false⟩
theorem ok246 : i246.ok prog 246 := zf ⟨by kernel_rfl, by kernel_rfl⟩ rfl (fun _ => ⟨eq246, by decide, fun _ => by kernel_rfl⟩) (zz rfl)
def i247 := iS 246 t247
theorem ok247 : i247.ok prog 247 := iS_ok ⟨by kernel_rfl, by kernel_rfl⟩
theorem eq249 : EqT prog 249 t249 1 := ZZ (z := .int .i64 0) (sz := 1) (by_ := 8) ⟨by kernel_rfl, by kernel_rfl⟩
def i249 : TI := ⟨.int .i64, .int .i64 0, 1, 8, [], t249, 1, false⟩
theorem ok249 : i249.ok prog 249 := zf ⟨by kernel_rfl, by kernel_rfl⟩ rfl (fun _ => ⟨eq249, by decide, fun _ => by kernel_rfl⟩) (zz rfl)
theorem eq257 : EqT prog 257 t257 1 := ZZ (z := .int .u32 0) (sz := 1) (by_ := 4) ⟨by kernel_rfl, by kernel_rfl⟩
def i257 : TI := ⟨.int .u32, .int .u32 0, 1, 4, [], t257, 1, false⟩
theorem ok257 : i257.ok prog 257 := zf ⟨by kernel_rfl, by kernel_rfl⟩ rfl (fun _ => ⟨eq257, by decide, fun _ => by kernel_rfl⟩) (zz rfl)
theorem eq259 : EqT prog 259 t259 1 := ZZ (z := .int .u64 0) (sz := 1) (by_ := 8) ⟨by kernel_rfl, by kernel_rfl⟩
def i259 : TI := ⟨.int .u64, .int .u64 0, 1, 8, [], t259, 1, false⟩
theorem ok259 : i259.ok prog 259 := zf ⟨by kernel_rfl, by kernel_rfl⟩ rfl (fun _ => ⟨eq259, by decide, fun _ => by kernel_rfl⟩) (zz rfl)
theorem eq260 : EqT prog 260 t260 1 := ZZ (z := .int .u64 0) (sz := 1) (by_ := 8) ⟨by kernel_rfl, by kernel_rfl⟩
def i260 : TI := ⟨.int .u64, .int .u64 0, 1, 8, [], t260, 1, false⟩
theorem ok260 : i260.ok prog 260 := zf ⟨by kernel_rfl, by kernel_rfl⟩ rfl (fun _ => ⟨eq260, by decide, fun _ => by kernel_rfl⟩) (zz rfl)
def T : TE := [(3, i3), (4, i4), (5, i5), (9, i9), (22, i22), (23, i23), (25, i25), (26, i26), (28, i28), (30, i30), (31, i31), (33, i33), (34, i34), (36, i36), (40, i40), (41, i41), (42, i42), (43, i43), (48, i48), (50, i50), (51, i51), (60, i60), (62, i62), (73, i73), (78, i78), (81, i81), (83, i83), (85, i85), (87, i87), (104, i104), (106, i106), (107, i107), (109, i109), (112, i112), (117, i117), (122, i122), (130, i130), (136, i136), (140, i140), (147, i147), (156, i156), (158, i158), (162, i162), (163, i163), (164, i164), (166, i166), (173, i173), (185, i185), (189, i189), (191, i191), (198, i198), (202, i202), (203, i203), (208, i208), (210, i210), (220, i220), (224, i224), (233, i233), (245, i245), (246, i246), (247, i247), (249, i249), (257, i257), (259, i259), (260, i260)]
theorem T_ok : TOk prog T := zM ok3 (zM ok4 (zM ok5 (zM ok9 (zM ok22 (zM ok23 (zM ok25 (zM ok26 (zM ok28 (zM ok30 (zM ok31 (zM ok33 (zM ok34 (zM ok36 (zM ok40 (zM ok41 (zM ok42 (zM ok43 (zM ok48 (zM ok50 (zM ok51 (zM ok60 (zM ok62 (zM ok73 (zM ok78 (zM ok81 (zM ok83 (zM ok85 (zM ok87 (zM ok104 (zM ok106 (zM ok107 (zM ok109 (zM ok112 (zM ok117 (zM ok122 (zM ok130 (zM ok136 (zM ok140 (zM ok147 (zM ok156 (zM ok158 (zM ok162 (zM ok163 (zM ok164 (zM ok166 (zM ok173 (zM ok185 (zM ok189 (zM ok191 (zM ok198 (zM ok202 (zM ok203 (zM ok208 (zM ok210 (zM ok220 (zM ok224 (zM ok233 (zM ok245 (zM ok246 (zM ok247 (zM ok249 (zM ok257 (zM ok259 (zM ok260 (Du _)))))))))))))))))))))))))))))))))))))))))))))))))))))))))))))))))
theorem E0 : EK prog T [] [] [] [] [] := e0 T_ok mixed
end Go.Dn
end
section
namespace Go.Up
open Go
def EG (d : Nat) {β : Type} (e : Except String (World × β)) : Prop := ∀ r, e = .ok r → r.1.drawn = d
theorem EG.bind {d : Nat} {α β : Type} {x : Except String α} {f : α → Except String (World × β)} (h : ∀ a, EG d (f a)) : EG d (x >>= f) := by
 intro r hr
 cases x with
 | error e => cases hr
 | ok a => exact h a r hr
theorem EG.throw {d : Nat} {β : Type} {s : String} : EG d (MonadExcept.throw s : Except String (World × β)) := fun r hr => by cases hr
theorem KW (p : Program) (w : World) (a : Addr) (u : TypeId) (k : Addr) (v : Value) (b : Bool) : EG w.drawn (w.viewStore p a u k v b) := by
 unfold World.viewStore
 dsimp only
 repeat' first
  | exact EG.throw
  | exact EG.error
  | (intro r hr; cases hr; rfl)
  | refine EG.bind fun _ => ?_
  | split
theorem mm (w : World) (a : Addr) (n : Nat) : (w.freeze a n).drawn = w.drawn := by unfold World.freeze; split <;> rfl
theorem MM {α : Type} (k : Ask α) : ∀ (w : World), w.drawn ≤ (w.ask k).2.drawn := by
 induction k with
 | done a => intro w; exact Mb _
 | ask what range k ih =>
  intro w
  unfold World.ask
  simp only []
  split
  ·exact ih _ _
  ·exact Nat.le_trans (Nat.le_succ _) (ih _ { w with drawn := w.drawn + 1 })
theorem Gq (w : World) (c : Sys) : w.drawn ≤ (w.sys c).2.drawn := by
 unfold World.sys
 have h := MM (Kernel.perform c w.os) w
 split
 ·exact Mb _
 ·rename_i r os w' heq
  rw [heq] at h; exact h
def RU (d : Nat) {α : Type} : Result α → Prop
 | .ok _ w => d ≤ w.drawn
 | .halt _ w => d ≤ w.drawn
theorem RU.le {d d' : Nat} {α : Type} {r : Result α} (h : RU d r) (hd : d' ≤ d) : RU d' r := by
 cases r <;> exact Nat.le_trans hd h
theorem uI {p : Program} {w w' : World} {a : Addr} {v : Value} {b : Bool} {l : List Addr} (h : w.farStore p a v b = .ok (w', l)) : w'.drawn = w.drawn := by
 unfold World.farStore at h
 split at h
 ·split at h
  ·rename_i r hr
   cases h
   exact KW _ _ _ _ _ _ _ _ hr
  ·cases h
 ·cases h
theorem ux {α : Type} (p : Program) (e : Sem α) : ∀ w : World, RU w.drawn (e.run p w) := by
 induction e with
 | pure a => intro w; exact Mb _
 | load m a k ih =>
  intro w
  simp only [Sem.run]
  split
  ·exact ih _ _
  ·split
   ·exact ih _ _
   ·exact Mb _
 | store m a v k ih =>
  intro w
  have key : RU w.drawn (match w.cell? a with
   | some _ => if w.frozen? a then .halt (.unsupported (.unsafePointer "a write to bytes that a string shares")) w else k.run p (w.setCell a v)
   | none => match w.farStore p a v (m == .atomic) with
    | .ok (w, _) => k.run p w
    | .error h => .halt h w) := by
   split
   ·split
    ·exact Mb _
    ·exact (ih (w.setCell a v)).le (by unfold World.setCell; exact Mb _)
   ·split
    ·rename_i w' l hw
     exact (ih _).le (by rw [uI hw]; exact Mb _)
    ·exact Mb _
  cases v <;> first | exact key | exact Mb _
 | new o k ih => intro w; exact ih _ { w with heap := w.heap.push o }
 | shape r k ih => intro w; exact ih _ _
 | freeze a n k ih => intro w; exact (ih (w.freeze a n)).le (by rw [mm]; exact Mb _)
 | frozen a k ih => intro w; exact ih _ _
 | getObj r k ih =>
  intro w
  simp only [Sem.run]
  split
  ·exact Mb _
  ·exact ih _ _
  ·exact Mb _
 | setObj r o k ih =>
  intro w
  simp only [Sem.run]
  split
  ·exact Mb _
  ·exact ih { w with heap := w.heap.setIfInBounds r o }
  ·exact Mb _
 | choose q k ih =>
  intro w
  simp only [Sem.run]
  split
  ·exact ih _ _
  ·exact (ih _ { w with drawn := w.drawn + 1 }).le (Nat.le_succ _)
 | sys c k ih => intro w; exact (ih _ _).le (Gq w c)
 | program k ih => intro w; exact ih _ _
 | mark m k ih => intro w; exact ih _
 | halt h => intro w; exact Mb _
theorem pb {α : Type} (p : Program) (e : Sem α) (w : World) (es : Array Event) : RU w.drawn (e.runT p w es).1 := by
 rw [Sem.runT_fst]; exact ux p e w
theorem up_ok {α : Type} {p : Program} {e : Sem α} {w w' : World} {a : α} (h : e.run p w = .ok a w') : w.drawn ≤ w'.drawn := by
 have := ux p e w; rw [h] at this; exact this
theorem Dt {α : Type} {p : Program} {e : Sem α} {w w' : World} {a : Halt} (h : e.run p w = .halt a w') : w.drawn ≤ w'.drawn := by
 have := ux p e w; rw [h] at this; exact this
def GU (d : Nat) : GStep → Prop
 | .go _ w _ | .comm _ _ _ _ w _ | .spawn _ _ w _ | .count _ w _ | .timer _ _ w _ | .alone _ _ w _ | .newcoro _ _ _ w _ | .coroswitch _ _ _ w _ | .collect _ w _ | .watch _ w _ => d ≤ w.drawn
 | .ended _ _ _ => True
theorem GU.le {d d' : Nat} {s : GStep} (h : GU d s) (hd : d' ≤ d) : GU d' s := by
 cases s <;> first | exact Nat.le_trans hd h | trivial
theorem GU.after {d : Nat} {es : Array Event} {s : GStep} (h : GU d s) : GU d (GStep.after es s) := by
 cases s <;> exact h
theorem B5 (fr : Frame) (a : List ByteArray) (m : String) (b : Bool) (w : World) : GU w.drawn (dieOf fr a m b w) := Mb _
theorem jv (fr : Frame) (m : String) (w : World) : GU w.drawn (endThrow fr m w) := Mb _
theorem Zq (p : Program) (fr : Frame) (v : Value) (w : World) : GU w.drawn (endPrinting p fr v w) := by
 unfold endPrinting; dsimp only; split
 ·exact jv _ _ _
 ·trivial
theorem rP (w : World) (fd : Nat) (t : ByteArray) (o : Outcome) : GU w.drawn (endWith w fd t o) := by
 unfold endWith; dsimp only
 split
 ·split <;> trivial
 ·trivial
 ·trivial
theorem XZ (p : Program) (fr : Frame) (callers : List Frame) (dying : Option Dying) (m : String) (w : World) : GU w.drawn (endFatal p fr callers dying m w) := by
 unfold endFatal; dsimp only
 split
 ·rename_i h; exact (B5 _ _ _ _ _).le (up_ok h)
 ·trivial
 ·trivial
theorem runT1 {α : Type} {p : Program} {e : Sem α} {w : World} {es : Array Event} {r : Result α × Array Event} (h : e.runT p w es = r) : RU w.drawn r.1 := by rw [← h]; exact pb p e w es
theorem qe (p : Program) (fr : Frame) (d : Dying) (f : Fatal) (w : World) : GU w.drawn (writeOn p fr d f w) := by
 unfold writeOn; dsimp only
 split
 ·trivial
 ·split
  ·rename_i h; exact runT1 h
  ·rename_i h; exact runT1 h
  ·trivial
  ·trivial
theorem ZC (p : Program) (main : Bool) (fr : Frame) (callers : List Frame) (dying : Option Dying) (v : Value) (w : World) : GU w.drawn (doReturn p main fr callers dying v w) := by
 unfold doReturn
 split
 ·split <;> exact Mb _
 ·split
  ·exact Mb _
  ·trivial
  ·split
   ·exact Mb _
   ·split
    ·exact Mb _
    ·trivial
theorem MG (p : Program) (fr : Frame) (d : Dying) (w : World) : GU w.drawn (die p fr d w) := by
 unfold die; dsimp only
 split
 ·exact qe _ _ _ _ _
 ·split
  ·split
   ·exact Mb _
   ·exact rP _ _ _ _
  ·split
   ·exact Mb _
   ·split
    ·rename_i h; exact up_ok h
    ·trivial
   ·refine GU.after ?_
    generalize hr : (Sem.runT p _ w #[]) = r
    have h := runT1 hr
    clear hr
    split <;> rename_i h' <;> first | trivial | skip
    ·rw [h'] at h; exact h
    ·rw [h'] at h; exact h
    ·rw [h'] at h; exact (Zq _ _ _ _).le h
   ·trivial
theorem GU.ite {d : Nat} {p : Prop} [Decidable p] {a b : GStep} (h1 : GU d a) (h2 : GU d b) : GU d (if p then a else b) := by split <;> assumption
theorem Xp (p : Program) (fr : Frame) (callers : List Frame) (dying : Option Dying) (d : Deferred) (w : World) : GU w.drawn (callDeferred p fr callers dying d w) := by
 unfold callDeferred
 refine GU.ite trivial ?_
 dsimp only
 refine GU.after ?_
 generalize hr : (Sem.runT p _ w #[]) = r
 have h := runT1 hr
 clear hr
 split <;> rename_i h' <;> rw [h'] at h <;> first
  | trivial
  | exact h
  | exact (XZ _ _ _ _ _ _).le h
  | exact (jv _ _ _).le h
  | (split <;> exact h)
theorem r9 (p : Program) (main : Bool) (fr : Frame) (callers : List Frame) (dying : Option Dying) (w : World) : GU w.drawn (unwind p main fr callers dying w) := by
 unfold unwind
 split
 ·dsimp only
  refine GU.after ?_
  generalize hr : (Sem.runT p _ w #[]) = r
  have h := runT1 hr
  clear hr
  split <;> rename_i h' <;> rw [h'] at h <;> first | trivial | exact h
 ·exact Xp _ _ _ _ _ _
 ·split
  ·trivial
  ·split
   ·trivial
   ·split
    ·exact Mb _
    ·split
     ·split
      ·exact Mb _
      ·split
       ·rename_i h; exact up_ok h
       ·trivial
       ·trivial
     ·split
      ·exact Zq _ _ _ _
      ·trivial
  ·split
   ·exact ZC _ _ _ _ _ _ _
   ·dsimp only
    refine GU.after ?_
    generalize hr : (Sem.runT p _ w #[]) = r
    have h := runT1 hr
    clear hr
    split <;> rename_i h' <;> rw [h'] at h <;> first | trivial | exact (ZC _ _ _ _ _ _ _).le h
theorem B3 (p : Program) (fr : Frame) (callers : List Frame) (dying : Option Dying) (g : Nat) (w : World) : GU w.drawn (early p fr callers dying g w) := by
 have nY : ∀ w' : World, w.drawn ≤ w'.drawn → GU w.drawn (match w'.heap[g]? with
  | some (.pending c elem) => GStep.go { frame := fr, callers, status := .running, dying } { w' with heap := w'.heap.setIfInBounds g (.cells c elem) }
  | _ => .ended (.stuck "early: the variable does not wait" (fr.pos p)) w') := by
  intro w' h
  split
  ·exact h
  ·trivial
 unfold early; dsimp only
 repeat' first
  | exact nY _ (Mb _)
  | trivial
  | exact Mb _
  | (rename_i h; exact nY _ (up_ok h))
  | (rename_i h; exact up_ok h)
  | split
theorem Yp (p : Program) (listen : Bool) (fr : Frame) (callers : List Frame) (dying : Option Dying) (s : Sem Next) (w : World) : GU w.drawn (stepG.apply p listen fr callers dying s w) := by
 unfold stepG.apply; dsimp only
 refine GU.after ?_
 have h : RU w.drawn (if listen then s.runT p w #[] else (s.run p w, #[])).1 := by
  split
  ·exact pb _ _ _ _
  ·exact ux _ _ _
 generalize (if listen then s.runT p w #[] else (s.run p w, #[])) = r at h
 clear s
 split <;> rename_i h' <;> rw [h'] at h <;> first
  | trivial
  | exact h
  | exact (XZ _ _ _ _ _ _).le h
  | exact (jv _ _ _).le h
  | exact (B3 _ _ _ _ _ _).le h
  | exact GU.ite ((jv _ _ _).le h) h
  | (split <;> first | exact h | exact (jv _ _ _).le h)
theorem ES (p : Program) (listen : Bool) (fr : Frame) (callers : List Frame) (dying : Option Dying) (w : World) : GU w.drawn (stepG.oper p listen fr callers dying w) := by
 unfold stepG.oper
 split
 ·trivial
 ·split <;> exact Yp _ _ _ _ _ _ _
theorem GU.elim {d : Nat} {α : Type} {o : Option α} {a : GStep} {f : α → GStep} (h1 : GU d a) (h2 : ∀ x, GU d (f x)) : GU d (o.elim a f) := by
 cases o
 ·exact h1
 ·exact h2 _
theorem E9 (p : Program) (main : Bool) (listen : Bool) (fr : Frame) (callers : List Frame) (dying : Option Dying) (w : World) : GU w.drawn (stepG.exec p main listen fr callers dying w) := by
 unfold stepG.exec; dsimp only
 split
 all_goals first
  | exact Mb _
  | trivial
  | exact Yp _ _ _ _ _ _ _
  | (refine GU.elim ?_ (fun _ => Mb _); split; exact GU.ite (Mb _) trivial; refine GU.after ?_; generalize hr : (Sem.runT _ _ _ #[]) = r; have h := runT1 hr; clear hr; split <;> rename_i h' <;> rw [h'] at h <;> first | trivial | exact (ZC _ _ _ _ _ _ _).le h)
  | (refine GU.elim trivial fun _ => Yp _ _ _ _ _ _ _; done)
  | (split; exact GU.ite (Mb _) trivial; refine GU.after ?_; generalize hr : (Sem.runT _ _ _ #[]) = r; have h := runT1 hr; clear hr; split <;> rename_i h' <;> rw [h'] at h <;> first | trivial | exact (ZC _ _ _ _ _ _ _).le h)
  | (refine GU.ite (ES _ _ _ _ _ _) (Mb _); done)
  | (refine GU.ite (Mb _) ?_; split <;> rename_i h <;> first | trivial | exact up_ok h)
  | (refine GU.after ?_; generalize hr : (Sem.runT p _ w #[]) = r; have h := runT1 hr; clear hr; split <;> rename_i h' <;> rw [h'] at h <;> first | trivial | exact h | exact (Yp _ _ _ _ _ _ _).le h)
  | (split <;> first | exact Mb _ | trivial)
theorem Ad (p : Program) (main : Bool) (g : Goroutine) (w : World) (listen : Bool) : GU w.drawn (stepG p main g w listen) := by
 unfold stepG; dsimp only
 split
 ·exact MG _ _ _ _
 ·exact E9 _ _ _ _ _ _ _
 ·exact r9 _ _ _ _ _ _
def SU (d : Nat) : Stepped → Prop
 | .next m => d ≤ m.world.drawn
 | .ended _ _ => True
theorem SU.le {d d' : Nat} {s : Stepped} (h : SU d s) (hd : d' ≤ d) : SU d' s := by
 cases s <;> first | exact Nat.le_trans hd h | trivial
theorem SU.ite {d : Nat} {p : Prop} [Decidable p] {a b : Stepped} (h1 : SU d a) (h2 : SU d b) : SU d (if p then a else b) := by split <;> assumption
theorem SU.ite1 {d : Nat} {β : Type} {p : Prop} [Decidable p] {a b : Stepped × β} (h1 : SU d a.1) (h2 : SU d b.1) : SU d (if p then a else b).1 := by split <;> assumption
theorem mS (p : Program) (gs : Array Goroutine) (rest : Rest) (w : World) : SU w.drawn (look p gs rest w) := by
 unfold look; dsimp only
 split
 ·refine SU.ite trivial ?_
  split
  ·trivial
  ·split <;> rename_i h <;> first
    | trivial
    | (have h1 := up_ok h; exact h1)
 ·trivial
theorem KV {rest : Rest} {cases : Array CommCase} {w w' : World} (h : waitingAt rest cases w = some w') : w'.drawn = w.drawn := by
 unfold waitingAt at h
 split at h
 ·split at h <;> cases h; rfl
 ·cases h; rfl
theorem Xy (p : Program) (rest : Rest) (gs : Array Goroutine) (i : Nat) (g : Goroutine) (cases : Array CommCase) (blocking : Bool) (shape : CommShape) (w : World) : SU w.drawn (communicate p rest gs i g cases blocking shape w).1 := by
 unfold communicate; dsimp only
 refine SU.ite1 trivial (SU.ite1 (SU.ite1 ?_ (Mb _)) ?_)
 ·split
  ·rename_i h; show _ ≤ _; rw [KV h]; exact Mb _
  ·trivial
 ·split
  ·trivial
  ·rename_i h
   have hu := up_ok h
   clear h
   split
   ·split
    ·rename_i h2; exact Nat.le_trans hu (Dt h2)
    ·trivial
   ·exact hu
   ·exact hu
   ·split
    ·exact hu
    ·split
     ·rename_i h2
      have h3 := Nat.le_trans hu (up_ok h2)
      exact h3
     ·trivial
   ·exact hu
   ·exact hu
   ·trivial
theorem B4 (w : World) (c : Nat) : (drain w c).2.drawn = w.drawn := by unfold drain; split <;> rfl
theorem Kg (m : Machine) (k : Nat) (t : Timer) (a b : Nat) : (retime m k t a b).2.world.drawn = m.world.drawn := by
 unfold retime; dsimp only
 split
 ·exact B4 _ _
 ·rfl
theorem nN {m m' : Machine} {v : Addr} (h : timerOp.opened m v = some m') : m'.world.drawn = m.world.drawn := by
 unfold timerOp.opened at h
 split at h
 ·split at h <;> cases h; rfl
 ·cases h; rfl
theorem tQ {m m1 m' : Machine} {v : Addr} {f : Nat → Timer → Value × Machine} {u : Value} (hf : ∀ k t, (f k t).2.world.drawn = m1.world.drawn) (h : timerOp.named m v f = .ok (u, m')) : m'.world.drawn = m1.world.drawn := by
 unfold timerOp.named at h
 split at h
 ·rename_i k hk
  have h3 := hf k (m.rest.timers.getD k default)
  injection h with h
  rw [h] at h3; exact h3
 ·cases h
theorem qg {m m' : Machine} {op : TimerOp} {v : Value} (h : timerOp m op = .ok (v, m')) : m'.world.drawn = m.world.drawn := by
 unfold timerOp at h
 split at h
 ·split at h
  ·cases h; rfl
  ·split at h
   ·split at h
    ·cases h
    ·cases h; rfl
   ·cases h
 ·exact tQ (fun k t => Kg _ _ _ _ _) h
 ·split at h
  ·rename_i h1
   have := tQ (m1 := _) (fun k t => Kg _ _ _ _ _) h
   rw [this]; exact nN h1
  ·cases h
 ·cases h; rfl
theorem pd (p : Program) (m : Machine) (i : Nat) (listen : Bool) : SU m.world.drawn (runT p m i listen).1 := by
 unfold runT; dsimp only
 have h := Ad p (i == 0) (m.gs.swapAt! i { (default : Goroutine) with status := .finished }).1 m.world listen
 generalize stepG p (i == 0) (m.gs.swapAt! i { (default : Goroutine) with status := .finished }).1 m.world listen = s at h
 cases s with
 | ended => trivial
 | comm => exact (Xy _ _ _ _ _ _ _ _ _).le h
 | go => exact h
 | spawn => exact h
 | count => exact SU.ite trivial h
 | alone => exact h
 | collect => exact (mS _ _ _ _).le h
 | watch => exact h
 | newcoro => exact h
 | coroswitch g c exit w es =>
  dsimp only
  split
  ·exact h
  ·exact h
  ·trivial
 | timer g op w es =>
  dsimp only
  split
  ·rename_i h2
   have h3 := qg h2
   show _ ≤ _
   rw [h3]; exact h
  ·exact h
  ·trivial
  ·trivial
theorem As (p : Program) (m : Machine) (k : Nat) : SU m.world.drawn (serve p m k) := by
 unfold serve; dsimp only
 split
 ·trivial
 ·exact Mb _
 ·split
  ·trivial
  ·exact Mb _
def VU (d : Nat) : Move → Prop
 | .goroutine m _ => d ≤ m.world.drawn
 | .machine s _ => SU d s
theorem VU.le {d d' : Nat} {s : Move} (h : VU d s) (hd : d' ≤ d) : VU d' s := by
 cases s with
 | goroutine m i => exact Nat.le_trans hd h
 | machine s ops => exact SU.le h hd
theorem VU.ite {d : Nat} {p : Prop} [Decidable p] {a b : Move} (h1 : VU d a) (h2 : VU d b) : VU d (if p then a else b) := by split <;> assumption
theorem KN (p : Program) (m : Machine) : VU m.world.drawn (askOn p m) := by
 unfold askOn; dsimp only
 split
 ·trivial
 ·rename_i h
  have hu := up_ok h
  clear h
  refine VU.ite ((As _ _ _).le hu) ?_
  split
  ·split
   ·exact hu
   ·refine VU.ite hu ?_
    split <;> trivial
  ·split
   ·split
    ·trivial
    ·rename_i h
     have h1 := up_ok h
     refine VU.ite (Nat.le_trans hu h1) ?_
     split
     ·trivial
     ·rename_i h; have h2 := up_ok h; exact Nat.le_trans hu (Nat.le_trans h1 h2)
   ·split
    ·trivial
    ·rename_i h
     have h0 := up_ok h
     split
     ·trivial
     ·rename_i h
      have h1 := up_ok h
      refine VU.ite (Nat.le_trans hu (Nat.le_trans h0 h1)) ?_
      split
      ·trivial
      ·rename_i h; have h2 := up_ok h; exact Nat.le_trans hu (Nat.le_trans h0 (Nat.le_trans h1 h2))
    ·rename_i h
     have h0 := up_ok h
     exact Nat.le_trans hu h0
    ·rename_i h
     have h0 := up_ok h
     split
     ·trivial
     ·rename_i h
      have h1 := up_ok h
      refine VU.ite (Nat.le_trans hu (Nat.le_trans h0 h1)) ?_
      split
      ·trivial
      ·rename_i h; have h2 := up_ok h; exact Nat.le_trans hu (Nat.le_trans h0 (Nat.le_trans h1 h2))
theorem qW (p : Program) (m : Machine) : VU m.world.drawn (ask p m) := by
 unfold ask
 split
 ·split
  ·trivial
  ·rename_i h
   have h1 := up_ok h
   have h2 := mS p m.gs m.rest ‹World›
   split
   ·rename_i m' h3; rw [h3] at h2; exact (KN _ _).le (Nat.le_trans h1 h2)
   ·exact h2.le h1
  ·rename_i h
   have h1 := up_ok h
   exact (KN _ _).le h1
 ·exact KN _ _
theorem Ew (p : Program) (m : Machine) : VU m.world.drawn (move p m) := by
 unfold move
 split
 ·exact VU.ite (Mb _) trivial
 ·split
  ·exact VU.ite (Mb _) (qW p _)
  ·exact qW p m
theorem Dx {p : Program} {m m' : Machine} (h : step p m = .next m') : m.world.drawn ≤ m'.world.drawn := by
 unfold step stepT at h
 have h1 := Ew p m
 split at h
 ·rename_i h2
  rw [h2] at h1
  have h3 := pd p ‹Machine› ‹Nat› true
  rw [h] at h3
  exact Nat.le_trans h1 h3
 ·rename_i h2
  rw [h2] at h1
  dsimp only at h
  rw [h] at h1
  exact h1
theorem D6 {p : Program} {n : Nat} : ∀ {m m' : Machine}, runN p n m = .next m' → m.world.drawn ≤ m'.world.drawn := by
 induction n with
 | zero => intro m m' h; cases h; exact Mb _
 | succ n ih =>
  intro m m' h
  unfold runN at h
  split at h
  ·rename_i h1; exact Nat.le_trans (Dx h1) (ih h)
  ·rename_i h1; exact absurd h (h1 _)
theorem qT {P : Program} {f : FuncId} {args : Array Value} {w : World} {R : Ending → World → Prop} (h : Calls P f args w R) : Calls P f args w fun e w' => R e w' ∧ (∀ v, e = .returned v → w.drawn ≤ w'.drawn) := by
 intro cs
 obtain ⟨e, w', fr, h1, h2, h3⟩ := h cs
 refine ⟨e, w', fr, ⟨h1, ?_⟩, h2, h3⟩
 rintro v rfl
 obtain ⟨n, hn⟩ := h2
 exact D6 hn
end Go.Up
#print axioms Go.Up.qT
end
section
namespace Go.Den
open Go Go.RowKit Go.Eng Go.Lift
open Go.Sort (SWO grow ahead putRow Holds HoldsK flatK putRowK)
open Go.Proofs (ltOf CmpLays sortWorldK)
theorem KH : ∀ {t : Ty}, t.nar = true → ∀ x : t.D, (encC t x).length = t.sz := by
 intro t
 induction t with
 | int k => intro _ x; rfl
 | bool => intro _ x; rfl
 | str => intro _ x; rfl
 | nil => intro _ x; rfl
 | cons a b iha ihb =>
  intro h x
  simp only [Ty.nar, MY] at h
  simp only [encC, MZ, iha h.1, ihb h.2, Ty.sz]
 | _ => intro h; cases h
theorem Bz : ∀ {t : Ty}, t.nar = true → ∀ x : t.D, ∀ v ∈ encC t x, v.oneCell' = true := by
 intro t h x v hv
 have := lF (w9 h) v hv
 cases v <;> first | rfl | cases this
theorem Bw {w w' : World} (h : Ext w w') (hd : w.drawn ≤ w'.drawn) : ∃ q os, w' = grow (w.drewN q) os := by
 refine ⟨w'.drawn - w.drawn, w'.heap.extract w.heap.size w'.heap.size, ?_⟩
 have h1 := h.os
 have h2 := h.tape
 have h3 := h.output
 have h4 := h.size
 have h5 := h.block
 obtain ⟨hp, tp, dr, os, ou⟩ := w
 obtain ⟨hp', tp', dr', os', ou'⟩ := w'
 simp only at h1 h2 h3 h4 h5 hd
 subst h1 h2 h3
 unfold grow World.drewN
 simp only
 congr 1
 ·apply Array.ext_getElem?
  intro i
  by_cases hi : i < hp.size
  ·rw [Array.getElem?_append_left hi]; exact h5 i hi
  ·rw [Array.getElem?_append_right (by omega), Array.getElem?_extract]
   by_cases h6 : i < hp'.size
   ·rw [if_pos (by omega)]; congr 1; omega
   ·rw [if_neg (by omega), Array.getElem?_eq_none (by omega)]
 ·omega
theorem CA {P : Program} {e : Ty} (hn : e.nar = true) (ha : e.agg = true) [Inhabited e.D] {cf : e.D → e.D → Int} {F : e.D × e.D × Unit → Comp (Int × Unit)} (hF : ∀ x y, ∃ n, (F (x, y, ())).run n = some (cf x y, ()))
  {O : Tags} {w : World} (hO : OkO O w) {g : Nat} {cb : Array Value} (hg : FnOk P g)
  (h4 : ∀ O' w', OkO O' w' → Keep 0 O w O' w' → ∀ vs x, (Ty.cons e (.cons e .nil)).args P O' w' vs x → ∀ n y, (F x).run n = some y → CallV P (.func (.func g) #[] cb) vs.toArray w' (fun w'' v => ∃ rs, isTup rs v ∧ (Ty.cons (.int .i64) .nil).args P O' w'' rs y))
  {b : Nat} (hb : b < w.heap.size) (hob : O b ≠ 0) (size : Nat) : CmpLays P g cb (encC e) e.sz cf b 0 size w := by
 intro m os dk hdk x y
 obtain ⟨n, hn'⟩ := hF x y
 have hsz : w.heap.size ≤ (sortWorldK (encC e) e.sz w b 0 m dk os).heap.size := by simp [sortWorldK, grow, putRowK, putRow, Go.Sort.mapBlock, ahead]
 have hold : ∀ c, c < w.heap.size → c ≠ b → (sortWorldK (encC e) e.sz w b 0 m dk os).heap[c]? = w.heap[c]? := by
  intro c hc hne
  unfold sortWorldK
  rw [Go.Sort.heap_grow_old _ _ (by simpa [putRowK, putRow, Go.Sort.mapBlock, ahead] using hc)]
  simp [putRowK, putRow, Go.Sort.mapBlock, ahead, Array.getElem?_modify, Ne.symm hne]
 have hk : Keep 0 O w O (sortWorldK (encC e) e.sz w b 0 m dk os) := ⟨hsz, fun c hc h0 => ⟨h0, hold c hc (fun e => hob (e ▸ h0))⟩⟩
 have ho : OkO O (sortWorldK (encC e) e.sz w b 0 m dk os) := fun c hc => hO c (by omega)
 have hv : ∀ x : e.D, (e.gr P).v O (sortWorldK (encC e) e.sz w b 0 m dk os) (.agg (encC e x).toArray) x := fun x => ⟨_, Jq hn x, by rw [Ty.jr, ha]; rfl⟩
 obtain ⟨f, ys, h5, h6⟩ := h4 O _ ho hk [.agg (encC e x).toArray, .agg (encC e y).toArray] (x, y, ()) ⟨_, _, rfl, hv x, _, _, rfl, hv y, rfl⟩ n _ hn'
 obtain ⟨fn, g1, g2, g3⟩ := hg.h
 simp only [Deferred.ofValue, Sem.run_bind, Sem.run_pure, Result.andThen, invoke, callFunc, run_program, g1] at h5
 simp [g2, g3] at h5
 obtain ⟨rfl, rfl⟩ := h5
 refine Calls.mono (Go.Up.qT h6) ?_
 rintro e' w' ⟨⟨v, rfl, hE, rs, ht, v1, vs1, rfl, hv1, hvs⟩, hd⟩
 obtain ⟨cs, hc1, hc2⟩ := hv1
 rw [show cs = [Value.int .i64 (cf x y)] from hc1] at hc2
 have hvs' : vs1 = [] := hvs
 subst hvs'
 refine ⟨?_, Bw hE (hd _ rfl)⟩
 rcases ht with ht | ht
 ·cases ht
 ·rw [ht]; show Ending.returned v1 = _; rw [hc2]; rfl
theorem JR {e : Ty} (ha : e.agg = true) (x : e.D) : (encV e x).cells = (encC e x).toArray := by unfold encV; rw [ha]; rfl
theorem u5 {e : Ty} (hn : e.nar = true) {P : Program} {O : Tags} {w : World} : ∀ {vs : List Value} {xs : List e.D}, RelL (e.gr P) O w vs xs → vs = xs.map (encV e)
 | [], [], _ => rfl
 | v :: vs, x :: xs, h => by rw [List.map_cons, ← u5 hn h.2, enc_v (w9 hn) h.1]
 | [], _ :: _, h => h.elim
 | _ :: _, [], h => h.elim
theorem Kh {e : Ty} (hn : e.nar = true) {P : Program} {O : Tags} {w : World} : ∀ (xs : List e.D), RelL (e.gr P) O w (xs.map (encV e)) xs
 | [] => trivial
 | x :: xs => ⟨⟨_, Jq hn x, by rw [Ty.jr]; rfl⟩, Kh hn xs⟩
section enc
variable {e : Ty} (hn : e.nar = true) (ha : e.agg = true)
include hn ha
theorem lH (x : e.D) : (encV e x).cells.size = e.sz := by rw [JR ha]; simp [KH hn]
theorem tY (xs : List e.D) : ∀ v ∈ xs.map (encV e), v.cells.size = e.sz := by
 intro v hv
 obtain ⟨x, _, rfl⟩ := List.mem_map.1 hv
 exact lH hn ha x
theorem qG [Inhabited e.D] (xs : List e.D) {t : Nat} (ht : t < xs.length * e.sz) : (flat (xs.map (encV e)))[t]? = some ((flatK (encC e) e.sz xs.toArray)[t]!) := by
 have h0 : 0 < e.sz := Nat.pos_of_ne_zero fun h => by rw [h] at ht; omega
 have hq : t / e.sz < xs.length := Nat.div_lt_of_lt_mul (by rw [Nat.mul_comm]; exact ht)
 have hr : t % e.sz < e.sz := Nat.mod_lt _ h0
 rw [Go.Sort.get_flatK _ _ _ _ (by simpa using ht)]
 have h1 := ZB (tY hn ha xs) (t / e.sz) (encV e xs[t / e.sz]) (by simp [hq]) (t % e.sz) hr
 rw [show t / e.sz * e.sz + t % e.sz = t from Nat.div_add_mod' t e.sz] at h1
 rw [h1, JR ha]
 have h2 : t % e.sz < (encC e xs[t / e.sz]).length := by rw [KH hn]; exact hr
 simp [hq, h2]
theorem rO [Inhabited e.D] (xs : List e.D) : (flatK (encC e) e.sz xs.toArray).toList = flat (xs.map (encV e)) := by
 apply List.ext_getElem?
 intro t
 by_cases ht : t < xs.length * e.sz
 ·rw [qG hn ha xs ht, Array.getElem?_toList]
  have : t < (flatK (encC e) e.sz xs.toArray).size := by simpa using ht
  rw [Array.getElem?_eq_getElem this, getElem!_pos _ t this]
 ·rw [List.getElem?_eq_none (by simpa using ht), List.getElem?_eq_none (by rw [gk (tY hn ha xs), List.length_map]; omega)]
theorem mh [Inhabited e.D] {w : World} {b : Nat} {cur : Array Value} {T : TypeId} {xs : List e.D} (hb : w.heap[b]? = some (.cells cur T (0, 0))) (h : cur.toList.take (xs.length * e.sz) = flat (xs.map (encV e))) : HoldsK (encC e) e.sz w b 0 xs.toArray := by
 intro j hj
 have hj' : j < xs.length * e.sz := by simpa using hj
 refine ⟨?_, by simp [World.frozen?, hb]⟩
 have h1 := qG hn ha xs hj'
 rw [← h, List.getElem?_take_of_lt hj'] at h1
 simp only [World.cell?, hb, Nat.zero_add]
 simp only [Option.isSome_none, Bool.false_eq_true, if_false]
 rw [← Array.getElem?_toList, h1]
 rfl
theorem Bp {P : Program} {ρ : Go.Shelf.Ren} (L : Go.Proofs.SlLaysF0.n6 P ρ) (aE : ∀ w, (isAgg (ρ.t 24)).run P w = .ok true w) (zE : ∀ w, (Go.sizeOf (ρ.t 24)).run P w = .ok e.sz w) [Inhabited e.D] {T : TypeId}
  {cf : e.D → e.D → Int} (hO : SWO (ltOf cf)) (hT : ∀ x y, (ltOf cf) x y = false → (ltOf cf) y x = false → x = y) {F : e.D × e.D × Unit → Comp (Int × Unit)} (hF : ∀ x y, ∃ n, (F (x, y, ())).run n = some (cf x y, ()))
  {O : Tags} {w : World} (hw : OkO O w) {u v : Value} {xs : List e.D} (hA : OwnA (e.gr P) T O w u xs) (hv : ((Ty.fn (.cons e (.cons e .nil)) (.cons (.int .i64) .nil)).gr P).v O w v F) (hl : xs.length ≤ LIM) :
  Calls P (ρ.f 6) #[u, v] w (qc (e.gr P) T O w u (xs.mergeSort fun x y => !(ltOf cf) y x) (retV false u)) := by
 obtain ⟨⟨vs, h1, h2⟩, h3⟩ := hA
 have hvs := u5 hn h2
 subst hvs
 obtain ⟨cs, ⟨u', e1, ⟨e2, e3⟩, e4⟩, e5⟩ := hv
 obtain ⟨g, cb, rfl, hg⟩ := e3 rfl
 have hvu : v = .func (.func g) #[] cb := by rw [e5, e1]; rfl
 subst hvu
 have hlen : (xs.map (encV e)).length = xs.length := List.length_map _
 have hsz : (e.gr P).sz = e.sz := Ty.gr_sz P e
 rcases h1.row.2 with ⟨f1, f2⟩ | ⟨b, cap, cur, f1, f2, f3, f4, f5, f6, f7⟩
 ·have hx : xs = [] := List.eq_nil_of_length_eq_zero (by omega)
  subst hx
  subst f1
  refine Calls.mono (Go.Proofs.AnyF.slices_SortFunc_none L none 0 _ w) ?_
  rintro e' w' ⟨he, rfl⟩
  exact ⟨_, .slice none 0 0, he, ⟨⟨rfl, rfl, rfl, Mb _, fun _ _ _ => rfl⟩, .inl rfl⟩, ⟨[], OwnS.nil _ _ _ _, by simp [RelL]⟩, rfl, rfl⟩
 ·unfold LIM at hl
  subst f1
  rw [hlen] at f4 f7 h1 ⊢
  rw [hsz] at f6 f7
  have hb : b < w.heap.size := (Array.getElem?_eq_some_iff.1 f3).1
  have hob : O b ≠ 0 := h3 b rfl
  have eg : ∀ args w, (callFunc g args).run P w = .ok (.enter g args) w := by
   intro args w
   obtain ⟨fn, g1, g2, g3⟩ := hg.h
   simp only [callFunc, Sem.run_bind, Sem.run_pure, Result.andThen, run_program, g1]
   simp [g2, g3]
  have hlays := CA (P := P) hn ha hF hw (cb := cb) hg e4 hb hob xs.toArray.size
  have hcall := Go.Proofs.AnyQ.slices_SortFunc_total L e.sz aE zE (encC e) (KH hn) (Bz hn) cf hO g cb b 0 cap xs.toArray w eg hlays (mh hn ha f3 f7) hb (by simp; omega) hT
  rw [List.size_toArray] at hcall
  refine Calls.mono hcall ?_
  rintro e' w' ⟨he, n, os, rfl⟩
  simp only []
  generalize hys : (xs.mergeSort fun x y => !(ltOf cf) y x) = ys
  have hyl : ys.length = xs.length := by rw [← hys]; exact List.length_mergeSort xs
  have hheap : (sortWorldK (encC e) e.sz w b 0 n ys.toArray os).heap[b]? = some (.cells (Go.Sort.putCells id 0 (flatK (encC e) e.sz ys.toArray) cur) T (0, 0)) := by
   unfold sortWorldK
   rw [Go.Sort.heap_grow_old _ _ (by simpa [putRowK, putRow, Go.Sort.mapBlock, ahead] using hb)]
   simp [putRowK, putRow, Go.Sort.mapBlock, ahead, Array.getElem?_modify, f3, Go.Sort.onCells]
  have hgr : w.grownBy (sortWorldK (encC e) e.sz w b 0 n ys.toArray os) (some b) := by
   refine ⟨rfl, rfl, rfl, by simp [sortWorldK, grow, putRowK, putRow, Go.Sort.mapBlock, ahead], fun k hk hne => ?_⟩
   unfold sortWorldK
   rw [Go.Sort.heap_grow_old _ _ (by simpa [putRowK, putRow, Go.Sort.mapBlock, ahead] using hk)]
   have : b ≠ k := fun e => hne (by rw [e])
   simp [putRowK, putRow, Go.Sort.mapBlock, ahead, Array.getElem?_modify, this]
  have htake : (Go.Sort.putCells id 0 (flatK (encC e) e.sz ys.toArray) cur).toList.take (xs.length * e.sz) = flat (ys.map (encV e)) := by
   rw [← rO hn ha ys]
   have hle : xs.length * e.sz ≤ cur.size := by rw [f6]; exact Nat.mul_le_mul_right _ f4
   apply List.ext_getElem?
   intro j
   by_cases hj : j < xs.length * e.sz
   ·have h5 : j < cur.size := by omega
    have h6 : j < (flatK (encC e) e.sz ys.toArray).size := by simpa [hyl] using hj
    rw [List.getElem?_take_of_lt hj, Array.getElem?_toList, Array.getElem?_toList, Array.getElem?_eq_getElem h6]
    simp only [Go.Sort.putCells, Array.getElem?_mapIdx, Array.getElem?_eq_getElem h5, Option.map_some, Nat.zero_le, true_and, Nat.zero_add, Nat.sub_zero]
    rw [if_pos h6, getElem!_pos _ j h6]; rfl
   ·rw [List.getElem?_take_eq_none (by omega), List.getElem?_eq_none (by simpa [hyl] using hj)]
  refine ⟨_, .slice (some ⟨b, 0, none⟩) xs.length cap, he, ⟨hgr, .inl rfl⟩, ⟨ys.map (encV e), ⟨?_, ?_⟩, Kh hn ys⟩, rfl, rfl⟩
  ·rw [hsz]; exact tY hn ha ys
  ·rw [hsz, List.length_map, hyl]
   refine ⟨by rw [gk (tY hn ha ys), List.length_map, hyl], .inr ⟨b, cap, _, rfl, Nat.zero_le _, hheap, f4, f5, ?_, htake⟩⟩
   simp [Go.Sort.putCells, f6]
end enc
instance : Inhabited Pln := ⟨((0, 0, 0, ()), 0, ())⟩
abbrev tPln : Ty := .cons (.cons (.int .i64) (.cons (.int .i64) (.cons (.int .i64) .nil))) (.cons (.int .i64) .nil)
instance : Inhabited tPln.D := ⟨(((0 : Int), (0 : Int), (0 : Int), ()), (0 : Int), ())⟩
theorem Z9 (x y : Pln) : ltOf cmpP x y = true ↔ LtP x y := by unfold ltOf; rw [decide_eq_true_iff]; exact Xi
theorem ZV (x y : Pln) : ltOf cmpP x y = false ↔ ¬ LtP x y := by rw [← Z9]; simp
theorem pG : SWO (ltOf cmpP) where
 irrefl x := (ZV x x).2 LtP.irr
 trans x y z h1 h2 := (Z9 x z).2 (((Z9 x y).1 h1).trans ((Z9 y z).1 h2))
 ntrans x y z h1 h2 := by
  rw [ZV] at *
  intro h3
  rcases LtP.tri y z with h | h | h
  ·exact h2 h
  ·subst h; exact h1 h3
  ·exact h1 (h3.trans h)
theorem lU (x y : Pln) (h1 : ltOf cmpP x y = false) (h2 : ltOf cmpP y x = false) : x = y := by
 rw [ZV] at h1 h2
 rcases LtP.tri x y with h | h | h
 ·exact absurd h h1
 ·exact h
 ·exact absurd h h2
theorem mN (l : List Pln) : (l.mergeSort fun x y => !(ltOf cmpP) y x) = srtP l := by
 refine List.Perm.eq_of_pairwise (le := fun p q => ¬ LtP q p) (fun a b _ _ h1 h2 => ?_) ?_ (uq l) ((List.mergeSort_perm _ _).trans (Ka l).symm)
 ·rcases LtP.tri a b with h | h | h
  ·exact absurd h h2
  ·exact h
  ·exact absurd h h1
 ·have := List.pairwise_mergeSort (le := fun x y : Pln => !(ltOf cmpP) y x) (fun a b c h1 h2 => ?_) (fun a b => ?_) l
  ·refine this.imp fun {a b} h => ?_
   rw [← ZV]; simpa using h
  ·simp only [Bool.not_eq_true'] at *
   exact pG.ntrans c b a h2 h1
  ·cases h1 : ltOf cmpP b a with
   | false => rfl
   | true => rw [(ZV a b).2 fun h => LtP.asym ((Z9 b a).1 h1) h]; rfl
theorem Ao {P : Program} {ρ : Go.Shelf.Ren} (L : Go.Proofs.SlLaysF0.n6 P ρ) {dd : TypeDesc} {z : Value} {by_ : Nat} (hT : Eng.Ty P (ρ.t 24) dd z 4 by_) (hd : vD dd = true) {T : TypeId} (hf : FnOk P (ρ.f 6)) :
  FO.ok P (ρ.f 6) ⟨tPln, T, .cons (.fn (.cons tPln (.cons tPln .nil)) (.cons (.int .i64) .nil)) .nil, false, fun xs x => sortF xs x.1⟩ := by
 refine ⟨hf, fun O w hw u xs hA vs z hz n ys hy => ?_⟩
 obtain ⟨v, vs1, rfl, hv, hvs⟩ := hz
 rw [show vs1 = [] from hvs]
 have hy' : (sortF xs z.1).run n = some ys := hy
 unfold sortF at hy'
 split at hy'
 ·rename_i h
  have := Comp.run_pure hy'
  subst this
  have hm := mN xs
  have := Bp (P := P) (e := tPln) rfl rfl L (fun w => by rw [hT.kr, hd]) hT.zq (T := T) pG lU h.2 hw hA hv h.1
  refine Calls.mono this fun e w' he => ?_
  rw [← hm]
  exact he
 ·cases hy'
end Go.Den
end
section
namespace Go.Proofs
open Go.Shelf
def Tryz.Kc : Go.Shelf.Ren := ⟨fun | 6 => 203 | 15 => 222 | 14 => 221 | 28 => 241 | 29 => 242 | 20 => 233 | 21 => 234 | 22 => 235 | 23 => 236 | 24 => 237 | 25 => 238 | 26 => 239 | 27 => 240 | 46 => 244 | 47 => 245 | 48 => 246 | 49 => 247 | 50 => 248 | 57 => 249 | n => n, fun | 22 => 107 | 24 => 106 | 25 => 233 | 3 => 3 | 39 => 245 | 0 => 0 | 53 => 257 | 55 => 259 | 4 => 4 | 46 => 250 | 45 => 249 | 50 => 254 | 5 => 5 | 9 => 9 | 66 => 260 | 70 => 264 | 76 => 266 | 77 => 267 | n => n, fun | n => n⟩
theorem Tryz.sortL : Go.Proofs.SlLaysF0.n6 Tryz.prog Tryz.Kc := {
 mixed := by kernel_rfl
 f6 := ⟨Tryz.f203.name, by decide, Tryz.func203.trans (congrArg some (by kernel_rfl))⟩
 f14 := ⟨Tryz.f221.name, by decide, Tryz.func221.trans (congrArg some (by kernel_rfl))⟩
 f15 := Tryz.func222.trans (congrArg some (by kernel_rfl))
 f20 := ⟨Tryz.f233.name, by decide, Tryz.func233.trans (congrArg some (by kernel_rfl))⟩
 f21 := ⟨Tryz.f234.name, by decide, Tryz.func234.trans (congrArg some (by kernel_rfl))⟩
 f22 := ⟨Tryz.f235.name, by decide, Tryz.func235.trans (congrArg some (by kernel_rfl))⟩
 f23 := ⟨Tryz.f236.name, by decide, Tryz.func236.trans (congrArg some (by kernel_rfl))⟩
 f24 := ⟨Tryz.f237.name, by decide, Tryz.func237.trans (congrArg some (by kernel_rfl))⟩
 f25 := ⟨Tryz.f238.name, by decide, Tryz.func238.trans (congrArg some (by kernel_rfl))⟩
 f26 := ⟨Tryz.f239.name, by decide, Tryz.func239.trans (congrArg some (by kernel_rfl))⟩
 f27 := ⟨Tryz.f240.name, by decide, Tryz.func240.trans (congrArg some (by kernel_rfl))⟩
 f28 := Tryz.func241.trans (congrArg some (by kernel_rfl))
 f29 := Tryz.func242.trans (congrArg some (by kernel_rfl))
 f46 := ⟨Tryz.f244.name, by decide, Tryz.func244.trans (congrArg some (by kernel_rfl))⟩
 f47 := Tryz.func245.trans (congrArg some (by kernel_rfl))
 f48 := Tryz.func246.trans (congrArg some (by kernel_rfl))
 f49 := ⟨Tryz.f247.name, by decide, Tryz.func247.trans (congrArg some (by kernel_rfl))⟩
 f50 := ⟨Tryz.f248.name, by decide, Tryz.func248.trans (congrArg some (by kernel_rfl))⟩
 f57 := ⟨Tryz.f249.name, by decide, Tryz.func249.trans (congrArg some (by kernel_rfl))⟩
 t0 := Tryz.underlying0
 a0 := Tryz.isAgg0
 z0 := Tryz.sizeOf0
 v0 := Tryz.zeroValue0
 t3 := Tryz.underlying3
 a3 := Tryz.isAgg3
 z3 := Tryz.sizeOf3
 v3 := Tryz.zeroValue3
 t4 := Tryz.underlying4
 a4 := Tryz.isAgg4
 z4 := Tryz.sizeOf4
 v4 := Tryz.zeroValue4
 t5 := Tryz.underlying5
 a5 := Tryz.isAgg5
 z5 := Tryz.sizeOf5
 v5 := Tryz.zeroValue5
 t9 := Tryz.underlying9
 a9 := Tryz.isAgg9
 z9 := Tryz.sizeOf9
 v9 := Tryz.zeroValue9
 t22 := Tryz.underlying107
 a22 := Tryz.isAgg107
 z22 := Tryz.sizeOf107
 v22 := Tryz.zeroValue107
 t25 := Tryz.underlying233
 a25 := Tryz.isAgg233
 z25 := Tryz.sizeOf233
 v25 := Tryz.zeroValue233
 t39 := Tryz.underlying245
 a39 := Tryz.isAgg245
 z39 := Tryz.sizeOf245
 v39 := Tryz.zeroValue245
 t45 := Tryz.underlying249
 a45 := Tryz.isAgg249
 z45 := Tryz.sizeOf249
 v45 := Tryz.zeroValue249
 t46 := Tryz.underlying250
 a46 := Tryz.isAgg250
 z46 := Tryz.sizeOf250
 v46 := Tryz.zeroValue250
 t50 := Tryz.underlying254
 a50 := Tryz.isAgg254
 z50 := Tryz.sizeOf254
 v50 := Tryz.zeroValue254
 t53 := Tryz.underlying257
 a53 := Tryz.isAgg257
 z53 := Tryz.sizeOf257
 v53 := Tryz.zeroValue257
 t55 := Tryz.underlying259
 a55 := Tryz.isAgg259
 z55 := Tryz.sizeOf259
 v55 := Tryz.zeroValue259
 t66 := Tryz.underlying260
 a66 := Tryz.isAgg260
 z66 := Tryz.sizeOf260
 v66 := Tryz.zeroValue260
 t70 := Tryz.underlying264
 a70 := Tryz.isAgg264
 z70 := Tryz.sizeOf264
 v70 := Tryz.zeroValue264
 t76 := Tryz.underlying266
 a76 := Tryz.isAgg266
 z76 := Tryz.sizeOf266
 v76 := Tryz.zeroValue266
 t77 := Tryz.underlying267
 a77 := Tryz.isAgg267
 z77 := Tryz.sizeOf267
 v77 := Tryz.zeroValue267 }
end Go.Proofs
end
noncomputable section
set_option maxRecDepth 200000
namespace Go.Dn
open Go Go.Proofs Go.RowKit Go.Eng Go.Lift Go.Den
def t222 : Ty := .seq (.cons t224 .nil)
def t235 : Ty := .seq (.cons (.slo t106) .nil)
def s55 : FS := ⟨(.cons t104 (.cons t104 .nil)), (.cons t107 .nil), [some 106], fun x => Go.F.zo x.1 x.2.1⟩
theorem okf55 : s55.ok prog 55 := fS (E0) .z Tryz.func55 rfl (by kernel_rfl) fun x => by kernel_rfl
def s48 : FS := ⟨.nil, (.cons t36 .nil), [none], fun x => Go.F.vR ⟩
theorem okf48 : s48.ok prog 48 := fS ((E0).S okf55) (.s .z (.s (.xr [0, 6, 7] [2, 3, 4, 0, 1, 5, 6, 7] [(1, []), (2, []), (3, []), (4, []), (5, [])]) (.s (.s .z (.b (.l ⟨[(false, 2, (.v t3)), (true, 1, (.ag (.pr (.ag (.pr (.v t9) (.pr (.o true t107 107) (.pr (.o true t3 3) .un)))) (.pr (.ag (.pr (.v t31) (.pr (.v t31) (.pr (.o true t107 107) .un)))) (.pr (.o true t62 62) .un)))))], [0, 1], [2]⟩ [(some 0, ⟨[(true, 1, (.ag (.pr (.ag (.pr (.v t9) (.pr (.o true t107 107) (.pr (.o true t3 3) .un)))) (.pr (.ag (.pr (.v t31) (.pr (.v t31) (.pr (.o true t107 107) .un)))) (.pr (.o true t62 62) .un)))))], [0, 1], []⟩)] .z))) (.s .z (.s (.f [3] .z) .z))))) Tryz.func48 rfl (by kernel_rfl) fun x => by kernel_rfl
def s117 : FS := ⟨(.cons t3 .nil), (.cons t4 .nil), [none], fun x => Go.F.y8 x.1⟩
theorem IJ : s117.ok prog 117 := fS (E0) .z Tryz.func117 rfl (by kernel_rfl) fun x => by kernel_rfl
def s129 : FS := ⟨(.cons t23 (.cons t117 .nil)), (.cons t3 .nil), [none], fun x => Go.F.vH x.1 x.2.1⟩
theorem Cr : s129.ok prog 129 := fS (E0) (.s .z (.s (.s .z (.b (.l ⟨[(false, 8, (.v t3))], [0, 1, 7], [8]⟩ [(some 0, ⟨[], [], []⟩), (none, ⟨[(false, 4, (.v t3))], [], [4]⟩)] .z))) .z)) Tryz.func129 rfl (by kernel_rfl) fun x => by kernel_rfl
def s72 : FS := ⟨(.cons t23 (.cons t117 .nil)), (.cons t4 .nil), [none], fun x => Go.F.zN x.1 x.2.1⟩
theorem okf72 : s72.ok prog 72 := fS ((E0).S Cr) .z Tryz.func72 rfl (by kernel_rfl) fun x => by kernel_rfl
def s168 : FS := ⟨(.cons t28 (.cons t166 .nil)), (.cons t3 .nil), [none], fun x => Go.F.yM x.1 x.2.1⟩
theorem Hy : s168.ok prog 168 := fS (E0) (.s .z (.s (.s .z (.b (.l ⟨[(false, 8, (.v t3))], [0, 1, 7], [8]⟩ [(some 0, ⟨[], [], []⟩), (none, ⟨[(false, 4, (.v t3))], [], [4]⟩)] .z))) .z)) Tryz.func168 rfl (by kernel_rfl) fun x => by kernel_rfl
def s140 : FS := ⟨(.cons t28 (.cons t166 .nil)), (.cons t4 .nil), [none], fun x => Go.F.zK x.1 x.2.1⟩
theorem nk : s140.ok prog 140 := fS ((E0).S Hy) .z Tryz.func140 rfl (by kernel_rfl) fun x => by kernel_rfl
def s188 : FS := ⟨(.cons t107 (.cons t198 .nil)), (.cons t3 .nil), [none], fun x => Go.F.zm x.1 x.2.1⟩
theorem Cf : s188.ok prog 188 := fS (E0) (.s .z (.s (.s .z (.b (.l ⟨[(false, 8, (.v t3))], [0, 1, 7], [8]⟩ [(some 0, ⟨[], [], []⟩), (none, ⟨[(false, 4, (.v t3))], [], [4]⟩)] .z))) .z)) Tryz.func188 rfl (by kernel_rfl) fun x => by kernel_rfl
def s165 : FS := ⟨(.cons t107 (.cons t198 .nil)), (.cons t4 .nil), [none], fun x => Go.F.zS x.1 x.2.1⟩
theorem Ck : s165.ok prog 165 := fS ((E0).S Cf) .z Tryz.func165 rfl (by kernel_rfl) fun x => by kernel_rfl
def s189 : FS := ⟨(.cons t3 (.cons t23 .nil)), (.cons t4 .nil), [none], fun x => Go.F.vp x.1 x.2.1⟩
theorem Hn : s189.ok prog 189 := fS (E0) (.s .z (.s (.s .z (.b (.l ⟨[(false, 9, (.v t3))], [0, 7, 8], [9]⟩ [(some 0, ⟨[], [], []⟩), (none, ⟨[(false, 4, (.v t4))], [], [4]⟩)] .z))) .z)) Tryz.func189 rfl (by kernel_rfl) fun x => by kernel_rfl
def s213 : FS := ⟨(.cons t3 .nil), (.cons t3 .nil), [none], fun x => Go.F.gK x.1⟩
theorem HR : s213.ok prog 213 := fS (E0) .z Tryz.func213 rfl (by kernel_rfl) fun x => by kernel_rfl
def s190 : FS := ⟨(.cons t23 .nil), (.cons t3 .nil), [none], fun x => Go.F.jS x.1⟩
theorem Hm : s190.ok prog 190 := fS ((E0).S HR) (.s .z (.s .z (.s (.s .z (.b (.l ⟨[(false, 3, (.v t3)), (false, 8, (.v t3))], [6, 7], [3, 8]⟩ [(some 0, ⟨[(false, 3, (.v t3))], [], [3]⟩), (none, ⟨[(false, 2, (.v t3))], [], [2]⟩)] (.s .z (.s .z (.s (.b (.s .z (.s .z (.s .z (.b (.l ⟨[(false, 3, (.v t3)), (false, 5, (.v t3))], [6, 7, 8], [3, 5]⟩ [(some 2, ⟨[(false, 3, (.v t3))], [6, 7, 8], [3]⟩)] .z)))))) .z)))))) .z))) Tryz.func190 rfl (by kernel_rfl) fun x => by kernel_rfl
def s167 : FS := ⟨(.cons t106 .nil), (.cons t4 .nil), [none], fun x => Go.F.kx x.1⟩
theorem Hz : s167.ok prog 167 := fS (((E0).S Hm).S Hn) (.s .z (.s (.xg ⟨[(false, 2, (.v t4))], [], [2]⟩) .z)) Tryz.func167 rfl (by kernel_rfl) fun x => by kernel_rfl
def s166 : FS := ⟨(.cons t106 .nil), (.cons t4 .nil), [none], fun x => Go.F.gH x.1⟩
theorem H0 : s166.ok prog 166 := fS ((E0).S Hz) .z Tryz.func166 rfl (by kernel_rfl) fun x => by kernel_rfl
def s139 : FS := ⟨(.cons t107 .nil), (.cons t43 .nil), [none], fun x => Go.F.yx x.1⟩
theorem JD : s139.ok prog 139 := fS (((E0).S H0).S Ck) .z Tryz.func139 rfl (by kernel_rfl) fun x => by kernel_rfl
def s172 : FS := ⟨(.cons t107 .nil), (.cons t4 .nil), [none], fun x => Go.F.gG x.1⟩
theorem Hw : s172.ok prog 172 := fS ((E0).S JD) .z Tryz.func172 rfl (by kernel_rfl) fun x => by kernel_rfl
def s154 : FS := ⟨(.cons t28 .nil), (.cons t4 .nil), [none], fun x => Go.F.jd x.1⟩
theorem nj : s154.ok prog 154 := fS (((E0).S Hw).S nk) .z Tryz.func154 rfl (by kernel_rfl) fun x => by kernel_rfl
def s193 : FS := ⟨(.cons t3 .nil), (.cons t107 .nil), [some 106], fun x => Go.F.yi x.1⟩
theorem Hk : s193.okN prog 193 := fN (E0) (.s .z (.s (.s .z (.j ⟨[], [0, 1], []⟩ .z .z)) (.s (.s .z (.s .z (.j ⟨[(false, 0, (.o true t106 106))], [], []⟩ (.xg ⟨[(false, 0, (.o true t106 106))], [], []⟩) .z))) .z))) Tryz.func193 rfl (by kernel_rfl) fun x => by kernel_rfl
def s173 : FS := ⟨(.cons t28 .nil), (.cons t107 .nil), [some 106], fun x => Go.F.zJ x.1⟩
theorem Cj : s173.ok prog 173 := fS ((E0).N Hk) (.s .z (.s .z (.s (.s .z (.b (.l ⟨[(false, 3, (.v t3)), (false, 11, (.v t3))], [0, 9, 10], [3, 11]⟩ [(some 0, ⟨[(false, 3, (.v t3))], [0], [3]⟩)] (.s .z (.s .z (.s (.b (.s .z (.s .z (.s .z (.j ⟨[], [0, 3, 9, 10, 11], []⟩ .z .z))))) .z)))))) (.s .z (.s (.s .z (.b (.l ⟨[(false, 6, (.o true t106 106)), (false, 27, (.v t3))], [25, 26], [27]⟩ [(some 2, ⟨[(false, 6, (.o true t106 106))], [], []⟩)] .z))) .z))))) Tryz.func173 rfl (by kernel_rfl) fun x => by kernel_rfl
def s155 : FS := ⟨(.cons t28 .nil), (.cons t189 .nil), [some 106], fun x => Go.F.cell_of x.1⟩
theorem nh : s155.ok prog 155 := fS ((E0).S Cj) (.s .z (.s .z (.s (.s .z (.b (.l ⟨[(false, 3, (.o true t106 106)), (false, 16, (.v t3))], [14, 15], [16]⟩ [(some 0, ⟨[(false, 3, (.o true t106 106))], [], []⟩)] .z))) .z))) Tryz.func155 rfl (by kernel_rfl) fun x => by kernel_rfl
def s215 : GS := ⟨(.cons (.box t189) .nil), (.cons t224 .nil), fun x => Go.F.yv x.1⟩
theorem HP : s215.ok prog 215 := fQ (E0) (.s .z (.b (.l ⟨[(false, 11, (.v t3))], [0, 1, 9, 10], [11]⟩ [(some 0, ⟨[], [], []⟩), (none, ⟨[], [], []⟩)] (.s .z (.s .z (.s (.b (.s .z (.s (.f [4] .z) (.b (.l ⟨[(false, 21, (.v t3))], [0, 1, 3, 4, 9, 10, 11, 19, 20], [21]⟩ [(some 2, ⟨[], [0, 1, 9, 10, 11], []⟩), (none, ⟨[], [], []⟩)] (.s .z (.s .z (.s (.b (.s .z (.s (.f [6] .z) (.b (.l ⟨[(false, 33, (.v t3))], [0, 1, 3, 4, 6, 9, 10, 11, 19, 20, 21, 31, 32], [33]⟩ [(some 4, ⟨[], [0, 1, 3, 4, 9, 10, 11, 19, 20, 21], []⟩), (none, ⟨[], [], []⟩)] (.s .z (.s .z (.s (.b (.s .z (.s (.f [8] .y) .z))) .z)))))))) .z)))))))) .z)))))) Tryz.func215 rfl (by kernel_rfl) fun x => by kernel_rfl
def s194 : FS := ⟨(.cons t189 .nil), (.cons t222 .nil), [none], fun x => Go.F.gU x.1⟩
theorem Hj : s194.ok prog 194 := fS ((E0).Q HP) (.s .z (.s (.f [1] .z) .z)) Tryz.func194 rfl (by kernel_rfl) fun x => by kernel_rfl
def s216 : FS := ⟨(.cons t104 (.cons t104 .nil)), (.cons t104 .nil), [none], fun x => Go.F.jm x.1 x.2.1⟩
theorem HO : s216.ok prog 216 := fS (E0) .z Tryz.func216 rfl (by kernel_rfl) fun x => by kernel_rfl
def s199 : FS := ⟨(.cons t104 (.cons t104 .nil)), (.cons t3 .nil), [none], fun x => Go.F.jl x.1 x.2.1⟩
theorem Cd : s199.ok prog 199 := fS (E0) .z Tryz.func199 rfl (by kernel_rfl) fun x => by kernel_rfl
def s218 : FS := ⟨(.cons t104 (.cons t3 .nil)), (.cons t104 .nil), [none], fun x => Go.F.kX x.1 x.2.1⟩
theorem HM : s218.ok prog 218 := fS (E0) .z Tryz.func218 rfl (by kernel_rfl) fun x => by kernel_rfl
def s217 : FS := ⟨(.cons t104 (.cons t104 .nil)), (.cons t104 .nil), [none], fun x => Go.F.ZU x.1 x.2.1⟩
theorem HN : s217.ok prog 217 := fS (E0) .z Tryz.func217 rfl (by kernel_rfl) fun x => by kernel_rfl
def s219 : FS := ⟨(.cons t23 .nil), (.cons t3 .nil), [none], fun x => Go.F.Yo x.1⟩
theorem HL : s219.ok prog 219 := fS (E0) (.s .z (.s .z (.s (.s .z (.b (.l ⟨[(false, 3, (.v t3)), (false, 8, (.v t3))], [6, 7], [3, 8]⟩ [(some 0, ⟨[(false, 3, (.v t3))], [], [3]⟩)] (.s .z (.s .z (.s (.b (.s .z (.b (.l ⟨[(false, 3, (.v t3)), (false, 5, (.v t3))], [6, 7, 8], [3, 5]⟩ [(some 2, ⟨[(false, 3, (.v t3))], [6, 7, 8], [3]⟩)] .z)))) .z)))))) .z))) Tryz.func219 rfl (by kernel_rfl) fun x => by kernel_rfl
def s195 : FS := ⟨(.cons t224 .nil), (.cons t208 (.cons t4 .nil)), [none, none], fun x => Go.F.Zb x.1⟩
theorem Hi : s195.ok prog 195 := fS ((((((E0).S HL).S HN).S HM).S Cd).S HO) (.s .z (.s .z (.s .z (.s (.s .z (.b (.l ⟨[(false, 5, (.v t3)), (false, 11, (.v t3)), (true, 4, (.v t104))], [1, 2, 4, 10], [5, 11, 4]⟩ [(some 0, ⟨[(false, 5, (.v t3)), (true, 4, (.v t104))], [2, 4], [5, 4]⟩)] (.s .z (.s .z (.s (.b (.s .z (.s (.xr [13, 14] [0, 1, 2, 3, 4, 5, 6, 7, 8, 9, 10, 11, 12, 13, 14] [(0, []), (1, []), (2, []), (3, []), (4, []), (5, []), (6, []), (7, []), (8, []), (9, []), (10, []), (11, []), (12, [])]) .z))) .z)))))) (.s .z (.s .z (.s (.s .z (.j ⟨[(false, 9, (.v t3))], [2, 4, 5], [9]⟩ .z .z)) .z))))))) Tryz.func195 rfl (by kernel_rfl) fun x => by kernel_rfl
def s179 : FS := ⟨(.cons t106 (.cons t208 .nil)), (.cons t3 .nil), [none], fun x => Go.F.j3 x.1 x.2.1⟩
theorem nX : s179.ok prog 179 := fS ((E0).S Cd) .z Tryz.func179 rfl (by kernel_rfl) fun x => by kernel_rfl
def s220 : FS := ⟨(.cons t106 (.cons (.box t208) .nil)), (.cons t4 .nil), [none], fun x => Go.F.vh x.1 x.2.1⟩
theorem HK : s220.ok prog 220 := fS ((E0).S nX) .z Tryz.func220 rfl (by kernel_rfl) fun x => by kernel_rfl
def s196 : FS := ⟨(.cons t107 (.cons t208 .nil)), (.cons t4 .nil), [none], fun x => Go.F.j0 x.1 x.2.1⟩
theorem Hh : s196.ok prog 196 := fS (((E0).S Ck).S HK) .z Tryz.func196 rfl (by kernel_rfl) fun x => by kernel_rfl
def s174 : FS := ⟨(.cons t189 .nil), (.cons t203 .nil), [some 208], fun x => Go.F.yq x.1⟩
theorem Ci : s174.ok prog 174 := fS ((((E0).S Hh).S Hi).S Hj) (.s .z (.s .z (.s .z (.s (.s .z (.b (.l ⟨[(true, 3, (.o true t208 208)), (true, 4, (.m true t208 t4))], [1, 3, 4, 10], []⟩ [] (.s .z (.b (.s .z (.s .z (.j ⟨[(true, 3, (.o true t208 208)), (true, 4, (.m true t208 t4))], [1, 3, 4, 10], []⟩ .z .z)))))))) .z)))) Tryz.func174 rfl (by kernel_rfl) fun x => by kernel_rfl
def s178 : FS := ⟨(.cons t208 (.cons (.box t106) .nil)), (.cons t4 .nil), [none], fun x => Go.F.z6 x.1 x.2.1⟩
theorem Hs : s178.ok prog 178 := fS ((E0).S nX) .z Tryz.func178 rfl (by kernel_rfl) fun x => by kernel_rfl
def s198 : FS := ⟨(.cons t203 (.cons t210 .nil)), (.cons t3 .nil), [none], fun x => Go.F.ye x.1 x.2.1⟩
theorem Hf : s198.ok prog 198 := fS (E0) (.s .z (.s (.s .z (.b (.l ⟨[(false, 8, (.v t3))], [0, 1, 7], [8]⟩ [(some 0, ⟨[], [], []⟩), (none, ⟨[(false, 4, (.v t3))], [], [4]⟩)] .z))) .z)) Tryz.func198 rfl (by kernel_rfl) fun x => by kernel_rfl
def s177 : FS := ⟨(.cons t203 (.cons t210 .nil)), (.cons t4 .nil), [none], fun x => Go.F.zn x.1 x.2.1⟩
theorem Ht : s177.ok prog 177 := fS ((E0).S Hf) .z Tryz.func177 rfl (by kernel_rfl) fun x => by kernel_rfl
def s176 : FS := ⟨(.cons t106 (.cons (.box t203) .nil)), (.cons t4 .nil), [none], fun x => Go.F.yL x.1 x.2.1⟩
theorem Hu : s176.ok prog 176 := fS (((E0).S Ht).S Hs) .z Tryz.func176 rfl (by kernel_rfl) fun x => by kernel_rfl
def s197 : FS := ⟨(.cons t189 (.cons t198 .nil)), (.cons t3 .nil), [none], fun x => Go.F.yR x.1 x.2.1⟩
theorem Hg : s197.ok prog 197 := fS (E0) (.s .z (.s (.s .z (.b (.l ⟨[(false, 8, (.v t3))], [0, 1, 7], [8]⟩ [(some 0, ⟨[], [], []⟩), (none, ⟨[(false, 4, (.v t3))], [], [4]⟩)] .z))) .z)) Tryz.func197 rfl (by kernel_rfl) fun x => by kernel_rfl
def s175 : FS := ⟨(.cons t189 (.cons t198 .nil)), (.cons t4 .nil), [none], fun x => Go.F.zj x.1 x.2.1⟩
theorem Hv : s175.ok prog 175 := fS ((E0).S Hg) .z Tryz.func175 rfl (by kernel_rfl) fun x => by kernel_rfl
def s156 : FS := ⟨(.cons t189 .nil), (.cons t4 .nil), [none], fun x => Go.F.vZ x.1⟩
theorem Co : s156.ok prog 156 := fS ((((E0).S Hv).S Hu).S Ci) .z Tryz.func156 rfl (by kernel_rfl) fun x => by kernel_rfl
def s118 : FS := ⟨(.cons t107 .nil), (.cons t4 .nil), [none], fun x => Go.F.gn x.1⟩
theorem tK : s118.ok prog 118 := fS ((((E0).S Co).S nh).S nj) (.s .z (.s (.xg ⟨[(false, 2, (.v t4))], [], [2]⟩) .z)) Tryz.func118 rfl (by kernel_rfl) fun x => by kernel_rfl
def s127 : FS := ⟨(.cons t107 (.cons t107 .nil)), (.cons t4 .nil), [none], fun x => Go.F.jA x.1 x.2.1⟩
theorem nq : s127.ok prog 127 := fS ((((E0).S Co).S nh).S nj) (.s .z (.s (.xg ⟨[(false, 4, (.v t4))], [], [4]⟩) .z)) Tryz.func127 rfl (by kernel_rfl) fun x => by kernel_rfl
def s157 : FS := ⟨(.cons t107 (.cons (.box t107) .nil)), (.cons t4 .nil), [none], fun x => Go.F.vg x.1 x.2.1⟩
theorem H5 : s157.ok prog 157 := fS ((E0).S nq) .z Tryz.func157 rfl (by kernel_rfl) fun x => by kernel_rfl
def s119 : FS := ⟨(.cons t107 (.cons t28 .nil)), (.cons t4 .nil), [none], fun x => Go.F.zu x.1 x.2.1⟩
theorem tJ : s119.ok prog 119 := fS (((E0).S nk).S H5) .z Tryz.func119 rfl (by kernel_rfl) fun x => by kernel_rfl
def s58 : FS := ⟨(.cons t30 .nil), (.cons t43 .nil), [none], fun x => Go.F.gy x.1⟩
theorem okf58 : s58.ok prog 58 := fS (((((E0).S tJ).S tK).S okf72).S IJ) (.s .z (.s .z (.s .z (.s .z (.s (.s .z (.b (.l ⟨[(false, 32, (.v t3))], [1, 30, 31], [32]⟩ [(some 1, ⟨[], [], []⟩), (none, ⟨[(false, 2, (.v t43))], [], [2]⟩)] .z))) .z))))) Tryz.func58 rfl (by kernel_rfl) fun x => by kernel_rfl
def s138 : FS := ⟨(.cons t107 .nil), (.cons t4 .nil), [none], fun x => Go.F.vq x.1⟩
theorem H8 : s138.ok prog 138 := fS ((E0).S JD) .z Tryz.func138 rfl (by kernel_rfl) fun x => by kernel_rfl
def s87 : FS := ⟨(.cons t30 (.cons t33 .nil)), (.cons t4 .nil), [none], fun x => Go.F.Z6 x.1 x.2.1⟩
theorem okf87 : s87.ok prog 87 := fS (((E0).S nk).S H8) .z Tryz.func87 rfl (by kernel_rfl) fun x => by kernel_rfl
def s158 : FS := ⟨(.cons t3 .nil), (.cons t28 .nil), [some 107], fun x => Go.F.yj x.1⟩
theorem H4 : s158.okN prog 158 := fN (E0) (.s .z (.s (.s .z (.j ⟨[], [0, 1], []⟩ .z .z)) (.s (.s .z (.s .z (.j ⟨[(false, 0, (.o true t107 107))], [], []⟩ (.xg ⟨[(false, 0, (.o true t107 107))], [], []⟩) .z))) .z))) Tryz.func158 rfl (by kernel_rfl) fun x => by kernel_rfl
def s122 : FS := ⟨(.cons t191 .nil), (.cons t28 .nil), [some 107], fun x => Go.F.zQ x.1⟩
theorem Cs : s122.ok prog 122 := fS ((E0).N H4) (.s .z (.s .z (.s (.s .z (.b (.l ⟨[(false, 3, (.v t3)), (false, 11, (.v t3))], [0, 9, 10], [3, 11]⟩ [(some 0, ⟨[(false, 3, (.v t3))], [0], [3]⟩)] (.s .z (.s .z (.s (.b (.s .z (.s .z (.s .z (.j ⟨[], [0, 3, 9, 10, 11], []⟩ .z .z))))) .z)))))) (.s .z (.s (.s .z (.b (.l ⟨[(false, 6, (.o true t107 107)), (false, 27, (.v t3))], [25, 26], [27]⟩ [(some 2, ⟨[(false, 6, (.o true t107 107))], [], []⟩)] .z))) .z))))) Tryz.func122 rfl (by kernel_rfl) fun x => by kernel_rfl
def s141 : FS := ⟨(.cons t23 .nil), (.cons t4 .nil), [none], fun x => Go.F.jC x.1⟩
theorem H7 : s141.ok prog 141 := fS (E0) (.s .z (.s (.s .z (.b (.l ⟨[(false, 3, (.v t3))], [0], [3]⟩ [(some 0, ⟨[], [], []⟩), (none, ⟨[(false, 2, (.v t4))], [], [2]⟩)] .z))) .z)) Tryz.func141 rfl (by kernel_rfl) fun x => by kernel_rfl
def s88 : FS := ⟨(.cons t34 (.cons t3 .nil)), (.cons t43 .nil), [none], fun x => Go.F.jo x.1 x.2.1⟩
theorem okf88 : s88.ok prog 88 := fS ((((E0).S H7).S JD).S Cs) (.s .z (.s .z (.s (.s .z (.b (.l ⟨[(false, 22, (.v t3))], [0, 1, 5, 20, 21], [22]⟩ [(some 0, ⟨[], [0, 1, 5], []⟩), (none, ⟨[(false, 4, (.v t43))], [], [4]⟩)] .z))) (.s .z (.s (.s .z (.b (.l ⟨[(false, 43, (.v t3))], [0, 1, 5, 41, 42], [43]⟩ [(some 2, ⟨[], [5], []⟩), (none, ⟨[(false, 4, (.v t43))], [], [4]⟩)] .z))) .z))))) Tryz.func88 rfl (by kernel_rfl) fun x => by kernel_rfl
def s30 : FS := ⟨(.cons t36 .nil), (.cons t43 .nil), [none], fun x => Go.F.Zf x.1⟩
theorem okf30 : s30.ok prog 30 := fS ((((E0).S okf88).S okf87).S okf58) (.s .z (.s .z (.s .z (.s .z (.s (.s .z (.b (.l ⟨[(false, 4, (.v t3)), (false, 33, (.v t3))], [1, 31, 32], [4, 33]⟩ [(some 1, ⟨[(false, 4, (.v t3))], [], [4]⟩), (none, ⟨[(false, 2, (.v t43))], [], [2]⟩)] .z))) .z))))) Tryz.func30 rfl (by kernel_rfl) fun x => by kernel_rfl
def s56 : FS := ⟨(.cons (.box t36) .nil), (.cons t43 .nil), [none], fun x => Go.F.jK x.1⟩
theorem okf56 : s56.ok prog 56 := fS ((E0).S okf30) .z Tryz.func56 rfl (by kernel_rfl) fun x => by kernel_rfl
def s57 : FS := ⟨(.cons (.box t30) .nil), (.cons t43 .nil), [none], fun x => Go.F.jJ x.1⟩
theorem okf57 : s57.ok prog 57 := fS ((E0).S okf58) .z Tryz.func57 rfl (by kernel_rfl) fun x => by kernel_rfl
def s120 : FS := ⟨(.cons t3 (.cons (.box t3) .nil)), (.cons t4 .nil), [none], fun x => Go.F.vj x.1 x.2.1⟩
theorem II : s120.ok prog 120 := fS (E0) .z Tryz.func120 rfl (by kernel_rfl) fun x => by kernel_rfl
def s60 : FS := ⟨(.cons t3 (.cons t23 .nil)), (.cons t43 .nil), [none], fun x => Go.F.ZF x.1 x.2.1⟩
theorem okf60 : s60.ok prog 60 := fS (((E0).S okf72).S II) (.s .z (.b (.s .z (.s .z (.s .z (.s (.s .z (.b (.l ⟨[(false, 5, (.v t43)), (false, 15, (.v t3))], [1, 13, 14], [5, 15]⟩ [(some 0, ⟨[(false, 5, (.v t43))], [], [5]⟩)] (.s .z (.s .z (.s (.b (.s .z (.s .z (.b (.l ⟨[(false, 5, (.v t43)), (false, 24, (.v t3))], [1, 7, 13, 14, 15, 22, 23], [5, 24]⟩ [(some 0, ⟨[(false, 5, (.v t43))], [], [5]⟩), (some 2, ⟨[(false, 5, (.v t43))], [1, 13, 14, 15], [5]⟩)] .z))))) .z)))))) .z)))))) Tryz.func60 rfl (by kernel_rfl) fun x => by kernel_rfl
def s59 : FS := ⟨(.cons (.box t36) (.cons (.box t23) .nil)), (.cons t43 .nil), [none], fun x => Go.F.jI x.1 x.2.1⟩
theorem okf59 : s59.ok prog 59 := fS ((E0).S okf60) .z Tryz.func59 rfl (by kernel_rfl) fun x => by kernel_rfl
def s121 : FS := ⟨(.cons t28 .nil), (.cons t43 .nil), [none], fun x => Go.F.vy x.1⟩
theorem Ct : s121.ok prog 121 := fS ((E0).S JD) (.s .z (.s (.s .z (.b (.l ⟨[(false, 8, (.v t3))], [6, 7], [8]⟩ [(some 0, ⟨[], [], []⟩), (none, ⟨[(false, 2, (.v t43))], [], [2]⟩)] .z))) .z)) Tryz.func121 rfl (by kernel_rfl) fun x => by kernel_rfl
def s112 : FS := ⟨(.cons t30 (.cons t33 .nil)), (.cons t43 .nil), [none], fun x => Go.F.jE x.1 x.2.1⟩
theorem Cu : s112.ok prog 112 := fS (((E0).S Ct).S okf58) .z Tryz.func112 rfl (by kernel_rfl) fun x => by kernel_rfl
def s123 : FS := ⟨(.cons t31 .nil), (.cons t31 .nil), [some 4], fun x => Go.F.yE x.1⟩
theorem IH : s123.ok prog 123 := fS (E0) .z Tryz.func123 rfl (by kernel_rfl) fun x => by kernel_rfl
def s159 : FS := ⟨(.cons t107 .nil), (.cons t107 .nil), [some 106], fun x => Go.F.zT x.1⟩
theorem Cn : s159.ok prog 159 := fS (E0) .z Tryz.func159 rfl (by kernel_rfl) fun x => by kernel_rfl
def s124 : FS := ⟨(.cons t28 .nil), (.cons t28 .nil), [some 107], fun x => Go.F.j7 x.1⟩
theorem IF : s124.ok prog 124 := fS ((E0).S Cn) (.s .z (.s .z (.s (.s .z (.b (.l ⟨[(false, 3, (.o true t107 107)), (false, 8, (.v t3))], [6, 7], [8]⟩ [(some 0, ⟨[(false, 3, (.o true t107 107))], [], []⟩)] .z))) .z))) Tryz.func124 rfl (by kernel_rfl) fun x => by kernel_rfl
def s126 : FS := ⟨(.cons t3 (.cons t107 (.cons (.box t107) .nil))), (.cons t4 .nil), [none], fun x => Go.F.yd x.1 x.2.1 x.2.2.1⟩
theorem ID : s126.ok prog 126 := fS ((E0).S nq) .z Tryz.func126 rfl (by kernel_rfl) fun x => by kernel_rfl
def s125 : FS := ⟨(.cons t28 (.cons t173 .nil)), (.cons t28 .nil), [some 107], fun x => Go.F.yB x.1 x.2.1⟩
theorem IE : s125.ok prog 125 := fS (E0) (.s .z (.s .z (.s (.s .z (.b (.l ⟨[(false, 5, (.o true t107 107)), (false, 10, (.v t3))], [1, 8, 9], [10]⟩ [(some 0, ⟨[(false, 5, (.o true t107 107))], [], []⟩)] (.s .z (.s .z (.s (.b (.s .z (.s .z (.j ⟨[(false, 5, (.o true t107 107))], [1, 8, 9, 10], []⟩ .z .z)))) .z)))))) .z))) Tryz.func125 rfl (by kernel_rfl) fun x => by kernel_rfl
def s180 : FS := ⟨(.cons t28 .nil), (.cons t43 .nil), [none], fun x => Go.F.km x.1⟩
theorem Hr : s180.ok prog 180 := fS ((E0).S JD) (.s .z (.s .z (.s (.s .z (.b (.l ⟨[(false, 11, (.v t3))], [9, 10], [11]⟩ [(some 0, ⟨[], [], []⟩), (none, ⟨[(false, 2, (.v t43))], [], [2]⟩)] .z))) .z))) Tryz.func180 rfl (by kernel_rfl) fun x => by kernel_rfl
def s200 : FS := ⟨(.cons t107 .nil), (.cons t203 .nil), [some 208], fun x => Go.F.ZD x.1⟩
theorem He : s200.ok prog 200 := fS ((((E0).S Ci).S nh).S nj) .z Tryz.func200 rfl (by kernel_rfl) fun x => by kernel_rfl
def s202 : FS := ⟨(.cons t106 (.cons (.box t203) .nil)), (.cons t4 .nil), [none], fun x => Go.F.gY x.1 x.2.1⟩
theorem Hc : s202.ok prog 202 := fS ((E0).S nX) (.s .z (.s .z (.s (.s .z (.b (.l ⟨[(false, 4, (.v t3)), (false, 9, (.v t3))], [2, 7, 8], [4, 9]⟩ [(some 0, ⟨[(false, 4, (.v t3))], [], [4]⟩)] (.s .z (.s .z (.s (.b (.s .z (.s .z (.j ⟨[(false, 4, (.v t3))], [2, 7, 8, 9], [4]⟩ .z .z)))) .z)))))) .z))) Tryz.func202 rfl (by kernel_rfl) fun x => by kernel_rfl
def s201 : FO := ⟨t106, 106, (.cons t198 .nil), true, fun xs x => Go.F.zh xs x.1⟩
theorem Hd : s201.ok prog 201 := fO ((E0).S Cf) (.s .z (.s .z (.s .z (.s (.s .z (.b (.l ⟨[(true, 0, (.v t107)), (false, 5, (.v t3)), (false, 6, (.v t3))], [0, 1], [5, 6]⟩ [(some 0, ⟨[(true, 0, (.v t107)), (false, 5, (.v t3))], [0], [5]⟩)] (.s .z (.s (.b (.s .z (.s .z (.j ⟨[(true, 0, (.v t107)), (false, 5, (.v t3))], [0, 1, 6], [5]⟩ .z .z)))) .z))))) (.s (.f [0] .z) (.s (.xg ⟨[(false, 4, (.o false t106 106))], [], []⟩) .z)))))) Tryz.func201 rfl (by kernel_rfl) fun xs z => by kernel_rfl
def s203 : FO := ⟨t106, 106, (.cons t233 .nil), false, fun xs x => Go.F.zd xs x.1⟩
theorem Hb : s203.ok prog 203 := Ao (ρ := Go.Proofs.Tryz.Kc) Go.Proofs.Tryz.sortL (T_ok 106 i106 (by kernel_rfl)).ty rfl ⟨_, Tryz.func203, rfl, by kernel_rfl⟩
def s223 : FS := ⟨(.cons t3 (.cons t3 .nil)), (.cons t3 .nil), [none], fun x => Go.F.jk x.1 x.2.1⟩
theorem HJ : s223.ok prog 223 := fS (E0) .z Tryz.func223 rfl (by kernel_rfl) fun x => by kernel_rfl
def s204 : FS := ⟨(.cons t106 (.cons t106 .nil)), (.cons t3 .nil), [none], fun x => Go.F.gi x.1 x.2.1⟩
theorem Ha : s204.ok prog 204 := fS ((E0).S HJ) (.s .z (.b (.s .z (.s .z (.s (.s .z (.b (.l ⟨[(false, 5, (.v t3)), (false, 36, (.v t3))], [34, 35], [5, 36]⟩ [(some 0, ⟨[(false, 5, (.v t3))], [], [5]⟩)] .z))) .z))))) Tryz.func204 rfl (by kernel_rfl) fun x => by kernel_rfl
def s205 : FO := ⟨t106, 106, .nil, true, fun xs x => Go.F.zg xs ⟩
theorem HZ : s205.ok prog 205 := fO (E0) (.s .z (.s .z (.s (.s .z (.b (.l ⟨[(true, 0, (.v t107)), (false, 3, (.v t3))], [0], [3]⟩ [(some 0, ⟨[(true, 0, (.v t107))], [0], []⟩), (none, ⟨[(false, 2, (.o false t106 106))], [], []⟩)] (.s .z (.s (.b (.s .z (.s (.s (.f [0] .z) (.s (.s .z (.b (.l ⟨[(true, 0, (.v t107)), (false, 3, (.v t3)), (false, 5, (.v t3))], [0, 4], [3, 5]⟩ [(some 2, ⟨[(true, 0, (.v t107)), (false, 3, (.v t3))], [0], [3]⟩)] (.s .z (.s (.b (.s .z (.j ⟨[(true, 0, (.v t107)), (false, 3, (.v t3))], [0, 4, 5], [3]⟩ .z .z))) .z))))) (.s (.f [0] .z) (.s (.xg ⟨[(false, 2, (.o false t106 106))], [], []⟩) .z)))) .z))) .z))))) .z))) Tryz.func205 rfl (by kernel_rfl) fun xs z => by kernel_rfl
def s181 : FS := ⟨(.cons t107 .nil), (.cons t107 .nil), [some 106], fun x => Go.F.vb x.1⟩
theorem nW : s181.ok prog 181 := fS (((((((((E0).O HZ).S Ha).O Hb).O Hd).S Hc).S Cn).S He).S tK) .z Tryz.func181 rfl (by kernel_rfl) fun x => by kernel_rfl
def s243 : FS := ⟨(.cons t104 (.cons t104 .nil)), (.cons t104 .nil), [none], fun x => Go.F.XC x.1 x.2.1⟩
theorem G5 : s243.ok prog 243 := fS (E0) .z Tryz.func243 rfl (by kernel_rfl) fun x => by kernel_rfl
def s225 : FS := ⟨(.cons t106 .nil), (.cons t106 .nil), [none], fun x => Go.F.kR x.1⟩
theorem HG : s225.ok prog 225 := fS ((E0).S G5) .z Tryz.func225 rfl (by kernel_rfl) fun x => by kernel_rfl
def s224 : GS := ⟨(.cons (.box t107) (.cons (.box t107) .nil)), (.cons (.slo t106) .nil), fun x => Go.F.gJ x.1 x.2.1⟩
theorem HH : s224.ok prog 224 := fQ ((((E0).S nW).S Cj).S HG) (.s .z (.s .z (.b (.l ⟨[(false, 4, (.v t107)), (false, 11, (.v t3))], [0, 9, 10], [4, 11]⟩ [(some 0, ⟨[], [], []⟩), (none, ⟨[], [], []⟩)] (.s .z (.s .z (.s (.b (.s .z (.s (.s (.f [6] .z) (.s (.s .y .z) .z)) (.s (.s .z (.s .y .z)) .z)))) .z))))))) Tryz.func224 rfl (by kernel_rfl) fun x => by kernel_rfl
def s206 : FS := ⟨(.cons t107 (.cons t107 .nil)), (.cons t235 .nil), [none], fun x => Go.F.jf x.1 x.2.1⟩
theorem HY : s206.ok prog 206 := fS ((E0).Q HH) (.s .z (.s (.f [2, 3] .z) .z)) Tryz.func206 rfl (by kernel_rfl) fun x => by kernel_rfl
def s182 : FS := ⟨(.cons t28 (.cons t107 .nil)), (.cons t28 (.cons t43 .nil)), [none, none], fun x => Go.F.gh x.1 x.2.1⟩
theorem Hq : s182.ok prog 182 := fS (((((E0).S HY).S nq).S nW).S tK) (.s .z (.s .z (.s .z (.s (.f [16, 6] .z) (.s (.s .z (.b (.l ⟨[(false, 19, (.v t3)), (true, 4, (.v t28)), (true, 5, (.v t43)), (true, 7, (.o true t107 107))], [1, 4, 5, 6, 7, 17, 18], [19, 4, 5]⟩ [(some 0, ⟨[(true, 4, (.v t28)), (true, 5, (.v t43)), (true, 7, (.o true t107 107))], [4, 5, 7], [4, 5]⟩), (none, ⟨[(true, 4, (.v t28)), (true, 5, (.v t43))], [4, 5], [4, 5]⟩)] (.s .z (.s .z (.s (.jb ⟨[(true, 4, (.v t28)), (true, 5, (.v t43)), (true, 7, (.o true t107 107))], [1, 4, 5, 6, 7, 17, 18, 19], [4, 5]⟩ (.s .z (.s .z (.s .z (.b (.l ⟨[(true, 4, (.v t28)), (true, 5, (.v t43)), (true, 7, (.o true t107 107))], [1, 4, 5, 6, 7, 17, 18, 19, 32], [4, 5]⟩ [(none, ⟨[(true, 4, (.v t28)), (true, 5, (.v t43))], [4, 5], [4, 5]⟩)] (.s .z .z))))))) .z)))))) .z))))) Tryz.func182 rfl (by kernel_rfl) fun x => by kernel_rfl
def s160 : FS := ⟨(.cons t107 (.cons t28 .nil)), (.cons t28 (.cons t43 .nil)), [none, none], fun x => Go.F.kj x.1 x.2.1⟩
theorem H3 : s160.ok prog 160 := fS ((((((E0).S Hq).S nW).S tK).S Hr).S JD) (.s .z (.s .z (.s .z (.s .z (.s .z (.s (.s (.f [27] .z) (.b (.l ⟨[(false, 8, (.v t28)), (false, 30, (.v t3))], [28, 29], [8, 30]⟩ [(some 0, ⟨[(false, 8, (.v t28))], [], [8]⟩), (none, ⟨[(false, 4, (.v t28)), (false, 5, (.v t43))], [], [4, 5]⟩)] .z))) .z)))))) Tryz.func160 rfl (by kernel_rfl) fun x => by kernel_rfl
def s128 : FS := ⟨(.cons t28 (.cons t107 .nil)), (.cons t4 (.cons t43 .nil)), [none, none], fun x => Go.F.gV x.1 x.2.1⟩
theorem IC : s128.ok prog 128 := fS ((E0).S H3) .z Tryz.func128 rfl (by kernel_rfl) fun x => by kernel_rfl
def s61 : FS := ⟨(.cons t30 (.cons t33 (.cons t28 (.cons t28 .nil)))), (.cons t33 (.cons t43 .nil)), [none, none], fun x => Go.F.ki x.1 x.2.1 x.2.2.1 x.2.2.2.1⟩
theorem okf61 : s61.ok prog 61 := fS ((((((((((E0).S IC).S IE).S ID).S tJ).S IF).S IH).S Ct).S Cs).S Cu) (.s .z (.s .z (.s .z (.s .z (.s (.xr [2, 5, 11, 13, 14] [0, 1, 3, 4, 6, 7, 8, 9, 2, 5, 10, 11, 12, 13, 14] [(0, []), (1, []), (3, []), (4, []), (6, []), (7, []), (8, []), (9, []), (10, []), (12, [])]) (.s (.s .z (.b (.l ⟨[(false, 58, (.v t3)), (true, 8, (.v t33)), (true, 12, (.ag (.pr (.o true t4 4) (.pr (.o true t4 4) (.pr (.v t28) .un)))))], [2, 3, 8, 12, 56, 57], [58, 8]⟩ [(some 0, ⟨[(true, 8, (.v t33)), (true, 12, (.ag (.pr (.o true t4 4) (.pr (.o true t4 4) (.pr (.v t28) .un)))))], [8, 12], [8]⟩), (none, ⟨[(false, 9, (.v t43)), (true, 8, (.v t33))], [8], [9, 8]⟩)] (.s .z (.s .z (.s (.jb ⟨[(true, 8, (.v t33)), (true, 12, (.ag (.pr (.o true t4 4) (.pr (.o true t4 4) (.pr (.v t28) .un)))))], [2, 3, 8, 12, 56, 57, 58], [8]⟩ (.s .z (.s .z (.s .z (.s (.f [14] .z) .z))))) .z)))))) .z)))))) Tryz.func61 rfl (by kernel_rfl) fun x => by kernel_rfl
def s113 : FS := ⟨(.cons t162 (.cons t3 .nil)), (.cons t4 .nil), [none], fun x => Go.F.zw x.1 x.2.1⟩
theorem IM : s113.ok prog 113 := fS ((E0).S tJ) .z Tryz.func113 rfl (by kernel_rfl) fun x => by kernel_rfl
def s114 : FS := ⟨(.cons t162 (.cons t3 .nil)), (.cons t4 .nil), [none], fun x => Go.F.zy x.1 x.2.1⟩
theorem IL : s114.ok prog 114 := fS (E0) .z Tryz.func114 rfl (by kernel_rfl) fun x => by kernel_rfl
def s115 : FS := ⟨(.cons t162 (.cons t3 .nil)), (.cons t4 .nil), [none], fun x => Go.F.yD x.1 x.2.1⟩
theorem IK : s115.ok prog 115 := fS (E0) .z Tryz.func115 rfl (by kernel_rfl) fun x => by kernel_rfl
def s47 : FS := ⟨(.cons t30 (.cons t33 .nil)), (.cons t43 .nil), [none], fun x => Go.F.jR x.1 x.2.1⟩
theorem okf47 : s47.ok prog 47 := fS (((((E0).S IK).S IL).S IM).S Cu) (.s .z (.s .z (.s .z (.s (.s .z (.b (.l ⟨[(false, 30, (.v t3))], [2, 28, 29], [30]⟩ [(some 0, ⟨[], [], []⟩), (none, ⟨[(false, 4, (.v t43))], [], [4]⟩)] (.s .z (.s .z (.s (.b (.s .z (.s .z (.b (.l ⟨[(false, 37, (.v t3))], [2, 8, 28, 29, 30, 36], [37]⟩ [(some 2, ⟨[], [2, 28, 29, 30], []⟩), (none, ⟨[(false, 4, (.v t43))], [], [4]⟩)] .z))))) .z)))))) .z)))) Tryz.func47 rfl (by kernel_rfl) fun x => by kernel_rfl
def s62 : FS := ⟨(.cons t23 .nil), (.cons t23 .nil), [some 3], fun x => Go.F.vF x.1⟩
theorem okf62 : s62.ok prog 62 := fS (E0) .z Tryz.func62 rfl (by kernel_rfl) fun x => by kernel_rfl
def s65 : FS := ⟨(.cons t30 (.cons t62 .nil)), (.cons t4 .nil), [none], fun x => Go.F.kF x.1 x.2.1⟩
theorem okf65 : s65.ok prog 65 := fS ((E0).S tJ) (.s .z (.s (.s .z (.b (.l ⟨[(false, 10, (.v t3))], [2, 3, 8, 9], [10]⟩ [(some 0, ⟨[], [], []⟩), (none, ⟨[(false, 4, (.v t4))], [], [4]⟩)] .z))) .z)) Tryz.func65 rfl (by kernel_rfl) fun x => by kernel_rfl
def s64 : FS := ⟨(.cons t3 (.cons (.box t30) (.cons (.box t36) .nil))), (.cons t4 .nil), [none], fun x => Go.F.gZ x.1 x.2.1 x.2.2.1⟩
theorem okf64 : s64.ok prog 64 := fS ((E0).S okf65) .z Tryz.func64 rfl (by kernel_rfl) fun x => by kernel_rfl
def s63 : FO := ⟨t3, 3, (.cons t117 .nil), true, fun xs x => Go.F.y9 xs x.1⟩
theorem okf63 : s63.ok prog 63 := fO ((E0).S Cr) (.s .z (.s .z (.s .z (.s (.s .z (.b (.l ⟨[(true, 0, (.v t23)), (false, 5, (.v t3)), (false, 6, (.v t3))], [0, 1], [5, 6]⟩ [(some 0, ⟨[(true, 0, (.v t23)), (false, 5, (.v t3))], [0], [5]⟩)] (.s .z (.s (.b (.s .z (.s .z (.j ⟨[(true, 0, (.v t23)), (false, 5, (.v t3))], [0, 1, 6], [5]⟩ .z .z)))) .z))))) (.s (.f [0] .z) (.s (.xg ⟨[(false, 4, (.o false t3 3))], [], []⟩) .z)))))) Tryz.func63 rfl (by kernel_rfl) fun xs z => by kernel_rfl
def s17 : FS := ⟨(.cons t36 (.cons t23 (.cons t23 .nil))), (.cons t23 (.cons t43 .nil)), [some 3, none], fun x => Go.F.gq x.1 x.2.1 x.2.2.1⟩
theorem okf17 : s17.ok prog 17 := fS (((((((((E0).O okf63).S okf64).S okf62).S okf47).S okf61).S okf59).S okf57).S okf56) (.s .z (.s .z (.s (.s (.f [3, 8, 5] .z) (.b (.l ⟨[(false, 31, (.v t3))], [3, 5, 8, 29, 30], [31]⟩ [(some 0, ⟨[], [3, 5, 8], []⟩), (none, ⟨[(false, 6, (.o true t3 3)), (false, 7, (.v t43))], [], [7]⟩)] .z))) (.s .z (.s (.s .z (.b (.l ⟨[(false, 12, (.o true t107 107)), (false, 13, (.o true t107 107)), (false, 43, (.v t3))], [3, 5, 8, 41, 42], [43]⟩ [(some 2, ⟨[(false, 12, (.o true t107 107)), (false, 13, (.o true t107 107))], [3, 5, 8], []⟩)] (.s .z (.s .z (.s (.b (.s .z (.xr [7, 15] [0, 1, 2, 3, 4, 5, 6, 8, 9, 10, 11, 12, 13, 14, 7, 15, 16, 17] [(8, [47, 12, 54]), (9, [47, 12, 54]), (10, [47, 12, 54]), (11, [47, 12, 54]), (12, [47, 12, 54]), (13, [47, 12, 54]), (14, [47, 12, 54])]))) .z)))))) .z))))) Tryz.func17 rfl (by kernel_rfl) fun x => by kernel_rfl
def s19 : FS := ⟨(.cons t23 (.cons t23 .nil)), (.cons t4 .nil), [none], fun x => Go.F.ya x.1 x.2.1⟩
theorem okf19 : s19.ok prog 19 := fS (E0) (.s .z (.s .z (.s (.s .z (.b (.l ⟨[(false, 5, (.v t3))], [0, 1], [5]⟩ [(some 0, ⟨[], [], []⟩), (none, ⟨[(false, 4, (.v t4))], [], [4]⟩)] .z))) .z))) Tryz.func19 rfl (by kernel_rfl) fun x => by kernel_rfl
def s49 : FS := ⟨(.cons t36 (.cons t23 (.cons t23 (.cons t23 .nil)))), (.cons t4 .nil), [none], fun x => Go.F.vC x.1 x.2.1 x.2.2.1 x.2.2.2.1⟩
theorem okf49 : s49.ok prog 49 := fS (((E0).S okf19).S okf17) .z Tryz.func49 rfl (by kernel_rfl) fun x => by kernel_rfl
def s50 : FS := ⟨(.cons t36 (.cons t23 (.cons t23 (.cons t43 .nil)))), (.cons t4 .nil), [none], fun x => Go.F.yh x.1 x.2.1 x.2.2.1 x.2.2.2.1⟩
theorem okf50 : s50.ok prog 50 := fS ((E0).S okf17) .z Tryz.func50 rfl (by kernel_rfl) fun x => by kernel_rfl
def s71 : FS := ⟨(.cons t3 .nil), (.cons t4 .nil), [none], fun x => Go.F.yP x.1⟩
theorem okf71 : s71.ok prog 71 := fS (E0) .z Tryz.func71 rfl (by kernel_rfl) fun x => by kernel_rfl
def s73 : FS := ⟨(.cons t3 (.cons (.box t23) .nil)), (.cons t4 .nil), [none], fun x => Go.F.vQ x.1 x.2.1⟩
theorem okf73 : s73.ok prog 73 := fS (E0) .z Tryz.func73 rfl (by kernel_rfl) fun x => by kernel_rfl
def s74 : FS := ⟨(.cons t23 (.cons t3 .nil)), (.cons t3 .nil), [none], fun x => Go.F.yC x.1 x.2.1⟩
theorem okf74 : s74.ok prog 74 := fS (E0) (.s .z (.s (.s .z (.b (.l ⟨[(false, 8, (.v t3))], [0, 1, 7], [8]⟩ [(some 0, ⟨[], [], []⟩), (none, ⟨[(false, 4, (.v t3))], [], [4]⟩)] .z))) .z)) Tryz.func74 rfl (by kernel_rfl) fun x => by kernel_rfl
def s22 : FS := ⟨(.cons t36 (.cons t23 (.cons t23 (.cons t23 (.cons t23 (.cons t23 .nil)))))), (.cons t51 (.cons t43 .nil)), [some 60, none], fun x => Go.F.vw x.1 x.2.1 x.2.2.1 x.2.2.2.1 x.2.2.2.2.1 x.2.2.2.2.2.1⟩
theorem okf22 : s22.ok prog 22 := fS ((((((E0).S okf74).S okf72).S okf73).S okf71).S okf17) (.s .z (.s .z (.s .z (.s .z (.s .z (.s (.s .z (.b (.l ⟨[(false, 17, (.o true t60 60)), (false, 66, (.v t3))], [2, 3, 4, 6, 11, 64, 65], [66]⟩ [(some 1, ⟨[(false, 17, (.o true t60 60))], [], []⟩)] (.s .z (.s .z (.s (.b (.s .z (.s .z (.s .z (.s (.s .z (.s .z (.j ⟨[(false, 21, (.v t3))], [2, 3, 4, 6, 11, 17, 19, 64, 65, 66], [21]⟩ .z .z))) .z))))) .z)))))) .z)))))) Tryz.func22 rfl (by kernel_rfl) fun x => by kernel_rfl
def s24 : FS := ⟨(.cons t51 (.cons t51 .nil)), (.cons t4 .nil), [none], fun x => Go.F.jO x.1 x.2.1⟩
theorem okf24 : s24.ok prog 24 := fS (E0) (.s .z (.s .z (.s (.s .z (.b (.l ⟨[(false, 5, (.v t3))], [0, 1], [5]⟩ [(some 0, ⟨[], [], []⟩), (none, ⟨[(false, 4, (.v t4))], [], [4]⟩)] .z))) .z))) Tryz.func24 rfl (by kernel_rfl) fun x => by kernel_rfl
def s25 : FS := ⟨(.cons t51 (.cons t3 .nil)), (.cons t3 .nil), [none], fun x => Go.F.kG x.1 x.2.1⟩
theorem okf25 : s25.ok prog 25 := fS (E0) (.s .z (.s .z (.s (.s .z (.b (.l ⟨[(false, 5, (.m true t3 t3)), (false, 11, (.v t3))], [1, 9, 10], [11]⟩ [(some 0, ⟨[(false, 5, (.m true t3 t3))], [1], []⟩)] .z))) .z))) Tryz.func25 rfl (by kernel_rfl) fun x => by kernel_rfl
def s14 : FS := ⟨.nil, (.cons t4 .nil), [none], fun x => Go.F.y6 ⟩
theorem okf14 : s14.ok prog 14 := fS (((((((E0).S okf25).S okf24).S okf22).S okf50).S okf49).S okf48) (.s .z (.s .z (.s .z (.s .z (.s (.xg ⟨[(false, 5, (.v t4))], [1, 2, 3, 4], [5]⟩) (.s (.xg ⟨[(false, 6, (.v t4))], [1, 3, 4, 5], [6]⟩) (.s .z (.s .z (.s (.xg ⟨[(false, 0, (.v t4))], [], [0]⟩) .z))))))))) Tryz.func14 rfl (by kernel_rfl) fun x => by kernel_rfl
def s41 : FS := ⟨(.cons t3 (.cons t3 .nil)), (.cons t3 .nil), [none], fun x => Go.F.yN x.1 x.2.1⟩
theorem okf41 : s41.ok prog 41 := fS (E0) .z Tryz.func41 rfl (by kernel_rfl) fun x => by kernel_rfl
def s85 : FM := ⟨(.cons (.box t130) (.cons t3 .nil)), [some 130, none], (.cons t3 .nil), fun x => Go.F.zD x.1 x.2.1⟩
theorem okf85 : s85.ok prog 85 := fM ((E0).S okf41) .z Tryz.func85 rfl (by kernel_rfl) fun x => by kernel_rfl
def s164 : FS := ⟨(.cons t104 (.cons t104 .nil)), (.cons t104 .nil), [none], fun x => Go.F.jx x.1 x.2.1⟩
theorem H1 : s164.ok prog 164 := fS (E0) .z Tryz.func164 rfl (by kernel_rfl) fun x => by kernel_rfl
def s137 : FS := ⟨(.cons t106 .nil), (.cons t106 .nil), [none], fun x => Go.F.yX x.1⟩
theorem Cp : s137.ok prog 137 := fS ((E0).S H1) .z Tryz.func137 rfl (by kernel_rfl) fun x => by kernel_rfl
def s191 : FS := ⟨(.cons t104 .nil), (.cons t26 .nil), [none], fun x => Go.F.zl x.1⟩
theorem Ce : s191.ok prog 191 := fS (E0) .z Tryz.func191 rfl (by kernel_rfl) fun x => by kernel_rfl
def s214 : FS := ⟨(.cons t3 .nil), (.cons t3 .nil), [none], fun x => Go.F.yZ x.1⟩
theorem HQ : s214.ok prog 214 := fS (E0) .z Tryz.func214 rfl (by kernel_rfl) fun x => by kernel_rfl
def s192 : FS := ⟨(.cons t104 .nil), (.cons t104 (.cons t3 .nil)), [none, none], fun x => Go.F.vY x.1⟩
theorem Hl : s192.ok prog 192 := fS (((E0).S HQ).S Ce) (.s .z (.s .z (.s .z (.s (.s .z (.b (.l ⟨[(false, 5, (.v t3)), (false, 6, (.v t3)), (true, 2, (.v t104))], [1, 2, 4], [5, 6, 2]⟩ [(some 0, ⟨[(false, 5, (.v t3)), (true, 2, (.v t104))], [1, 2], [5, 2]⟩), (none, ⟨[(false, 3, (.v t3)), (true, 2, (.v t104))], [2], [3, 2]⟩)] (.s .z (.s (.b (.s .z (.s .z (.b (.l ⟨[(false, 5, (.v t3)), (false, 7, (.v t3))], [1, 2, 4, 6], [5, 7]⟩ [(some 2, ⟨[(false, 5, (.v t3))], [1, 2, 4, 6], [5]⟩)] .z))))) .z))))) (.s .z (.s (.xr [14] [0, 1, 2, 3, 4, 5, 6, 7, 8, 9, 10, 11, 12, 13, 14, 15] [(13, [2])]) .z)))))) Tryz.func192 rfl (by kernel_rfl) fun x => by kernel_rfl
def s169 : FS := ⟨(.cons t106 .nil), (.cons t4 .nil), [none], fun x => Go.F.vP x.1⟩
theorem Hx : s169.ok prog 169 := fS (((E0).S Hl).S Ce) (.s .z (.s .z (.s (.s .z (.b (.l ⟨[(false, 4, (.v t3))], [1, 3], [4]⟩ [(some 0, ⟨[], [1], []⟩), (none, ⟨[(false, 2, (.v t4))], [], [2]⟩)] .z))) .z))) Tryz.func169 rfl (by kernel_rfl) fun x => by kernel_rfl
def s142 : FS := ⟨(.cons t107 .nil), (.cons t43 .nil), [none], fun x => Go.F.zU x.1⟩
theorem XI : s142.ok prog 142 := fS ((E0).S Hx) (.s .z (.s .z (.s (.s .z (.b (.l ⟨[(false, 3, (.v t3))], [0], [3]⟩ [(some 0, ⟨[], [], []⟩), (none, ⟨[(false, 2, (.v t43))], [], [2]⟩)] .z))) .z))) Tryz.func142 rfl (by kernel_rfl) fun x => by kernel_rfl
def s162 : FS := ⟨(.cons t107 .nil), (.cons t107 .nil), [some 106], fun x => Go.F.vO x.1⟩
theorem nZ : s162.ok prog 162 := fS ((E0).S okf55) (.s .z (.s .z (.s .z (.s (.xr [0, 2, 6] [1, 3, 4, 0, 2, 5, 6, 7] [(1, []), (3, [7]), (4, [7])]) .z)))) Tryz.func162 rfl (by kernel_rfl) fun x => by kernel_rfl
def s227 : FS := ⟨(.cons t104 (.cons t104 .nil)), (.cons t104 .nil), [none], fun x => Go.F.yg x.1 x.2.1⟩
theorem HD : s227.ok prog 227 := fS (E0) .z Tryz.func227 rfl (by kernel_rfl) fun x => by kernel_rfl
def s226 : FS := ⟨(.cons t104 (.cons t104 .nil)), (.cons t3 .nil), [none], fun x => Go.F.jy x.1 x.2.1⟩
theorem HF : s226.ok prog 226 := fS (E0) .z Tryz.func226 rfl (by kernel_rfl) fun x => by kernel_rfl
def s228 : FS := ⟨(.cons t104 (.cons t3 .nil)), (.cons t104 .nil), [none], fun x => Go.F.yA x.1 x.2.1⟩
theorem HC : s228.ok prog 228 := fS (E0) .z Tryz.func228 rfl (by kernel_rfl) fun x => by kernel_rfl
def s229 : FS := ⟨(.cons t104 (.cons t104 .nil)), (.cons t104 .nil), [none], fun x => Go.F.gm x.1 x.2.1⟩
theorem G9 : s229.ok prog 229 := fS (E0) .z Tryz.func229 rfl (by kernel_rfl) fun x => by kernel_rfl
def s230 : FS := ⟨(.cons t3 (.cons t3 .nil)), (.cons t3 .nil), [none], fun x => Go.F.zb x.1 x.2.1⟩
theorem G8 : s230.ok prog 230 := fS (E0) (.s .z (.s (.b (.l ⟨[(false, 0, (.v t3)), (false, 1, (.v t3))], [], [0, 1]⟩ [(some 0, ⟨[(false, 0, (.v t3))], [], [0]⟩)] .z)) .z)) Tryz.func230 rfl (by kernel_rfl) fun x => by kernel_rfl
def s207 : FS := ⟨(.cons t106 (.cons t106 (.cons t106 .nil))), (.cons t208 (.cons t4 .nil)), [none, none], fun x => Go.F.yW x.1 x.2.1 x.2.2.1⟩
theorem HX : s207.ok prog 207 := fS ((((((E0).S G8).S G9).S HC).S HF).S HD) (.s .z (.s .z (.s .z (.s (.xr [8, 9] [0, 1, 2, 3, 4, 5, 6, 7, 8, 9] [(0, []), (1, []), (2, []), (3, []), (4, []), (5, []), (6, []), (7, [])]) (.s .z (.s .z (.s (.s .z (.j ⟨[(false, 8, (.v t3)), (true, 9, (.v t104))], [6, 9], [8, 9]⟩ .z .z)) .z))))))) Tryz.func207 rfl (by kernel_rfl) fun x => by kernel_rfl
def s184 : FS := ⟨(.cons t106 (.cons t208 .nil)), (.cons t3 .nil), [none], fun x => Go.F.zY x.1 x.2.1⟩
theorem nV : s184.ok prog 184 := fS (E0) .z Tryz.func184 rfl (by kernel_rfl) fun x => by kernel_rfl
def s208 : FS := ⟨(.cons t107 (.cons t208 .nil)), (.cons t4 .nil), [none], fun x => Go.F.vA x.1 x.2.1⟩
theorem HW : s208.ok prog 208 := fS ((E0).S nV) (.s .z (.s (.s .z (.b (.l ⟨[(false, 5, (.v t3))], [0, 3], [5]⟩ [(some 0, ⟨[], [], []⟩), (none, ⟨[(false, 4, (.v t4))], [], [4]⟩)] .z))) .z)) Tryz.func208 rfl (by kernel_rfl) fun x => by kernel_rfl
def s209 : FS := ⟨(.cons t203 (.cons t208 .nil)), (.cons t4 .nil), [none], fun x => Go.F.yJ x.1 x.2.1⟩
theorem HV : s209.ok prog 209 := fS (E0) (.s .z (.s (.s .z (.b (.l ⟨[(false, 5, (.v t3))], [0, 3], [5]⟩ [(some 0, ⟨[], [], []⟩), (none, ⟨[(false, 4, (.v t4))], [], [4]⟩)] .z))) .z)) Tryz.func209 rfl (by kernel_rfl) fun x => by kernel_rfl
def s183 : FS := ⟨(.cons t107 .nil), (.cons t203 .nil), [some 208], fun x => Go.F.ym x.1⟩
theorem Cg : s183.ok prog 183 := fS ((((E0).S HV).S HW).S HX) (.s .z (.s .z (.s (.s .z (.b (.l ⟨[(false, 3, (.o true t208 208)), (false, 4, (.v t3))], [0], [4]⟩ [(some 0, ⟨[(false, 3, (.o true t208 208))], [], []⟩)] (.s .z (.s (.b (.s .z (.b (.l ⟨[(false, 3, (.o true t208 208)), (false, 5, (.v t3))], [0, 4], [5]⟩ [(some 2, ⟨[(false, 3, (.o true t208 208))], [0, 4], []⟩)] (.s .z (.s (.b (.s .z (.b (.l ⟨[(false, 3, (.o true t208 208)), (false, 6, (.v t3))], [0, 4, 5], [6]⟩ [(some 4, ⟨[(false, 3, (.o true t208 208))], [0, 4, 5], []⟩)] (.s .z (.s (.b (.s (.xr [16, 17] [0, 1, 2, 3, 4, 5, 6, 7, 8, 9, 10, 11, 12, 13, 14, 15, 16, 17, 18] [(0, []), (1, []), (2, []), (3, []), (4, []), (5, []), (6, []), (7, []), (8, []), (9, []), (10, []), (11, []), (12, []), (13, []), (14, []), (15, [7])]) (.s .z (.j ⟨[(false, 3, (.o true t208 208))], [0, 4, 5, 6], []⟩ .z .z)))) .z)))))) .z)))))) .z))))) .z))) Tryz.func183 rfl (by kernel_rfl) fun x => by kernel_rfl
def s161 : FS := ⟨(.cons t107 .nil), (.cons t4 .nil), [none], fun x => Go.F.vX x.1⟩
theorem Cm : s161.ok prog 161 := fS (((E0).S nV).S Cg) (.s .z (.s .z (.s (.s .z (.b (.l ⟨[(false, 4, (.v t3))], [0, 3], [4]⟩ [(some 0, ⟨[], [], []⟩), (none, ⟨[(false, 2, (.v t4))], [], [2]⟩)] (.s .z (.s (.b (.s .z (.s (.s .z (.b (.l ⟨[(false, 5, (.v t4)), (false, 6, (.v t3))], [0, 3, 4], [5, 6]⟩ [(some 2, ⟨[(false, 5, (.v t4))], [0, 3, 4], [5]⟩)] .z))) .z))) .z))))) .z))) Tryz.func161 rfl (by kernel_rfl) fun x => by kernel_rfl
def s130 : FS := ⟨(.cons t107 .nil), (.cons t4 .nil), [none], fun x => Go.F.ze x.1⟩
theorem Kt : s130.ok prog 130 := fS ((((E0).S Cm).S nZ).S XI) (.s .z (.s (.xg ⟨[(false, 2, (.v t4))], [], [2]⟩) .z)) Tryz.func130 rfl (by kernel_rfl) fun x => by kernel_rfl
def s83 : FS := ⟨(.cons t22 .nil), (.cons t30 .nil), [none], fun x => Go.F.gQ x.1⟩
theorem okf83 : s83.ok prog 83 := fS (((((E0).S Kt).S Cp).S okf55).M okf85) (.s .z (.s .z (.s (.s .z (.b (.l ⟨[(false, 4, (.v t3)), (true, 3, (.v t41))], [0, 2, 3], [4, 3]⟩ [(some 0, ⟨[(true, 3, (.v t41))], [2, 3], [3]⟩)] .z))) (.s .z (.s .z (.s .z (.s (.xg ⟨[(false, 8, (.v t4)), (true, 5, (.v t130))], [2, 3, 5, 6, 7], [8, 5]⟩) (.s .z (.s .z (.s (.s .z (.b (.l ⟨[(false, 9, (.v t3)), (false, 11, (.v t3)), (true, 6, (.ag (.pr (.v t9) (.pr (.o true t107 107) (.pr (.o true t3 3) .un))))), (true, 5, (.v t130))], [2, 3, 5, 6, 7, 8, 10], [9, 11, 5]⟩ [(some 2, ⟨[(true, 6, (.ag (.pr (.v t9) (.pr (.o true t107 107) (.pr (.o true t3 3) .un))))), (true, 5, (.v t130))], [2, 3, 5, 6], [5]⟩)] (.s .z (.s (.b (.s .z (.s .z (.s (.s .z (.j ⟨[(true, 6, (.ag (.pr (.v t9) (.pr (.o true t107 107) (.pr (.o true t3 3) .un)))))], [2, 3, 5, 6, 7, 8, 9, 10, 11, 12], []⟩ .z .z)) .z)))) .z))))) (.s (.s (.xg ⟨[(false, 102, (.v t4)), (true, 5, (.v t130))], [2, 3, 5, 6], [102, 5]⟩) (.j ⟨[(true, 6, (.ag (.pr (.v t9) (.pr (.o true t107 107) (.pr (.o true t3 3) .un)))))], [2, 3, 6], []⟩ (.s .z (.s .z (.s (.xr [0, 6, 9] [1, 2, 3, 4, 5, 7, 8, 0, 6, 9, 10] [(1, []), (2, []), (3, []), (4, []), (5, []), (7, [113]), (8, [113])]) (.s (.xr [0, 6, 10] [1, 2, 3, 4, 5, 7, 0, 6, 8, 9, 10, 11] [(1, []), (2, []), (3, []), (4, []), (5, []), (7, [123])]) (.s .z (.j ⟨[(true, 6, (.ag (.pr (.v t9) (.pr (.o true t107 107) (.pr (.o true t3 3) .un)))))], [2, 3, 6], []⟩ .z .z)))))) .z)) (.s .z (.s (.s .z (.b (.l ⟨[(false, 18, (.v t3)), (true, 6, (.ag (.pr (.v t9) (.pr (.o true t107 107) (.pr (.o true t3 3) .un))))), (true, 17, (.v t130))], [2, 6, 17], [18, 17]⟩ [(some 4, ⟨[(true, 6, (.ag (.pr (.v t9) (.pr (.o true t107 107) (.pr (.o true t3 3) .un)))))], [2, 6], []⟩)] (.s .z (.s (.b (.xr [4, 8, 10] [0, 1, 2, 3, 4, 5, 6, 7, 8, 9, 10] [(0, [165, 17, 154]), (1, [165, 17, 154]), (2, [165, 17, 154])])) .z))))) .z))))))))))))) Tryz.func83 rfl (by kernel_rfl) fun x => by kernel_rfl
def s84 : FS := ⟨(.cons t30 .nil), (.cons t33 .nil), [none], fun x => Go.F.gl x.1⟩
theorem okf84 : s84.ok prog 84 := fS (E0) (.s .z (.s (.xr [3, 9] [0, 1, 2, 4, 5, 6, 7, 3, 8, 9] [(4, []), (5, []), (6, []), (7, [])]) .z)) Tryz.func84 rfl (by kernel_rfl) fun x => by kernel_rfl
def s86 : FS := ⟨(.cons t22 (.cons t30 .nil)), (.cons t28 .nil), [some 107], fun x => Go.F.yV x.1 x.2.1⟩
theorem okf86 : s86.ok prog 86 := fS (((E0).S okf55).M okf85) (.s .z (.s .z (.s (.s .z (.b (.l ⟨[(false, 5, (.o true t107 107)), (false, 6, (.v t3))], [0, 3], [6]⟩ [(some 0, ⟨[(false, 5, (.o true t107 107))], [], []⟩)] (.s .z (.s (.b (.s .z (.s .z (.s (.xr [7, 10] [0, 1, 2, 3, 4, 5, 6, 7, 8, 9, 10, 11] [(0, [33, 7, 27]), (1, [33, 7, 27]), (2, [33, 7, 27])]) (.s (.s .z (.j ⟨[(false, 9, (.v t107)), (true, 7, (.v t130))], [0, 3, 5, 6, 7, 8], [9, 7]⟩ (.s .z (.xr [5, 10] [0, 1, 2, 3, 4, 5, 6, 7, 8, 9, 10, 11] [(0, [52, 7, 27]), (1, [52, 7, 27]), (2, [52, 7, 27]), (3, [52, 7, 27])])) .z)) (.s (.s .z (.j ⟨[(false, 9, (.v t107))], [0, 3, 5, 6], [9]⟩ (.s .z (.xr [5, 11, 17, 20] [0, 1, 2, 3, 4, 7, 8, 9, 10, 13, 14, 15, 16, 5, 6, 11, 12, 17, 18, 19, 20, 21] [(0, [75, 7, 27, 81, 87]), (1, [75, 7, 27, 81, 87]), (2, [75, 7, 27, 81, 87]), (3, [75, 7, 27, 81, 87]), (6, [81, 7, 27, 87]), (7, [75, 7, 27, 81, 87]), (8, [75, 7, 27, 81, 87]), (9, [75, 7, 27, 81, 87]), (10, [75, 7, 27]), (12, [87, 7, 27]), (13, [75, 7, 27, 81, 87]), (14, [75, 7, 27, 81, 87]), (15, [75, 7, 27, 81, 87]), (16, [75, 7, 27, 81])])) .z)) .z)))))) .z))))) .z))) Tryz.func86 rfl (by kernel_rfl) fun x => by kernel_rfl
def s131 : FS := ⟨(.cons t107 (.cons t107 .nil)), (.cons t4 .nil), [none], fun x => Go.F.zW x.1 x.2.1⟩
theorem tI : s131.ok prog 131 := fS ((((E0).S Cm).S nZ).S XI) .z Tryz.func131 rfl (by kernel_rfl) fun x => by kernel_rfl
def s67 : FS := ⟨(.cons t30 .nil), (.cons t43 .nil), [none], fun x => Go.F.vM x.1⟩
theorem okf67 : s67.ok prog 67 := fS (((E0).S tI).S Kt) (.s .z (.s .z (.s .z (.s (.s .z (.b (.l ⟨[(false, 3, (.v t3))], [1], [3]⟩ [(some 0, ⟨[], [1], []⟩), (none, ⟨[(false, 2, (.v t43))], [], [2]⟩)] .z))) (.s (.s .z (.b (.l ⟨[(false, 4, (.v t3))], [1], [4]⟩ [(some 2, ⟨[], [], []⟩), (none, ⟨[(false, 2, (.v t43))], [], [2]⟩)] (.s .z (.s (.b (.s .z (.s .z (.b (.l ⟨[(false, 5, (.v t3))], [1, 4], [5]⟩ [(some 4, ⟨[], [1, 4], []⟩), (none, ⟨[(false, 2, (.v t43))], [], [2]⟩)] .z))))) .z))))) .z))))) Tryz.func67 rfl (by kernel_rfl) fun x => by kernel_rfl
def s132 : FS := ⟨(.cons t28 .nil), (.cons t43 .nil), [none], fun x => Go.F.z7 x.1⟩
theorem Cq : s132.ok prog 132 := fS ((E0).S XI) (.s .z (.s (.s .z (.b (.l ⟨[(false, 3, (.v t3))], [0], [3]⟩ [(some 0, ⟨[], [], []⟩), (none, ⟨[(false, 2, (.v t43))], [], [2]⟩)] .z))) .z)) Tryz.func132 rfl (by kernel_rfl) fun x => by kernel_rfl
def s89 : FS := ⟨(.cons t30 (.cons t33 .nil)), (.cons t4 .nil), [none], fun x => Go.F.vV x.1 x.2.1⟩
theorem okf89 : s89.ok prog 89 := fS ((E0).S Cq) .z Tryz.func89 rfl (by kernel_rfl) fun x => by kernel_rfl
def s111 : FS := ⟨(.cons t28 .nil), (.cons t28 .nil), [some 107], fun x => Go.F.vW x.1⟩
theorem IP : s111.ok prog 111 := fS (E0) (.s .z (.s .z (.s (.s .z (.b (.l ⟨[(false, 3, (.o true t107 107)), (false, 4, (.v t3))], [0], [4]⟩ [(some 0, ⟨[(false, 3, (.o true t107 107))], [], []⟩)] .z))) .z))) Tryz.func111 rfl (by kernel_rfl) fun x => by kernel_rfl
def s133 : FS := ⟨(.cons t107 (.cons t28 .nil)), (.cons t4 .nil), [none], fun x => Go.F.yI x.1 x.2.1⟩
theorem IB : s133.ok prog 133 := fS ((E0).S tI) (.s .z (.s (.s .z (.b (.l ⟨[(false, 5, (.v t3))], [0, 1], [5]⟩ [(some 0, ⟨[], [], []⟩), (none, ⟨[(false, 4, (.v t4))], [], [4]⟩)] .z))) .z)) Tryz.func133 rfl (by kernel_rfl) fun x => by kernel_rfl
def s135 : FS := ⟨(.cons t28 (.cons t107 .nil)), (.cons t28 .nil), [some 107], fun x => Go.F.yf x.1 x.2.1⟩
theorem H9 : s135.ok prog 135 := fS ((E0).S tI) (.s .z (.s .z (.s (.s .z (.b (.l ⟨[(false, 5, (.o true t107 107)), (false, 6, (.v t3))], [0, 1], [6]⟩ [(some 0, ⟨[(false, 5, (.o true t107 107))], [], []⟩)] (.s .z (.s (.b (.s .z (.j ⟨[(false, 5, (.o true t107 107))], [0, 1, 6], []⟩ .z .z))) .z))))) .z))) Tryz.func135 rfl (by kernel_rfl) fun x => by kernel_rfl
def s185 : FS := ⟨(.cons t28 .nil), (.cons t43 .nil), [none], fun x => Go.F.gE x.1⟩
theorem Hp : s185.ok prog 185 := fS ((E0).S XI) (.s .z (.s .z (.s (.s .z (.b (.l ⟨[(false, 3, (.v t3))], [0], [3]⟩ [(some 0, ⟨[], [], []⟩), (none, ⟨[(false, 2, (.v t43))], [], [2]⟩)] .z))) .z))) Tryz.func185 rfl (by kernel_rfl) fun x => by kernel_rfl
def s210 : FS := ⟨(.cons t107 .nil), (.cons t203 .nil), [some 208], fun x => Go.F.vk x.1⟩
theorem HU : s210.ok prog 210 := fS ((((E0).S Cg).S nZ).S XI) .z Tryz.func210 rfl (by kernel_rfl) fun x => by kernel_rfl
def s231 : FS := ⟨(.cons t106 (.cons t106 .nil)), (.cons t3 .nil), [none], fun x => Go.F.yK x.1 x.2.1⟩
theorem G7 : s231.ok prog 231 := fS (E0) (.s .z (.s .z (.s .z (.s (.s .z (.b (.l ⟨[(false, 7, (.v t3))], [5, 6], [7]⟩ [(some 0, ⟨[], [], []⟩), (none, ⟨[(false, 4, (.v t3))], [], [4]⟩)] .z))) .z)))) Tryz.func231 rfl (by kernel_rfl) fun x => by kernel_rfl
def s211 : FS := ⟨(.cons t107 (.cons t106 .nil)), (.cons t107 .nil), [none], fun x => Go.F.vu x.1 x.2.1⟩
theorem HT : s211.ok prog 211 := fS ((E0).S G7) (.s .z (.s .z (.s (.b (.l ⟨[(false, 5, (.v t3))], [0, 3], [5]⟩ [(some 0, ⟨[(false, 5, (.v t3))], [0, 3], [5]⟩)] .z)) .z))) Tryz.func211 rfl (by kernel_rfl) fun x => by kernel_rfl
def s186 : FS := ⟨(.cons t107 .nil), (.cons t107 .nil), [none], fun x => Go.F.zZ x.1⟩
theorem nU : s186.ok prog 186 := fS (((((E0).S HT).S nV).S HU).S Kt) (.s .z (.s .z (.s .z (.s .z (.s (.s .z (.b (.l ⟨[(false, 4, (.v t107)), (false, 5, (.v t3))], [0, 3], [4, 5]⟩ [(some 0, ⟨[(false, 4, (.v t107))], [], [4]⟩)] (.s .z (.s (.b (.s .z (.s (.s .z (.b (.l ⟨[(false, 6, (.v t3)), (false, 7, (.v t3))], [0, 3, 4, 5], [6, 7]⟩ [(some 2, ⟨[(false, 6, (.v t3))], [0, 3, 4, 5], [6]⟩)] (.s .z (.s (.b (.s .z (.j ⟨[(false, 6, (.v t3))], [0, 3, 4, 5, 7], [6]⟩ .z .z))) .z))))) (.s .z (.j ⟨[(false, 4, (.v t107))], [0, 3, 5], [4]⟩ .z .z))))) .z))))) .z))))) Tryz.func186 rfl (by kernel_rfl) fun x => by kernel_rfl
def s232 : FS := ⟨(.cons t107 (.cons t106 .nil)), (.cons t107 .nil), [some 106], fun x => Go.F.zp x.1 x.2.1⟩
theorem G6 : s232.ok prog 232 := fS (E0) (.s .z (.s (.xr [0, 2, 5] [1, 3, 4, 0, 2, 5, 6] [(1, []), (3, [5]), (4, [5])]) .z)) Tryz.func232 rfl (by kernel_rfl) fun x => by kernel_rfl
def s212 : FS := ⟨(.cons t107 (.cons t107 .nil)), (.cons t28 (.cons t43 .nil)), [some 107, none], fun x => Go.F.vN x.1 x.2.1⟩
theorem HS : s212.ok prog 212 := fS ((((E0).S nU).S G6).S Cp) (.s .z (.s .z (.s .z (.s (.s .z (.b (.l ⟨[(false, 6, (.o true t107 107)), (false, 7, (.v t107)), (false, 8, (.v t3))], [1], [7, 8]⟩ [(some 0, ⟨[(false, 6, (.o true t107 107))], [], []⟩), (none, ⟨[(false, 4, (.o true t107 107)), (false, 5, (.v t43))], [], [5]⟩)] (.s .z (.s (.b (.s .z (.s .z (.s (.s .z (.j ⟨[(false, 6, (.o true t107 107))], [1, 7, 8], []⟩ .z .z)) .z)))) .z))))) .z)))) Tryz.func212 rfl (by kernel_rfl) fun x => by kernel_rfl
def s187 : FS := ⟨(.cons t28 (.cons t107 .nil)), (.cons t28 (.cons t43 .nil)), [none, none], fun x => Go.F.yH x.1 x.2.1⟩
theorem Ho : s187.ok prog 187 := fS (((((E0).S HS).S nU).S tI).S Kt) (.s .z (.s .z (.s .z (.s (.s .z (.b (.l ⟨[(false, 6, (.o true t107 107)), (false, 7, (.v t3))], [0, 1], [7]⟩ [(some 0, ⟨[(false, 6, (.o true t107 107))], [], []⟩), (none, ⟨[(false, 4, (.v t28)), (false, 5, (.v t43))], [], [4, 5]⟩)] (.s .z (.s (.jb ⟨[(false, 6, (.o true t107 107))], [0, 1, 7], []⟩ .z) .z))))) .z)))) Tryz.func187 rfl (by kernel_rfl) fun x => by kernel_rfl
def s163 : FS := ⟨(.cons t107 (.cons t28 .nil)), (.cons t28 (.cons t43 .nil)), [none, none], fun x => Go.F.gD x.1 x.2.1⟩
theorem H2 : s163.ok prog 163 := fS ((((((E0).S Ho).S nU).S Kt).S Hp).S XI) (.s .z (.s .z (.s (.s .z (.j ⟨[(false, 6, (.v t43))], [0, 1], [6]⟩ .z .z)) (.s .z (.s .z (.s (.s .z (.j ⟨[(false, 7, (.v t28))], [1], [7]⟩ .z .z)) (.s (.s (.f [26] .z) (.b (.l ⟨[(false, 7, (.v t28)), (false, 8, (.v t3))], [1], [7, 8]⟩ [(some 0, ⟨[(false, 7, (.v t28))], [], [7]⟩), (none, ⟨[(false, 4, (.v t28)), (false, 5, (.v t43))], [], [4, 5]⟩)] .z))) .z))))))) Tryz.func163 rfl (by kernel_rfl) fun x => by kernel_rfl
def s134 : FS := ⟨(.cons t28 (.cons t107 .nil)), (.cons t4 (.cons t43 .nil)), [none, none], fun x => Go.F.yT x.1 x.2.1⟩
theorem IA : s134.ok prog 134 := fS ((E0).S H2) .z Tryz.func134 rfl (by kernel_rfl) fun x => by kernel_rfl
def s68 : FS := ⟨(.cons t30 (.cons t33 (.cons t28 (.cons t28 .nil)))), (.cons t33 (.cons t43 .nil)), [none, none], fun x => Go.F.gC x.1 x.2.1 x.2.2.1 x.2.2.2.1⟩
theorem okf68 : s68.ok prog 68 := fS ((((((((E0).S IA).S H9).S IB).S IP).S Cq).S okf89).S okf67) (.s .z (.s .z (.s .z (.s .z (.s .z (.s (.s .z (.j ⟨[(false, 10, (.v t43))], [2, 3, 4, 5, 8], [10]⟩ .z .z)) (.s .z (.s .z (.s .z (.s (.s .z (.b (.l ⟨[(false, 12, (.v t3)), (true, 8, (.v t33)), (true, 11, (.ag (.pr (.o true t4 4) (.pr (.o true t4 4) (.pr (.v t28) .un)))))], [2, 3, 4, 5, 8, 11], [12, 8]⟩ [(some 0, ⟨[(true, 8, (.v t33)), (true, 11, (.ag (.pr (.o true t4 4) (.pr (.o true t4 4) (.pr (.v t28) .un)))))], [8, 11], [8]⟩), (none, ⟨[(false, 9, (.v t43)), (true, 8, (.v t33))], [8], [9, 8]⟩)] (.s .z (.s (.b (.s .z (.s .z (.s .z (.s (.s .z (.j ⟨[(false, 14, (.v t4)), (true, 8, (.v t33))], [2, 3, 4, 5, 8, 11, 12], [14, 8]⟩ .z .z)) .z))))) .z))))) .z)))))))))) Tryz.func68 rfl (by kernel_rfl) fun x => by kernel_rfl
def s44 : FS := ⟨(.cons t30 (.cons t23 (.cons t3 .nil))), (.cons t62 .nil), [none], fun x => Go.F.yS x.1 x.2.1 x.2.2.1⟩
theorem okf44 : s44.ok prog 44 := fS (((E0).S okf86).M okf85) (.s .z (.s .z (.s .z (.s (.s (.xg ⟨[(false, 25, (.v t4)), (true, 7, (.v t130))], [1, 2, 3, 6, 7, 8], [25, 7]⟩) (.j ⟨[(true, 8, (.ag (.pr (.o true t107 107) (.pr (.o true t107 107) (.pr (.v t3) (.pr (.o true t3 3) .un))))))], [1, 3, 6, 7, 8], []⟩ .z .z)) (.s .z (.s (.s .z (.b (.l ⟨[(false, 10, (.v t3)), (true, 8, (.ag (.pr (.o true t107 107) (.pr (.o true t107 107) (.pr (.v t3) (.pr (.o true t3 3) .un)))))), (true, 7, (.v t130))], [1, 3, 6, 7, 8, 9], [10, 7]⟩ [(some 0, ⟨[(true, 8, (.ag (.pr (.o true t107 107) (.pr (.o true t107 107) (.pr (.v t3) (.pr (.o true t3 3) .un))))))], [1, 3, 6, 8, 9], []⟩)] (.s .z (.s (.b (.s .z (.s (.s .z (.j ⟨[(false, 11, (.v t4)), (true, 7, (.v t130))], [1, 3, 6, 7, 8, 9, 10], [11, 7]⟩ (.xg ⟨[(false, 11, (.v t4)), (true, 7, (.v t130))], [1, 3, 6, 7, 8, 9, 10], [11, 7]⟩) .z)) (.s .z (.j ⟨[(true, 8, (.ag (.pr (.o true t107 107) (.pr (.o true t107 107) (.pr (.v t3) (.pr (.o true t3 3) .un))))))], [1, 3, 6, 7, 8, 9, 10], []⟩ (.xr [2, 8, 9, 10, 12] [0, 1, 3, 4, 5, 6, 7, 2, 8, 9, 10, 11, 12] [(0, [58]), (1, [58]), (3, []), (4, []), (5, []), (6, []), (7, [])]) .z))))) .z))))) (.s (.s .z (.j ⟨[(true, 8, (.ag (.pr (.o true t107 107) (.pr (.o true t107 107) (.pr (.v t3) (.pr (.o true t3 3) .un))))))], [1, 3, 6, 8, 9], []⟩ .z .z)) (.s (.s .z (.j ⟨[(true, 8, (.ag (.pr (.o true t107 107) (.pr (.o true t107 107) (.pr (.v t3) (.pr (.o true t3 3) .un))))))], [6, 8], []⟩ .z .z)) .z)))))))) Tryz.func44 rfl (by kernel_rfl) fun x => by kernel_rfl
def s143 : FS := ⟨(.cons t23 .nil), (.cons t4 .nil), [none], fun x => Go.F.vt x.1⟩
theorem H6 : s143.ok prog 143 := fS (E0) (.s .z (.s (.s .z (.b (.l ⟨[(false, 3, (.v t3))], [0], [3]⟩ [(some 0, ⟨[], [], []⟩), (none, ⟨[(false, 2, (.v t4))], [], [2]⟩)] .z))) .z)) Tryz.func143 rfl (by kernel_rfl) fun x => by kernel_rfl
def s90 : FS := ⟨(.cons t34 (.cons t3 .nil)), (.cons t43 .nil), [none], fun x => Go.F.y5 x.1 x.2.1⟩
theorem okf90 : s90.ok prog 90 := fS (((E0).S H6).S XI) (.s .z (.s .z (.s (.xr [0, 3, 6] [1, 2, 4, 5, 0, 3, 6, 7] [(1, []), (2, []), (4, [14]), (5, [14])]) (.s (.s .z (.b (.l ⟨[(false, 7, (.v t3))], [0, 1, 5, 6], [7]⟩ [(some 0, ⟨[], [0, 1, 5], []⟩), (none, ⟨[(false, 4, (.v t43))], [], [4]⟩)] .z))) (.s .z (.s (.s .z (.b (.l ⟨[(false, 9, (.v t3))], [0, 1, 5], [9]⟩ [(some 2, ⟨[], [5], []⟩), (none, ⟨[(false, 4, (.v t43))], [], [4]⟩)] .z))) .z)))))) Tryz.func90 rfl (by kernel_rfl) fun x => by kernel_rfl
def s31 : FS := ⟨(.cons t36 .nil), (.cons t43 .nil), [none], fun x => Go.F.vK x.1⟩
theorem okf31 : s31.ok prog 31 := fS ((((E0).S okf90).S okf89).S okf67) (.s .z (.s .z (.s .z (.s .z (.s .z (.s .z (.s (.s .z (.b (.l ⟨[(false, 4, (.v t3)), (false, 5, (.v t3))], [1], [4, 5]⟩ [(some 0, ⟨[(false, 4, (.v t3))], [], [4]⟩), (none, ⟨[(false, 2, (.v t43))], [], [2]⟩)] .z))) .z))))))) Tryz.func31 rfl (by kernel_rfl) fun x => by kernel_rfl
def s28 : FS := ⟨(.cons t22 .nil), (.cons t36 .nil), [none], fun x => Go.F.gP x.1⟩
theorem okf28 : s28.ok prog 28 := fS ((((((((E0).S okf31).S okf44).S okf68).S okf86).M okf85).S okf84).S okf83) (.s .z (.s .z (.s (.xr [2, 4, 5] [0, 1, 2, 3, 4, 5] [(0, []), (1, []), (3, [])]) (.s (.s .z (.j ⟨[(true, 4, (.ag (.pr (.v t30) (.pr (.v t33) (.pr (.o true t62 62) .un)))))], [0, 2, 3, 4], []⟩ (.s .z (.s .z (.j ⟨[(true, 4, (.ag (.pr (.v t30) (.pr (.v t33) (.pr (.o true t62 62) .un)))))], [0, 2, 3, 4], []⟩ (.s (.xr [19, 20] [0, 1, 2, 3, 4, 5, 6, 7, 8, 9, 10, 11, 12, 13, 14, 15, 16, 17, 18, 19, 20, 21] [(0, []), (1, []), (2, []), (3, []), (4, []), (5, []), (6, []), (7, []), (8, []), (9, []), (10, []), (11, []), (12, []), (13, []), (14, []), (15, []), (16, []), (17, []), (18, [6])]) (.s .z (.j ⟨[(true, 4, (.ag (.pr (.v t30) (.pr (.v t33) (.pr (.o true t62 62) .un)))))], [0, 2, 3, 4], []⟩ .z .z))) .z))) .z)) (.s (.s .z (.b (.l ⟨[(false, 8, (.v t3)), (true, 4, (.ag (.pr (.v t30) (.pr (.v t33) (.pr (.o true t62 62) .un)))))], [0, 2, 3, 4], [8]⟩ [(some 0, ⟨[(true, 4, (.ag (.pr (.v t30) (.pr (.v t33) (.pr (.o true t62 62) .un)))))], [2, 3, 4], []⟩)] .z))) (.s (.s .z (.j ⟨[(true, 4, (.ag (.pr (.v t30) (.pr (.v t33) (.pr (.o true t62 62) .un)))))], [2, 4], []⟩ .z .z)) (.s (.b (.l ⟨[(true, 4, (.ag (.pr (.v t30) (.pr (.v t33) (.pr (.o true t62 62) .un)))))], [2, 4], []⟩ [(some 2, ⟨[(true, 4, (.ag (.pr (.v t30) (.pr (.v t33) (.pr (.o true t62 62) .un)))))], [2, 4], []⟩)] (.s .z (.b (.xg ⟨[(true, 4, (.ag (.pr (.v t30) (.pr (.v t33) (.pr (.o true t62 62) .un)))))], [2, 4], []⟩))))) .z))))))) Tryz.func28 rfl (by kernel_rfl) fun x => by kernel_rfl
def s51 : FS := ⟨(.cons t36 (.cons t23 .nil)), (.cons t23 .nil), [some 3], fun x => Go.F.gA x.1 x.2.1⟩
theorem okf51 : s51.ok prog 51 := fS ((E0).M okf85) (.s .z (.s .z (.s .z (.s (.s .z (.b (.l ⟨[(false, 6, (.o true t3 3)), (false, 7, (.v t3)), (true, 5, (.v t130))], [2, 5], [7, 5]⟩ [(some 0, ⟨[(false, 6, (.o true t3 3))], [], []⟩)] (.s .z (.s (.b (.s .z (.s .z (.s (.s .z (.j ⟨[(false, 9, (.v t3))], [2, 5, 6, 7], [9]⟩ .z .z)) .z)))) .z))))) .z)))) Tryz.func51 rfl (by kernel_rfl) fun x => by kernel_rfl
def s52 : FS := ⟨(.cons t36 (.cons t23 .nil)), (.cons t23 .nil), [some 3], fun x => Go.F.gO x.1 x.2.1⟩
theorem okf52 : s52.ok prog 52 := fS ((E0).S okf41) (.s .z (.s .z (.s (.s .z (.b (.l ⟨[(false, 5, (.o true t3 3)), (false, 6, (.v t3))], [1, 2], [6]⟩ [(some 0, ⟨[(false, 5, (.o true t3 3))], [], []⟩)] (.s .z (.s (.b (.s .z (.s .z (.s (.s .z (.b (.l ⟨[(false, 8, (.v t4)), (false, 9, (.v t3))], [1, 2, 5, 6, 7], [8, 9]⟩ [(some 2, ⟨[(false, 8, (.v t4))], [1, 2, 5, 6, 7], [8]⟩)] .z))) (.s .z (.j ⟨[(false, 5, (.o true t3 3))], [1, 2, 6], []⟩ .z .z)))))) .z))))) .z))) Tryz.func52 rfl (by kernel_rfl) fun x => by kernel_rfl
def s15 : FS := ⟨(.cons t25 .nil), (.cons t36 (.cons t23 (.cons t23 .nil))), [none, none, none], fun x => Go.F.yO x.1⟩
theorem okf15 : s15.ok prog 15 := fS ((((E0).S okf52).S okf51).S okf28) (.s .z (.s .z (.s (.xr [4, 8, 9] [0, 1, 2, 3, 5, 6, 7, 4, 8, 9, 10, 11] [(0, []), (5, []), (6, []), (7, [])]) .z))) Tryz.func15 rfl (by kernel_rfl) fun x => by kernel_rfl
def s5 : FS := ⟨(.cons t25 (.cons t50 (.cons t5 (.cons t5 .nil)))), (.cons t4 .nil), [none], fun x => Go.F.Zm x.1 x.2.1 x.2.2.1 x.2.2.2.1⟩
def s6 : FS := ⟨(.cons t25 (.cons t5 .nil)), (.cons t4 .nil), [none], fun x => Go.F.vv x.1 x.2.1⟩
theorem okf6 : s6.ok prog 6 := fS ((((E0).S okf17).S okf15).S okf14) (.s .z (.s .z (.s .z (.s .z (.s .z (.s .z (.s .z (.s .z (.s .z (.s .z (.s .z (.s (.s .z (.b (.l ⟨[(false, 16, (.v t3)), (false, 68, (.v t3))], [5, 14, 66, 67], [16, 68]⟩ [(some 0, ⟨[(false, 16, (.v t3))], [5, 14], [16]⟩)] (.s .z (.s .z (.s (.b (.s .z (.s .z (.j ⟨[(false, 16, (.v t3))], [5, 14, 66, 67, 68], [16]⟩ .z .z)))) .z)))))) .z)))))))))))) Tryz.func6 rfl (by kernel_rfl) fun x => by kernel_rfl
end Go.Dn
end
section
namespace Go.Lift
open Go Go.RowKit Go.Eng Go.ChangeShapes Go.WideShapes Go.ChangeAt Go.Joins Go.Deep Go.WideElems
variable {H : Type} {enc : TypeId × Value → H} {P : Program} {w : World} {base : Nat} {sp : Nat → Bool} {held : Bool} {α β γ : Type}
abbrev O0 : Tags := fun _ => 0
structure Opens (enc : TypeId × Value → H) (P : Program) (w : World) (base : Nat) (sp : Nat → Bool) (held : Bool) (t : Nat) (r : GR α) (Q : α → Prop) : Prop where
 size : P.cellsOf t = r.sz
 fits : r.fits
 op : ∀ fuel cs x, DataW.trod enc P w base sp held fuel t cs = some x → ∃ y, r.rel O0 w cs y ∧ Q y
theorem nL {t : Nat} {k : IntKind} (ht : P.underlying t = some (.int k)) (hs : P.cellsOf t = 1) : Opens enc P w base sp held t (rInt k) fun n => (Lit.int k n).wf = true :=
 ⟨hs, fun _ => rfl, fun fuel cs x h => by obtain ⟨n, h1, _, h2⟩ := DataW.trod_int ht h; exact ⟨n, h1, h2⟩⟩
theorem pj {r : GR α} {O : Tags} {Q : α → Prop} : ∀ {vs : List Value}, (∀ v ∈ vs, ∃ y, r.v O w v y ∧ Q y) → ∃ ys, RelL r O w vs ys ∧ ∀ y ∈ ys, Q y
 | [], _ => ⟨[], trivial, by simp⟩
 | v :: vs, h => by
   obtain ⟨y, h1, h2⟩ := h v (by simp)
   obtain ⟨ys, h3, h4⟩ := pj (vs := vs) fun u hu => h u (List.mem_cons_of_mem _ hu)
   exact ⟨y :: ys, ⟨h1, h3⟩, fun z hz => (List.mem_cons.1 hz).elim (fun e => by rw [e]; exact h2) (h4 z)⟩
theorem XG {t e : Nat} {r : GR α} {Q : α → Prop} (ht : P.underlying t = some (.slice e)) (hs : P.cellsOf t = 1) (hE : Opens enc P w base sp held e r Q) (hpos : 0 < r.sz) : Opens enc P w base sp held t (rSl r) fun xs => (∀ x ∈ xs, Q x) ∧ xs.length ≤ maxLen := by
 refine ⟨hs, fun _ => rfl, fun fuel cs x h => ?_⟩
 rcases DataW.trod_slice ht h with ⟨rfl, _⟩ | ⟨a, len, cap, elems, rest, n, _, rfl, _, hb, hl, hm, hlen, hel, _, _⟩
 ·exact ⟨[], ⟨_, [], rfl, ⟨none, 0, rfl, by simp, by simp, .inl rfl⟩, trivial, fun h => absurd rfl h⟩, by simp, by simp⟩
 ·have each : ∀ i, i < len → ∃ cs, w.cells? base (a.add (i * r.sz)) r.sz = some cs ∧ ∃ y, r.rel O0 w cs y ∧ Q y := by
   intro i hi
   have := hel i hi
   rw [List.getElem?_eq_getElem (by omega), hE.size, Option.bind_eq_some_iff] at this
   obtain ⟨cs, h1, h2⟩ := this
   exact ⟨cs, h1, hE.op n cs _ h2⟩
  let f : Nat → Value := fun i => packV r.agg ((w.cells? base (a.add (i * r.sz)) r.sz).getD [])
  have hf : ∀ i, i < len → ∃ y, r.v O0 w (f i) y ∧ Q y := by
   intro i hi
   obtain ⟨cs, h1, y, h2, h3⟩ := each i hi
   exact ⟨y, ⟨cs, h2, by show packV r.agg ((w.cells? base (a.add (i * r.sz)) r.sz).getD []) = _; rw [h1]; rfl⟩, h3⟩
  have hfc : ∀ i, i < len → ∀ j, j < r.sz → w.cell? (a.add (i * r.sz + j)) = (f i).cells[j]? := by
   intro i hi j hj
   obtain ⟨cs, h1, y, h2, _⟩ := each i hi
   have h4 := (World.cells?_some h1).2.2 j hj
   have h5 : (f i).cells = cs.toArray := by
    show (packV r.agg ((w.cells? base (a.add (i * r.sz)) r.sz).getD [])).cells = _
    rw [h1]
    exact gX (fun ha => by show cs.length = 1; rw [r.len h2, hE.fits ha]) (r.one h2)
   rw [h5, List.getElem?_toArray, ← h4]
   rw [_root_.Go.Addr.add_add]
  obtain ⟨ys, h1, h2⟩ := pj (r := r) (O := O0) (w := w) (Q := Q) (vs := (List.range len).map f) (by
   intro v hv
   obtain ⟨i, hi, rfl⟩ := List.mem_map.1 hv
   exact hf i (List.mem_range.1 hi))
  have hyl : ys.length = len := by have := h1.len; simpa using this.symm
  refine ⟨ys, ⟨_, (List.range len).map f, rfl, ⟨some a, cap, by simp, by simpa using hl, ?_, ?_⟩, h1, ?_⟩, h2, by omega⟩
  ·intro v hv
   obtain ⟨y, hy⟩ : ∃ y, r.v O0 w v y := by
    obtain ⟨i, hi, rfl⟩ := List.mem_map.1 hv
    obtain ⟨y, hy, _⟩ := hf i (List.mem_range.1 hi); exact ⟨y, hy⟩
   exact r.jc hE.fits hy
  ·by_cases h0 : len = 0
   ·left; simp [h0]
   ·right
    obtain ⟨b, off, spot⟩ := a
    have hc0 : (w.cell? (Addr.add ⟨b, off, spot⟩ (0 * r.sz + 0))).isSome = true := by
     rw [hfc 0 (by omega) 0 hpos]
     obtain ⟨y, hy, _⟩ := hf 0 (by omega)
     have := r.jc hE.fits hy
     rw [Array.getElem?_eq_getElem (by omega)]; rfl
    obtain ⟨v0, hv0⟩ := Option.isSome_iff_exists.1 hc0
    have hspot : spot = none := by simpa [Addr.add] using World.cell?_spot hv0
    subst hspot
    refine ⟨b, off, rfl, fun i x hx j hj => ?_⟩
    have hi : i < len := by have := (List.getElem?_eq_some_iff.1 hx).1; simpa using this
    have hx' : x = f i := by
     rw [List.getElem?_map, List.getElem?_range hi] at hx
     simpa using hx.symm
    rw [hx', ← hfc i hi j hj]
    unfold Addr.add
    split
    ·rename_i h0; congr 1; simp [h0]
    ·rfl
  ·intro hne g hg
   have h0 : 0 < len := by
    rcases Nat.eq_zero_or_pos len with h0 | h0
    ·subst h0; exact absurd rfl hne
    ·exact h0
   have hgb : g = a.block := by
    have : (Value.slice (some a) len cap).ownBlock = some a.block := rfl
    rw [this] at hg; exact (Option.some.inj hg).symm
   subst hgb
   refine ⟨?_, rfl⟩
   obtain ⟨cs, h3, _⟩ := each 0 h0
   have h4 := (World.cells?_some h3)
   have h5 := h4.2.2 0 hpos
   rw [List.getElem?_eq_getElem (by omega)] at h5
   have he : (a.add (0 * r.sz)).add 0 = a := by simp [Addr.add]
   rw [he] at h5
   exact World.block_lt_of_cell? _ _ h5
theorem BH {t : Nat} {r : GR α} {Q : α → Prop} {v : Value} {d : DataW H} {ps : List MemPlace} (hE : Opens enc P w base sp held t r Q) (hv : packV r.agg v.cells.toList = v) (h : DataW.Trod enc P w base sp held t v d ps) : ∃ x, r.v O0 w v x ∧ Q x := by
 obtain ⟨fuel, hf⟩ := h
 obtain ⟨y, h1, h2⟩ := hE.op fuel _ _ hf
 exact ⟨y, ⟨_, h1, hv.symm⟩, h2⟩
theorem Il : OkO O0 w := fun _ _ => rfl
end Go.Lift
end
section
namespace Go.Lift
open Go Go.RowKit Go.Eng Go.ChangeShapes Go.WideShapes Go.ChangeAt Go.Joins Go.Deep Go.WideElems
variable {H : Type} {enc : TypeId × Value → H} {P : Program} {w : World} {base : Nat} {sp : Nat → Bool} {held : Bool} {α β γ : Type}
theorem chop (cs : List Value) (off s : Nat) : cs.drop off = (cs.drop off).take s ++ cs.drop (off + s) := by
 rw [← List.drop_drop, List.take_append_drop]
theorem Opens.at_ {t : Nat} {r : GR α} {Q : α → Prop} (hE : Opens enc P w base sp held t r Q) {off n : Nat} {cs : List Value} {y} (h : DataW.trod enc P w base sp held n t ((cs.drop off).take (P.cellsOf t)) = some y) : ∃ a, r.rel O0 w ((cs.drop off).take r.sz) a ∧ Q a := by
 rw [hE.size] at h; exact hE.op n _ _ h
theorem wu {t : Nat} {fs : Array Field} {r : GR α} {Q : α → Prop} {re : Reach} {b0 : Nat} {v : Value} {d : DataW H} {ps : List MemPlace} (ht : P.underlying t = some (.struct fs)) (hE : Opens enc P w base sp held t r Q) (ha : r.agg = true) (hval : Value.okWide P w re b0 t v) (h : DataW.Trod enc P w base sp held t v d ps) : ∃ x, r.v O0 w v x ∧ Q x := by
 obtain ⟨cs, rfl, _⟩ := okWide_struct ht hval
 exact BH hE (by simp [Value.cells, packV, ha]) h
theorem wf_u8 {n : Int} (h : (Lit.int .u8 n).wf = true) : 0 ≤ n ∧ n < 256 := by
 simp [Lit.wf, IntKind.min, IntKind.max, IntKind.signed, IntKind.bits] at h; omega
end Go.Lift
end
section
namespace Go.Den
open Go Go.RowKit Go.Eng Go.Lift Go.ChangeShapes Go.WideShapes Go.ChangeAt Go.Joins Go.Deep Go.WideElems
variable {H : Type} {enc : TypeId × Value → H} {P : Program} {w : World} {base : Nat} {sp : Nat → Bool} {held : Bool} {α β γ : Type}
theorem rD {rs vs : List Value} {v v1 : Value} (h3 : isTup rs v) (h4 : rs = v1 :: vs) (h7 : vs = []) : v = v1 := by
 subst h7 h4
 rcases h3 with h | h
 ·cases h
 ·exact h
end Go.Den
end
section
namespace Go.Proofs.YtknbpncolbmoaaaGreat.billWantsDone
open Go Go.ChangeShapes Go.WideShapes Go.ChangeAt Go.RowKit Go.Eng Go.Lift Go.Joins Go.Den Go.Dn
open Go.ChangeMaps (open_string shut_string)
set_option maxRecDepth 100000
theorem op_3 {H : Type} {enc : TypeId × Value → H} {w : World} {base : Nat} {sp : Nat → Bool} {held : Bool} : Opens enc Tryz.prog w base sp held 3 (Ty.gr Tryz.prog t3) (fun (z : Int) => (Lit.int .i64 z).wf = true) := nL Tryz.underlying3 (by kernel_rfl)
theorem op_23 {H : Type} {enc : TypeId × Value → H} {w : World} {base : Nat} {sp : Nat → Bool} {held : Bool} : Opens enc Tryz.prog w base sp held 23 (Ty.gr Tryz.prog t23) (fun (z : List Int) => (∀ y ∈ (z : List Int), (fun (z : Int) => (Lit.int .i64 z).wf = true) y) ∧ (z : List Int).length ≤ maxLen) := XG Tryz.underlying23 (by kernel_rfl) op_3 (of_decide_eq_true (by kernel_rfl))
theorem op_22 {H : Type} {enc : TypeId × Value → H} {w : World} {base : Nat} {sp : Nat → Bool} {held : Bool} : Opens enc Tryz.prog w base sp held 22 (Ty.gr Tryz.prog t22) (fun (z : List (List Int)) => (∀ y ∈ (z : List (List Int)), (fun (z : List Int) => (∀ y ∈ (z : List Int), (fun (z : Int) => (Lit.int .i64 z).wf = true) y) ∧ (z : List Int).length ≤ maxLen) y) ∧ (z : List (List Int)).length ≤ maxLen) := XG Tryz.underlying22 (by kernel_rfl) op_23 (of_decide_eq_true (by kernel_rfl))
def Q_25 (x : List (List Int) × List Int × List Int × Unit) : Prop := ((∀ y ∈ (x.1 : List (List Int)), (fun (z : List Int) => (∀ y ∈ (z : List Int), (fun (z : Int) => (Lit.int .i64 z).wf = true) y) ∧ (z : List Int).length ≤ maxLen) y) ∧ (x.1 : List (List Int)).length ≤ maxLen) ∧ ((∀ y ∈ (x.2.1 : List Int), (fun (z : Int) => (Lit.int .i64 z).wf = true) y) ∧ (x.2.1 : List Int).length ≤ maxLen) ∧ ((∀ y ∈ (x.2.2.1 : List Int), (fun (z : Int) => (Lit.int .i64 z).wf = true) y) ∧ (x.2.2.1 : List Int).length ≤ maxLen) ∧ True
theorem op_25 {H : Type} {enc : TypeId × Value → H} {w : World} {base : Nat} {sp : Nat → Bool} {held : Bool} : Opens enc Tryz.prog w base sp held 25 (Ty.gr Tryz.prog t25) Q_25 := by
 refine ⟨by kernel_rfl, Ty.fits _ _, fun fuel cs x h => ?_⟩
 obtain ⟨xs, n, rfl, rfl, hl, hlen, hf⟩ := DataW.trod_struct Tryz.underlying25 h
 have hl' : cs.length = 3 := hl.trans (by kernel_rfl)
 obtain ⟨y0, hy0⟩ : ∃ y, xs[0]? = some y := ⟨_, List.getElem?_eq_getElem (by rw [hlen]; decide)⟩
 obtain ⟨a0, k0, q0⟩ := Opens.at_ (off := 0) (n := n) (cs := cs) (op_22 (enc := enc) (w := w) (base := base) (sp := sp) (held := held)) ((hf 0 _ rfl).trans hy0)
 obtain ⟨y1, hy1⟩ : ∃ y, xs[1]? = some y := ⟨_, List.getElem?_eq_getElem (by rw [hlen]; decide)⟩
 obtain ⟨a1, k1, q1⟩ := Opens.at_ (off := 1) (n := n) (cs := cs) (op_23 (enc := enc) (w := w) (base := base) (sp := sp) (held := held)) ((hf 1 _ rfl).trans hy1)
 obtain ⟨y2, hy2⟩ : ∃ y, xs[2]? = some y := ⟨_, List.getElem?_eq_getElem (by rw [hlen]; decide)⟩
 obtain ⟨a2, k2, q2⟩ := Opens.at_ (off := 2) (n := n) (cs := cs) (op_23 (enc := enc) (w := w) (base := base) (sp := sp) (held := held)) ((hf 2 _ rfl).trans hy2)
 exact ⟨⟨a0, a1, a2, ()⟩, ⟨_, _, chop cs 0 1, k0, ⟨_, _, chop cs 1 1, k1, ⟨_, _, chop cs 2 1, k2, List.drop_of_length_le (by rw [hl']; decide)⟩⟩⟩, ⟨q0, q1, q2, trivial⟩⟩
theorem own : ownKnob Tryz.prog.godebug = none := by kernel_rfl
theorem laidOut : laidOutB Tryz.prog = true := by kernel_rfl
theorem lifted (os : Os) (started : os.Started) (H : Type) (enc : TypeId × Value → H) :
  ReturnsInHanded {} Tryz.checked os 6 .any (Rows.billWantsSpec.pre6 enc Tryz.prog Tryz.f6 Rows.billWantsRow.domain false) (Rows.billWantsSpec.post enc Tryz.prog Tryz.f6 false true false false) := by
 refine returnsInHanded_of_change (C := Tryz.checked) own started (by kernel_rfl) Tryz.func6
  (ChangeSpec.witness6 (enc := enc) (C := Tryz.checked) false ⟨#[], #[.agg #[.slice none 0 0, .slice none 0 0, .slice none 0 0], .int .u8 0], []⟩ 8 (by kernel_rfl) (by kernel_rfl) (by kernel_rfl) (by kernel_rfl)) ?_
 intro W base args ds gs before hval0 hW hcnd _
 have hval : ∀ (j : Nat) t v, Tryz.f6.params[j]? = some t → args[j]? = some v → Value.okWide Tryz.prog W .any base t v := hval0
 have hW' := hW
 obtain ⟨p, q, hA0, hV, rfl, hfz, hnd⟩ := hW
 have hA : DataW.TrodAll enc Tryz.prog W 0 (fun _ => true) true Tryz.f6.params.toList args.toList ds p := hA0
 rw [Tryz.params6] at hA hval
 obtain ⟨v0, vs0, d0, ds0, p0, q0_, hargs, rfl, rfl, h0, r0⟩ := trodAll_cons hA
 obtain ⟨v1, vs1, d1, ds1, p1, q1_, rfl, rfl, rfl, h1, r1⟩ := trodAll_cons r0
 obtain ⟨rfl, rfl, rfl⟩ := trodAll_nil r1
 obtain rfl : args = #[v0, v1] := by cases args; simp_all
 obtain ⟨rfl, rfl⟩ := trodVars_none hV
 have k0 := h0
 have lt0 : ∀ x ∈ p0, x.block < W.heap.size := by obtain ⟨m, hm⟩ := k0; exact DataW.trod_lt m _ _ _ hm
 have k1 := h1
 have lt1 : ∀ x ∈ p1, x.block < W.heap.size := by obtain ⟨m, hm⟩ := k1; exact DataW.trod_lt m _ _ _ hm
 obtain ⟨x0, hr0, q0⟩ := wu Tryz.underlying25 op_25 rfl (hval 0 25 v0 rfl rfl) h0
 obtain ⟨x1, e1, _, _, q1⟩ := open_int Tryz.underlying5 (hval 1 5 v1 rfl rfl) h1
 have hr1 : (Ty.gr Tryz.prog t5).v O0 W v1 x1 := ⟨_, rfl, e1⟩
 clear hA0 hval0
 obtain ⟨⟨b_, u_⟩, hv_, hb_⟩ := (Go.Geo.mU x0 (wf_u8 q1))
 obtain ⟨n_, hn_⟩ := Comp.yu.1 hv_
 have walk := okf6.2 O0 W Il [v0, v1] (x0, x1, ()) ⟨_, _, rfl, hr0, _, _, rfl, hr1, rfl⟩ n_ _ hn_
 refine Calls.mono (R := fun e W' => e = .returned (.bool true) ∧ Below W.heap.size W W') ?_ fun e W' ⟨he, bel⟩ => ?_
 ·exact Calls.mono walk fun e W' ⟨v, h1, h2, rs, h3, v1, vs1, h4, ⟨cs, h5, h6⟩, h7⟩ => ⟨by rw [h1, rD h3 h4 h7, h6, show cs = [Value.bool b_] from h5, show b_ = true from hb_]; rfl, h2⟩
 ·subst he
  exact ⟨_, rfl, _, _, _, [], _, [], hW', trodAll_mk1 (shut_bool Tryz.underlying4 _), (trodAll_cons_mk (Below.trod laidOut (by kernel_rfl) (of_decide_eq_true (by kernel_rfl)) k0 bel lt0) (trodAll_cons_mk (Below.trod laidOut (by kernel_rfl) (of_decide_eq_true (by kernel_rfl)) k1 bel lt1) trodAll_mk0)), rfl, bel.frame _, fun h => by cases h⟩
theorem proved : Rows.BillWantsSaid :=
 OpenClaim.holds_of_wide 6 Tryz.f6 rfl rfl rfl rfl rfl rfl rfl ⟨rfl, rfl, rfl, rfl, rfl⟩ rfl rfl rfl rfl rfl (by kernel_rfl) Tryz.func6 (by kernel_rfl)
  (of_decide_eq_true (by kernel_rfl)) (by unfold Func.isWrapper; first | (rw [if_pos (by decide +kernel)]; kernel_rfl) | (rw [if_neg (by decide +kernel)]; exact ⟨rfl, rfl⟩))
  (fun os started H enc _ => lifted os started H enc)
#print axioms proved
end Go.Proofs.YtknbpncolbmoaaaGreat.billWantsDone
end
