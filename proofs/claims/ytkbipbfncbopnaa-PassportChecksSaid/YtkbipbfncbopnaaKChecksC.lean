/- Lemmas behind a claim of this seat. No statement of the program stands here. -/
import Derived.Test.YtkbipbfncbopnaaKChecksB
import Derived.Test.YtkbipbfncbopnaaProg
set_option linter.unusedSimpArgs false
set_option linter.unusedVariables false
section
namespace Go.Proofs.Ytkbipbfncbopnaa
open Go Go.RowKit Go.Eng Go.Lift Go.F
set_option linter.unusedVariables false
set_option linter.unusedSimpArgs false
set_option maxRecDepth 100000
theorem mixed : Try.prog.follows .mixedOrders = true := by kernel_rfl
theorem ty3 : Ty Try.prog 3 (.int .i64) (.int .i64 0) 1 8 := ⟨by kernel_rfl, by kernel_rfl⟩
theorem ty4 : Ty Try.prog 4 .bool (.bool false) 1 1 := ⟨by kernel_rfl, by kernel_rfl⟩
theorem ty5 : Ty Try.prog 5 (.int .u8) (.int .u8 0) 1 1 := ⟨by kernel_rfl, by kernel_rfl⟩
theorem ty9 : Ty Try.prog 9 .string (.string ⟨#[]⟩) 1 16 := ⟨by kernel_rfl, by kernel_rfl⟩
theorem ty22 : Ty Try.prog 22 (.slice 58) (.slice none 0 0) 1 24 := ⟨by kernel_rfl, by kernel_rfl⟩
theorem ty24 : Ty Try.prog 24 (.struct (Try.prog.fieldsOf 24)) (.agg #[.slice none 0 0, .int .u8 0]) 2 32 := ⟨by kernel_rfl, by kernel_rfl⟩
theorem ty26 : Ty Try.prog 26 (.struct (Try.prog.fieldsOf 26)) (.agg #[.int .i64 0, .int .i64 0, .int .i64 0, .int .i64 0, .int .i64 0, .string ⟨#[]⟩, .string ⟨#[]⟩, .string ⟨#[]⟩, .string ⟨#[]⟩]) 9 104 := ⟨by kernel_rfl, by kernel_rfl⟩
theorem ty27 : Ty Try.prog 27 (.func #[] #[4] false) (.nilFunc) 1 8 := ⟨by kernel_rfl, by kernel_rfl⟩
theorem ty28 : Ty Try.prog 28 (.slice 9) (.slice none 0 0) 1 24 := ⟨by kernel_rfl, by kernel_rfl⟩
theorem ty29 : Ty Try.prog 29 (.slice 26) (.slice none 0 0) 1 24 := ⟨by kernel_rfl, by kernel_rfl⟩
theorem ty37 : Ty Try.prog 37 (.array 2 5) (.agg #[.int .u8 0, .int .u8 0]) 2 2 := ⟨by kernel_rfl, by kernel_rfl⟩
theorem ty38 : Ty Try.prog 38 (.array 2 3) (.agg #[.int .i64 0, .int .i64 0]) 2 16 := ⟨by kernel_rfl, by kernel_rfl⟩
theorem ty41 : Ty Try.prog 41 (.slice 29) (.slice none 0 0) 1 24 := ⟨by kernel_rfl, by kernel_rfl⟩
theorem ty42 : Ty Try.prog 42 (.int .i64) (.int .i64 0) 1 8 := ⟨by kernel_rfl, by kernel_rfl⟩
theorem ty44 : Ty Try.prog 44 (.struct (Try.prog.fieldsOf 44)) (.agg #[.int .i64 0, .int .i64 0]) 2 16 := ⟨by kernel_rfl, by kernel_rfl⟩
theorem ty58 : Ty Try.prog 58 (.slice 3) (.slice none 0 0) 1 24 := ⟨by kernel_rfl, by kernel_rfl⟩
theorem ty87 : Ty Try.prog 87 (.slice 123) (.slice none 0 0) 1 24 := ⟨by kernel_rfl, by kernel_rfl⟩
theorem ty89 : Ty Try.prog 89 (.struct (Try.prog.fieldsOf 89)) (.agg #[.bool false, .slice none 0 0]) 2 32 := ⟨by kernel_rfl, by kernel_rfl⟩
theorem ty92 : Ty Try.prog 92 (.struct (Try.prog.fieldsOf 92)) (.agg #[.int .i64 0, .int .i64 0, .int .i64 0, .string ⟨#[]⟩, .string ⟨#[]⟩]) 5 56 := ⟨by kernel_rfl, by kernel_rfl⟩
theorem ty93 : Ty Try.prog 93 (.slice 96) (.slice none 0 0) 1 24 := ⟨by kernel_rfl, by kernel_rfl⟩
theorem ty96 : Ty Try.prog 96 (.struct (Try.prog.fieldsOf 96)) (.agg #[.int .i64 0, .nilFunc]) 2 16 := ⟨by kernel_rfl, by kernel_rfl⟩
theorem ty99 : Ty Try.prog 99 (.array 2 26) (.agg #[.int .i64 0, .int .i64 0, .int .i64 0, .int .i64 0, .int .i64 0, .string ⟨#[]⟩, .string ⟨#[]⟩, .string ⟨#[]⟩, .string ⟨#[]⟩, .int .i64 0, .int .i64 0, .int .i64 0, .int .i64 0, .int .i64 0, .string ⟨#[]⟩, .string ⟨#[]⟩, .string ⟨#[]⟩, .string ⟨#[]⟩]) 18 208 := ⟨by kernel_rfl, by kernel_rfl⟩
theorem ty103 : Ty Try.prog 103 (.array 8 5) (.agg #[.int .u8 0, .int .u8 0, .int .u8 0, .int .u8 0, .int .u8 0, .int .u8 0, .int .u8 0, .int .u8 0]) 8 8 := ⟨by kernel_rfl, by kernel_rfl⟩
theorem ty104 : Ty Try.prog 104 (.slice 5) (.slice none 0 0) 1 24 := ⟨by kernel_rfl, by kernel_rfl⟩
theorem ty108 : Ty Try.prog 108 (.struct (Try.prog.fieldsOf 108)) (.agg #[.slice none 0 0, .int .i64 0]) 2 32 := ⟨by kernel_rfl, by kernel_rfl⟩
theorem ty122 : Ty Try.prog 122 (.int .u64) (.int .u64 0) 1 8 := ⟨by kernel_rfl, by kernel_rfl⟩
theorem ty123 : Ty Try.prog 123 (.int .u32) (.int .u32 0) 1 4 := ⟨by kernel_rfl, by kernel_rfl⟩
theorem fl24_0 : Fld Try.prog 24 0 22 0 0 := ⟨by kernel_rfl, by kernel_rfl, by kernel_rfl⟩
theorem fl24_1 : Fld Try.prog 24 1 5 1 0 := ⟨by kernel_rfl, by kernel_rfl, by kernel_rfl⟩
theorem fl26_0 : Fld Try.prog 26 0 3 0 0 := ⟨by kernel_rfl, by kernel_rfl, by kernel_rfl⟩
theorem fl26_1 : Fld Try.prog 26 1 3 1 0 := ⟨by kernel_rfl, by kernel_rfl, by kernel_rfl⟩
theorem fl26_2 : Fld Try.prog 26 2 3 2 0 := ⟨by kernel_rfl, by kernel_rfl, by kernel_rfl⟩
theorem fl26_3 : Fld Try.prog 26 3 3 3 0 := ⟨by kernel_rfl, by kernel_rfl, by kernel_rfl⟩
theorem fl26_4 : Fld Try.prog 26 4 3 4 0 := ⟨by kernel_rfl, by kernel_rfl, by kernel_rfl⟩
theorem fl26_5 : Fld Try.prog 26 5 9 5 0 := ⟨by kernel_rfl, by kernel_rfl, by kernel_rfl⟩
theorem fl26_6 : Fld Try.prog 26 6 9 6 0 := ⟨by kernel_rfl, by kernel_rfl, by kernel_rfl⟩
theorem fl26_7 : Fld Try.prog 26 7 9 7 0 := ⟨by kernel_rfl, by kernel_rfl, by kernel_rfl⟩
theorem fl26_8 : Fld Try.prog 26 8 9 8 0 := ⟨by kernel_rfl, by kernel_rfl, by kernel_rfl⟩
theorem fl89_0 : Fld Try.prog 89 0 4 0 0 := ⟨by kernel_rfl, by kernel_rfl, by kernel_rfl⟩
theorem fl89_1 : Fld Try.prog 89 1 87 1 0 := ⟨by kernel_rfl, by kernel_rfl, by kernel_rfl⟩
theorem fl92_0 : Fld Try.prog 92 0 3 0 0 := ⟨by kernel_rfl, by kernel_rfl, by kernel_rfl⟩
theorem fl92_1 : Fld Try.prog 92 1 3 1 0 := ⟨by kernel_rfl, by kernel_rfl, by kernel_rfl⟩
theorem fl92_2 : Fld Try.prog 92 2 3 2 0 := ⟨by kernel_rfl, by kernel_rfl, by kernel_rfl⟩
theorem fl92_3 : Fld Try.prog 92 3 9 3 0 := ⟨by kernel_rfl, by kernel_rfl, by kernel_rfl⟩
theorem fl92_4 : Fld Try.prog 92 4 9 4 0 := ⟨by kernel_rfl, by kernel_rfl, by kernel_rfl⟩
theorem fl96_0 : Fld Try.prog 96 0 42 0 0 := ⟨by kernel_rfl, by kernel_rfl, by kernel_rfl⟩
theorem fl96_1 : Fld Try.prog 96 1 27 1 0 := ⟨by kernel_rfl, by kernel_rfl, by kernel_rfl⟩
theorem fl108_0 : Fld Try.prog 108 0 58 0 0 := ⟨by kernel_rfl, by kernel_rfl, by kernel_rfl⟩
theorem fl108_1 : Fld Try.prog 108 1 3 1 0 := ⟨by kernel_rfl, by kernel_rfl, by kernel_rfl⟩
theorem fn14 : FnOk Try.prog 14 := ⟨_, Try.func14, rfl, by kernel_rfl⟩
theorem fn15 : FnOk Try.prog 15 := ⟨_, Try.func15, rfl, by kernel_rfl⟩
theorem fn16 : FnOk Try.prog 16 := ⟨_, Try.func16, rfl, by kernel_rfl⟩
theorem fn17 : FnOk Try.prog 17 := ⟨_, Try.func17, rfl, by kernel_rfl⟩
theorem fn18 : FnOk Try.prog 18 := ⟨_, Try.func18, rfl, by kernel_rfl⟩
theorem fn19 : FnOk Try.prog 19 := ⟨_, Try.func19, rfl, by kernel_rfl⟩
theorem fn20 : FnOk Try.prog 20 := ⟨_, Try.func20, rfl, by kernel_rfl⟩
theorem fn21 : FnOk Try.prog 21 := ⟨_, Try.func21, rfl, by kernel_rfl⟩
theorem fn22 : FnOk Try.prog 22 := ⟨_, Try.func22, rfl, by kernel_rfl⟩
theorem fn23 : FnOk Try.prog 23 := ⟨_, Try.func23, rfl, by kernel_rfl⟩
theorem fn24 : FnOk Try.prog 24 := ⟨_, Try.func24, rfl, by kernel_rfl⟩
theorem fn25 : FnOk Try.prog 25 := ⟨_, Try.func25, rfl, by kernel_rfl⟩
theorem fn26 : FnOk Try.prog 26 := ⟨_, Try.func26, rfl, by kernel_rfl⟩
theorem fn27 : FnOk Try.prog 27 := ⟨_, Try.func27, rfl, by kernel_rfl⟩
theorem fn28 : FnOk Try.prog 28 := ⟨_, Try.func28, rfl, by kernel_rfl⟩
theorem fn29 : FnOk Try.prog 29 := ⟨_, Try.func29, rfl, by kernel_rfl⟩
theorem fn30 : FnOk Try.prog 30 := ⟨_, Try.func30, rfl, by kernel_rfl⟩
theorem fn31 : FnOk Try.prog 31 := ⟨_, Try.func31, rfl, by kernel_rfl⟩
theorem fn32 : FnOk Try.prog 32 := ⟨_, Try.func32, rfl, by kernel_rfl⟩
theorem fn33 : FnOk Try.prog 33 := ⟨_, Try.func33, rfl, by kernel_rfl⟩
theorem fn34 : FnOk Try.prog 34 := ⟨_, Try.func34, rfl, by kernel_rfl⟩
theorem fn35 : FnOk Try.prog 35 := ⟨_, Try.func35, rfl, by kernel_rfl⟩
theorem fn36 : FnOk Try.prog 36 := ⟨_, Try.func36, rfl, by kernel_rfl⟩
theorem fn37 : FnOk Try.prog 37 := ⟨_, Try.func37, rfl, by kernel_rfl⟩
theorem fn53 : FnOk Try.prog 53 := ⟨_, Try.func53, rfl, by kernel_rfl⟩
theorem fn54 : FnOk Try.prog 54 := ⟨_, Try.func54, rfl, by kernel_rfl⟩
theorem fn55 : FnOk Try.prog 55 := ⟨_, Try.func55, rfl, by kernel_rfl⟩
theorem fn56 : FnOk Try.prog 56 := ⟨_, Try.func56, rfl, by kernel_rfl⟩
theorem fn57 : FnOk Try.prog 57 := ⟨_, Try.func57, rfl, by kernel_rfl⟩
theorem fn58 : FnOk Try.prog 58 := ⟨_, Try.func58, rfl, by kernel_rfl⟩
theorem fn59 : FnOk Try.prog 59 := ⟨_, Try.func59, rfl, by kernel_rfl⟩
theorem fn60 : FnOk Try.prog 60 := ⟨_, Try.func60, rfl, by kernel_rfl⟩
theorem fn61 : FnOk Try.prog 61 := ⟨_, Try.func61, rfl, by kernel_rfl⟩
theorem fn62 : FnOk Try.prog 62 := ⟨_, Try.func62, rfl, by kernel_rfl⟩
theorem fn63 : FnOk Try.prog 63 := ⟨_, Try.func63, rfl, by kernel_rfl⟩
theorem fn64 : FnOk Try.prog 64 := ⟨_, Try.func64, rfl, by kernel_rfl⟩
theorem fn65 : FnOk Try.prog 65 := ⟨_, Try.func65, rfl, by kernel_rfl⟩
theorem fn66 : FnOk Try.prog 66 := ⟨_, Try.func66, rfl, by kernel_rfl⟩
theorem fn67 : FnOk Try.prog 67 := ⟨_, Try.func67, rfl, by kernel_rfl⟩
theorem fn68 : FnOk Try.prog 68 := ⟨_, Try.func68, rfl, by kernel_rfl⟩
theorem fn69 : FnOk Try.prog 69 := ⟨_, Try.func69, rfl, by kernel_rfl⟩
theorem fn70 : FnOk Try.prog 70 := ⟨_, Try.func70, rfl, by kernel_rfl⟩
theorem fn71 : FnOk Try.prog 71 := ⟨_, Try.func71, rfl, by kernel_rfl⟩
theorem fn72 : FnOk Try.prog 72 := ⟨_, Try.func72, rfl, by kernel_rfl⟩
theorem fn73 : FnOk Try.prog 73 := ⟨_, Try.func73, rfl, by kernel_rfl⟩
theorem fn74 : FnOk Try.prog 74 := ⟨_, Try.func74, rfl, by kernel_rfl⟩
theorem fn75 : FnOk Try.prog 75 := ⟨_, Try.func75, rfl, by kernel_rfl⟩
theorem fn94 : FnOk Try.prog 94 := ⟨_, Try.func94, rfl, by kernel_rfl⟩
theorem fn95 : FnOk Try.prog 95 := ⟨_, Try.func95, rfl, by kernel_rfl⟩
theorem fn96 : FnOk Try.prog 96 := ⟨_, Try.func96, rfl, by kernel_rfl⟩
theorem fn97 : FnOk Try.prog 97 := ⟨_, Try.func97, rfl, by kernel_rfl⟩
theorem fn98 : FnOk Try.prog 98 := ⟨_, Try.func98, rfl, by kernel_rfl⟩
theorem fn99 : FnOk Try.prog 99 := ⟨_, Try.func99, rfl, by kernel_rfl⟩
theorem fn100 : FnOk Try.prog 100 := ⟨_, Try.func100, rfl, by kernel_rfl⟩
theorem fn101 : FnOk Try.prog 101 := ⟨_, Try.func101, rfl, by kernel_rfl⟩
theorem fn102 : FnOk Try.prog 102 := ⟨_, Try.func102, rfl, by kernel_rfl⟩
theorem fn103 : FnOk Try.prog 103 := ⟨_, Try.func103, rfl, by kernel_rfl⟩
theorem fn104 : FnOk Try.prog 104 := ⟨_, Try.func104, rfl, by kernel_rfl⟩
theorem fn105 : FnOk Try.prog 105 := ⟨_, Try.func105, rfl, by kernel_rfl⟩
theorem fn106 : FnOk Try.prog 106 := ⟨_, Try.func106, rfl, by kernel_rfl⟩
theorem fn107 : FnOk Try.prog 107 := ⟨_, Try.func107, rfl, by kernel_rfl⟩
theorem fn108 : FnOk Try.prog 108 := ⟨_, Try.func108, rfl, by kernel_rfl⟩
theorem fn109 : FnOk Try.prog 109 := ⟨_, Try.func109, rfl, by kernel_rfl⟩
theorem fn110 : FnOk Try.prog 110 := ⟨_, Try.func110, rfl, by kernel_rfl⟩
theorem fn111 : FnOk Try.prog 111 := ⟨_, Try.func111, rfl, by kernel_rfl⟩
theorem fn112 : FnOk Try.prog 112 := ⟨_, Try.func112, rfl, by kernel_rfl⟩
theorem fn113 : FnOk Try.prog 113 := ⟨_, Try.func113, rfl, by kernel_rfl⟩
theorem fn114 : FnOk Try.prog 114 := ⟨_, Try.func114, rfl, by kernel_rfl⟩
theorem fn115 : FnOk Try.prog 115 := ⟨_, Try.func115, rfl, by kernel_rfl⟩
theorem fn116 : FnOk Try.prog 116 := ⟨_, Try.func116, rfl, by kernel_rfl⟩
theorem fn117 : FnOk Try.prog 117 := ⟨_, Try.func117, rfl, by kernel_rfl⟩
theorem fn118 : FnOk Try.prog 118 := ⟨_, Try.func118, rfl, by kernel_rfl⟩
theorem fn119 : FnOk Try.prog 119 := ⟨_, Try.func119, rfl, by kernel_rfl⟩
theorem fn127 : FnOk Try.prog 127 := ⟨_, Try.func127, rfl, by kernel_rfl⟩
theorem fn128 : FnOk Try.prog 128 := ⟨_, Try.func128, rfl, by kernel_rfl⟩
theorem fn139 : FnOk Try.prog 139 := ⟨_, Try.func139, rfl, by kernel_rfl⟩
theorem plc26 : Plc Try.prog 26 #[(0, 1), (1, 1), (2, 1), (3, 1), (4, 1), (5, 1), (6, 1), (7, 1), (8, 1)] := ⟨by kernel_rfl, fun w => by kernel_rfl⟩
theorem plc44 : Plc Try.prog 44 #[(0, 1), (1, 1)] := ⟨by kernel_rfl, fun w => by kernel_rfl⟩
theorem plc89 : Plc Try.prog 89 #[(0, 1), (1, 1)] := ⟨by kernel_rfl, fun w => by kernel_rfl⟩
theorem plc92 : Plc Try.prog 92 #[(0, 1), (1, 1), (2, 1), (3, 1), (4, 1)] := ⟨by kernel_rfl, fun w => by kernel_rfl⟩
theorem plc96 : Plc Try.prog 96 #[(0, 1), (1, 1)] := ⟨by kernel_rfl, fun w => by kernel_rfl⟩
theorem plc108 : Plc Try.prog 108 #[(0, 1), (1, 1)] := ⟨by kernel_rfl, fun w => by kernel_rfl⟩
def r_aEn : GR aEn := rC true 9 (fun x => [.int .i64 x.Seq, .int .i64 x.Shop, .int .i64 x.Kind, .int .i64 x.Day, .int .i64 x.N, .string (str x.Before), .string (str x.After), .string (str x.Prev), .string (str x.Mark)]) (fun _ => rfl) (fun _ => by simp [Value.oneCell'])
theorem fit_aEn : r_aEn.fits := fun h => by cases h
theorem sb_aEn_0 : SubR r_aEn 0 (rInt .i64) (·.Seq) := @fun O w cs x h => ⟨[], [.int .i64 x.Seq], [.int .i64 x.Shop, .int .i64 x.Kind, .int .i64 x.Day, .int .i64 x.N, .string (str x.Before), .string (str x.After), .string (str x.Prev), .string (str x.Mark)], h.trans (by first | rfl | simp), by first | rfl | simp, rfl⟩
theorem sb_aEn_1 : SubR r_aEn 1 (rInt .i64) (·.Shop) := @fun O w cs x h => ⟨[.int .i64 x.Seq], [.int .i64 x.Shop], [.int .i64 x.Kind, .int .i64 x.Day, .int .i64 x.N, .string (str x.Before), .string (str x.After), .string (str x.Prev), .string (str x.Mark)], h.trans (by first | rfl | simp), by first | rfl | simp, rfl⟩
theorem sb_aEn_2 : SubR r_aEn 2 (rInt .i64) (·.Kind) := @fun O w cs x h => ⟨[.int .i64 x.Seq, .int .i64 x.Shop], [.int .i64 x.Kind], [.int .i64 x.Day, .int .i64 x.N, .string (str x.Before), .string (str x.After), .string (str x.Prev), .string (str x.Mark)], h.trans (by first | rfl | simp), by first | rfl | simp, rfl⟩
theorem sb_aEn_3 : SubR r_aEn 3 (rInt .i64) (·.Day) := @fun O w cs x h => ⟨[.int .i64 x.Seq, .int .i64 x.Shop, .int .i64 x.Kind], [.int .i64 x.Day], [.int .i64 x.N, .string (str x.Before), .string (str x.After), .string (str x.Prev), .string (str x.Mark)], h.trans (by first | rfl | simp), by first | rfl | simp, rfl⟩
theorem sb_aEn_4 : SubR r_aEn 4 (rInt .i64) (·.N) := @fun O w cs x h => ⟨[.int .i64 x.Seq, .int .i64 x.Shop, .int .i64 x.Kind, .int .i64 x.Day], [.int .i64 x.N], [.string (str x.Before), .string (str x.After), .string (str x.Prev), .string (str x.Mark)], h.trans (by first | rfl | simp), by first | rfl | simp, rfl⟩
theorem sb_aEn_5 : SubR r_aEn 5 rStr (·.Before) := @fun O w cs x h => ⟨[.int .i64 x.Seq, .int .i64 x.Shop, .int .i64 x.Kind, .int .i64 x.Day, .int .i64 x.N], [.string (str x.Before)], [.string (str x.After), .string (str x.Prev), .string (str x.Mark)], h.trans (by first | rfl | simp), by first | rfl | simp, rfl⟩
theorem sb_aEn_6 : SubR r_aEn 6 rStr (·.After) := @fun O w cs x h => ⟨[.int .i64 x.Seq, .int .i64 x.Shop, .int .i64 x.Kind, .int .i64 x.Day, .int .i64 x.N, .string (str x.Before)], [.string (str x.After)], [.string (str x.Prev), .string (str x.Mark)], h.trans (by first | rfl | simp), by first | rfl | simp, rfl⟩
theorem sb_aEn_7 : SubR r_aEn 7 rStr (·.Prev) := @fun O w cs x h => ⟨[.int .i64 x.Seq, .int .i64 x.Shop, .int .i64 x.Kind, .int .i64 x.Day, .int .i64 x.N, .string (str x.Before), .string (str x.After)], [.string (str x.Prev)], [.string (str x.Mark)], h.trans (by first | rfl | simp), by first | rfl | simp, rfl⟩
theorem sb_aEn_8 : SubR r_aEn 8 rStr (·.Mark) := @fun O w cs x h => ⟨[.int .i64 x.Seq, .int .i64 x.Shop, .int .i64 x.Kind, .int .i64 x.Day, .int .i64 x.N, .string (str x.Before), .string (str x.After), .string (str x.Prev)], [.string (str x.Mark)], [], h.trans (by first | rfl | simp), by first | rfl | simp, rfl⟩
def r_passport_place : GR passport_place := rC true 5 (fun x => [.int .i64 x.at_, .int .i64 x.writer_, .int .i64 x.day_, .string (str x.prev_), .string (str x.before_)]) (fun _ => rfl) (fun _ => by simp [Value.oneCell'])
theorem fit_passport_place : r_passport_place.fits := fun h => by cases h
theorem sb_passport_place_0 : SubR r_passport_place 0 (rInt .i64) (·.at_) := @fun O w cs x h => ⟨[], [.int .i64 x.at_], [.int .i64 x.writer_, .int .i64 x.day_, .string (str x.prev_), .string (str x.before_)], h.trans (by first | rfl | simp), by first | rfl | simp, rfl⟩
theorem sb_passport_place_1 : SubR r_passport_place 1 (rInt .i64) (·.writer_) := @fun O w cs x h => ⟨[.int .i64 x.at_], [.int .i64 x.writer_], [.int .i64 x.day_, .string (str x.prev_), .string (str x.before_)], h.trans (by first | rfl | simp), by first | rfl | simp, rfl⟩
theorem sb_passport_place_2 : SubR r_passport_place 2 (rInt .i64) (·.day_) := @fun O w cs x h => ⟨[.int .i64 x.at_, .int .i64 x.writer_], [.int .i64 x.day_], [.string (str x.prev_), .string (str x.before_)], h.trans (by first | rfl | simp), by first | rfl | simp, rfl⟩
theorem sb_passport_place_3 : SubR r_passport_place 3 rStr (·.prev_) := @fun O w cs x h => ⟨[.int .i64 x.at_, .int .i64 x.writer_, .int .i64 x.day_], [.string (str x.prev_)], [.string (str x.before_)], h.trans (by first | rfl | simp), by first | rfl | simp, rfl⟩
theorem sb_passport_place_4 : SubR r_passport_place 4 rStr (·.before_) := @fun O w cs x h => ⟨[.int .i64 x.at_, .int .i64 x.writer_, .int .i64 x.day_, .string (str x.prev_)], [.string (str x.before_)], [], h.trans (by first | rfl | simp), by first | rfl | simp, rfl⟩
noncomputable def r_passport_condition : GR passport_condition := (rCons (rInt .i64) (·.err_) (rCons (rF0 Try.prog (RS.c (fun x => .bool x))) (·.holds_) rNil))
theorem fit_passport_condition : r_passport_condition.fits := fun h => by cases h
theorem openR_passport_condition {O : Tags} {w : World} {cs : List Value} {x : passport_condition} (h : r_passport_condition.rel O w cs x) : ∃ u1 : Value, cs = [.int .i64 x.err_, u1] ∧ (rF0 Try.prog (RS.c (fun x => .bool x))).v O w u1 x.holds_ := by
 obtain ⟨c1, d1, rfl, h1, t1⟩ := h
 replace h1 : c1 = [.int .i64 x.err_] := h1; subst h1
 obtain ⟨c2, d2, rfl, h2, t2⟩ := t1
 obtain ⟨u1, rfl, ku1⟩ := rel_one h2 rfl rfl
 replace t2 : _ = ([] : List Value) := t2; subst t2
 exact ⟨u1, rfl, ku1⟩
theorem openV_passport_condition {O : Tags} {w : World} {u : Value} {x : passport_condition} (h : r_passport_condition.v O w u x) : ∃ u1 : Value, u = .agg #[.int .i64 x.err_, u1] ∧ (rF0 Try.prog (RS.c (fun x => .bool x))).v O w u1 x.holds_ := by
 obtain ⟨cs, h, rfl⟩ := h
 obtain ⟨u1, e_, ku1⟩ := openR_passport_condition h
 subst e_
 exact ⟨u1, rfl, ku1⟩
def r_api_Finding : GR api_Finding := rC true 2 (fun x => [.int .i64 x.Entry, .int .i64 x.Why]) (fun _ => rfl) (fun _ => by simp [Value.oneCell'])
theorem sb_api_Finding_0 : SubR r_api_Finding 0 (rInt .i64) (·.Entry) := @fun O w cs x h => ⟨[], [.int .i64 x.Entry], [.int .i64 x.Why], h.trans (by first | rfl | simp), by first | rfl | simp, rfl⟩
theorem sb_api_Finding_1 : SubR r_api_Finding 1 (rInt .i64) (·.Why) := @fun O w cs x h => ⟨[.int .i64 x.Entry], [.int .i64 x.Why], [], h.trans (by first | rfl | simp), by first | rfl | simp, rfl⟩
noncomputable def r_api_Num : GR api_Num := (rCons rBool (·.Neg) (rCons (rSl (rInt .u32)) (·.D) rNil))
theorem fit_api_Num : r_api_Num.fits := fun h => by cases h
theorem sb_api_Num_0 : SubR r_api_Num 0 rBool (·.Neg) := sub_hd
theorem sb_api_Num_1 : SubR r_api_Num 1 (rSl (rInt .u32)) (·.D) := (sub_tl sub_hd rfl)
theorem openR_api_Num {O : Tags} {w : World} {cs : List Value} {x : api_Num} (h : r_api_Num.rel O w cs x) : ∃ u1 : Value, cs = [.bool x.Neg, u1] ∧ (rSl (rInt .u32)).v O w u1 x.D := by
 obtain ⟨c1, d1, rfl, h1, t1⟩ := h
 replace h1 : c1 = [.bool x.Neg] := h1; subst h1
 obtain ⟨c2, d2, rfl, h2, t2⟩ := t1
 obtain ⟨u1, rfl, ku1⟩ := rel_one h2 rfl rfl
 replace t2 : _ = ([] : List Value) := t2; subst t2
 exact ⟨u1, rfl, ku1⟩
theorem openV_api_Num {O : Tags} {w : World} {u : Value} {x : api_Num} (h : r_api_Num.v O w u x) : ∃ u1 : Value, u = .agg #[.bool x.Neg, u1] ∧ (rSl (rInt .u32)).v O w u1 x.D := by
 obtain ⟨cs, h, rfl⟩ := h
 obtain ⟨u1, e_, ku1⟩ := openR_api_Num h
 subst e_
 exact ⟨u1, rfl, ku1⟩
noncomputable def r_c7_Case : GR c7_Case := (rCons (rSl (rSl (rInt .i64))) (·.L) (rCons (rInt .u8) (·.Shops) rNil))
theorem fit_c7_Case : r_c7_Case.fits := fun h => by cases h
theorem sb_c7_Case_0 : SubR r_c7_Case 0 (rSl (rSl (rInt .i64))) (·.L) := sub_hd
theorem sb_c7_Case_1 : SubR r_c7_Case 1 (rInt .u8) (·.Shops) := (sub_tl sub_hd rfl)
noncomputable def r_r1_Draw : GR r1_Draw := (rCons (rSl (rInt .i64)) (·.L) (rCons (rInt .i64) (·.At) rNil))
theorem openR_r1_Draw {O : Tags} {w : World} {cs : List Value} {x : r1_Draw} (h : r_r1_Draw.rel O w cs x) : ∃ u1 : Value, cs = [u1, .int .i64 x.At] ∧ (rSl (rInt .i64)).v O w u1 x.L := by
 obtain ⟨c1, d1, rfl, h1, t1⟩ := h
 obtain ⟨u1, rfl, ku1⟩ := rel_one h1 rfl rfl
 obtain ⟨c2, d2, rfl, h2, t2⟩ := t1
 replace h2 : c2 = [.int .i64 x.At] := h2; subst h2
 replace t2 : _ = ([] : List Value) := t2; subst t2
 exact ⟨u1, rfl, ku1⟩
theorem eq_api_Finding : EqR Try.prog 44 r_api_Finding 2 := eqr_structT ty44 rfl rfl (by kernel_rfl) (.cons (by decide) sb_api_Finding_0 (eqr_int ty3) (by decide) (.cons (by decide) sb_api_Finding_1 (eqr_int ty42) (by decide) .nil)) (by intro x y; cases x; cases y; simp [Bool.decide_and])
theorem eq_aEn : EqR Try.prog 26 r_aEn 2 := eqr_structT ty26 rfl rfl (by kernel_rfl) (.cons (by decide) sb_aEn_0 (eqr_int ty3) (by decide) (.cons (by decide) sb_aEn_1 (eqr_int ty3) (by decide) (.cons (by decide) sb_aEn_2 (eqr_int ty3) (by decide) (.cons (by decide) sb_aEn_3 (eqr_int ty3) (by decide) (.cons (by decide) sb_aEn_4 (eqr_int ty3) (by decide) (.cons (by decide) sb_aEn_5 (eqr_str ty9) (by decide) (.cons (by decide) sb_aEn_6 (eqr_str ty9) (by decide) (.cons (by decide) sb_aEn_7 (eqr_str ty9) (by decide) (.cons (by decide) sb_aEn_8 (eqr_str ty9) (by decide) .nil))))))))) (by intro x y; cases x; cases y; simp [Bool.decide_and])
theorem ok_wire_Int {O : Tags} {w0 : World} (hO : OkO O w0) {x_0 : Int} {n : Nat} {y : Bytes} (h : (wire_Int x_0).run n = some y) : Pure Try.prog 95 #[.int .i64 x_0] w0 (SP.isv (.string (str y))).holds := by
 unfold wire_Int at h
 refine pure_of_wp Try.func95 rfl 28 Try.ntmps95 (by simp) fun a0 hA hs0 => ?_
 have q0 : a0.get 0 = .int .i64 x_0 := hs0 0 _ rfl
 clear hs0
 have hB : Base (Fr w0) O w0 O w0 := Base.start hO
 refine wp_seq ?_
 refine' region [_] mixed hA (.cons (fun _ _ hE hK hg => ok_assign rfl) .nil) ?zok1 ?zgd1 ?zk1
 case zok1 | zgd1 => kernel_rfl
 intro a1 w1 hA hE HF
 replace q0 := kn (HF 0) rfl q0
 clear HF
 replace hB := Base.step hB hE hO; clear hE
 refine li_nil (nx_then (wp_seq ?_))
 refine' region [_, _, _, _, _, _, _, _] mixed hA (.cons (fun _ _ hE hK hg => ok_move (kn (hK 0 rfl) rfl q0)) (.cons (fun _ _ hE hK hg => ok_convI ty3 ty122 (ksv (j := 0) (hK 5 rfl) rfl rfl rfl)) (.cons (fun _ _ hE hK hg => okl_shl (ksv (j := 1) (hK 6 rfl) rfl rfl rfl) rfl (by decide)) (.cons (fun _ _ hE hK hg => ok_move (kn (hK 0 rfl) rfl q0)) (.cons (fun _ _ hE hK hg => okl_shr (ksv (j := 3) (hK 8 rfl) rfl rfl rfl) rfl (by decide)) (.cons (fun _ _ hE hK hg => ok_convI ty3 ty122 (ksv (j := 4) (hK 9 rfl) rfl rfl rfl)) (.cons (fun _ _ hE hK hg => okb_xor (ksv (j := 2) (hK 7 rfl) rfl rfl rfl) (ksv (j := 5) (hK 10 rfl) rfl rfl rfl)) (.cons (fun _ _ hE hK hg => ok_assign (ksv (j := 6) (hK 11 rfl) rfl rfl rfl)) .nil)))))))) ?zok2 ?zgd2 ?zk2
 case zok2 | zgd2 => kernel_rfl
 intro a2 w2 hA hE HF
 have q3 := ksv (HF 3) rfl rfl rfl
 clear q0
 clear HF
 replace hB := Base.step hB hE hO; clear hE
 obtain ⟨x1, hx_, h⟩ := Comp.run_bind h; replace hx_ := Comp.run_pure hx_; rw [hx_] at q3; clear hx_
 refine li_nil (nx_then (wp_seq ?_))
 refine' region [_] mixed hA (.cons (fun _ _ hE hK hg => ok_assign rfl) .nil) ?zok3 ?zgd3 ?zk3
 case zok3 | zgd3 => kernel_rfl
 intro a3 w3 hA hE HF
 replace q3 := kn (HF 3) rfl q3
 have q4 := ksv (HF 4) rfl rfl rfl
 clear HF
 replace hB := Base.step hB hE hO; clear hE
 refine li_nil (nx_then ?_)
 refine seq_join (fun a w => ∃ (O21 : Tags) (x17 : Int) (x18 : List Int) (u19 : Value), a.fit 28 ∧ Base (Fr w0) O w0 O21 w ∧ a.get 3 = .int .u64 x17 ∧ a.get 4 = u19 ∧ OwnL 1 (rInt .u8) 5 (Fr w0) O21 w u19 x18 ∧ (wire_Int_j1 x17 x18).run n = some y) ?_ ?_
 ·
  refine wp_block ?_
  obtain ⟨e2, he2, hk2⟩ := Comp.run_bind h; clear h
  refine loop_m (fun m a w => ∃ (O6 : Tags) (x2 : Int) (x3 : List Int) (u4 : Value), a.fit 28 ∧ Base (Fr w0) O w0 O6 w ∧ a.get 3 = .int .u64 x2 ∧ a.get 4 = u4 ∧ OwnL 1 (rInt .u8) 5 (Fr w0) O6 w u4 x3 ∧ Comp.loopN (fun s => wire_Int_l2 s.1 s.2) n m (x2, x3) = some e2) (m := n) ?st2 ?_
  case st2 =>
   exact ⟨_, _, _, _, hA, hB, q3, q4, (OwnL.nil _ _ _ _ _ _), Comp.run_loop he2⟩
  intro m_ a4 w4 hI
  clear hA hB he2 q3 q4
  obtain ⟨O6, x2, x3, u4, hA, hB, q3, q4, f5, hl⟩ := hI
  obtain ⟨m2, hlt2, st2, h, hnext2, hdone2⟩ := Comp.loopN_succ hl; clear hl
  replace h : (wire_Int_l2 x2 x3).run n = some st2 := h
  unfold wire_Int_l2 at h
  refine wp_seq (wp_seq ?_)
  refine' region [_, _] mixed hA (.cons (fun _ _ hE hK hg => ok_move (kn (hK 3 rfl) rfl q3)) (.cons (fun _ _ hE hK hg => ok_geq (ksv (j := 0) (hK 12 rfl) rfl rfl rfl) rfl) .nil)) ?zok4 ?zgd4 ?zk4
  case zok4 | zgd4 => kernel_rfl
  intro a5 w5 hA hE HF
  replace q3 := kn (HF 3) rfl q3
  replace q4 := kn (HF 4) rfl q4
  have q13 := ksv (HF 13) rfl rfl rfl
  clear HF
  replace f5 := f5.ext hE
  replace hB := Base.step hB hE hO; clear hE
  refine li_nil (nx_then ?_)
  refine wp_cond_b q13 (fun hc => ?_) (fun hc => ?_)
  ·
   replace h := Comp.run_b_t hc h; clear hc
   refine wp_skip (nx_then (wp_seq (wp_block ?_)))
   refine' regionT [_, _, _, _, SP.vl (rSl (rInt .u8)) O6 [(orB .u8 (IntKind.wrap .u8 x2) 128)]] hA (.cons (fun _ _ hE hK hg => ok_move (kn (hK 4 rfl) rfl q4)) (.cons (fun _ _ hE hK hg => ok_move (kn (hK 3 rfl) rfl q3)) (.cons (fun _ _ hE hK hg => ok_convI ty122 ty5 (ksv (j := 1) (hK 17 rfl) rfl rfl rfl)) (.cons (fun _ _ hE hK hg => okb_or (ksv (j := 2) (hK 18 rfl) rfl rfl rfl) rfl) (.cons (fun _ _ hE hK hg => okl_buildSliceV (r := (rInt .u8)) (fun _ => rfl) rfl (OkO.ext hB.ok hE) ty104 ty5 (parts_cons (ksv (j := 3) (hK 19 rfl) rfl rfl rfl) parts_nil) ⟨(by exact rInt_v.2 rfl), trivial⟩ rfl (by decide)) .nil))))) ?zok5 ?zgd5 ?zk5
   case zok5 | zgd5 => kernel_rfl
   intro a6 w6 hA hE HF
   replace q3 := kn (HF 3) rfl q3
   replace q4 := kn (HF 4) rfl q4
   have q16 := ksv (HF 16) rfl rfl rfl
   have f8 := ksp (HF 20) rfl rfl rfl
   obtain ⟨u7, q20'⟩ : ∃ u, a6.get 20 = u := ⟨_, rfl⟩
   rw [q20'] at f8
   have q20 := q20'; clear q20'
   clear q13
   clear HF
   replace f5 := f5.ext hE
   replace hB := Base.step hB hE hO; clear hE
   obtain ⟨x9, hx9, h⟩ := Comp.run_bind h
   refine l_append (r := (rInt .u8)) (fun _ => rfl) rfl ty104 ty5 rfl (by decide) hO hB (okB_fr hB) q16 f5 q20 (rd_of f8) hx9 (by decide) fun u10 w7 O11 f12 hB' hX => ?_
   clear hB; have hB := hB'; clear hB'
   clear f5
   replace f8 := GR.kx _ f8 hX (by decide)
   clear hX
   refine put_cont hA (by decide) fun a8 hA q_ hfr => ?_
   replace q3 := (hfr 3 rfl).trans q3
   replace q4 := (hfr 4 rfl).trans q4
   replace q16 := (hfr 16 rfl).trans q16
   replace q20 := (hfr 20 rfl).trans q20
   have q21 := q_; clear q_ hfr
   refine l_ok (φ := SP.isv (u10)) hO hB (by exact ok_assign q21) rfl fun u_ w9 hE hB' hv_ => ?_
   replace hv_ := Eq.symm hv_; subst hv_; clear hB; have hB := hB'; clear hB'
   replace f12 := f12.ext hE
   clear hE
   refine put_cont hA (by decide) fun a10 hA q_ hfr => ?_
   replace q3 := (hfr 3 rfl).trans q3
   replace q21 := (hfr 21 rfl).trans q21
   clear q4
   have q4 := q_; clear q_ hfr
   refine li_nil (nx_blk (nx_then ?_))
   refine' region [_, _, _] mixed hA (.cons (fun _ _ hE hK hg => ok_move (kn (hK 3 rfl) rfl q3)) (.cons (fun _ _ hE hK hg => okl_shr (ksv (j := 0) (hK 14 rfl) rfl rfl rfl) rfl (by decide)) (.cons (fun _ _ hE hK hg => ok_assign (ksv (j := 1) (hK 15 rfl) rfl rfl rfl)) .nil))) ?zok6 ?zgd6 ?zk6
   case zok6 | zgd6 => kernel_rfl
   intro a11 w11 hA hE HF
   have q3' := ksv (HF 3) rfl rfl rfl
   replace q3 := q3'; clear q3'
   replace q4 := kn (HF 4) rfl q4
   clear HF
   replace f12 := f12.ext hE
   replace hB := Base.step hB hE hO; clear hE
   refine li_nil (nx_then ?_)
   have h := hnext2 _ (Comp.run_pure h).symm
   refine ⟨m2, hlt2, ?_⟩
   exact ⟨_, _, _, _, hA, hB, q3, q4, f12, h⟩
  ·
   replace h := Comp.run_b_f hc h; clear hc
   refine wp_exit (ex_then (ex_then (ex_same ?_)))
   have hd_ := hdone2 _ (Comp.run_pure h).symm; clear h
   subst hd_; have h := hk2; clear hk2; try dsimp only at h
   refine nx_then ?_
   exact ⟨_, _, _, _, hA, hB, q3, q4, f5, h⟩
 intro a12 w12 hI
 clear hA hB h q3 q4
 obtain ⟨O21, x17, x18, u19, hA, hB, q3, q4, f20, h⟩ := hI
 unfold wire_Int_j1 at h
 refine wp_seq ?_
 refine' regionT [_, _, _, SP.vl (rSl (rInt .u8)) O21 [(IntKind.wrap .u8 x17)]] hA (.cons (fun _ _ hE hK hg => ok_move (kn (hK 4 rfl) rfl q4)) (.cons (fun _ _ hE hK hg => ok_move (kn (hK 3 rfl) rfl q3)) (.cons (fun _ _ hE hK hg => ok_convI ty122 ty5 (ksv (j := 1) (hK 23 rfl) rfl rfl rfl)) (.cons (fun _ _ hE hK hg => okl_buildSliceV (r := (rInt .u8)) (fun _ => rfl) rfl (OkO.ext hB.ok hE) ty104 ty5 (parts_cons (ksv (j := 2) (hK 24 rfl) rfl rfl rfl) parts_nil) ⟨(by exact rInt_v.2 rfl), trivial⟩ rfl (by decide)) .nil)))) ?zok7 ?zgd7 ?zk7
 case zok7 | zgd7 => kernel_rfl
 intro a13 w13 hA hE HF
 have q22 := ksv (HF 22) rfl rfl rfl
 have f23 := ksp (HF 25) rfl rfl rfl
 obtain ⟨u22, q25'⟩ : ∃ u, a13.get 25 = u := ⟨_, rfl⟩
 rw [q25'] at f23
 have q25 := q25'; clear q25'
 clear q3
 clear q4
 clear HF
 replace f20 := f20.ext hE
 replace hB := Base.step hB hE hO; clear hE
 obtain ⟨x24, hx24, h⟩ := Comp.run_bind h
 refine l_append (r := (rInt .u8)) (fun _ => rfl) rfl ty104 ty5 rfl (by decide) hO hB (okB_fr hB) q22 f20 q25 (rd_of f23) hx24 (by decide) fun u25 w14 O26 f27 hB' hX => ?_
 clear hB; have hB := hB'; clear hB'
 clear f20
 replace f23 := GR.kx _ f23 hX (by decide)
 clear hX
 refine put_cont hA (by decide) fun a15 hA q_ hfr => ?_
 replace q22 := (hfr 22 rfl).trans q22
 replace q25 := (hfr 25 rfl).trans q25
 have q26 := q_; clear q_ hfr
 obtain ⟨x28, hx28, h⟩ := Comp.run_bind h
 refine l_ok (φ := SP.isv (.string (str x28))) hO hB (by exact okl_bytesToStr ty104 ty5 ty9 q26 (OwnL.rd f27) hx28) rfl fun u_ w16 hE hB' hv_ => ?_
 replace hv_ := Eq.symm hv_; subst hv_; clear hB; have hB := hB'; clear hB'
 replace f27 := f27.ext hE
 clear hE
 refine put_cont hA (by decide) fun a17 hA q_ hfr => ?_
 replace q26 := (hfr 26 rfl).trans q26
 have q27 := q_; clear q_ hfr
 refine l_ok (φ := SP.isv (.string (str x28))) hO hB (by exact ok_assign q27) rfl fun u_ w18 hE hB' hv_ => ?_
 replace hv_ := Eq.symm hv_; subst hv_; clear hB; have hB := hB'; clear hB'
 clear hE
 refine put_cont hA (by decide) fun a19 hA q_ hfr => ?_
 replace q27 := (hfr 27 rfl).trans q27
 have q2 := q_; clear q_ hfr
 refine li_nil (nx_then (wp_ret ?_))
 have h := Comp.run_pure h; subst h
 exact retPure Try.results95 hA q2 hB.ext rfl
theorem ok_wire_Ints {O : Tags} {w0 : World} (hO : OkO O w0) {v_0 : Value} {x_0 : List Int} (h_0 : (rSl (rInt .i64)).v O w0 v_0 x_0) {n : Nat} {y : Bytes} (h : (wire_Ints x_0).run n = some y) : Pure Try.prog 56 #[v_0] w0 (SP.isv (.string (str y))).holds := by
 unfold wire_Ints at h
 refine pure_of_wp Try.func56 rfl 5 Try.ntmps56 (by simp) fun a0 hA hs0 => ?_
 have q0 : a0.get 0 = v_0 := hs0 0 _ rfl
 clear hs0
 have hB : Base (Fr w0) O w0 O w0 := Base.start hO
 refine wp_seq ?_
 refine' region [_] mixed hA (.cons (fun _ _ hE hK hg => ok_assign rfl) .nil) ?zok1 ?zgd1 ?zk1
 case zok1 | zgd1 => kernel_rfl
 intro a1 w1 hA hE HF
 replace q0 := kn (HF 0) rfl q0
 clear HF
 replace h_0 := GR.v_ext _ h_0 hE
 replace hB := Base.step hB hE hO; clear hE
 refine li_nil (nx_then (wp_seq ?_))
 obtain ⟨x1, hx1, h⟩ := Comp.run_bind h
 refine' region [_, SP.isv (.string (str x1)), _] mixed hA (.cons (fun _ _ hE hK hg => ok_move (kn (hK 0 rfl) rfl q0)) (.cons ?z2_1 (.cons (fun _ _ hE hK hg => ok_assign (ksv (j := 1) (hK 4 rfl) rfl rfl rfl)) .nil))) ?zok2 ?zgd2 ?zk2
 case z2_1 => intro a' w' hE hK hg; have c_ := Bld.m_all ok_wire_Int (OkO.ext hB.ok hE) (GR.v_ext _ h_0 hE) (show (rF1 Try.prog (rInt .i64) (RS.c (fun x => .string (str x)))).v O _ (.func (.func 95) #[] #[]) wire_Int from rF1_v.2 ⟨rfl, fun O' w' hO' hk v_0 x_0 hv_0 n_ y_ hy_ => by obtain rfl := rInt_v.1 hv_0; exact callV_func fn95 (ok_wire_Int hO'   hy_)⟩) hx1; exact ok_call2 fn94 (ksv (j := 0) (hK 3 rfl) rfl rfl rfl) rfl c_
 case zok2 | zgd2 => kernel_rfl
 intro a2 w2 hA hE HF
 have q2 := ksv (HF 2) rfl rfl rfl
 clear q0
 clear HF
 replace h_0 := GR.v_ext _ h_0 hE
 replace hB := Base.step hB hE hO; clear hE
 refine li_nil (nx_then (wp_ret ?_))
 have h := Comp.run_pure h; subst h
 exact retPure Try.results56 hA q2 hB.ext rfl
theorem ok_wire_Text {O : Tags} {w0 : World} (hO : OkO O w0) {x_0 : Bytes} {n : Nat} {y : Bytes} (h : (wire_Text x_0).run n = some y) : Pure Try.prog 57 #[.string (str x_0)] w0 (SP.isv (.string (str y))).holds := by
 unfold wire_Text at h
 refine pure_of_wp Try.func57 rfl 8 Try.ntmps57 (by simp) fun a0 hA hs0 => ?_
 have q0 : a0.get 0 = .string (str x_0) := hs0 0 _ rfl
 clear hs0
 have hB : Base (Fr w0) O w0 O w0 := Base.start hO
 refine wp_seq ?_
 refine' region [_] mixed hA (.cons (fun _ _ hE hK hg => ok_assign rfl) .nil) ?zok1 ?zgd1 ?zk1
 case zok1 | zgd1 => kernel_rfl
 intro a1 w1 hA hE HF
 replace q0 := kn (HF 0) rfl q0
 clear HF
 replace hB := Base.step hB hE hO; clear hE
 refine li_nil (nx_then (wp_seq ?_))
 obtain ⟨x1, hx1, h⟩ := Comp.run_bind h
 obtain ⟨x2, hx2, h⟩ := Comp.run_bind h
 refine' region [_, _, SP.isv (.string (str x1)), _, SP.isv (.string (str x2)), _] mixed hA (.cons (fun _ _ hE hK hg => ok_move (kn (hK 0 rfl) rfl q0)) (.cons (fun _ _ hE hK hg => okl_lenS ty9 (ksv (j := 0) (hK 3 rfl) rfl rfl rfl)) (.cons ?z2_2 (.cons (fun _ _ hE hK hg => ok_move (kn (hK 0 rfl) rfl q0)) (.cons (fun _ _ hE hK hg => okl_addS (ksv (j := 2) (hK 5 rfl) rfl rfl rfl) (ksv (j := 3) (hK 6 rfl) rfl rfl rfl) hx2) (.cons (fun _ _ hE hK hg => ok_assign (ksv (j := 4) (hK 7 rfl) rfl rfl rfl)) .nil)))))) ?zok2 ?zgd2 ?zk2
 case z2_2 => intro a' w' hE hK hg; have c_ := ok_wire_Int (OkO.ext hB.ok hE)  hx1; exact ok_call1 fn95 (ksv (j := 1) (hK 4 rfl) rfl rfl rfl) c_
 case zok2 | zgd2 => kernel_rfl
 intro a2 w2 hA hE HF
 have q2 := ksv (HF 2) rfl rfl rfl
 clear q0
 clear HF
 replace hB := Base.step hB hE hO; clear hE
 refine li_nil (nx_then (wp_ret ?_))
 have h := Comp.run_pure h; subst h
 exact retPure Try.results57 hA q2 hB.ext rfl
theorem ok_passport_Bytes {O : Tags} {w0 : World} (hO : OkO O w0) {x_0 : aEn} {n : Nat} {y : Bytes} (h : (passport_Bytes x_0).run n = some y) : Pure Try.prog 17 #[.agg #[.int .i64 x_0.Seq, .int .i64 x_0.Shop, .int .i64 x_0.Kind, .int .i64 x_0.Day, .int .i64 x_0.N, .string (str x_0.Before), .string (str x_0.After), .string (str x_0.Prev), .string (str x_0.Mark)]] w0 (SP.isv (.string (str y))).holds := by
 unfold passport_Bytes at h
 refine pure_of_wp Try.func17 rfl 27 Try.ntmps17 (by simp) fun a0 hA hs0 => ?_
 have q0 : a0.get 0 = .agg #[.int .i64 x_0.Seq, .int .i64 x_0.Shop, .int .i64 x_0.Kind, .int .i64 x_0.Day, .int .i64 x_0.N, .string (str x_0.Before), .string (str x_0.After), .string (str x_0.Prev), .string (str x_0.Mark)] := hs0 0 _ rfl
 clear hs0
 have hB : Base (Fr w0) O w0 O w0 := Base.start hO
 refine wp_seq ?_
 refine' region [SP.vl (rBox r_aEn) O x_0, _] mixed hA (.cons ?z1_0 (.cons (fun _ _ hE hK hg => ok_assign rfl) .nil)) ?zok1 ?zgd1 ?zk1
 case z1_0 => intro a' w' hE hK hg; exact okl_boxV (r := r_aEn) fit_aEn (OkO.ext hB.ok hE) (kn (hK 0 rfl) rfl q0) (by first | exact (rC_v (x := x_0)).2 rfl | exact ⟨_, rfl, rfl⟩)
 case zok1 | zgd1 => kernel_rfl
 intro a1 w1 hA hE HF
 have f2 := ksp (HF 1) rfl rfl rfl
 obtain ⟨u1, q1'⟩ : ∃ u, a1.get 1 = u := ⟨_, rfl⟩
 rw [q1'] at f2
 have q1 := q1'; clear q1'
 clear q0
 clear HF
 replace hB := Base.step hB hE hO; clear hE
 refine li_nil (nx_then (wp_seq ?_))
 obtain ⟨x3, hx3, h⟩ := Comp.run_bind h
 obtain ⟨x4, hx4, h⟩ := Comp.run_bind h
 obtain ⟨x5, hx5, h⟩ := Comp.run_bind h
 obtain ⟨x6, hx6, h⟩ := Comp.run_bind h
 obtain ⟨x7, hx7, h⟩ := Comp.run_bind h
 obtain ⟨x8, hx8, h⟩ := Comp.run_bind h
 obtain ⟨x9, hx9, h⟩ := Comp.run_bind h
 refine' region [SP.ptr (rInt .i64) O x_0.Seq, SP.isv (.int .i64 x_0.Seq), SP.ptr (rInt .i64) O x_0.Shop, SP.isv (.int .i64 x_0.Shop), SP.ptr (rInt .i64) O x_0.Kind, SP.isv (.int .i64 x_0.Kind), SP.ptr (rInt .i64) O x_0.Day, SP.isv (.int .i64 x_0.Day), SP.ptr (rInt .i64) O x_0.N, SP.isv (.int .i64 x_0.N), SP.vl (rSl (rInt .i64)) O [x_0.Seq, x_0.Shop, x_0.Kind, x_0.Day, x_0.N], SP.isv (.string (str x3)), SP.ptr rStr O x_0.Before, SP.isv (.string (str x_0.Before)), SP.isv (.string (str x4)), SP.isv (.string (str x5)), SP.ptr rStr O x_0.After, SP.isv (.string (str x_0.After)), SP.isv (.string (str x6)), SP.isv (.string (str x7)), SP.ptr rStr O x_0.Prev, SP.isv (.string (str x_0.Prev)), SP.isv (.string (str x8)), SP.isv (.string (str x9)), _] mixed hA (.cons (fun _ _ hE hK hg => okl_fldB (S := r_aEn) fit_aEn rfl (fun _ => rfl) sb_aEn_0 fl26_0 (kn (hK 1 rfl) rfl q1) (GR.v_ext _ f2 hE)) (.cons (fun _ _ hE hK hg => okl_ldr (rInt .i64) (fun _ => rfl) ty3 rfl rfl rfl (kspS (φ := SP.ptr (rInt .i64) O x_0.Seq) (j := 0) (hK 3 rfl) rfl rfl rfl) (fun _ _ _ h => rInt_v.1 h)) (.cons (fun _ _ hE hK hg => okl_fldB (S := r_aEn) fit_aEn rfl (fun _ => rfl) sb_aEn_1 fl26_1 (kn (hK 1 rfl) rfl q1) (GR.v_ext _ f2 hE)) (.cons (fun _ _ hE hK hg => okl_ldr (rInt .i64) (fun _ => rfl) ty3 rfl rfl rfl (kspS (φ := SP.ptr (rInt .i64) O x_0.Shop) (j := 2) (hK 5 rfl) rfl rfl rfl) (fun _ _ _ h => rInt_v.1 h)) (.cons (fun _ _ hE hK hg => okl_fldB (S := r_aEn) fit_aEn rfl (fun _ => rfl) sb_aEn_2 fl26_2 (kn (hK 1 rfl) rfl q1) (GR.v_ext _ f2 hE)) (.cons (fun _ _ hE hK hg => okl_ldr (rInt .i64) (fun _ => rfl) ty3 rfl rfl rfl (kspS (φ := SP.ptr (rInt .i64) O x_0.Kind) (j := 4) (hK 7 rfl) rfl rfl rfl) (fun _ _ _ h => rInt_v.1 h)) (.cons (fun _ _ hE hK hg => okl_fldB (S := r_aEn) fit_aEn rfl (fun _ => rfl) sb_aEn_3 fl26_3 (kn (hK 1 rfl) rfl q1) (GR.v_ext _ f2 hE)) (.cons (fun _ _ hE hK hg => okl_ldr (rInt .i64) (fun _ => rfl) ty3 rfl rfl rfl (kspS (φ := SP.ptr (rInt .i64) O x_0.Day) (j := 6) (hK 9 rfl) rfl rfl rfl) (fun _ _ _ h => rInt_v.1 h)) (.cons (fun _ _ hE hK hg => okl_fldB (S := r_aEn) fit_aEn rfl (fun _ => rfl) sb_aEn_4 fl26_4 (kn (hK 1 rfl) rfl q1) (GR.v_ext _ f2 hE)) (.cons (fun _ _ hE hK hg => okl_ldr (rInt .i64) (fun _ => rfl) ty3 rfl rfl rfl (kspS (φ := SP.ptr (rInt .i64) O x_0.N) (j := 8) (hK 11 rfl) rfl rfl rfl) (fun _ _ _ h => rInt_v.1 h)) (.cons (fun _ _ hE hK hg => okl_buildSliceV (r := (rInt .i64)) (fun _ => rfl) rfl (OkO.ext hB.ok hE) ty58 ty3 (parts_cons (ksv (j := 1) (hK 4 rfl) rfl rfl rfl) (parts_cons (ksv (j := 3) (hK 6 rfl) rfl rfl rfl) (parts_cons (ksv (j := 5) (hK 8 rfl) rfl rfl rfl) (parts_cons (ksv (j := 7) (hK 10 rfl) rfl rfl rfl) (parts_cons (ksv (j := 9) (hK 12 rfl) rfl rfl rfl) parts_nil))))) ⟨(by exact rInt_v.2 rfl), ⟨(by exact rInt_v.2 rfl), ⟨(by exact rInt_v.2 rfl), ⟨(by exact rInt_v.2 rfl), ⟨(by exact rInt_v.2 rfl), trivial⟩⟩⟩⟩⟩ rfl (by decide)) (.cons ?z2_11 (.cons (fun _ _ hE hK hg => okl_fldB (S := r_aEn) fit_aEn rfl (fun _ => rfl) sb_aEn_5 fl26_5 (kn (hK 1 rfl) rfl q1) (GR.v_ext _ f2 hE)) (.cons (fun _ _ hE hK hg => okl_ldr rStr (fun _ => rfl) ty9 rfl rfl rfl (kspS (φ := SP.ptr rStr O x_0.Before) (j := 12) (hK 15 rfl) rfl rfl rfl) (fun _ _ _ h => rStr_v.1 h)) (.cons ?z2_14 (.cons (fun _ _ hE hK hg => okl_addS (ksv (j := 11) (hK 14 rfl) rfl rfl rfl) (ksv (j := 14) (hK 17 rfl) rfl rfl rfl) hx5) (.cons (fun _ _ hE hK hg => okl_fldB (S := r_aEn) fit_aEn rfl (fun _ => rfl) sb_aEn_6 fl26_6 (kn (hK 1 rfl) rfl q1) (GR.v_ext _ f2 hE)) (.cons (fun _ _ hE hK hg => okl_ldr rStr (fun _ => rfl) ty9 rfl rfl rfl (kspS (φ := SP.ptr rStr O x_0.After) (j := 16) (hK 19 rfl) rfl rfl rfl) (fun _ _ _ h => rStr_v.1 h)) (.cons ?z2_18 (.cons (fun _ _ hE hK hg => okl_addS (ksv (j := 15) (hK 18 rfl) rfl rfl rfl) (ksv (j := 18) (hK 21 rfl) rfl rfl rfl) hx7) (.cons (fun _ _ hE hK hg => okl_fldB (S := r_aEn) fit_aEn rfl (fun _ => rfl) sb_aEn_7 fl26_7 (kn (hK 1 rfl) rfl q1) (GR.v_ext _ f2 hE)) (.cons (fun _ _ hE hK hg => okl_ldr rStr (fun _ => rfl) ty9 rfl rfl rfl (kspS (φ := SP.ptr rStr O x_0.Prev) (j := 20) (hK 23 rfl) rfl rfl rfl) (fun _ _ _ h => rStr_v.1 h)) (.cons ?z2_22 (.cons (fun _ _ hE hK hg => okl_addS (ksv (j := 19) (hK 22 rfl) rfl rfl rfl) (ksv (j := 22) (hK 25 rfl) rfl rfl rfl) hx9) (.cons (fun _ _ hE hK hg => ok_assign (ksv (j := 23) (hK 26 rfl) rfl rfl rfl)) .nil))))))))))))))))))))))))) ?zok2 ?zgd2 ?zk2
 case z2_11 => intro a' w' hE hK hg; have c_ := ok_wire_Ints (OkO.ext hB.ok hE) (kspS (φ := SP.vl (rSl (rInt .i64)) O [x_0.Seq, x_0.Shop, x_0.Kind, x_0.Day, x_0.N]) (j := 10) (hK 13 rfl) rfl rfl rfl) hx3; exact ok_call1 fn56 rfl c_
 case z2_14 => intro a' w' hE hK hg; have c_ := ok_wire_Text (OkO.ext hB.ok hE)  hx4; exact ok_call1 fn57 (ksv (j := 13) (hK 16 rfl) rfl rfl rfl) c_
 case z2_18 => intro a' w' hE hK hg; have c_ := ok_wire_Text (OkO.ext hB.ok hE)  hx6; exact ok_call1 fn57 (ksv (j := 17) (hK 20 rfl) rfl rfl rfl) c_
 case z2_22 => intro a' w' hE hK hg; have c_ := ok_wire_Text (OkO.ext hB.ok hE)  hx8; exact ok_call1 fn57 (ksv (j := 21) (hK 24 rfl) rfl rfl rfl) c_
 case zok2 | zgd2 => kernel_rfl
 intro a2 w2 hA hE HF
 have q2 := ksv (HF 2) rfl rfl rfl
 clear q1
 clear HF
 replace f2 := GR.v_ext _ f2 hE
 replace hB := Base.step hB hE hO; clear hE
 refine li_nil (nx_then (wp_ret ?_))
 have h := Comp.run_pure h; subst h
 exact retPure Try.results17 hA q2 hB.ext rfl
theorem ok_digest_length {O : Tags} {w0 : World} (hO : OkO O w0) {x_0 : Bytes} {n : Nat} {y : Bytes} (h : (digest_length x_0).run n = some y) : Pure Try.prog 119 #[.string (str x_0)] w0 (SP.isv (.string (str y))).holds := by
 unfold digest_length at h
 refine pure_of_wp Try.func119 rfl 19 Try.ntmps119 (by simp) fun a0 hA hs0 => ?_
 have q0 : a0.get 0 = .string (str x_0) := hs0 0 _ rfl
 clear hs0
 have hB : Base (Fr w0) O w0 O w0 := Base.start hO
 refine wp_seq ?_
 refine' region [_] mixed hA (.cons (fun _ _ hE hK hg => ok_assign rfl) .nil) ?zok1 ?zgd1 ?zk1
 case zok1 | zgd1 => kernel_rfl
 intro a1 w1 hA hE HF
 replace q0 := kn (HF 0) rfl q0
 clear HF
 replace hB := Base.step hB hE hO; clear hE
 refine li_nil (nx_then (wp_seq ?_))
 refine' region [_, _, _] mixed hA (.cons (fun _ _ hE hK hg => ok_move (kn (hK 0 rfl) rfl q0)) (.cons (fun _ _ hE hK hg => okl_lenS ty9 (ksv (j := 0) (hK 4 rfl) rfl rfl rfl)) (.cons (fun _ _ hE hK hg => ok_assign (ksv (j := 1) (hK 5 rfl) rfl rfl rfl)) .nil))) ?zok2 ?zgd2 ?zk2
 case zok2 | zgd2 => kernel_rfl
 intro a2 w2 hA hE HF
 have q3 := ksv (HF 3) rfl rfl rfl
 clear q0
 clear HF
 replace hB := Base.step hB hE hO; clear hE
 refine li_nil (nx_then (wp_seq ?_))
 obtain ⟨x1, hx1, h⟩ := Comp.run_bind h
 refine' region [_, _, _, _, _, _, _, _, _, _, _, SP.vl (rSl (rInt .u8)) O [(IntKind.wrap .u8 (x_0.length : Int)), (IntKind.wrap .u8 (shrF .i64 (x_0.length : Int) 8)), (IntKind.wrap .u8 (shrF .i64 (x_0.length : Int) 16)), (IntKind.wrap .u8 (shrF .i64 (x_0.length : Int) 24))], SP.isv (.string (str x1)), _] mixed hA (.cons (fun _ _ hE hK hg => ok_move (kn (hK 3 rfl) rfl q3)) (.cons (fun _ _ hE hK hg => ok_convI ty3 ty5 (ksv (j := 0) (hK 6 rfl) rfl rfl rfl)) (.cons (fun _ _ hE hK hg => ok_move (kn (hK 3 rfl) rfl q3)) (.cons (fun _ _ hE hK hg => okl_shr (ksv (j := 2) (hK 8 rfl) rfl rfl rfl) rfl (by decide)) (.cons (fun _ _ hE hK hg => ok_convI ty3 ty5 (ksv (j := 3) (hK 9 rfl) rfl rfl rfl)) (.cons (fun _ _ hE hK hg => ok_move (kn (hK 3 rfl) rfl q3)) (.cons (fun _ _ hE hK hg => okl_shr (ksv (j := 5) (hK 11 rfl) rfl rfl rfl) rfl (by decide)) (.cons (fun _ _ hE hK hg => ok_convI ty3 ty5 (ksv (j := 6) (hK 12 rfl) rfl rfl rfl)) (.cons (fun _ _ hE hK hg => ok_move (kn (hK 3 rfl) rfl q3)) (.cons (fun _ _ hE hK hg => okl_shr (ksv (j := 8) (hK 14 rfl) rfl rfl rfl) rfl (by decide)) (.cons (fun _ _ hE hK hg => ok_convI ty3 ty5 (ksv (j := 9) (hK 15 rfl) rfl rfl rfl)) (.cons (fun _ _ hE hK hg => okl_buildSliceV (r := (rInt .u8)) (fun _ => rfl) rfl (OkO.ext hB.ok hE) ty104 ty5 (parts_cons (ksv (j := 1) (hK 7 rfl) rfl rfl rfl) (parts_cons (ksv (j := 4) (hK 10 rfl) rfl rfl rfl) (parts_cons (ksv (j := 7) (hK 13 rfl) rfl rfl rfl) (parts_cons (ksv (j := 10) (hK 16 rfl) rfl rfl rfl) parts_nil)))) ⟨(by exact rInt_v.2 rfl), ⟨(by exact rInt_v.2 rfl), ⟨(by exact rInt_v.2 rfl), ⟨(by exact rInt_v.2 rfl), trivial⟩⟩⟩⟩ rfl (by decide)) (.cons (fun _ _ hE hK hg => okl_bytesToStr ty104 ty5 ty9 rfl (rd_of (kspS (φ := SP.vl (rSl (rInt .u8)) O [(IntKind.wrap .u8 (x_0.length : Int)), (IntKind.wrap .u8 (shrF .i64 (x_0.length : Int) 8)), (IntKind.wrap .u8 (shrF .i64 (x_0.length : Int) 16)), (IntKind.wrap .u8 (shrF .i64 (x_0.length : Int) 24))]) (j := 11) (hK 17 rfl) rfl rfl rfl)) hx1) (.cons (fun _ _ hE hK hg => ok_assign (ksv (j := 12) (hK 18 rfl) rfl rfl rfl)) .nil)))))))))))))) ?zok3 ?zgd3 ?zk3
 case zok3 | zgd3 => kernel_rfl
 intro a3 w3 hA hE HF
 have q2 := ksv (HF 2) rfl rfl rfl
 clear q3
 clear HF
 replace hB := Base.step hB hE hO; clear hE
 refine li_nil (nx_then (wp_ret ?_))
 have h := Comp.run_pure h; subst h
 exact retPure Try.results119 hA q2 hB.ext rfl
theorem ok_digest_of {O : Tags} {w0 : World} (hO : OkO O w0) {v_0 : Value} {x_0 : List Bytes} (h_0 : (rSl rStr).v O w0 v_0 x_0) {n : Nat} {y : (Vector Int 8)} (h : (digest_of x_0).run n = some y) : Pure Try.prog 118 #[v_0] w0 (SP.isv (.agg (cellsA (fun x => [.int .u8 x]) y).toArray)).holds := by
 unfold digest_of at h
 refine pure_of_wp Try.func118 rfl 62 Try.ntmps118 (by simp) fun a0 hA hs0 => ?_
 have q0 : a0.get 0 = v_0 := hs0 0 _ rfl
 clear hs0
 have hB : Base (Fr w0) O w0 O w0 := Base.start hO
 refine wp_seq ?_
 refine' region [SP.box w0.heap.size (cellsA (fun x => [.int .u8 x]) (Vector.replicate 8 0)).toArray 103] mixed hA (.cons (fun _ _ hE hK hg => ok_alloc hE.size ty103) .nil) ?zok1 ?zgd1 ?zk1
 case zok1 | zgd1 => kernel_rfl
 intro a1 w1 hA hE HF
 replace q0 := kn (HF 0) rfl q0
 have f2 := ksp (HF 2) rfl rfl rfl
 obtain ⟨u1, q2'⟩ : ∃ u, a1.get 2 = u := ⟨_, rfl⟩
 rw [q2'] at f2
 have q2 := q2'; clear q2'
 clear HF
 obtain ⟨O3, b4, hB', hX, e_, f5⟩ := boxNew hO hB hE f2 1 (by decide)
 subst e_
 clear hB f2; have hB := hB'; clear hB'
 replace h_0 := GR.kx _ h_0 hX (by decide)
 clear hX hE
 refine li_nil (nx_then (wp_seq ?_))
 refine' region [_, _] mixed hA (.cons (fun _ _ hE hK hg => ok_assign rfl) (.cons (fun _ _ hE hK hg => ok_assign rfl) .nil)) ?zok2 ?zgd2 ?zk2
 case zok2 | zgd2 => kernel_rfl
 intro a2 w2 hA hE HF
 replace q0 := kn (HF 0) rfl q0
 replace q2 := kn (HF 2) rfl q2
 have q3 := ksv (HF 3) rfl rfl rfl
 have q4 := ksv (HF 4) rfl rfl rfl
 clear HF
 replace h_0 := GR.v_ext _ h_0 hE
 replace f5 := f5.ext hE
 replace hB := Base.step hB hE hO; clear hE
 refine li_nil (nx_then ?_)
 refine seq_join (fun a w => ∃ (O31 : Tags) (x29 : Int) (x30 : Int), a.fit 62 ∧ Base (Fr w0) O w0 O31 w ∧ a.get 2 = .pointer (some ⟨b4, 0, none⟩) ∧ a.get 3 = .int .u64 x29 ∧ a.get 4 = .int .u64 x30 ∧ OwnB 1 (Fr w0) O31 w b4 (cellsA (fun x => [.int .u8 x]) (Vector.replicate 8 0)).toArray 103 ∧ (digest_of_j1 x29 x30).run n = some y) ?_ ?_
 ·
  refine wp_seq ?_
  refine' region [_, _, _] mixed hA (.cons (fun _ _ hE hK hg => ok_move (kn (hK 0 rfl) rfl q0)) (.cons (fun _ _ hE hK hg => okl_len (r := rStr) ty28 (ksv (j := 0) (hK 11 rfl) rfl rfl rfl) (rd_of (GR.v_ext _ h_0 hE))) (.cons (fun _ _ hE hK hg => ok_move rfl) .nil))) ?zok3 ?zgd3 ?zk3
  case zok3 | zgd3 => kernel_rfl
  intro a3 w3 hA hE HF
  replace q2 := kn (HF 2) rfl q2
  replace q3 := kn (HF 3) rfl q3
  replace q4 := kn (HF 4) rfl q4
  have q11 := ksv (HF 11) rfl rfl rfl
  have q12 := ksv (HF 12) rfl rfl rfl
  have q13 := ksv (HF 13) rfl rfl rfl
  clear q0
  clear HF
  replace h_0 := GR.v_ext _ h_0 hE
  replace f5 := f5.ext hE
  replace hB := Base.step hB hE hO; clear hE
  refine li_nil (nx_then (wp_block ?_))
  obtain ⟨e2, he2, hk2⟩ := Comp.run_bind h; clear h
  refine loop_m (fun m a w => ∃ (O9 : Tags) (x6 : Int) (x7 : Int) (x8 : Int), a.fit 62 ∧ Base (Fr w0) O w0 O9 w ∧ a.get 2 = .pointer (some ⟨b4, 0, none⟩) ∧ a.get 3 = .int .u64 x6 ∧ a.get 4 = .int .u64 x7 ∧ a.get 11 = v_0 ∧ (rSl rStr).v O9 w v_0 x_0 ∧ a.get 12 = .int .i64 (x_0.length : Int) ∧ a.get 13 = .int .i64 x8 ∧ OwnB 1 (Fr w0) O9 w b4 (cellsA (fun x => [.int .u8 x]) (Vector.replicate 8 0)).toArray 103 ∧ Comp.loopN (fun s => digest_of_l2 x_0 s.1 s.2.1 s.2.2) n m (x6, x7, x8) = some e2) (m := n) ?st2 ?_
  case st2 =>
   exact ⟨_, _, _, _, hA, hB, q2, q3, q4, q11, h_0, q12, q13, f5, Comp.run_loop he2⟩
  intro m_ a4 w4 hI
  clear hA hB he2 q2 q3 q4 q11 q12 q13 f5 h_0
  obtain ⟨O9, x6, x7, x8, hA, hB, q2, q3, q4, q11, h_0, q12, q13, f5, hl⟩ := hI
  obtain ⟨m2, hlt2, st2, h, hnext2, hdone2⟩ := Comp.loopN_succ hl; clear hl
  replace h : (digest_of_l2 x_0 x6 x7 x8).run n = some st2 := h
  unfold digest_of_l2 at h
  refine wp_seq ?_
  refine' region [_] mixed hA (.cons (fun _ _ hE hK hg => ok_lss (kn (hK 13 rfl) rfl q13) (kn (hK 12 rfl) rfl q12)) .nil) ?zok4 ?zgd4 ?zk4
  case zok4 | zgd4 => kernel_rfl
  intro a5 w5 hA hE HF
  replace q2 := kn (HF 2) rfl q2
  replace q3 := kn (HF 3) rfl q3
  replace q4 := kn (HF 4) rfl q4
  replace q11 := kn (HF 11) rfl q11
  replace q12 := kn (HF 12) rfl q12
  replace q13 := kn (HF 13) rfl q13
  have q14 := ksv (HF 14) rfl rfl rfl
  clear HF
  replace h_0 := GR.v_ext _ h_0 hE
  replace f5 := f5.ext hE
  replace hB := Base.step hB hE hO; clear hE
  refine li_nil (nx_then (wp_seq ?_))
  refine wp_cond_b q14 (fun hc => ?_) (fun hc => ?_)
  ·
   replace h := Comp.run_b_t hc h; clear hc
   refine wp_skip (nx_then (wp_seq (wp_block (wp_seq ?_))))
   obtain ⟨x10, hx10, h⟩ := Comp.run_bind h
   refine' region [SP.ptr rStr O9 x10, SP.isv (.string (str x10)), _] mixed hA (.cons (fun _ _ hE hK hg => okl_idx (r := rStr) (O := O9) ty28 ty9 rfl (kn (hK 11 rfl) rfl q11) (rd_of (GR.v_ext _ h_0 hE)) (kn (hK 13 rfl) rfl q13) hx10) (.cons (fun _ _ hE hK hg => okl_ldr rStr (fun _ => rfl) ty9 rfl rfl rfl (kspS (φ := SP.ptr rStr O9 x10) (j := 0) (hK 15 rfl) rfl rfl rfl) (fun _ _ _ h => rStr_v.1 h)) (.cons (fun _ _ hE hK hg => ok_assign (ksv (j := 1) (hK 16 rfl) rfl rfl rfl)) .nil))) ?zok5 ?zgd5 ?zk5
   case zok5 | zgd5 => kernel_rfl
   intro a6 w6 hA hE HF
   replace q2 := kn (HF 2) rfl q2
   replace q3 := kn (HF 3) rfl q3
   replace q4 := kn (HF 4) rfl q4
   have q6 := ksv (HF 6) rfl rfl rfl
   replace q11 := kn (HF 11) rfl q11
   replace q12 := kn (HF 12) rfl q12
   replace q13 := kn (HF 13) rfl q13
   clear q14
   clear HF
   replace h_0 := GR.v_ext _ h_0 hE
   replace f5 := f5.ext hE
   replace hB := Base.step hB hE hO; clear hE
   refine li_nil (nx_then (wp_seq ?_))
   refine' region [_, SP.vl (rSl (rInt .u8)) O9 (ofStr x10), _, _] mixed hA (.cons (fun _ _ hE hK hg => ok_move (kn (hK 6 rfl) rfl q6)) (.cons (fun _ _ hE hK hg => okl_strToBytes (OkO.ext hB.ok hE) ty9 ty104 ty5 (ksv (j := 0) (hK 17 rfl) rfl rfl rfl)) (.cons (fun _ _ hE hK hg => okl_len (r := (rInt .u8)) ty104 rfl (rd_of (kspS (φ := SP.vl (rSl (rInt .u8)) O9 (ofStr x10)) (j := 1) (hK 18 rfl) rfl rfl rfl))) (.cons (fun _ _ hE hK hg => ok_move rfl) .nil)))) ?zok6 ?zgd6 ?zk6
   case zok6 | zgd6 => kernel_rfl
   intro a7 w7 hA hE HF
   replace q2 := kn (HF 2) rfl q2
   replace q3 := kn (HF 3) rfl q3
   replace q4 := kn (HF 4) rfl q4
   replace q11 := kn (HF 11) rfl q11
   replace q12 := kn (HF 12) rfl q12
   replace q13 := kn (HF 13) rfl q13
   have f12 := ksp (HF 18) rfl rfl rfl
   obtain ⟨u11, q18'⟩ : ∃ u, a7.get 18 = u := ⟨_, rfl⟩
   rw [q18'] at f12
   have q18 := q18'; clear q18'
   have q19 := ksv (HF 19) rfl rfl rfl
   have q20 := ksv (HF 20) rfl rfl rfl
   clear q6
   clear HF
   replace h_0 := GR.v_ext _ h_0 hE
   replace f5 := f5.ext hE
   replace hB := Base.step hB hE hO; clear hE
   refine li_nil (nx_then (wp_block ?_))
   obtain ⟨e3, he3, hk3⟩ := Comp.run_bind h; clear h
   refine loop_m (fun m a w => ∃ (O16 : Tags) (x13 : Int) (x14 : Int) (x15 : Int), a.fit 62 ∧ Base (Fr w0) O w0 O16 w ∧ a.get 2 = .pointer (some ⟨b4, 0, none⟩) ∧ a.get 3 = .int .u64 x13 ∧ a.get 4 = .int .u64 x14 ∧ a.get 11 = v_0 ∧ (rSl rStr).v O16 w v_0 x_0 ∧ a.get 12 = .int .i64 (x_0.length : Int) ∧ a.get 13 = .int .i64 x8 ∧ a.get 18 = u11 ∧ (rSl (rInt .u8)).v O16 w u11 (ofStr x10) ∧ a.get 19 = .int .i64 ((ofStr x10).length : Int) ∧ a.get 20 = .int .i64 x15 ∧ OwnB 1 (Fr w0) O16 w b4 (cellsA (fun x => [.int .u8 x]) (Vector.replicate 8 0)).toArray 103 ∧ Comp.loopN (fun s => digest_of_l3 x10 s.1 s.2.1 s.2.2) n m (x13, x14, x15) = some e3) (m := n) ?st3 ?_
   case st3 =>
    exact ⟨_, _, _, _, hA, hB, q2, q3, q4, q11, h_0, q12, q13, q18, f12, q19, q20, f5, Comp.run_loop he3⟩
   intro m_ a8 w8 hI
   clear hA hB he3 q2 q3 q4 q11 q12 q13 q18 q19 q20 f12 f5 h_0
   obtain ⟨O16, x13, x14, x15, hA, hB, q2, q3, q4, q11, h_0, q12, q13, q18, f12, q19, q20, f5, hl⟩ := hI
   obtain ⟨m3, hlt3, st3, h, hnext3, hdone3⟩ := Comp.loopN_succ hl; clear hl
   replace h : (digest_of_l3 x10 x13 x14 x15).run n = some st3 := h
   unfold digest_of_l3 at h
   refine wp_seq ?_
   refine' region [_] mixed hA (.cons (fun _ _ hE hK hg => ok_lss (kn (hK 20 rfl) rfl q20) (kn (hK 19 rfl) rfl q19)) .nil) ?zok7 ?zgd7 ?zk7
   case zok7 | zgd7 => kernel_rfl
   intro a9 w9 hA hE HF
   replace q2 := kn (HF 2) rfl q2
   replace q3 := kn (HF 3) rfl q3
   replace q4 := kn (HF 4) rfl q4
   replace q11 := kn (HF 11) rfl q11
   replace q12 := kn (HF 12) rfl q12
   replace q13 := kn (HF 13) rfl q13
   replace q18 := kn (HF 18) rfl q18
   replace q19 := kn (HF 19) rfl q19
   replace q20 := kn (HF 20) rfl q20
   have q21 := ksv (HF 21) rfl rfl rfl
   clear HF
   replace h_0 := GR.v_ext _ h_0 hE
   replace f12 := GR.v_ext _ f12 hE
   replace f5 := f5.ext hE
   replace hB := Base.step hB hE hO; clear hE
   obtain ⟨x17, hx_, h⟩ := Comp.run_bind h; replace hx_ := Comp.run_pure hx_; rw [hx_] at q21; clear hx_
   refine li_nil (nx_then (wp_seq ?_))
   refine wp_cond_b q21 (fun hc => ?_) (fun hc => ?_)
   ·
    replace h := Comp.run_b_t hc h; clear hc
    refine wp_skip (nx_then (wp_seq (wp_block (wp_seq ?_))))
    obtain ⟨x18, hx18, h⟩ := Comp.run_bind h
    refine' region [SP.ptr (rInt .u8) O16 x18, SP.isv (.int .u8 x18), _] mixed hA (.cons (fun _ _ hE hK hg => okl_idx (r := (rInt .u8)) (O := O16) ty104 ty5 rfl (kn (hK 18 rfl) rfl q18) (rd_of (GR.v_ext _ f12 hE)) (kn (hK 20 rfl) rfl q20) hx18) (.cons (fun _ _ hE hK hg => okl_ldr (rInt .u8) (fun _ => rfl) ty5 rfl rfl rfl (kspS (φ := SP.ptr (rInt .u8) O16 x18) (j := 0) (hK 22 rfl) rfl rfl rfl) (fun _ _ _ h => rInt_v.1 h)) (.cons (fun _ _ hE hK hg => ok_assign (ksv (j := 1) (hK 23 rfl) rfl rfl rfl)) .nil))) ?zok8 ?zgd8 ?zk8
    case zok8 | zgd8 => kernel_rfl
    intro a10 w10 hA hE HF
    replace q2 := kn (HF 2) rfl q2
    replace q3 := kn (HF 3) rfl q3
    replace q4 := kn (HF 4) rfl q4
    have q8 := ksv (HF 8) rfl rfl rfl
    replace q11 := kn (HF 11) rfl q11
    replace q12 := kn (HF 12) rfl q12
    replace q13 := kn (HF 13) rfl q13
    replace q18 := kn (HF 18) rfl q18
    replace q19 := kn (HF 19) rfl q19
    replace q20 := kn (HF 20) rfl q20
    clear q21
    clear HF
    replace h_0 := GR.v_ext _ h_0 hE
    replace f12 := GR.v_ext _ f12 hE
    replace f5 := f5.ext hE
    replace hB := Base.step hB hE hO; clear hE
    refine li_nil (nx_then (wp_seq ?_))
    refine' region [_, _, _, _, _, _, _, _] mixed hA (.cons (fun _ _ hE hK hg => ok_move (kn (hK 3 rfl) rfl q3)) (.cons (fun _ _ hE hK hg => ok_mul rfl (ksv (j := 0) (hK 24 rfl) rfl rfl rfl)) (.cons (fun _ _ hE hK hg => ok_move (kn (hK 8 rfl) rfl q8)) (.cons (fun _ _ hE hK hg => ok_convI ty5 ty122 (ksv (j := 2) (hK 26 rfl) rfl rfl rfl)) (.cons (fun _ _ hE hK hg => ok_add (ksv (j := 1) (hK 25 rfl) rfl rfl rfl) (ksv (j := 3) (hK 27 rfl) rfl rfl rfl)) (.cons (fun _ _ hE hK hg => ok_add (ksv (j := 4) (hK 28 rfl) rfl rfl rfl) rfl) (.cons (fun _ _ hE hK hg => ok_rem (ksv (j := 5) (hK 29 rfl) rfl rfl rfl) rfl (by decide)) (.cons (fun _ _ hE hK hg => ok_assign (ksv (j := 6) (hK 30 rfl) rfl rfl rfl)) .nil)))))))) ?zok9 ?zgd9 ?zk9
    case zok9 | zgd9 => kernel_rfl
    intro a11 w11 hA hE HF
    replace q2 := kn (HF 2) rfl q2
    have q3' := ksv (HF 3) rfl rfl rfl
    replace q3 := q3'; clear q3'
    replace q4 := kn (HF 4) rfl q4
    replace q8 := kn (HF 8) rfl q8
    replace q11 := kn (HF 11) rfl q11
    replace q12 := kn (HF 12) rfl q12
    replace q13 := kn (HF 13) rfl q13
    replace q18 := kn (HF 18) rfl q18
    replace q19 := kn (HF 19) rfl q19
    replace q20 := kn (HF 20) rfl q20
    clear HF
    replace h_0 := GR.v_ext _ h_0 hE
    replace f12 := GR.v_ext _ f12 hE
    replace f5 := f5.ext hE
    replace hB := Base.step hB hE hO; clear hE
    obtain ⟨x19, hx_, h⟩ := Comp.run_bind h; replace hx_ := Comp.run_pure hx_; rw [hx_] at q3; clear hx_
    refine li_nil (nx_then ?_)
    refine' region [_, _, _, _, _, _, _, _] mixed hA (.cons (fun _ _ hE hK hg => ok_move (kn (hK 4 rfl) rfl q4)) (.cons (fun _ _ hE hK hg => ok_mul rfl (ksv (j := 0) (hK 31 rfl) rfl rfl rfl)) (.cons (fun _ _ hE hK hg => ok_move (kn (hK 8 rfl) rfl q8)) (.cons (fun _ _ hE hK hg => ok_convI ty5 ty122 (ksv (j := 2) (hK 33 rfl) rfl rfl rfl)) (.cons (fun _ _ hE hK hg => ok_add (ksv (j := 1) (hK 32 rfl) rfl rfl rfl) (ksv (j := 3) (hK 34 rfl) rfl rfl rfl)) (.cons (fun _ _ hE hK hg => ok_add (ksv (j := 4) (hK 35 rfl) rfl rfl rfl) rfl) (.cons (fun _ _ hE hK hg => ok_rem (ksv (j := 5) (hK 36 rfl) rfl rfl rfl) rfl (by decide)) (.cons (fun _ _ hE hK hg => ok_assign (ksv (j := 6) (hK 37 rfl) rfl rfl rfl)) .nil)))))))) ?zok10 ?zgd10 ?zk10
    case zok10 | zgd10 => kernel_rfl
    intro a12 w12 hA hE HF
    replace q2 := kn (HF 2) rfl q2
    replace q3 := kn (HF 3) rfl q3
    have q4' := ksv (HF 4) rfl rfl rfl
    replace q4 := q4'; clear q4'
    replace q11 := kn (HF 11) rfl q11
    replace q12 := kn (HF 12) rfl q12
    replace q13 := kn (HF 13) rfl q13
    replace q18 := kn (HF 18) rfl q18
    replace q19 := kn (HF 19) rfl q19
    replace q20 := kn (HF 20) rfl q20
    clear q8
    clear HF
    replace h_0 := GR.v_ext _ h_0 hE
    replace f12 := GR.v_ext _ f12 hE
    replace f5 := f5.ext hE
    replace hB := Base.step hB hE hO; clear hE
    obtain ⟨x20, hx_, h⟩ := Comp.run_bind h; replace hx_ := Comp.run_pure hx_; rw [hx_] at q4; clear hx_
    refine li_nil (nx_blk (nx_then ?_))
    refine' region [_, _] mixed hA (.cons (fun _ _ hE hK hg => ok_add (kn (hK 20 rfl) rfl q20) rfl) (.cons (fun _ _ hE hK hg => ok_move (ksv (j := 0) (hK 38 rfl) rfl rfl rfl)) .nil)) ?zok11 ?zgd11 ?zk11
    case zok11 | zgd11 => kernel_rfl
    intro a13 w13 hA hE HF
    replace q2 := kn (HF 2) rfl q2
    replace q3 := kn (HF 3) rfl q3
    replace q4 := kn (HF 4) rfl q4
    replace q11 := kn (HF 11) rfl q11
    replace q12 := kn (HF 12) rfl q12
    replace q13 := kn (HF 13) rfl q13
    replace q18 := kn (HF 18) rfl q18
    replace q19 := kn (HF 19) rfl q19
    have q20' := ksv (HF 20) rfl rfl rfl
    replace q20 := q20'; clear q20'
    clear HF
    replace h_0 := GR.v_ext _ h_0 hE
    replace f12 := GR.v_ext _ f12 hE
    replace f5 := f5.ext hE
    replace hB := Base.step hB hE hO; clear hE
    refine li_nil (nx_then ?_)
    have h := hnext3 _ (Comp.run_pure h).symm
    refine ⟨m3, hlt3, ?_⟩
    exact ⟨_, _, _, _, hA, hB, q2, q3, q4, q11, h_0, q12, q13, q18, f12, q19, q20, f5, h⟩
   ·
    replace h := Comp.run_b_f hc h; clear hc
    refine wp_exit (ex_then (ex_then (ex_same ?_)))
    have hd_ := hdone3 _ (Comp.run_pure h).symm; clear h
    subst hd_; have h := hk3; clear hk3; try dsimp only at h
    refine nx_blk (nx_then ?_)
    refine' region [_, _] mixed hA (.cons (fun _ _ hE hK hg => ok_add (kn (hK 13 rfl) rfl q13) rfl) (.cons (fun _ _ hE hK hg => ok_move (ksv (j := 0) (hK 39 rfl) rfl rfl rfl)) .nil)) ?zok12 ?zgd12 ?zk12
    case zok12 | zgd12 => kernel_rfl
    intro a14 w14 hA hE HF
    replace q2 := kn (HF 2) rfl q2
    replace q3 := kn (HF 3) rfl q3
    replace q4 := kn (HF 4) rfl q4
    replace q11 := kn (HF 11) rfl q11
    replace q12 := kn (HF 12) rfl q12
    have q13' := ksv (HF 13) rfl rfl rfl
    replace q13 := q13'; clear q13'
    clear q18
    clear q19
    clear q20
    clear q21
    clear HF
    replace h_0 := GR.v_ext _ h_0 hE
    replace f12 := GR.v_ext _ f12 hE
    replace f5 := f5.ext hE
    replace hB := Base.step hB hE hO; clear hE
    refine li_nil (nx_then ?_)
    have h := hnext2 _ (Comp.run_pure h).symm
    refine ⟨m2, hlt2, ?_⟩
    exact ⟨_, _, _, _, hA, hB, q2, q3, q4, q11, h_0, q12, q13, f5, h⟩
  ·
   replace h := Comp.run_b_f hc h; clear hc
   refine wp_exit (ex_then (ex_then (ex_same ?_)))
   have hd_ := hdone2 _ (Comp.run_pure h).symm; clear h
   subst hd_; have h := hk2; clear hk2; try dsimp only at h
   refine nx_then ?_
   exact ⟨_, _, _, hA, hB, q2, q3, q4, f5, h⟩
 intro a15 w15 hI
 clear hA hB h q0 q2 q3 q4 f5 h_0
 obtain ⟨O31, x29, x30, hA, hB, q2, q3, q4, f5, h⟩ := hI
 unfold digest_of_j1 at h
 refine wp_seq ?_
 refine' region [SP.box w15.heap.size (cellsA (fun x => [.int .u8 x]) (Vector.replicate 8 0)).toArray 103] mixed hA (.cons (fun _ _ hE hK hg => ok_alloc hE.size ty103) .nil) ?zok13 ?zgd13 ?zk13
 case zok13 | zgd13 => kernel_rfl
 intro a16 w16 hA hE HF
 replace q2 := kn (HF 2) rfl q2
 replace q3 := kn (HF 3) rfl q3
 replace q4 := kn (HF 4) rfl q4
 have f33 := ksp (HF 9) rfl rfl rfl
 obtain ⟨u32, q9'⟩ : ∃ u, a16.get 9 = u := ⟨_, rfl⟩
 rw [q9'] at f33
 have q9 := q9'; clear q9'
 clear HF
 obtain ⟨O34, b35, hB', hX, e_, f36⟩ := boxNew hO hB hE f33 2 (by decide)
 subst e_
 clear hB f33; have hB := hB'; clear hB'
 replace f5 := f5.kx hX (by decide)
 clear hX hE
 refine li_nil (nx_then ?_)
 refine seq_join (fun a w => ∃ (O50 : Tags) (x49 : Vector Int 8), a.fit 62 ∧ Base (Fr w0) O w0 O50 w ∧ a.get 2 = .pointer (some ⟨b4, 0, none⟩) ∧ a.get 9 = .pointer (some ⟨b35, 0, none⟩) ∧ OwnB 2 (Fr w0) O50 w b35 (cellsA (fun x => [.int .u8 x]) x49).toArray 103 ∧ OwnB 1 (Fr w0) O50 w b4 (cellsA (fun x => [.int .u8 x]) (Vector.replicate 8 0)).toArray 103 ∧ (digest_of_j4 x49).run n = some y) ?_ ?_
 ·
  refine wp_seq ?_
  refine' region [_] mixed hA (.cons (fun _ _ hE hK hg => ok_move rfl) .nil) ?zok14 ?zgd14 ?zk14
  case zok14 | zgd14 => kernel_rfl
  intro a17 w17 hA hE HF
  replace q2 := kn (HF 2) rfl q2
  replace q3 := kn (HF 3) rfl q3
  replace q4 := kn (HF 4) rfl q4
  replace q9 := kn (HF 9) rfl q9
  have q40 := ksv (HF 40) rfl rfl rfl
  clear HF
  replace f5 := f5.ext hE
  replace f36 := f36.ext hE
  replace hB := Base.step hB hE hO; clear hE
  refine li_nil (nx_then (wp_block ?_))
  obtain ⟨e5, he5, hk5⟩ := Comp.run_bind h; clear h
  refine loop_m (fun m a w => ∃ (O39 : Tags) (x37 : Int) (x38 : Vector Int 8), a.fit 62 ∧ Base (Fr w0) O w0 O39 w ∧ a.get 2 = .pointer (some ⟨b4, 0, none⟩) ∧ a.get 3 = .int .u64 x29 ∧ a.get 4 = .int .u64 x30 ∧ a.get 9 = .pointer (some ⟨b35, 0, none⟩) ∧ a.get 40 = .int .i64 x37 ∧ OwnB 2 (Fr w0) O39 w b35 (cellsA (fun x => [.int .u8 x]) x38).toArray 103 ∧ OwnB 1 (Fr w0) O39 w b4 (cellsA (fun x => [.int .u8 x]) (Vector.replicate 8 0)).toArray 103 ∧ Comp.loopN (fun s => digest_of_l5 x29 x30 s.1 s.2) n m (x37, x38) = some e5) (m := n) ?st5 ?_
  case st5 =>
   exact ⟨_, _, _, hA, hB, q2, q3, q4, q9, q40, f36, f5, Comp.run_loop he5⟩
  intro m_ a18 w18 hI
  clear hA hB he5 q2 q3 q4 q9 q40 f36 f5
  obtain ⟨O39, x37, x38, hA, hB, q2, q3, q4, q9, q40, f36, f5, hl⟩ := hI
  obtain ⟨m5, hlt5, st5, h, hnext5, hdone5⟩ := Comp.loopN_succ hl; clear hl
  replace h : (digest_of_l5 x29 x30 x37 x38).run n = some st5 := h
  unfold digest_of_l5 at h
  refine wp_seq ?_
  refine' region [_] mixed hA (.cons (fun _ _ hE hK hg => ok_lss (kn (hK 40 rfl) rfl q40) rfl) .nil) ?zok15 ?zgd15 ?zk15
  case zok15 | zgd15 => kernel_rfl
  intro a19 w19 hA hE HF
  replace q2 := kn (HF 2) rfl q2
  replace q3 := kn (HF 3) rfl q3
  replace q4 := kn (HF 4) rfl q4
  replace q9 := kn (HF 9) rfl q9
  replace q40 := kn (HF 40) rfl q40
  have q41 := ksv (HF 41) rfl rfl rfl
  clear HF
  replace f5 := f5.ext hE
  replace f36 := f36.ext hE
  replace hB := Base.step hB hE hO; clear hE
  refine li_nil (nx_then (wp_seq ?_))
  refine wp_cond_b q41 (fun hc => ?_) (fun hc => ?_)
  ·
   replace h := Comp.run_b_t hc h; clear hc
   refine wp_skip (nx_then (wp_seq (wp_block (wp_seq ?_))))
   refine' region [_, _] mixed hA (.cons (fun _ _ hE hK hg => ok_move (kn (hK 40 rfl) rfl q40)) (.cons (fun _ _ hE hK hg => ok_assign (ksv (j := 0) (hK 42 rfl) rfl rfl rfl)) .nil)) ?zok16 ?zgd16 ?zk16
   case zok16 | zgd16 => kernel_rfl
   intro a20 w20 hA hE HF
   replace q2 := kn (HF 2) rfl q2
   replace q3 := kn (HF 3) rfl q3
   replace q4 := kn (HF 4) rfl q4
   replace q9 := kn (HF 9) rfl q9
   have q10 := ksv (HF 10) rfl rfl rfl
   replace q40 := kn (HF 40) rfl q40
   clear q41
   clear HF
   replace f5 := f5.ext hE
   replace f36 := f36.ext hE
   replace hB := Base.step hB hE hO; clear hE
   refine li_nil (nx_then ?_)
   obtain ⟨x40, hx40, h⟩ := Comp.run_bind h
   obtain ⟨x41, hx41, h⟩ := Comp.run_bind h
   obtain ⟨x42, hx42, h⟩ := Comp.run_bind h
   obtain ⟨x43, hx43, h⟩ := Comp.run_bind h
   obtain ⟨x44, hx44, h⟩ := Comp.run_bind h
   obtain ⟨x45, hx45, h⟩ := Comp.run_bind h
   obtain ⟨J_, eJ_⟩ : ∃ J_ : (Nat → Bool) → Act → World → Prop, J_ = (fun S_ a_ w_ => ∃ O_ : Tags, Base (Fr w0) O w0 O_ w_ ∧ Keep 0 O39 w20 O_ w_ ∧ Keep 1 O39 w20 O_ w_ ∧ (S_ 16 = false → OwnB 2 (Fr w0) O_ w_ b35 (cellsA (fun x => [.int .u8 x]) x38).toArray 103) ∧ (S_ 16 = true → S_ 18 = false → OwnB 2 (Fr w0) O_ w_ b35 (cellsA (fun x => [.int .u8 x]) x43).toArray 103) ∧ (S_ 18 = true → OwnB 2 (Fr w0) O_ w_ b35 (cellsA (fun x => [.int .u8 x]) x45).toArray 103)) := ⟨_, rfl⟩
   have T_ : ∀ {i_ : Nat} {d_ : Option Tmp} {v_ : Value} {S_ a' w' w2}, Nat.beq 16 i_ = false → Nat.beq 18 i_ = false → Ext w' w2 → J_ S_ a' w' → J_ (addS S_ i_) (a'.put d_ v_) w2 := by
    subst eJ_; intro i_ d_ v_ S_ a' w' w2 n16_ n18_ hE hJ_
    obtain ⟨O_, hB_, k0_, kk0_, v1_0_, v1_1_, v1_2_⟩ := hJ_
    exact ⟨O_, (Base.step hB_ hE hO), (k0_.trans (KX.keep (KX.ext hE) (by decide))), (kk0_.trans (KX.keep (KX.ext hE) (by decide))), fun hq_ => OwnB.kx (v1_0_ (addS_no hq_)) (KX.ext hE) (by decide), fun hp_ hq_ => OwnB.kx (v1_1_ (addS_off n16_ hp_) (addS_no hq_)) (KX.ext hE) (by decide), fun hp_ => OwnB.kx (v1_2_ (addS_off n18_ hp_)) (KX.ext hE) (by decide)⟩
   refine' regionX (draw := true) J_ [SP.isv (.int .i64 x37), SP.isv (.int .i64 x37), SP.isv (.int .i64 (IntKind.wrap .i64 (4 + x37))), SP.isv (.int .u64 x29), SP.isv (.int .i64 x37), SP.isv (.int .i64 (IntKind.wrap .i64 (8 * x37))), SP.isv (.int .i64 (IntKind.wrap .i64 (24 - (IntKind.wrap .i64 (8 * x37))))), SP.isv (.int .u64 (shrF .u64 x29 (IntKind.wrap .i64 (24 - (IntKind.wrap .i64 (8 * x37)))))), SP.isv (.int .u8 (IntKind.wrap .u8 (shrF .u64 x29 (IntKind.wrap .i64 (24 - (IntKind.wrap .i64 (8 * x37))))))), SP.isv (.int .u64 x30), SP.isv (.int .i64 x37), SP.isv (.int .i64 (IntKind.wrap .i64 (8 * x37))), SP.isv (.int .i64 (IntKind.wrap .i64 (24 - (IntKind.wrap .i64 (8 * x37))))), SP.isv (.int .u64 (shrF .u64 x30 (IntKind.wrap .i64 (24 - (IntKind.wrap .i64 (8 * x37)))))), SP.isv (.int .u8 (IntKind.wrap .u8 (shrF .u64 x30 (IntKind.wrap .i64 (24 - (IntKind.wrap .i64 (8 * x37))))))), SP.isv (.pointer (some ⟨b35, 0 + Int.toNat (x37) * 1, none⟩)), SP.tt, SP.isv (.pointer (some ⟨b35, 0 + Int.toNat ((IntKind.wrap .i64 (4 + x37))) * 1, none⟩)), SP.tt] mixed hA (.cons (stE_isv _) (.cons (stE_isv _) (.cons (stE_isv _) (.cons (stE_isv _) (.cons (stE_isv _) (.cons (stE_isv _) (.cons (stE_isv _) (.cons (stE_isv _) (.cons (stE_isv _) (.cons (stE_isv _) (.cons (stE_isv _) (.cons (stE_isv _) (.cons (stE_isv _) (.cons (stE_isv _) (.cons (stE_isv _) (.cons (stE_isv _) (.cons (stE_tt _) (.cons (stE_isv _) (.cons (stE_tt _) .nil))))))))))))))))))) (.cons ?z17_0 (.cons ?z17_1 (.cons ?z17_2 (.cons ?z17_3 (.cons ?z17_4 (.cons ?z17_5 (.cons ?z17_6 (.cons ?z17_7 (.cons ?z17_8 (.cons ?z17_9 (.cons ?z17_10 (.cons ?z17_11 (.cons ?z17_12 (.cons ?z17_13 (.cons ?z17_14 (.cons ?z17_15 (.cons ?z17_16 (.cons ?z17_17 (.cons ?z17_18 .nil))))))))))))))))))) ?zsk17 ?zst17 ?zok17 ?zgd17 ?zk17
   case z17_0 =>
    intro S_ a' w' hA_ hJ_ hS_ hafter_ hbef_ hK hg K_ Q_ hK_
    refine x_ok (φ := SP.isv (.int .i64 x37)) (by exact ok_move (kn (hK 10 rfl) rfl q10)) fun v_ w2 hE hv_ => hK_ v_ w2 (T_ rfl rfl hE hJ_) hv_
   case z17_1 =>
    intro S_ a' w' hA_ hJ_ hS_ hafter_ hbef_ hK hg K_ Q_ hK_
    refine x_ok (φ := SP.isv (.int .i64 x37)) (by exact ok_move (kn (hK 10 rfl) rfl q10)) fun v_ w2 hE hv_ => hK_ v_ w2 (T_ rfl rfl hE hJ_) hv_
   case z17_2 =>
    intro S_ a' w' hA_ hJ_ hS_ hafter_ hbef_ hK hg K_ Q_ hK_
    refine x_ok (φ := SP.isv (.int .i64 (IntKind.wrap .i64 (4 + x37)))) (by exact ok_add rfl (ksv (j := 1) (hK 44 rfl) rfl rfl rfl)) fun v_ w2 hE hv_ => hK_ v_ w2 (T_ rfl rfl hE hJ_) hv_
   case z17_3 =>
    intro S_ a' w' hA_ hJ_ hS_ hafter_ hbef_ hK hg K_ Q_ hK_
    refine x_ok (φ := SP.isv (.int .u64 x29)) (by exact ok_move (kn (hK 3 rfl) rfl q3)) fun v_ w2 hE hv_ => hK_ v_ w2 (T_ rfl rfl hE hJ_) hv_
   case z17_4 =>
    intro S_ a' w' hA_ hJ_ hS_ hafter_ hbef_ hK hg K_ Q_ hK_
    refine x_ok (φ := SP.isv (.int .i64 x37)) (by exact ok_move (kn (hK 10 rfl) rfl q10)) fun v_ w2 hE hv_ => hK_ v_ w2 (T_ rfl rfl hE hJ_) hv_
   case z17_5 =>
    intro S_ a' w' hA_ hJ_ hS_ hafter_ hbef_ hK hg K_ Q_ hK_
    refine x_ok (φ := SP.isv (.int .i64 (IntKind.wrap .i64 (8 * x37)))) (by exact ok_mul rfl (ksv (j := 4) (hK 47 rfl) rfl rfl rfl)) fun v_ w2 hE hv_ => hK_ v_ w2 (T_ rfl rfl hE hJ_) hv_
   case z17_6 =>
    intro S_ a' w' hA_ hJ_ hS_ hafter_ hbef_ hK hg K_ Q_ hK_
    refine x_ok (φ := SP.isv (.int .i64 (IntKind.wrap .i64 (24 - (IntKind.wrap .i64 (8 * x37)))))) (by exact ok_sub rfl (ksv (j := 5) (hK 48 rfl) rfl rfl rfl)) fun v_ w2 hE hv_ => hK_ v_ w2 (T_ rfl rfl hE hJ_) hv_
   case z17_7 =>
    intro S_ a' w' hA_ hJ_ hS_ hafter_ hbef_ hK hg K_ Q_ hK_
    refine x_ok (φ := SP.isv (.int .u64 (shrF .u64 x29 (IntKind.wrap .i64 (24 - (IntKind.wrap .i64 (8 * x37))))))) (by exact okl_shr (ksv (j := 3) (hK 46 rfl) rfl rfl rfl) (ksv (j := 6) (hK 49 rfl) rfl rfl rfl) (run_nonneg hx40)) fun v_ w2 hE hv_ => hK_ v_ w2 (T_ rfl rfl hE hJ_) hv_
   case z17_8 =>
    intro S_ a' w' hA_ hJ_ hS_ hafter_ hbef_ hK hg K_ Q_ hK_
    refine x_ok (φ := SP.isv (.int .u8 (IntKind.wrap .u8 (shrF .u64 x29 (IntKind.wrap .i64 (24 - (IntKind.wrap .i64 (8 * x37)))))))) (by exact ok_convI ty122 ty5 (ksv (j := 7) (hK 50 rfl) rfl rfl rfl)) fun v_ w2 hE hv_ => hK_ v_ w2 (T_ rfl rfl hE hJ_) hv_
   case z17_9 =>
    intro S_ a' w' hA_ hJ_ hS_ hafter_ hbef_ hK hg K_ Q_ hK_
    refine x_ok (φ := SP.isv (.int .u64 x30)) (by exact ok_move (kn (hK 4 rfl) rfl q4)) fun v_ w2 hE hv_ => hK_ v_ w2 (T_ rfl rfl hE hJ_) hv_
   case z17_10 =>
    intro S_ a' w' hA_ hJ_ hS_ hafter_ hbef_ hK hg K_ Q_ hK_
    refine x_ok (φ := SP.isv (.int .i64 x37)) (by exact ok_move (kn (hK 10 rfl) rfl q10)) fun v_ w2 hE hv_ => hK_ v_ w2 (T_ rfl rfl hE hJ_) hv_
   case z17_11 =>
    intro S_ a' w' hA_ hJ_ hS_ hafter_ hbef_ hK hg K_ Q_ hK_
    refine x_ok (φ := SP.isv (.int .i64 (IntKind.wrap .i64 (8 * x37)))) (by exact ok_mul rfl (ksv (j := 10) (hK 53 rfl) rfl rfl rfl)) fun v_ w2 hE hv_ => hK_ v_ w2 (T_ rfl rfl hE hJ_) hv_
   case z17_12 =>
    intro S_ a' w' hA_ hJ_ hS_ hafter_ hbef_ hK hg K_ Q_ hK_
    refine x_ok (φ := SP.isv (.int .i64 (IntKind.wrap .i64 (24 - (IntKind.wrap .i64 (8 * x37)))))) (by exact ok_sub rfl (ksv (j := 11) (hK 54 rfl) rfl rfl rfl)) fun v_ w2 hE hv_ => hK_ v_ w2 (T_ rfl rfl hE hJ_) hv_
   case z17_13 =>
    intro S_ a' w' hA_ hJ_ hS_ hafter_ hbef_ hK hg K_ Q_ hK_
    refine x_ok (φ := SP.isv (.int .u64 (shrF .u64 x30 (IntKind.wrap .i64 (24 - (IntKind.wrap .i64 (8 * x37))))))) (by exact okl_shr (ksv (j := 9) (hK 52 rfl) rfl rfl rfl) (ksv (j := 12) (hK 55 rfl) rfl rfl rfl) (run_nonneg hx41)) fun v_ w2 hE hv_ => hK_ v_ w2 (T_ rfl rfl hE hJ_) hv_
   case z17_14 =>
    intro S_ a' w' hA_ hJ_ hS_ hafter_ hbef_ hK hg K_ Q_ hK_
    refine x_ok (φ := SP.isv (.int .u8 (IntKind.wrap .u8 (shrF .u64 x30 (IntKind.wrap .i64 (24 - (IntKind.wrap .i64 (8 * x37)))))))) (by exact ok_convI ty122 ty5 (ksv (j := 13) (hK 56 rfl) rfl rfl rfl)) fun v_ w2 hE hv_ => hK_ v_ w2 (T_ rfl rfl hE hJ_) hv_
   case z17_15 =>
    intro S_ a' w' hA_ hJ_ hS_ hafter_ hbef_ hK hg K_ Q_ hK_
    refine x_ok (φ := SP.isv (.pointer (some ⟨b35, 0 + Int.toNat (x37) * 1, none⟩))) (by exact ok_idxOwnArr ty103 ty5 (kn (hK 9 rfl) rfl q9) (ksv (j := 0) (hK 43 rfl) rfl rfl rfl) (vidx_lt hx42)) fun v_ w2 hE hv_ => hK_ v_ w2 (T_ rfl rfl hE hJ_) hv_
   case z17_16 =>
    intro S_ a' w' hA_ hJ_ hS_ hafter_ hbef_ hK hg K_ Q_ hK_
    subst eJ_
    obtain ⟨O_, hB_, k0_, kk0_, v1_0_, v1_1_, v1_2_⟩ := hJ_
    refine x_storeSub (vs := [.int .u8 (IntKind.wrap .u8 (shrF .u64 x29 (IntKind.wrap .i64 (24 - (IntKind.wrap .i64 (8 * x37))))))]) (cs' := (cellsA (fun x => [.int .u8 x]) x43).toArray) hO hB_ (okB_fr hB_) ty5 (ksv (j := 15) (hK 58 rfl) rfl rfl rfl) (ksv (j := 8) (hK 51 rfl) rfl rfl rfl) rfl (by simp [Value.oneCell']) (v1_0_ hS_) (arr_bnd (f := (fun x => [.int .u8 x])) (k := 1) (off := 0) (y := (IntKind.wrap .u8 (shrF .u64 x29 (IntKind.wrap .i64 (24 - (IntKind.wrap .i64 (8 * x37))))))) (x := x38) (l1 := []) (l2 := []) (fun _ => rfl) (run_vupd hx43).1 rfl (by simp)) (arr_spl (f := (fun x => [.int .u8 x])) (k := 1) (off := 0) (y := (IntKind.wrap .u8 (shrF .u64 x29 (IntKind.wrap .i64 (24 - (IntKind.wrap .i64 (8 * x37))))))) (l1 := []) (l2 := []) (fun _ => rfl) hx43 rfl (by simp) (by simp)) fun w2 f_ hB2_ hX_ => ?_
    exact hK_ undef w2 ⟨O_, hB2_, (k0_.trans (KX.keep hX_ (by decide))), (kk0_.trans (KX.keep hX_ (by decide))), fun hq_ => addS_me hq_, fun hp_ hq_ => f_, fun hp_ => no_tf (addS_off rfl hp_) (hafter_ 18 (by kernel_rfl))⟩ trivial
   case z17_17 =>
    intro S_ a' w' hA_ hJ_ hS_ hafter_ hbef_ hK hg K_ Q_ hK_
    refine x_ok (φ := SP.isv (.pointer (some ⟨b35, 0 + Int.toNat ((IntKind.wrap .i64 (4 + x37))) * 1, none⟩))) (by exact ok_idxOwnArr ty103 ty5 (kn (hK 9 rfl) rfl q9) (ksv (j := 2) (hK 45 rfl) rfl rfl rfl) (vidx_lt hx44)) fun v_ w2 hE hv_ => hK_ v_ w2 (T_ rfl rfl hE hJ_) hv_
   case z17_18 =>
    intro S_ a' w' hA_ hJ_ hS_ hafter_ hbef_ hK hg K_ Q_ hK_
    subst eJ_
    obtain ⟨O_, hB_, k0_, kk0_, v1_0_, v1_1_, v1_2_⟩ := hJ_
    refine x_storeSub (vs := [.int .u8 (IntKind.wrap .u8 (shrF .u64 x30 (IntKind.wrap .i64 (24 - (IntKind.wrap .i64 (8 * x37))))))]) (cs' := (cellsA (fun x => [.int .u8 x]) x45).toArray) hO hB_ (okB_fr hB_) ty5 (ksv (j := 17) (hK 59 rfl) rfl rfl rfl) (ksv (j := 14) (hK 57 rfl) rfl rfl rfl) rfl (by simp [Value.oneCell']) (v1_1_ (addS_off rfl (hbef_ 16 (by kernel_rfl))) hS_) (arr_bnd (f := (fun x => [.int .u8 x])) (k := 1) (off := 0) (y := (IntKind.wrap .u8 (shrF .u64 x30 (IntKind.wrap .i64 (24 - (IntKind.wrap .i64 (8 * x37))))))) (x := x43) (l1 := []) (l2 := []) (fun _ => rfl) (run_vupd hx45).1 rfl (by simp)) (arr_spl (f := (fun x => [.int .u8 x])) (k := 1) (off := 0) (y := (IntKind.wrap .u8 (shrF .u64 x30 (IntKind.wrap .i64 (24 - (IntKind.wrap .i64 (8 * x37))))))) (l1 := []) (l2 := []) (fun _ => rfl) hx45 rfl (by simp) (by simp)) fun w2 f_ hB2_ hX_ => ?_
    exact hK_ undef w2 ⟨O_, hB2_, (k0_.trans (KX.keep hX_ (by decide))), (kk0_.trans (KX.keep hX_ (by decide))), fun hq_ => no_tf (hbef_ 16 (by kernel_rfl)) hq_, fun hp_ hq_ => addS_me hq_, fun hp_ => f_⟩ trivial
   case zsk17 =>
    subst eJ_
    intro i_ o_ S_ a_ w_ ho_ hact_ hA_ hS_ hbef_ hJ_
    obtain ⟨O_, hB_, k0_, kk0_, v1_0_, v1_1_, v1_2_⟩ := hJ_
    exact ⟨O_, hB_, k0_, kk0_, fun hq_ => (v1_0_ (addS_no hq_)), fun hp_ hq_ => by obtain ⟨h1_, h2_⟩ := skip_off (j := 16) hact_ rfl hp_; exact (v1_1_ h1_ (addS_no hq_)), fun hp_ => by obtain ⟨h1_, h2_⟩ := skip_off (j := 18) hact_ rfl hp_; exact (v1_2_ h1_)⟩
   case zst17 => subst eJ_; exact fun w1_ hE_ => ⟨O39, (Base.step hB hE_ hO), (Keep.ext hE_), (Keep.ext hE_), fun _ => OwnB.ext f36 hE_, fun hp_ => no_ft hp_, fun hp_ => no_ft hp_⟩
   case zok17 | zgd17 => kernel_rfl
   subst eJ_; clear T_
   intro a21 w21 hA HF hJ_
   obtain ⟨O46, hB_, k0_, kk0_, v1_0_, v1_1_, v1_2_⟩ := hJ_
   replace q2 := kn (HF 2) rfl q2
   replace q3 := kn (HF 3) rfl q3
   replace q4 := kn (HF 4) rfl q4
   replace q9 := kn (HF 9) rfl q9
   replace q40 := kn (HF 40) rfl q40
   clear q10
   clear HF
   replace f5 := OwnB.keep f5 kk0_
   have f47 := (v1_2_ rfl)
   clear f36
   clear hB; have hB := hB_; clear hB_
   clear k0_ kk0_ v1_0_ v1_1_ v1_2_
   refine nx_blk (nx_then ?_)
   refine' region [_, _] mixed hA (.cons (fun _ _ hE hK hg => ok_add (kn (hK 40 rfl) rfl q40) rfl) (.cons (fun _ _ hE hK hg => ok_move (ksv (j := 0) (hK 60 rfl) rfl rfl rfl)) .nil)) ?zok18 ?zgd18 ?zk18
   case zok18 | zgd18 => kernel_rfl
   intro a22 w22 hA hE HF
   replace q2 := kn (HF 2) rfl q2
   replace q3 := kn (HF 3) rfl q3
   replace q4 := kn (HF 4) rfl q4
   replace q9 := kn (HF 9) rfl q9
   have q40' := ksv (HF 40) rfl rfl rfl
   replace q40 := q40'; clear q40'
   clear HF
   replace f5 := f5.ext hE
   replace f47 := f47.ext hE
   replace hB := Base.step hB hE hO; clear hE
   refine li_nil (nx_then ?_)
   have h := hnext5 _ (Comp.run_pure h).symm
   refine ⟨m5, hlt5, ?_⟩
   exact ⟨_, _, _, hA, hB, q2, q3, q4, q9, q40, f47, f5, h⟩
  ·
   replace h := Comp.run_b_f hc h; clear hc
   refine wp_exit (ex_then (ex_then (ex_same ?_)))
   have hd_ := hdone5 _ (Comp.run_pure h).symm; clear h
   subst hd_; have h := hk5; clear hk5; try dsimp only at h
   refine nx_then ?_
   exact ⟨_, _, hA, hB, q2, q9, f36, f5, h⟩
 intro a23 w23 hI
 clear hA hB h q2 q3 q4 q9 f36 f5
 obtain ⟨O50, x49, hA, hB, q2, q9, f36, f5, h⟩ := hI
 unfold digest_of_j4 at h
 refine wp_seq ?_
 refine' regionT [SP.isv (.agg (cellsA (fun x => [.int .u8 x]) x49).toArray)] hA (.cons (fun _ _ hE hK hg => ok_loadOwnAgg ty103 rfl (kn (hK 9 rfl) rfl q9) (OwnB.ext f36 hE).own (by simp [cellsA_len (f := (fun x => [.int .u8 x])) (k := 1) (fun _ => rfl)])) .nil) ?zok19 ?zgd19 ?zk19
 case zok19 | zgd19 => kernel_rfl
 intro a24 w24 hA hE HF
 replace q2 := kn (HF 2) rfl q2
 have q61 := ksv (HF 61) rfl rfl rfl
 clear q9
 clear HF
 replace f5 := f5.ext hE
 replace f36 := f36.ext hE
 replace hB := Base.step hB hE hO; clear hE
 refine l_storeSub (vs := (cellsA (fun x => [.int .u8 x]) x49)) (cs' := (cellsA (fun x => [.int .u8 x]) x49).toArray) hO hB (okB_fr hB) (ty103.szr (by simp [cellsA_len (f := (fun x => [.int .u8 x])) (k := 1) (fun _ => rfl)])) q2 q61 rfl ((show ∀ x_ : Vector Int 8, ∀ c_ ∈ (cellsA (fun x => [.int .u8 x]) x_), c_.oneCell' = true from (fun _ => (cellsA_one (fun _ => by simp [Value.oneCell']) _))) x49) f5 (by simp [cellsA_len (f := (fun x => [.int .u8 x])) (k := 1) (fun _ => rfl)]) (splice_all (by simp [cellsA_len (f := (fun x => [.int .u8 x])) (k := 1) (fun _ => rfl)])) fun w25 f51 hB' hX => ?_
 clear hB f5; have hB := hB'; clear hB'
 clear hX
 refine li_nil (nx_then (wp_ret ?_))
 have h := Comp.run_pure h; subst h
 exact retG1 Try.results118 hA (.agg q2 ty103 rfl (by simp [cellsA_len (f := (fun x => [.int .u8 x])) (k := 1) (fun _ => rfl)]) f51.own) ⟨_, rfl, hB.ext, rfl⟩
theorem ok_strings_Clone {O : Tags} {w0 : World} (hO : OkO O w0) {x_0 : Bytes} {n : Nat} {y : Bytes} (h : (strings_Clone x_0).run n = some y) : Pure Try.prog 128 #[.string (str x_0)] w0 (SP.isv (.string (str y))).holds := by
 unfold strings_Clone at h
 refine pure_of_wp Try.func128 rfl 5 Try.ntmps128 (by simp) fun a0 hA hs0 => ?_
 have q0 : a0.get 0 = .string (str x_0) := hs0 0 _ rfl
 clear hs0
 have hB : Base (Fr w0) O w0 O w0 := Base.start hO
 refine wp_seq ?_
 refine' region [_] mixed hA (.cons (fun _ _ hE hK hg => ok_assign rfl) .nil) ?zok1 ?zgd1 ?zk1
 case zok1 | zgd1 => kernel_rfl
 intro a1 w1 hA hE HF
 replace q0 := kn (HF 0) rfl q0
 clear HF
 replace hB := Base.step hB hE hO; clear hE
 refine li_nil (nx_then (wp_seq ?_))
 obtain ⟨x1, hx1, h⟩ := Comp.run_bind h
 refine' region [_, SP.isv (.string (str x1)), _] mixed hA (.cons (fun _ _ hE hK hg => ok_move (kn (hK 0 rfl) rfl q0)) (.cons ?z2_1 (.cons (fun _ _ hE hK hg => ok_assign (ksv (j := 1) (hK 4 rfl) rfl rfl rfl)) .nil))) ?zok2 ?zgd2 ?zk2
 case z2_1 => intro a' w' hE hK hg; have c_ := m_clone Try.stringslite_Clone (OkO.ext hB.ok hE)  hx1; exact ok_call1 fn139 (ksv (j := 0) (hK 3 rfl) rfl rfl rfl) c_
 case zok2 | zgd2 => kernel_rfl
 intro a2 w2 hA hE HF
 have q2 := ksv (HF 2) rfl rfl rfl
 clear q0
 clear HF
 replace hB := Base.step hB hE hO; clear hE
 refine li_nil (nx_then (wp_ret ?_))
 have h := Comp.run_pure h; subst h
 exact retPure Try.results128 hA q2 hB.ext rfl
theorem ok_digest_digest_text {O : Tags} {w0 : World} (hO : OkO O w0) {x_0 : Vector Int 8} {n : Nat} {y : Bytes} (h : (digest_digest_text x_0).run n = some y) : Pure Try.prog 97 #[.agg (cellsA (fun x => [.int .u8 x]) x_0).toArray] w0 (SP.isv (.string (str y))).holds := by
 unfold digest_digest_text at h
 refine pure_of_wp Try.func97 rfl 6 Try.ntmps97 (by simp) fun a0 hA hs0 => ?_
 have q0 : a0.get 0 = .agg (cellsA (fun x => [.int .u8 x]) x_0).toArray := hs0 0 _ rfl
 clear hs0
 have hB : Base (Fr w0) O w0 O w0 := Base.start hO
 refine wp_seq ?_
 refine' region [SP.vl (rBox (rVec 8 1 (fun x => [.int .u8 x]) (fun _ => rfl) (fun _ => by simp [Value.oneCell']))) O x_0, _] mixed hA (.cons ?z1_0 (.cons (fun _ _ hE hK hg => ok_assign rfl) .nil)) ?zok1 ?zgd1 ?zk1
 case z1_0 => intro a' w' hE hK hg; exact okl_boxV (r := (rVec 8 1 (fun x => [.int .u8 x]) (fun _ => rfl) (fun _ => by simp [Value.oneCell']))) (by intro h; cases h) (OkO.ext hB.ok hE) (kn (hK 0 rfl) rfl q0) (by first | exact (rC_v (x := x_0)).2 rfl | exact ⟨_, rfl, rfl⟩)
 case zok1 | zgd1 => kernel_rfl
 intro a1 w1 hA hE HF
 have f2 := ksp (HF 1) rfl rfl rfl
 obtain ⟨u1, q1'⟩ : ∃ u, a1.get 1 = u := ⟨_, rfl⟩
 rw [q1'] at f2
 have q1 := q1'; clear q1'
 clear q0
 clear HF
 replace hB := Base.step hB hE hO; clear hE
 refine li_nil (nx_then (wp_seq ?_))
 obtain ⟨x3, hx3, h⟩ := Comp.run_bind h
 obtain ⟨x4, hx4, h⟩ := Comp.run_bind h
 refine' region [SP.vl (rSl (rInt .u8)) O x_0.toList, SP.isv (.string (str x3)), SP.isv (.string (str x4)), _] mixed hA (.cons (fun _ _ hE hK hg => okl_sliceArr (r := (rInt .u8)) (f := (fun x => [.int .u8 x])) (hl := (fun _ => rfl)) (ho := (fun _ => by simp [Value.oneCell'])) (fun _ => rfl) rfl (fun _ _ _ => rfl) ty103 ty5 (kn (hK 1 rfl) rfl q1) (GR.v_ext _ f2 hE)) (.cons (fun _ _ hE hK hg => okl_bytesToStr ty104 ty5 ty9 rfl (rd_of (kspS (φ := SP.vl (rSl (rInt .u8)) O x_0.toList) (j := 0) (hK 3 rfl) rfl rfl rfl)) hx3) (.cons ?z2_2 (.cons (fun _ _ hE hK hg => ok_assign (ksv (j := 2) (hK 5 rfl) rfl rfl rfl)) .nil)))) ?zok2 ?zgd2 ?zk2
 case z2_2 => intro a' w' hE hK hg; have c_ := ok_strings_Clone (OkO.ext hB.ok hE)  hx4; exact ok_call1 fn128 (ksv (j := 1) (hK 4 rfl) rfl rfl rfl) c_
 case zok2 | zgd2 => kernel_rfl
 intro a2 w2 hA hE HF
 have q2 := ksv (HF 2) rfl rfl rfl
 clear q1
 clear HF
 replace f2 := GR.v_ext _ f2 hE
 replace hB := Base.step hB hE hO; clear hE
 refine li_nil (nx_then (wp_ret ?_))
 have h := Comp.run_pure h; subst h
 exact retPure Try.results97 hA q2 hB.ext rfl
theorem ok_digest_Chain {O : Tags} {w0 : World} (hO : OkO O w0) {x_0 : Bytes} {x_1 : Bytes} {n : Nat} {y : Bytes} (h : (digest_Chain x_0 x_1).run n = some y) : Pure Try.prog 98 #[.string (str x_0), .string (str x_1)] w0 (SP.isv (.string (str y))).holds := by
 unfold digest_Chain at h
 refine pure_of_wp Try.func98 rfl 12 Try.ntmps98 (by simp) fun a0 hA hs0 => ?_
 have q0 : a0.get 0 = .string (str x_0) := hs0 0 _ rfl
 have q1 : a0.get 1 = .string (str x_1) := hs0 1 _ rfl
 clear hs0
 have hB : Base (Fr w0) O w0 O w0 := Base.start hO
 refine wp_seq ?_
 refine' region [_] mixed hA (.cons (fun _ _ hE hK hg => ok_assign rfl) .nil) ?zok1 ?zgd1 ?zk1
 case zok1 | zgd1 => kernel_rfl
 intro a1 w1 hA hE HF
 replace q0 := kn (HF 0) rfl q0
 replace q1 := kn (HF 1) rfl q1
 clear HF
 replace hB := Base.step hB hE hO; clear hE
 refine li_nil (nx_then (wp_seq ?_))
 obtain ⟨x1, hx1, h⟩ := Comp.run_bind h
 obtain ⟨x2, hx2, h⟩ := Comp.run_bind h
 obtain ⟨x3, hx3, h⟩ := Comp.run_bind h
 refine' region [_, SP.isv (.string (str x1)), _, _, SP.vl (rSl rStr) O [[4], x1, x_0, x_1], SP.isv (.agg (cellsA (fun x => [.int .u8 x]) x2).toArray), SP.isv (.string (str x3)), _] mixed hA (.cons (fun _ _ hE hK hg => ok_move (kn (hK 0 rfl) rfl q0)) (.cons ?z2_1 (.cons (fun _ _ hE hK hg => ok_move (kn (hK 0 rfl) rfl q0)) (.cons (fun _ _ hE hK hg => ok_move (kn (hK 1 rfl) rfl q1)) (.cons (fun _ _ hE hK hg => okl_buildSliceV (r := rStr) (fun _ => rfl) rfl (OkO.ext hB.ok hE) ty28 ty9 (parts_cons rfl (parts_cons (ksv (j := 1) (hK 6 rfl) rfl rfl rfl) (parts_cons (ksv (j := 2) (hK 7 rfl) rfl rfl rfl) (parts_cons (ksv (j := 3) (hK 8 rfl) rfl rfl rfl) parts_nil)))) ⟨(by exact rStr_v.2 rfl), ⟨(by exact rStr_v.2 rfl), ⟨(by exact rStr_v.2 rfl), ⟨(by exact rStr_v.2 rfl), trivial⟩⟩⟩⟩ rfl (by decide)) (.cons ?z2_5 (.cons ?z2_6 (.cons (fun _ _ hE hK hg => ok_assign (ksv (j := 6) (hK 11 rfl) rfl rfl rfl)) .nil)))))))) ?zok2 ?zgd2 ?zk2
 case z2_1 => intro a' w' hE hK hg; have c_ := ok_digest_length (OkO.ext hB.ok hE)  hx1; exact ok_call1 fn119 (ksv (j := 0) (hK 5 rfl) rfl rfl rfl) c_
 case z2_5 => intro a' w' hE hK hg; have c_ := ok_digest_of (OkO.ext hB.ok hE) (kspS (φ := SP.vl (rSl rStr) O [[4], x1, x_0, x_1]) (j := 4) (hK 9 rfl) rfl rfl rfl) hx2; exact ok_call1 fn118 rfl c_
 case z2_6 => intro a' w' hE hK hg; have c_ := ok_digest_digest_text (OkO.ext hB.ok hE)  hx3; exact ok_call1 fn97 (ksv (j := 5) (hK 10 rfl) rfl rfl rfl) c_
 case zok2 | zgd2 => kernel_rfl
 intro a2 w2 hA hE HF
 have q4 := ksv (HF 4) rfl rfl rfl
 clear q0
 clear q1
 clear HF
 replace hB := Base.step hB hE hO; clear hE
 refine li_nil (nx_then (wp_ret ?_))
 have h := Comp.run_pure h; subst h
 exact retPure Try.results98 hA q4 hB.ext rfl
theorem ok_passport_link {O : Tags} {w0 : World} (hO : OkO O w0) {x_0 : aEn} {n : Nat} {y : Bytes} (h : (passport_link x_0).run n = some y) : Pure Try.prog 62 #[.agg #[.int .i64 x_0.Seq, .int .i64 x_0.Shop, .int .i64 x_0.Kind, .int .i64 x_0.Day, .int .i64 x_0.N, .string (str x_0.Before), .string (str x_0.After), .string (str x_0.Prev), .string (str x_0.Mark)]] w0 (SP.isv (.string (str y))).holds := by
 unfold passport_link at h
 refine pure_of_wp Try.func62 rfl 8 Try.ntmps62 (by simp) fun a0 hA hs0 => ?_
 have q0 : a0.get 0 = .agg #[.int .i64 x_0.Seq, .int .i64 x_0.Shop, .int .i64 x_0.Kind, .int .i64 x_0.Day, .int .i64 x_0.N, .string (str x_0.Before), .string (str x_0.After), .string (str x_0.Prev), .string (str x_0.Mark)] := hs0 0 _ rfl
 clear hs0
 have hB : Base (Fr w0) O w0 O w0 := Base.start hO
 refine wp_seq ?_
 refine' region [SP.vl (rBox r_aEn) O x_0, _] mixed hA (.cons ?z1_0 (.cons (fun _ _ hE hK hg => ok_assign rfl) .nil)) ?zok1 ?zgd1 ?zk1
 case z1_0 => intro a' w' hE hK hg; exact okl_boxV (r := r_aEn) fit_aEn (OkO.ext hB.ok hE) (kn (hK 0 rfl) rfl q0) (by first | exact (rC_v (x := x_0)).2 rfl | exact ⟨_, rfl, rfl⟩)
 case zok1 | zgd1 => kernel_rfl
 intro a1 w1 hA hE HF
 have f2 := ksp (HF 1) rfl rfl rfl
 obtain ⟨u1, q1'⟩ : ∃ u, a1.get 1 = u := ⟨_, rfl⟩
 rw [q1'] at f2
 have q1 := q1'; clear q1'
 clear q0
 clear HF
 replace hB := Base.step hB hE hO; clear hE
 refine li_nil (nx_then (wp_seq ?_))
 obtain ⟨x3, hx3, h⟩ := Comp.run_bind h
 obtain ⟨x4, hx4, h⟩ := Comp.run_bind h
 refine' region [SP.isv (.agg #[.int .i64 x_0.Seq, .int .i64 x_0.Shop, .int .i64 x_0.Kind, .int .i64 x_0.Day, .int .i64 x_0.N, .string (str x_0.Before), .string (str x_0.After), .string (str x_0.Prev), .string (str x_0.Mark)]), SP.isv (.string (str x3)), SP.ptr rStr O x_0.Mark, SP.isv (.string (str x_0.Mark)), SP.isv (.string (str x4)), _] mixed hA (.cons (fun _ _ hE hK hg => okl_ldr r_aEn fit_aEn ty26 rfl rfl (kn (hK 1 rfl) rfl q1) (ptr_of_box fit_aEn (GR.v_ext _ f2 hE)) (fun _ _ _ h => rC_v.1 h)) (.cons ?z2_1 (.cons (fun _ _ hE hK hg => okl_fldB (S := r_aEn) fit_aEn rfl (fun _ => rfl) sb_aEn_8 fl26_8 (kn (hK 1 rfl) rfl q1) (GR.v_ext _ f2 hE)) (.cons (fun _ _ hE hK hg => okl_ldr rStr (fun _ => rfl) ty9 rfl rfl rfl (kspS (φ := SP.ptr rStr O x_0.Mark) (j := 2) (hK 5 rfl) rfl rfl rfl) (fun _ _ _ h => rStr_v.1 h)) (.cons ?z2_4 (.cons (fun _ _ hE hK hg => ok_assign (ksv (j := 4) (hK 7 rfl) rfl rfl rfl)) .nil)))))) ?zok2 ?zgd2 ?zk2
 case z2_1 => intro a' w' hE hK hg; have c_ := ok_passport_Bytes (OkO.ext hB.ok hE)  hx3; exact ok_call1 fn17 (ksv (j := 0) (hK 3 rfl) rfl rfl rfl) c_
 case z2_4 => intro a' w' hE hK hg; have c_ := ok_digest_Chain (OkO.ext hB.ok hE)  hx4; exact ok_call2 fn98 (ksv (j := 1) (hK 4 rfl) rfl rfl rfl) (ksv (j := 3) (hK 6 rfl) rfl rfl rfl) c_
 case zok2 | zgd2 => kernel_rfl
 intro a2 w2 hA hE HF
 have q2 := ksv (HF 2) rfl rfl rfl
 clear q1
 clear HF
 replace f2 := GR.v_ext _ f2 hE
 replace hB := Base.step hB hE hO; clear hE
 refine li_nil (nx_then (wp_ret ?_))
 have h := Comp.run_pure h; subst h
 exact retPure Try.results62 hA q2 hB.ext rfl
theorem ok_passport_Next {O : Tags} {w0 : World} (hO : OkO O w0) {v_0 : Value} {x_0 : List aEn} (h_0 : (rSl r_aEn).v O w0 v_0 x_0) {x_1 : aEn} {n : Nat} {y : aEn} (h : (passport_Next x_0 x_1).run n = some y) : Pure Try.prog 21 #[v_0, .agg #[.int .i64 x_1.Seq, .int .i64 x_1.Shop, .int .i64 x_1.Kind, .int .i64 x_1.Day, .int .i64 x_1.N, .string (str x_1.Before), .string (str x_1.After), .string (str x_1.Prev), .string (str x_1.Mark)]] w0 (SP.isv (.agg #[.int .i64 y.Seq, .int .i64 y.Shop, .int .i64 y.Kind, .int .i64 y.Day, .int .i64 y.N, .string (str y.Before), .string (str y.After), .string (str y.Prev), .string (str y.Mark)])).holds := by
 unfold passport_Next at h
 refine pure_of_wp Try.func21 rfl 30 Try.ntmps21 (by simp) fun a0 hA hs0 => ?_
 have q0 : a0.get 0 = v_0 := hs0 0 _ rfl
 have q1 : a0.get 1 = .agg #[.int .i64 x_1.Seq, .int .i64 x_1.Shop, .int .i64 x_1.Kind, .int .i64 x_1.Day, .int .i64 x_1.N, .string (str x_1.Before), .string (str x_1.After), .string (str x_1.Prev), .string (str x_1.Mark)] := hs0 1 _ rfl
 clear hs0
 have hB : Base (Fr w0) O w0 O w0 := Base.start hO
 refine wp_seq ?_
 refine' regionT [SP.box w0.heap.size #[.int .i64 x_1.Seq, .int .i64 x_1.Shop, .int .i64 x_1.Kind, .int .i64 x_1.Day, .int .i64 x_1.N, .string (str x_1.Before), .string (str x_1.After), .string (str x_1.Prev), .string (str x_1.Mark)] 26] hA (.cons (fun _ _ hE hK hg => ok_box (v := .agg #[.int .i64 x_1.Seq, .int .i64 x_1.Shop, .int .i64 x_1.Kind, .int .i64 x_1.Day, .int .i64 x_1.N, .string (str x_1.Before), .string (str x_1.After), .string (str x_1.Prev), .string (str x_1.Mark)]) hE.size (kn (hK 1 rfl) rfl q1)) .nil) ?zok1 ?zgd1 ?zk1
 case zok1 | zgd1 => kernel_rfl
 intro a1 w1 hA hE HF
 replace q0 := kn (HF 0) rfl q0
 have f2 := ksp (HF 3) rfl rfl rfl
 obtain ⟨u1, q3'⟩ : ∃ u, a1.get 3 = u := ⟨_, rfl⟩
 rw [q3'] at f2
 have q3 := q3'; clear q3'
 clear q1
 clear HF
 obtain ⟨O3, b4, hB', hX, e_, f5⟩ := boxNew hO hB hE f2 1 (by decide)
 subst e_
 clear hB f2; have hB := hB'; clear hB'
 replace h_0 := GR.kx _ h_0 hX (by decide)
 clear hX hE
 refine l_ok (φ := SP.box w1.heap.size #[.int .i64 0, .int .i64 0, .int .i64 0, .int .i64 0, .int .i64 0, .string (str []), .string (str []), .string (str []), .string (str [])] 26) hO hB (by exact ok_alloc (Nat.le_refl _) ty26) rfl fun u6 w2 hE hB' f7 => ?_
 clear hB'; obtain ⟨O8, b10, hB', hX, e_, f9⟩ := boxNew hO hB hE f7 2 (by decide)
 subst e_; clear hB f7; have hB := hB'; clear hB'
 replace h_0 := GR.kx _ h_0 hX (by decide)
 replace f5 := f5.kx hX (by decide)
 clear hX hE
 refine put_cont hA (by decide) fun a3 hA q_ hfr => ?_
 replace q0 := (hfr 0 rfl).trans q0
 replace q3 := (hfr 3 rfl).trans q3
 have q4 := q_; clear q_ hfr
 refine li_nil (nx_then (wp_seq ?_))
 refine' regionT [_, _, SP.isv (.pointer (some ⟨b4, 0, none⟩))] hA (.cons (fun _ _ hE hK hg => ok_move (kn (hK 0 rfl) rfl q0)) (.cons (fun _ _ hE hK hg => okl_len (r := r_aEn) ty29 (ksv (j := 0) (hK 6 rfl) rfl rfl rfl) (rd_of (GR.v_ext _ h_0 hE))) (.cons (fun _ _ hE hK hg => ok_fieldAddr fl26_0 (kn (hK 3 rfl) rfl q3)) .nil))) ?zok2 ?zgd2 ?zk2
 case zok2 | zgd2 => kernel_rfl
 intro a4 w4 hA hE HF
 replace q0 := kn (HF 0) rfl q0
 replace q3 := kn (HF 3) rfl q3
 replace q4 := kn (HF 4) rfl q4
 have q7 := ksv (HF 7) rfl rfl rfl
 have q8 := ksv (HF 8) rfl rfl rfl
 clear HF
 replace h_0 := GR.v_ext _ h_0 hE
 replace f5 := f5.ext hE
 replace f9 := f9.ext hE
 replace hB := Base.step hB hE hO; clear hE
 refine l_store1 (cs' := #[.int .i64 (x_0.length : Int), .int .i64 x_1.Shop, .int .i64 x_1.Kind, .int .i64 x_1.Day, .int .i64 x_1.N, .string (str x_1.Before), .string (str x_1.After), .string (str x_1.Prev), .string (str x_1.Mark)]) hO hB (okB_fr hB) ty3 q8 q7 rfl rfl f5 (by simp) rfl fun w5 f11 hB' hX => ?_
 clear hB f5; have hB := hB'; clear hB'
 replace h_0 := GR.kx _ h_0 hX (by decide)
 replace f9 := f9.kx hX (by decide)
 clear hX
 refine l_ok (φ := SP.isv (.pointer (some ⟨b4, 8, none⟩))) hO hB (by exact ok_fieldAddr fl26_8 q3) rfl fun u_ w6 hE hB' hv_ => ?_
 replace hv_ := Eq.symm hv_; subst hv_; clear hB; have hB := hB'; clear hB'
 replace h_0 := GR.v_ext _ h_0 hE
 replace f11 := f11.ext hE
 replace f9 := f9.ext hE
 clear hE
 refine put_cont hA (by decide) fun a7 hA q_ hfr => ?_
 replace q0 := (hfr 0 rfl).trans q0
 replace q3 := (hfr 3 rfl).trans q3
 replace q4 := (hfr 4 rfl).trans q4
 have q9 := q_; clear q_ hfr
 refine l_store1 (cs' := #[.int .i64 (x_0.length : Int), .int .i64 x_1.Shop, .int .i64 x_1.Kind, .int .i64 x_1.Day, .int .i64 x_1.N, .string (str x_1.Before), .string (str x_1.After), .string (str x_1.Prev), .string (str ([] : Bytes))]) hO hB (okB_fr hB) ty9 q9 rfl rfl rfl f11 (by simp) rfl fun w8 f12 hB' hX => ?_
 clear hB f11; have hB := hB'; clear hB'
 replace h_0 := GR.kx _ h_0 hX (by decide)
 replace f9 := f9.kx hX (by decide)
 clear hX
 refine l_ok (φ := SP.isv (.pointer (some ⟨b4, 7, none⟩))) hO hB (by exact ok_fieldAddr fl26_7 q3) rfl fun u_ w9 hE hB' hv_ => ?_
 replace hv_ := Eq.symm hv_; subst hv_; clear hB; have hB := hB'; clear hB'
 replace h_0 := GR.v_ext _ h_0 hE
 replace f12 := f12.ext hE
 replace f9 := f9.ext hE
 clear hE
 refine put_cont hA (by decide) fun a10 hA q_ hfr => ?_
 replace q0 := (hfr 0 rfl).trans q0
 replace q3 := (hfr 3 rfl).trans q3
 replace q4 := (hfr 4 rfl).trans q4
 have q10 := q_; clear q_ hfr
 refine l_store1 (cs' := #[.int .i64 (x_0.length : Int), .int .i64 x_1.Shop, .int .i64 x_1.Kind, .int .i64 x_1.Day, .int .i64 x_1.N, .string (str x_1.Before), .string (str x_1.After), .string (str ([] : Bytes)), .string (str ([] : Bytes))]) hO hB (okB_fr hB) ty9 q10 rfl rfl rfl f12 (by simp) rfl fun w11 f13 hB' hX => ?_
 clear hB f12; have hB := hB'; clear hB'
 replace h_0 := GR.kx _ h_0 hX (by decide)
 replace f9 := f9.kx hX (by decide)
 clear hX
 refine li_nil (nx_then ?_)
 refine seq_join (fun a w => ∃ (O27 : Tags) (x18 : Int) (x19 : Int) (x20 : Int) (x21 : Int) (x22 : Int) (x23 : Bytes) (x24 : Bytes) (x25 : Bytes) (x26 : Bytes), a.fit 30 ∧ Base (Fr w0) O w0 O27 w ∧ a.get 3 = .pointer (some ⟨b4, 0, none⟩) ∧ a.get 4 = .pointer (some ⟨b10, 0, none⟩) ∧ OwnB 2 (Fr w0) O27 w b10 #[.int .i64 0, .int .i64 0, .int .i64 0, .int .i64 0, .int .i64 0, .string (str []), .string (str []), .string (str []), .string (str [])] 26 ∧ OwnB 1 (Fr w0) O27 w b4 #[.int .i64 x18, .int .i64 x19, .int .i64 x20, .int .i64 x21, .int .i64 x22, .string (str x23), .string (str x24), .string (str x25), .string (str x26)] 26 ∧ (passport_Next_j1 x18 x19 x20 x21 x22 x23 x24 x25 x26).run n = some y) ?_ ?_
 ·
  refine wp_seq ?_
  refine' region [_, _, _] mixed hA (.cons (fun _ _ hE hK hg => ok_move (kn (hK 0 rfl) rfl q0)) (.cons (fun _ _ hE hK hg => okl_len (r := r_aEn) ty29 (ksv (j := 0) (hK 11 rfl) rfl rfl rfl) (rd_of (GR.v_ext _ h_0 hE))) (.cons (fun _ _ hE hK hg => ok_assign (ksv (j := 1) (hK 12 rfl) rfl rfl rfl)) .nil))) ?zok3 ?zgd3 ?zk3
  case zok3 | zgd3 => kernel_rfl
  intro a12 w12 hA hE HF
  replace q0 := kn (HF 0) rfl q0
  replace q3 := kn (HF 3) rfl q3
  replace q4 := kn (HF 4) rfl q4
  have q5 := ksv (HF 5) rfl rfl rfl
  clear HF
  replace h_0 := GR.v_ext _ h_0 hE
  replace f13 := f13.ext hE
  replace f9 := f9.ext hE
  replace hB := Base.step hB hE hO; clear hE
  refine li_nil (nx_then (wp_seq ?_))
  refine' region [_, _] mixed hA (.cons (fun _ _ hE hK hg => ok_move (kn (hK 5 rfl) rfl q5)) (.cons (fun _ _ hE hK hg => ok_gtr (ksv (j := 0) (hK 13 rfl) rfl rfl rfl) rfl) .nil)) ?zok4 ?zgd4 ?zk4
  case zok4 | zgd4 => kernel_rfl
  intro a13 w13 hA hE HF
  replace q0 := kn (HF 0) rfl q0
  replace q3 := kn (HF 3) rfl q3
  replace q4 := kn (HF 4) rfl q4
  replace q5 := kn (HF 5) rfl q5
  have q14 := ksv (HF 14) rfl rfl rfl
  clear HF
  replace h_0 := GR.v_ext _ h_0 hE
  replace f13 := f13.ext hE
  replace f9 := f9.ext hE
  replace hB := Base.step hB hE hO; clear hE
  refine li_nil (nx_then ?_)
  refine wp_cond_b q14 (fun hc => ?_) (fun hc => ?_)
  ·
   replace h := Comp.run_b_t hc h; clear hc
   obtain ⟨x14, hx14, h⟩ := Comp.run_bind h
   obtain ⟨x15, hx15, h⟩ := Comp.run_bind h
   obtain ⟨x16, hx16, h⟩ := Comp.run_bind h
   have hz : ∀ b_, (fun b_ => b_ = b4) b_ → O8 b_ ≠ 0 := by rintro b_ rfl <;> first | (rw [f13.tag]; decide)
   refine' regionJ (E := ET (fun b_ => b_ = b4) w13.heap.size) (fun S_ _ w_ => JBox 1 (Fr w0) O8 b4 26 #[.int .i64 (x_0.length : Int), .int .i64 x_1.Shop, .int .i64 x_1.Kind, .int .i64 x_1.Day, .int .i64 x_1.N, .string (str x_1.Before), .string (str x_1.After), .string (str ([] : Bytes)), .string (str ([] : Bytes))] [(13, 7, .string (str x15)), (15, 5, .string (str x16.After))] S_ w_) (ET.refl _ _) (fun _ _ _ => ET.trans) (ET.drawn _ _) [SP.isv (v_0), SP.isv (.int .i64 (x_0.length : Int)), SP.isv (.int .i64 (IntKind.wrap .i64 ((x_0.length : Int) - 1))), SP.ptrz r_aEn (cap O8 w13.heap.size) x14 (of_decide_eq_true rfl) fit_aEn, SP.isv (.agg #[.int .i64 x14.Seq, .int .i64 x14.Shop, .int .i64 x14.Kind, .int .i64 x14.Day, .int .i64 x14.N, .string (str x14.Before), .string (str x14.After), .string (str x14.Prev), .string (str x14.Mark)]), SP.isv (.string (str x15)), SP.isv (v_0), SP.isv (.int .i64 (x_0.length : Int)), SP.isv (.int .i64 (IntKind.wrap .i64 ((x_0.length : Int) - 1))), SP.ptrz r_aEn (cap O8 w13.heap.size) x16 (of_decide_eq_true rfl) fit_aEn, SP.ptrz rStr (cap O8 w13.heap.size) x16.After (of_decide_eq_true rfl) (fun _ => rfl), SP.isv (.string (str x16.After)), SP.isv (.pointer (some ⟨b4, 7, none⟩)), SP.isv undef, SP.isv (.pointer (some ⟨b4, 5, none⟩)), SP.isv undef] mixed hA (.cons (stE_isv _) (.cons (stE_isv _) (.cons (stE_isv _) (.cons (stE_ptrz hz _ _ _ _) (.cons (stE_isv _) (.cons (stE_isv _) (.cons (stE_isv _) (.cons (stE_isv _) (.cons (stE_isv _) (.cons (stE_ptrz hz _ _ _ _) (.cons (stE_ptrz hz _ _ _ _) (.cons (stE_isv _) (.cons (stE_isv _) (.cons (stE_isv _) (.cons (stE_isv _) (.cons (stE_isv _) .nil)))))))))))))))) (.cons ?z5_0 (.cons ?z5_1 (.cons ?z5_2 (.cons ?z5_3 (.cons ?z5_4 (.cons ?z5_5 (.cons ?z5_6 (.cons ?z5_7 (.cons ?z5_8 (.cons ?z5_9 (.cons ?z5_10 (.cons ?z5_11 (.cons ?z5_12 (.cons ?z5_13 (.cons ?z5_14 (.cons ?z5_15 .nil)))))))))))))))) ?zsk5 ?zst5 ?zok5 ?zgd5 ?zk5
   case z5_0 => intro S_ a' w' hE hJ hS hafter hpre hK hg K_ Q_ hK'; exact okJ (φ := SP.isv (v_0)) (by exact ok_move (kn (hK 0 rfl) rfl q0)) (fun v2 w2 hE2 => JBox.pure hJ hE2 rfl) hK'
   case z5_1 => intro S_ a' w' hE hJ hS hafter hpre hK hg K_ Q_ hK'; exact okJ (φ := SP.isv (.int .i64 (x_0.length : Int))) (by exact ok_move (kn (hK 5 rfl) rfl q5)) (fun v2 w2 hE2 => JBox.pure hJ hE2 rfl) hK'
   case z5_2 => intro S_ a' w' hE hJ hS hafter hpre hK hg K_ Q_ hK'; exact okJ (φ := SP.isv (.int .i64 (IntKind.wrap .i64 ((x_0.length : Int) - 1)))) (by exact ok_sub (ksv (j := 1) (hK 16 rfl) rfl rfl rfl) rfl) (fun v2 w2 hE2 => JBox.pure hJ hE2 rfl) hK'
   case z5_3 => intro S_ a' w' hE hJ hS hafter hpre hK hg K_ Q_ hK'; exact okJ (φ := SP.ptrz r_aEn (cap O8 w13.heap.size) x14 (of_decide_eq_true rfl) fit_aEn) (by exact okl_idxZ (r := r_aEn) (by decide) fit_aEn ty29 ty26 rfl (ksv (j := 0) (hK 15 rfl) rfl rfl rfl) (GR.v_mono _ (GR.cap _ h_0) (ET.keep hE hz)) (ksv (j := 2) (hK 17 rfl) rfl rfl rfl) hx14) (fun v2 w2 hE2 => JBox.pure hJ hE2 rfl) hK'
   case z5_4 => intro S_ a' w' hE hJ hS hafter hpre hK hg K_ Q_ hK'; exact okJ (φ := SP.isv (.agg #[.int .i64 x14.Seq, .int .i64 x14.Shop, .int .i64 x14.Kind, .int .i64 x14.Day, .int .i64 x14.N, .string (str x14.Before), .string (str x14.After), .string (str x14.Prev), .string (str x14.Mark)])) (by exact okl_ldr r_aEn fit_aEn ty26 rfl rfl rfl (PtrZ.ptr (kspS (φ := SP.ptrz r_aEn (cap O8 w13.heap.size) x14 (of_decide_eq_true rfl) fit_aEn) (j := 3) (hK 18 rfl) rfl rfl rfl)) (fun _ _ _ h => rC_v.1 h)) (fun v2 w2 hE2 => JBox.pure hJ hE2 rfl) hK'
   case z5_5 => intro S_ a' w' hE hJ hS hafter hpre hK hg K_ Q_ hK'; exact okJ (φ := SP.isv (.string (str x15))) (by have c_ := ok_passport_link (fun b_ hb_ => hB.ok b_ (Nat.le_trans hE.size hb_))  hx15; exact ok_call1 fn62 (ksv (j := 4) (hK 19 rfl) rfl rfl rfl) c_) (fun v2 w2 hE2 => JBox.pure hJ hE2 rfl) hK'
   case z5_6 => intro S_ a' w' hE hJ hS hafter hpre hK hg K_ Q_ hK'; exact okJ (φ := SP.isv (v_0)) (by exact ok_move (kn (hK 0 rfl) rfl q0)) (fun v2 w2 hE2 => JBox.pure hJ hE2 rfl) hK'
   case z5_7 => intro S_ a' w' hE hJ hS hafter hpre hK hg K_ Q_ hK'; exact okJ (φ := SP.isv (.int .i64 (x_0.length : Int))) (by exact ok_move (kn (hK 5 rfl) rfl q5)) (fun v2 w2 hE2 => JBox.pure hJ hE2 rfl) hK'
   case z5_8 => intro S_ a' w' hE hJ hS hafter hpre hK hg K_ Q_ hK'; exact okJ (φ := SP.isv (.int .i64 (IntKind.wrap .i64 ((x_0.length : Int) - 1)))) (by exact ok_sub (ksv (j := 7) (hK 22 rfl) rfl rfl rfl) rfl) (fun v2 w2 hE2 => JBox.pure hJ hE2 rfl) hK'
   case z5_9 => intro S_ a' w' hE hJ hS hafter hpre hK hg K_ Q_ hK'; exact okJ (φ := SP.ptrz r_aEn (cap O8 w13.heap.size) x16 (of_decide_eq_true rfl) fit_aEn) (by exact okl_idxZ (r := r_aEn) (by decide) fit_aEn ty29 ty26 rfl (ksv (j := 6) (hK 21 rfl) rfl rfl rfl) (GR.v_mono _ (GR.cap _ h_0) (ET.keep hE hz)) (ksv (j := 8) (hK 23 rfl) rfl rfl rfl) hx16) (fun v2 w2 hE2 => JBox.pure hJ hE2 rfl) hK'
   case z5_10 => intro S_ a' w' hE hJ hS hafter hpre hK hg K_ Q_ hK'; exact okJ (φ := SP.ptrz rStr (cap O8 w13.heap.size) x16.After (of_decide_eq_true rfl) (fun _ => rfl)) (by exact okl_fldZ (S := r_aEn) rfl (by decide) (fun _ => rfl) sb_aEn_6 fl26_6 rfl (kspS (φ := SP.ptrz r_aEn (cap O8 w13.heap.size) x16 (of_decide_eq_true rfl) fit_aEn) (j := 9) (hK 24 rfl) rfl rfl rfl)) (fun v2 w2 hE2 => JBox.pure hJ hE2 rfl) hK'
   case z5_11 => intro S_ a' w' hE hJ hS hafter hpre hK hg K_ Q_ hK'; exact okJ (φ := SP.isv (.string (str x16.After))) (by exact okl_ldr rStr (fun _ => rfl) ty9 rfl rfl rfl (PtrZ.ptr (kspS (φ := SP.ptrz rStr (cap O8 w13.heap.size) x16.After (of_decide_eq_true rfl) (fun _ => rfl)) (j := 10) (hK 25 rfl) rfl rfl rfl)) (fun _ _ _ h => rStr_v.1 h)) (fun v2 w2 hE2 => JBox.pure hJ hE2 rfl) hK'
   case z5_12 => intro S_ a' w' hE hJ hS hafter hpre hK hg K_ Q_ hK'; exact okJ (φ := SP.isv (.pointer (some ⟨b4, 7, none⟩))) (by exact ok_fieldAddr fl26_7 (kn (hK 3 rfl) rfl q3)) (fun v2 w2 hE2 => JBox.pure hJ hE2 rfl) hK'
   case z5_13 => intro S_ a' w' hE hJ hS hafter hpre hK hg K_ Q_ hK'; exact storeJ (l1 := []) (l2 := [(15, 5, .string (str x16.After))]) ty9 (ksv (j := 12) (hK 27 rfl) rfl rfl rfl) (ksv (j := 5) (hK 20 rfl) rfl rfl rfl) rfl rfl hJ (by simp) hS rfl (all_cons (hafter 15 (by kernel_rfl)) all_nil) rfl (by simp) (fun w2 h1 h2 h3 => hK' undef w2 h1 h3 rfl)
   case z5_14 => intro S_ a' w' hE hJ hS hafter hpre hK hg K_ Q_ hK'; exact okJ (φ := SP.isv (.pointer (some ⟨b4, 5, none⟩))) (by exact ok_fieldAddr fl26_5 (kn (hK 3 rfl) rfl q3)) (fun v2 w2 hE2 => JBox.pure hJ hE2 rfl) hK'
   case z5_15 => intro S_ a' w' hE hJ hS hafter hpre hK hg K_ Q_ hK'; exact storeJ (l1 := [(13, 7, .string (str x15))]) (l2 := []) ty9 (ksv (j := 14) (hK 28 rfl) rfl rfl rfl) (ksv (j := 11) (hK 26 rfl) rfl rfl rfl) rfl rfl hJ (by simp) hS rfl all_nil rfl (by simp) (fun w2 h1 h2 h3 => hK' undef w2 h1 h3 rfl)
   case zsk5 => exact fun i_ o_ S_ a_ w_ ho_ hg_ _ _ _ hJ => JBox.skip (by kernel_rfl) ho_ hg_ hJ
   case zst5 => exact (jstart f13)
   case zok5 | zgd5 => kernel_rfl
   intro a14 w14 hA hE HF hJ
   replace q3 := kn (HF 3) rfl q3
   replace q4 := kn (HF 4) rfl q4
   clear q0
   clear q5
   clear q14
   clear HF
   have f17 : OwnB 1 (Fr w0) O8 w14 b4 #[.int .i64 (x_0.length : Int), .int .i64 x_1.Shop, .int .i64 x_1.Kind, .int .i64 x_1.Day, .int .i64 x_1.N, .string (str x16.After), .string (str x_1.After), .string (str x15), .string (str ([] : Bytes))] 26 := hJ
   replace hB := Base.et hB hO hE (by rintro b_ rfl <;> first | exact hB.new _ f13.ge)
   replace h_0 := GR.v_mono _ h_0 (ET.keepO hE hz)
   replace f9 := OwnB.keep f9 (ET.keepO hE (by rintro b_ rfl <;> first | (rw [f13.tag]; decide)))
   clear f13
   clear hE hz hJ
   refine nx_then ?_
   exact ⟨_, _, _, _, _, _, _, _, _, _, hA, hB, q3, q4, f9, f17, h⟩
  ·
   replace h := Comp.run_b_f hc h; clear hc
   refine wp_skip (nx_then ?_)
   exact ⟨_, _, _, _, _, _, _, _, _, _, hA, hB, q3, q4, f9, f13, h⟩
 intro a15 w15 hI
 clear hA hB h q0 q3 q4 f13 f9 h_0
 obtain ⟨O27, x18, x19, x20, x21, x22, x23, x24, x25, x26, hA, hB, q3, q4, f9, f17, h⟩ := hI
 unfold passport_Next_j1 at h
 refine wp_seq ?_
 refine' regionT [SP.isv (.agg #[.int .i64 x18, .int .i64 x19, .int .i64 x20, .int .i64 x21, .int .i64 x22, .string (str x23), .string (str x24), .string (str x25), .string (str x26)])] hA (.cons (fun _ _ hE hK hg => ok_loadOwnAgg ty26 rfl (kn (hK 3 rfl) rfl q3) (OwnB.ext f17 hE).own rfl) .nil) ?zok6 ?zgd6 ?zk6
 case zok6 | zgd6 => kernel_rfl
 intro a16 w16 hA hE HF
 replace q4 := kn (HF 4) rfl q4
 have q29 := ksv (HF 29) rfl rfl rfl
 clear q3
 clear HF
 replace f17 := f17.ext hE
 replace f9 := f9.ext hE
 replace hB := Base.step hB hE hO; clear hE
 refine l_storeSub (vs := [.int .i64 x18, .int .i64 x19, .int .i64 x20, .int .i64 x21, .int .i64 x22, .string (str x23), .string (str x24), .string (str x25), .string (str x26)]) (cs' := #[.int .i64 x18, .int .i64 x19, .int .i64 x20, .int .i64 x21, .int .i64 x22, .string (str x23), .string (str x24), .string (str x25), .string (str x26)]) hO hB (okB_fr hB) ty26 q4 q29 rfl (by simp [Value.oneCell']) f9 (by simp) rfl fun w17 f28 hB' hX => ?_
 clear hB f9; have hB := hB'; clear hB'
 clear hX
 refine li_nil (nx_then (wp_ret ?_))
 have h := Comp.run_pure h; subst h
 exact retG1 Try.results21 hA (.agg q4 ty26 rfl rfl f28.own) ⟨_, rfl, hB.ext, rfl⟩
theorem ok_digest_marked {O : Tags} {w0 : World} (hO : OkO O w0) {x_0 : Bytes} {x_1 : Bytes} {n : Nat} {y : (Vector Int 8)} (h : (digest_marked x_0 x_1).run n = some y) : Pure Try.prog 73 #[.string (str x_0), .string (str x_1)] w0 (SP.isv (.agg (cellsA (fun x => [.int .u8 x]) y).toArray)).holds := by
 unfold digest_marked at h
 refine pure_of_wp Try.func73 rfl 14 Try.ntmps73 (by simp) fun a0 hA hs0 => ?_
 have q0 : a0.get 0 = .string (str x_0) := hs0 0 _ rfl
 have q1 : a0.get 1 = .string (str x_1) := hs0 1 _ rfl
 clear hs0
 have hB : Base (Fr w0) O w0 O w0 := Base.start hO
 refine wp_seq ?_
 refine' region [SP.box w0.heap.size (cellsA (fun x => [.int .u8 x]) (Vector.replicate 8 0)).toArray 103] mixed hA (.cons (fun _ _ hE hK hg => ok_alloc hE.size ty103) .nil) ?zok1 ?zgd1 ?zk1
 case zok1 | zgd1 => kernel_rfl
 intro a1 w1 hA hE HF
 replace q0 := kn (HF 0) rfl q0
 replace q1 := kn (HF 1) rfl q1
 have f2 := ksp (HF 4) rfl rfl rfl
 obtain ⟨u1, q4'⟩ : ∃ u, a1.get 4 = u := ⟨_, rfl⟩
 rw [q4'] at f2
 have q4 := q4'; clear q4'
 clear HF
 obtain ⟨O3, b4, hB', hX, e_, f5⟩ := boxNew hO hB hE f2 1 (by decide)
 subst e_
 clear hB f2; have hB := hB'; clear hB'
 clear hX hE
 refine li_nil (nx_then (wp_seq ?_))
 obtain ⟨x6, hx6, h⟩ := Comp.run_bind h
 obtain ⟨x7, hx7, h⟩ := Comp.run_bind h
 obtain ⟨x8, hx8, h⟩ := Comp.run_bind h
 refine' regionT [_, SP.isv (.string (str x6)), _, _, SP.isv (.string (str x7)), _, _, SP.vl (rSl rStr) O3 [[5], x6, x_0, x7, x_1, x_0], SP.isv (.agg (cellsA (fun x => [.int .u8 x]) x8).toArray)] hA (.cons (fun _ _ hE hK hg => ok_move (kn (hK 0 rfl) rfl q0)) (.cons ?z2_1 (.cons (fun _ _ hE hK hg => ok_move (kn (hK 0 rfl) rfl q0)) (.cons (fun _ _ hE hK hg => ok_move (kn (hK 1 rfl) rfl q1)) (.cons ?z2_4 (.cons (fun _ _ hE hK hg => ok_move (kn (hK 1 rfl) rfl q1)) (.cons (fun _ _ hE hK hg => ok_move (kn (hK 0 rfl) rfl q0)) (.cons (fun _ _ hE hK hg => okl_buildSliceV (r := rStr) (fun _ => rfl) rfl (OkO.ext hB.ok hE) ty28 ty9 (parts_cons rfl (parts_cons (ksv (j := 1) (hK 6 rfl) rfl rfl rfl) (parts_cons (ksv (j := 2) (hK 7 rfl) rfl rfl rfl) (parts_cons (ksv (j := 4) (hK 9 rfl) rfl rfl rfl) (parts_cons (ksv (j := 5) (hK 10 rfl) rfl rfl rfl) (parts_cons (ksv (j := 6) (hK 11 rfl) rfl rfl rfl) parts_nil)))))) ⟨(by exact rStr_v.2 rfl), ⟨(by exact rStr_v.2 rfl), ⟨(by exact rStr_v.2 rfl), ⟨(by exact rStr_v.2 rfl), ⟨(by exact rStr_v.2 rfl), ⟨(by exact rStr_v.2 rfl), trivial⟩⟩⟩⟩⟩⟩ rfl (by decide)) (.cons ?z2_8 .nil))))))))) ?zok2 ?zgd2 ?zk2
 case z2_1 => intro a' w' hE hK hg; have c_ := ok_digest_length (OkO.ext hB.ok hE)  hx6; exact ok_call1 fn119 (ksv (j := 0) (hK 5 rfl) rfl rfl rfl) c_
 case z2_4 => intro a' w' hE hK hg; have c_ := ok_digest_length (OkO.ext hB.ok hE)  hx7; exact ok_call1 fn119 (ksv (j := 3) (hK 8 rfl) rfl rfl rfl) c_
 case z2_8 => intro a' w' hE hK hg; have c_ := ok_digest_of (OkO.ext hB.ok hE) (kspS (φ := SP.vl (rSl rStr) O3 [[5], x6, x_0, x7, x_1, x_0]) (j := 7) (hK 12 rfl) rfl rfl rfl) hx8; exact ok_call1 fn118 rfl c_
 case zok2 | zgd2 => kernel_rfl
 intro a2 w2 hA hE HF
 replace q4 := kn (HF 4) rfl q4
 have q13 := ksv (HF 13) rfl rfl rfl
 clear q0
 clear q1
 clear HF
 replace f5 := f5.ext hE
 replace hB := Base.step hB hE hO; clear hE
 refine l_storeSub (vs := (cellsA (fun x => [.int .u8 x]) x8)) (cs' := (cellsA (fun x => [.int .u8 x]) x8).toArray) hO hB (okB_fr hB) (ty103.szr (by simp [cellsA_len (f := (fun x => [.int .u8 x])) (k := 1) (fun _ => rfl)])) q4 q13 rfl ((show ∀ x_ : Vector Int 8, ∀ c_ ∈ (cellsA (fun x => [.int .u8 x]) x_), c_.oneCell' = true from (fun _ => (cellsA_one (fun _ => by simp [Value.oneCell']) _))) x8) f5 (by simp [cellsA_len (f := (fun x => [.int .u8 x])) (k := 1) (fun _ => rfl)]) (splice_all (by simp [cellsA_len (f := (fun x => [.int .u8 x])) (k := 1) (fun _ => rfl)])) fun w3 f9 hB' hX => ?_
 clear hB f5; have hB := hB'; clear hB'
 clear hX
 refine li_nil (nx_then (wp_ret ?_))
 have h := Comp.run_pure h; subst h
 exact retG1 Try.results73 hA (.agg q4 ty103 rfl (by simp [cellsA_len (f := (fun x => [.int .u8 x])) (k := 1) (fun _ => rfl)]) f9.own) ⟨_, rfl, hB.ext, rfl⟩
theorem ok_digest_Mark {O : Tags} {w0 : World} (hO : OkO O w0) {x_0 : Bytes} {x_1 : Bytes} {n : Nat} {y : Bytes} (h : (digest_Mark x_0 x_1).run n = some y) : Pure Try.prog 60 #[.string (str x_0), .string (str x_1)] w0 (SP.isv (.string (str y))).holds := by
 unfold digest_Mark at h
 refine pure_of_wp Try.func60 rfl 9 Try.ntmps60 (by simp) fun a0 hA hs0 => ?_
 have q0 : a0.get 0 = .string (str x_0) := hs0 0 _ rfl
 have q1 : a0.get 1 = .string (str x_1) := hs0 1 _ rfl
 clear hs0
 have hB : Base (Fr w0) O w0 O w0 := Base.start hO
 refine wp_seq ?_
 refine' region [_] mixed hA (.cons (fun _ _ hE hK hg => ok_assign rfl) .nil) ?zok1 ?zgd1 ?zk1
 case zok1 | zgd1 => kernel_rfl
 intro a1 w1 hA hE HF
 replace q0 := kn (HF 0) rfl q0
 replace q1 := kn (HF 1) rfl q1
 clear HF
 replace hB := Base.step hB hE hO; clear hE
 refine li_nil (nx_then (wp_seq ?_))
 obtain ⟨x1, hx1, h⟩ := Comp.run_bind h
 obtain ⟨x2, hx2, h⟩ := Comp.run_bind h
 refine' region [_, _, SP.isv (.agg (cellsA (fun x => [.int .u8 x]) x1).toArray), SP.isv (.string (str x2)), _] mixed hA (.cons (fun _ _ hE hK hg => ok_move (kn (hK 0 rfl) rfl q0)) (.cons (fun _ _ hE hK hg => ok_move (kn (hK 1 rfl) rfl q1)) (.cons ?z2_2 (.cons ?z2_3 (.cons (fun _ _ hE hK hg => ok_assign (ksv (j := 3) (hK 8 rfl) rfl rfl rfl)) .nil))))) ?zok2 ?zgd2 ?zk2
 case z2_2 => intro a' w' hE hK hg; have c_ := ok_digest_marked (OkO.ext hB.ok hE)  hx1; exact ok_call2 fn73 (ksv (j := 0) (hK 5 rfl) rfl rfl rfl) (ksv (j := 1) (hK 6 rfl) rfl rfl rfl) c_
 case z2_3 => intro a' w' hE hK hg; have c_ := ok_digest_digest_text (OkO.ext hB.ok hE)  hx2; exact ok_call1 fn97 (ksv (j := 2) (hK 7 rfl) rfl rfl rfl) c_
 case zok2 | zgd2 => kernel_rfl
 intro a2 w2 hA hE HF
 have q4 := ksv (HF 4) rfl rfl rfl
 clear q0
 clear q1
 clear HF
 replace hB := Base.step hB hE hO; clear hE
 refine li_nil (nx_then (wp_ret ?_))
 have h := Comp.run_pure h; subst h
 exact retPure Try.results60 hA q4 hB.ext rfl
theorem ok_passport_Sign {O : Tags} {w0 : World} (hO : OkO O w0) {x_0 : Bytes} {x_1 : aEn} {n : Nat} {y : aEn} (h : (passport_Sign x_0 x_1).run n = some y) : Pure Try.prog 19 #[.string (str x_0), .agg #[.int .i64 x_1.Seq, .int .i64 x_1.Shop, .int .i64 x_1.Kind, .int .i64 x_1.Day, .int .i64 x_1.N, .string (str x_1.Before), .string (str x_1.After), .string (str x_1.Prev), .string (str x_1.Mark)]] w0 (SP.isv (.agg #[.int .i64 y.Seq, .int .i64 y.Shop, .int .i64 y.Kind, .int .i64 y.Day, .int .i64 y.N, .string (str y.Before), .string (str y.After), .string (str y.Prev), .string (str y.Mark)])).holds := by
 unfold passport_Sign at h
 refine pure_of_wp Try.func19 rfl 11 Try.ntmps19 (by simp) fun a0 hA hs0 => ?_
 have q0 : a0.get 0 = .string (str x_0) := hs0 0 _ rfl
 have q1 : a0.get 1 = .agg #[.int .i64 x_1.Seq, .int .i64 x_1.Shop, .int .i64 x_1.Kind, .int .i64 x_1.Day, .int .i64 x_1.N, .string (str x_1.Before), .string (str x_1.After), .string (str x_1.Prev), .string (str x_1.Mark)] := hs0 1 _ rfl
 clear hs0
 have hB : Base (Fr w0) O w0 O w0 := Base.start hO
 refine wp_seq ?_
 refine' regionT [SP.box w0.heap.size #[.int .i64 x_1.Seq, .int .i64 x_1.Shop, .int .i64 x_1.Kind, .int .i64 x_1.Day, .int .i64 x_1.N, .string (str x_1.Before), .string (str x_1.After), .string (str x_1.Prev), .string (str x_1.Mark)] 26] hA (.cons (fun _ _ hE hK hg => ok_box (v := .agg #[.int .i64 x_1.Seq, .int .i64 x_1.Shop, .int .i64 x_1.Kind, .int .i64 x_1.Day, .int .i64 x_1.N, .string (str x_1.Before), .string (str x_1.After), .string (str x_1.Prev), .string (str x_1.Mark)]) hE.size (kn (hK 1 rfl) rfl q1)) .nil) ?zok1 ?zgd1 ?zk1
 case zok1 | zgd1 => kernel_rfl
 intro a1 w1 hA hE HF
 replace q0 := kn (HF 0) rfl q0
 have f2 := ksp (HF 3) rfl rfl rfl
 obtain ⟨u1, q3'⟩ : ∃ u, a1.get 3 = u := ⟨_, rfl⟩
 rw [q3'] at f2
 have q3 := q3'; clear q3'
 clear q1
 clear HF
 obtain ⟨O3, b4, hB', hX, e_, f5⟩ := boxNew hO hB hE f2 1 (by decide)
 subst e_
 clear hB f2; have hB := hB'; clear hB'
 clear hX hE
 refine l_ok (φ := SP.box w1.heap.size #[.int .i64 0, .int .i64 0, .int .i64 0, .int .i64 0, .int .i64 0, .string (str []), .string (str []), .string (str []), .string (str [])] 26) hO hB (by exact ok_alloc (Nat.le_refl _) ty26) rfl fun u6 w2 hE hB' f7 => ?_
 clear hB'; obtain ⟨O8, b10, hB', hX, e_, f9⟩ := boxNew hO hB hE f7 2 (by decide)
 subst e_; clear hB f7; have hB := hB'; clear hB'
 replace f5 := f5.kx hX (by decide)
 clear hX hE
 refine put_cont hA (by decide) fun a3 hA q_ hfr => ?_
 replace q0 := (hfr 0 rfl).trans q0
 replace q3 := (hfr 3 rfl).trans q3
 have q4 := q_; clear q_ hfr
 refine li_nil (nx_then (wp_seq ?_))
 obtain ⟨x11, hx11, h⟩ := Comp.run_bind h
 obtain ⟨x12, hx12, h⟩ := Comp.run_bind h
 refine' regionT [_, SP.isv (.agg #[.int .i64 x_1.Seq, .int .i64 x_1.Shop, .int .i64 x_1.Kind, .int .i64 x_1.Day, .int .i64 x_1.N, .string (str x_1.Before), .string (str x_1.After), .string (str x_1.Prev), .string (str x_1.Mark)]), SP.isv (.string (str x11)), SP.isv (.string (str x12)), SP.isv (.pointer (some ⟨b4, 8, none⟩))] hA (.cons (fun _ _ hE hK hg => ok_move (kn (hK 0 rfl) rfl q0)) (.cons (fun _ _ hE hK hg => ok_loadOwnAgg ty26 rfl (kn (hK 3 rfl) rfl q3) (OwnB.ext f5 hE).own rfl) (.cons ?z2_2 (.cons ?z2_3 (.cons (fun _ _ hE hK hg => ok_fieldAddr fl26_8 (kn (hK 3 rfl) rfl q3)) .nil))))) ?zok2 ?zgd2 ?zk2
 case z2_2 => intro a' w' hE hK hg; have c_ := ok_passport_Bytes (OkO.ext hB.ok hE)  hx11; exact ok_call1 fn17 (ksv (j := 1) (hK 6 rfl) rfl rfl rfl) c_
 case z2_3 => intro a' w' hE hK hg; have c_ := ok_digest_Mark (OkO.ext hB.ok hE)  hx12; exact ok_call2 fn60 (ksv (j := 0) (hK 5 rfl) rfl rfl rfl) (ksv (j := 2) (hK 7 rfl) rfl rfl rfl) c_
 case zok2 | zgd2 => kernel_rfl
 intro a4 w4 hA hE HF
 replace q3 := kn (HF 3) rfl q3
 replace q4 := kn (HF 4) rfl q4
 have q8 := ksv (HF 8) rfl rfl rfl
 have q9 := ksv (HF 9) rfl rfl rfl
 clear q0
 clear HF
 replace f5 := f5.ext hE
 replace f9 := f9.ext hE
 replace hB := Base.step hB hE hO; clear hE
 refine l_store1 (cs' := #[.int .i64 x_1.Seq, .int .i64 x_1.Shop, .int .i64 x_1.Kind, .int .i64 x_1.Day, .int .i64 x_1.N, .string (str x_1.Before), .string (str x_1.After), .string (str x_1.Prev), .string (str x12)]) hO hB (okB_fr hB) ty9 q9 q8 rfl rfl f5 (by simp) rfl fun w5 f13 hB' hX => ?_
 clear hB f5; have hB := hB'; clear hB'
 replace f9 := f9.kx hX (by decide)
 clear hX
 refine li_nil (nx_then (wp_seq ?_))
 refine' regionT [SP.isv (.agg #[.int .i64 x_1.Seq, .int .i64 x_1.Shop, .int .i64 x_1.Kind, .int .i64 x_1.Day, .int .i64 x_1.N, .string (str x_1.Before), .string (str x_1.After), .string (str x_1.Prev), .string (str x12)])] hA (.cons (fun _ _ hE hK hg => ok_loadOwnAgg ty26 rfl (kn (hK 3 rfl) rfl q3) (OwnB.ext f13 hE).own rfl) .nil) ?zok3 ?zgd3 ?zk3
 case zok3 | zgd3 => kernel_rfl
 intro a6 w6 hA hE HF
 replace q4 := kn (HF 4) rfl q4
 have q10 := ksv (HF 10) rfl rfl rfl
 clear q3
 clear HF
 replace f13 := f13.ext hE
 replace f9 := f9.ext hE
 replace hB := Base.step hB hE hO; clear hE
 refine l_storeSub (vs := [.int .i64 x_1.Seq, .int .i64 x_1.Shop, .int .i64 x_1.Kind, .int .i64 x_1.Day, .int .i64 x_1.N, .string (str x_1.Before), .string (str x_1.After), .string (str x_1.Prev), .string (str x12)]) (cs' := #[.int .i64 x_1.Seq, .int .i64 x_1.Shop, .int .i64 x_1.Kind, .int .i64 x_1.Day, .int .i64 x_1.N, .string (str x_1.Before), .string (str x_1.After), .string (str x_1.Prev), .string (str x12)]) hO hB (okB_fr hB) ty26 q4 q10 rfl (by simp [Value.oneCell']) f9 (by simp) rfl fun w7 f14 hB' hX => ?_
 clear hB f9; have hB := hB'; clear hB'
 clear hX
 refine li_nil (nx_then (wp_ret ?_))
 have h := Comp.run_pure h; subst h
 exact retG1 Try.results19 hA (.agg q4 ty26 rfl rfl f14.own) ⟨_, rfl, hB.ext, rfl⟩
theorem ok_c7_after {O : Tags} {w0 : World} (hO : OkO O w0) {v_0 : Value} {x_0 : List Bytes} (h_0 : (rSl rStr).v O w0 v_0 x_0) {v_1 : Value} {x_1 : List aEn} (h_1 : (rSl r_aEn).v O w0 v_1 x_1) {x_2 : aEn} {n : Nat} {y : (List aEn)} (h : (c7_after x_0 x_1 x_2).run n = some y) : Pure Try.prog 30 #[v_0, v_1, .agg #[.int .i64 x_2.Seq, .int .i64 x_2.Shop, .int .i64 x_2.Kind, .int .i64 x_2.Day, .int .i64 x_2.N, .string (str x_2.Before), .string (str x_2.After), .string (str x_2.Prev), .string (str x_2.Mark)]] w0 (SP.ownr r_aEn 26 (w0.heap.size) O y).holds := by
 unfold c7_after at h
 refine pure_of_wp Try.func30 rfl 21 Try.ntmps30 (by simp) fun a0 hA hs0 => ?_
 have q0 : a0.get 0 = v_0 := hs0 0 _ rfl
 have q1 : a0.get 1 = v_1 := hs0 1 _ rfl
 have q2 : a0.get 2 = .agg #[.int .i64 x_2.Seq, .int .i64 x_2.Shop, .int .i64 x_2.Kind, .int .i64 x_2.Day, .int .i64 x_2.N, .string (str x_2.Before), .string (str x_2.After), .string (str x_2.Prev), .string (str x_2.Mark)] := hs0 2 _ rfl
 clear hs0
 have hB : Base (Fr w0) O w0 O w0 := Base.start hO
 refine wp_seq ?_
 refine' region [SP.vl (rBox r_aEn) O x_2, _] mixed hA (.cons ?z1_0 (.cons (fun _ _ hE hK hg => ok_assign rfl) .nil)) ?zok1 ?zgd1 ?zk1
 case z1_0 => intro a' w' hE hK hg; exact okl_boxV (r := r_aEn) fit_aEn (OkO.ext hB.ok hE) (kn (hK 2 rfl) rfl q2) (by first | exact (rC_v (x := x_2)).2 rfl | exact ⟨_, rfl, rfl⟩)
 case zok1 | zgd1 => kernel_rfl
 intro a1 w1 hA hE HF
 replace q0 := kn (HF 0) rfl q0
 replace q1 := kn (HF 1) rfl q1
 have f2 := ksp (HF 5) rfl rfl rfl
 obtain ⟨u1, q5'⟩ : ∃ u, a1.get 5 = u := ⟨_, rfl⟩
 rw [q5'] at f2
 have q5 := q5'; clear q5'
 clear q2
 clear HF
 replace h_0 := GR.v_ext _ h_0 hE
 replace h_1 := GR.v_ext _ h_1 hE
 replace hB := Base.step hB hE hO; clear hE
 refine li_nil (nx_then (wp_seq ?_))
 obtain ⟨x3, hx3, h⟩ := Comp.run_bind h
 obtain ⟨x4, hx4, h⟩ := Comp.run_bind h
 obtain ⟨x5, hx5, h⟩ := Comp.run_bind h
 obtain ⟨x6, hx6, h⟩ := Comp.run_bind h
 obtain ⟨x7, hx7, h⟩ := Comp.run_bind h
 obtain ⟨J_, eJ_⟩ : ∃ J_ : (Nat → Bool) → Act → World → Prop, J_ = (fun S_ a_ w_ => ∃ O_ : Tags, Base (Fr w0) O w0 O_ w_ ∧ Keep 0 O w1 O_ w_ ∧ (S_ 4 = true → PtrZ (rInt .i64) O_ w_ (a_.get 11) x_2.Shop) ∧ (S_ 6 = true → PtrZ rStr O_ w_ (a_.get 13) x4) ∧ (S_ 12 = true → (rSl r_aEn).v O_ w_ (a_.get 19) [x6]) ∧ (S_ 0 = true → S_ 2 = false → OwnL 1 r_aEn 26 (Fr w0) O_ w_ (a_.get 7) []) ∧ (S_ 2 = true → S_ 13 = false → OwnL 1 r_aEn 26 (Fr w0) O_ w_ (a_.get 9) x3) ∧ (S_ 13 = true → S_ 14 = false → OwnL 1 r_aEn 26 (Fr w0) O_ w_ (a_.get 20) x7) ∧ (S_ 14 = true → OwnL 1 r_aEn 26 (Fr w0) O_ w_ (a_.get 6) x7)) := ⟨_, rfl⟩
 have T_ : ∀ {i_ : Nat} {d_ : Option Tmp} {v_ : Value} {S_ a' w' w2}, Nat.beq 0 i_ = false → Nat.beq 2 i_ = false → Nat.beq 4 i_ = false → Nat.beq 6 i_ = false → Nat.beq 12 i_ = false → Nat.beq 13 i_ = false → Nat.beq 14 i_ = false → d_ ≠ some 6 → d_ ≠ some 7 → d_ ≠ some 9 → d_ ≠ some 11 → d_ ≠ some 13 → d_ ≠ some 19 → d_ ≠ some 20 → Ext w' w2 → J_ S_ a' w' → J_ (addS S_ i_) (a'.put d_ v_) w2 := by
  subst eJ_; intro i_ d_ v_ S_ a' w' w2 n0_ n2_ n4_ n6_ n12_ n13_ n14_ s6_ s7_ s9_ s11_ s13_ s19_ s20_ hE hJ_
  obtain ⟨O_, hB_, k0_, m4_, m6_, m12_, v0_0_, v0_1_, v0_2_, v0_3_⟩ := hJ_
  exact ⟨O_, (Base.step hB_ hE hO), (k0_.trans (KX.keep (KX.ext hE) (by decide))), fun h_ => po_ (d := d_) (t := 11) (φ := fun u_ => PtrZ (rInt .i64) O_ w2 u_ x_2.Shop) ((PtrZ.keep (m4_ (addS_off n4_ h_)) (KX.keep (KX.ext hE) (by decide)) (by decide) (fun _ => rfl))) s11_, fun h_ => po_ (d := d_) (t := 13) (φ := fun u_ => PtrZ rStr O_ w2 u_ x4) ((PtrZ.keep (m6_ (addS_off n6_ h_)) (KX.keep (KX.ext hE) (by decide)) (by decide) (fun _ => rfl))) s13_, fun h_ => po_ (d := d_) (t := 19) (φ := fun u_ => (rSl r_aEn).v O_ w2 u_ [x6]) ((GR.v_mono _ (m12_ (addS_off n12_ h_)) (KX.keep (KX.ext hE) (by decide)))) s19_, fun hp_ hq_ => po_ (d := d_) (t := 7) (φ := fun u_ => OwnL 1 r_aEn 26 (Fr w0) O_ w2 (u_) []) (OwnL.kx (v0_0_ (addS_off n0_ hp_) (addS_no hq_)) (KX.ext hE) (by decide) (by decide)) s7_, fun hp_ hq_ => po_ (d := d_) (t := 9) (φ := fun u_ => OwnL 1 r_aEn 26 (Fr w0) O_ w2 (u_) x3) (OwnL.kx (v0_1_ (addS_off n2_ hp_) (addS_no hq_)) (KX.ext hE) (by decide) (by decide)) s9_, fun hp_ hq_ => po_ (d := d_) (t := 20) (φ := fun u_ => OwnL 1 r_aEn 26 (Fr w0) O_ w2 (u_) x7) (OwnL.kx (v0_2_ (addS_off n13_ hp_) (addS_no hq_)) (KX.ext hE) (by decide) (by decide)) s20_, fun hp_ => po_ (d := d_) (t := 6) (φ := fun u_ => OwnL 1 r_aEn 26 (Fr w0) O_ w2 (u_) x7) (OwnL.kx (v0_3_ (addS_off n14_ hp_)) (KX.ext hE) (by decide) (by decide)) s6_⟩
 refine' regionX (draw := true) J_ [SP.tt, SP.isv (v_1), SP.tt, SP.isv (v_0), SP.tt, SP.isv (.int .i64 x_2.Shop), SP.tt, SP.isv (.string (str x4)), SP.isv (v_1), SP.isv (.agg #[.int .i64 x_2.Seq, .int .i64 x_2.Shop, .int .i64 x_2.Kind, .int .i64 x_2.Day, .int .i64 x_2.N, .string (str x_2.Before), .string (str x_2.After), .string (str x_2.Prev), .string (str x_2.Mark)]), SP.isv (.agg #[.int .i64 x5.Seq, .int .i64 x5.Shop, .int .i64 x5.Kind, .int .i64 x5.Day, .int .i64 x5.N, .string (str x5.Before), .string (str x5.After), .string (str x5.Prev), .string (str x5.Mark)]), SP.isv (.agg #[.int .i64 x6.Seq, .int .i64 x6.Shop, .int .i64 x6.Kind, .int .i64 x6.Day, .int .i64 x6.N, .string (str x6.Before), .string (str x6.After), .string (str x6.Prev), .string (str x6.Mark)]), SP.tt, SP.tt, SP.tt] mixed hA (.cons (stE_tt _) (.cons (stE_isv _) (.cons (stE_tt _) (.cons (stE_isv _) (.cons (stE_tt _) (.cons (stE_isv _) (.cons (stE_tt _) (.cons (stE_isv _) (.cons (stE_isv _) (.cons (stE_isv _) (.cons (stE_isv _) (.cons (stE_isv _) (.cons (stE_tt _) (.cons (stE_tt _) (.cons (stE_tt _) .nil))))))))))))))) (.cons ?z2_0 (.cons ?z2_1 (.cons ?z2_2 (.cons ?z2_3 (.cons ?z2_4 (.cons ?z2_5 (.cons ?z2_6 (.cons ?z2_7 (.cons ?z2_8 (.cons ?z2_9 (.cons ?z2_10 (.cons ?z2_11 (.cons ?z2_12 (.cons ?z2_13 (.cons ?z2_14 .nil))))))))))))))) ?zsk2 ?zst2 ?zok2 ?zgd2 ?zk2
 case z2_0 =>
  intro S_ a' w' hA_ hJ_ hS_ hafter_ hbef_ hK hg K_ Q_ hK_
  subst eJ_
  obtain ⟨O_, hB_, k0_, m4_, m6_, m12_, v0_0_, v0_1_, v0_2_, v0_3_⟩ := hJ_
  refine x_ok (φ := SP.ownr r_aEn 26 w'.heap.size O_ []) (by exact okl_buildSlice (r := r_aEn) fit_aEn rfl hB_.ok ty29 ty26 (Nat.le_refl _) parts_nil trivial rfl (by decide)) fun v_ w2 hE hv_ => ?_
  obtain ⟨O2_, hB2_, hX_, f_⟩ := ownNew hO hB_ hE hv_ rfl 1 (by decide)
  exact hK_ v_ w2 ⟨O2_, hB2_, (k0_.trans (KX.keep hX_ (by decide))), fun h_ => po_ (d := some 7) (t := 11) (φ := fun u_ => PtrZ (rInt .i64) O2_ w2 u_ x_2.Shop) ((PtrZ.keep (m4_ (addS_off rfl h_)) (KX.keep hX_ (by decide)) (by decide) (fun _ => rfl))) (by decide), fun h_ => po_ (d := some 7) (t := 13) (φ := fun u_ => PtrZ rStr O2_ w2 u_ x4) ((PtrZ.keep (m6_ (addS_off rfl h_)) (KX.keep hX_ (by decide)) (by decide) (fun _ => rfl))) (by decide), fun h_ => po_ (d := some 7) (t := 19) (φ := fun u_ => (rSl r_aEn).v O2_ w2 u_ [x6]) ((GR.v_mono _ (m12_ (addS_off rfl h_)) (KX.keep hX_ (by decide)))) (by decide), fun hp_ hq_ => put_me (φ := fun u_ => OwnL 1 r_aEn 26 (Fr w0) O2_ w2 (u_) []) hA_ (by decide) f_, fun hp_ hq_ => no_tf (addS_off rfl hp_) (hafter_ 2 (by kernel_rfl)), fun hp_ hq_ => no_tf (addS_off rfl hp_) (hafter_ 13 (by kernel_rfl)), fun hp_ => no_tf (addS_off rfl hp_) (hafter_ 14 (by kernel_rfl))⟩ trivial
 case z2_1 =>
  intro S_ a' w' hA_ hJ_ hS_ hafter_ hbef_ hK hg K_ Q_ hK_
  refine x_ok (φ := SP.isv (v_1)) (by exact ok_move (kn (hK 1 rfl) rfl q1)) fun v_ w2 hE hv_ => hK_ v_ w2 (T_ rfl rfl rfl rfl rfl rfl rfl (by decide) (by decide) (by decide) (by decide) (by decide) (by decide) (by decide) hE hJ_) hv_
 case z2_2 =>
  intro S_ a' w' hA_ hJ_ hS_ hafter_ hbef_ hK hg K_ Q_ hK_
  subst eJ_
  obtain ⟨O_, hB_, k0_, m4_, m6_, m12_, v0_0_, v0_1_, v0_2_, v0_3_⟩ := hJ_
  refine x_append (r := r_aEn) fit_aEn rfl ty29 ty26 rfl (by decide) hO hB_ (okB_fr hB_) rfl (v0_0_ (addS_off rfl (hbef_ 0 (by kernel_rfl))) hS_) (ksv (j := 1) (hK 8 rfl) rfl rfl rfl) (rd_of (GR.v_mono _ h_1 k0_)) hx3 (by decide) fun u_ w2 O2_ f_ hB2_ hX_ => ?_
  exact hK_ u_ w2 ⟨O2_, hB2_, (k0_.trans (KX.keep hX_ (by decide))), fun h_ => po_ (d := some 9) (t := 11) (φ := fun u_ => PtrZ (rInt .i64) O2_ w2 u_ x_2.Shop) ((PtrZ.keep (m4_ (addS_off rfl h_)) (KX.keep hX_ (by decide)) (by decide) (fun _ => rfl))) (by decide), fun h_ => po_ (d := some 9) (t := 13) (φ := fun u_ => PtrZ rStr O2_ w2 u_ x4) ((PtrZ.keep (m6_ (addS_off rfl h_)) (KX.keep hX_ (by decide)) (by decide) (fun _ => rfl))) (by decide), fun h_ => po_ (d := some 9) (t := 19) (φ := fun u_ => (rSl r_aEn).v O2_ w2 u_ [x6]) ((GR.v_mono _ (m12_ (addS_off rfl h_)) (KX.keep hX_ (by decide)))) (by decide), fun hp_ hq_ => addS_me hq_, fun hp_ hq_ => put_me (φ := fun u_ => OwnL 1 r_aEn 26 (Fr w0) O2_ w2 (u_) x3) hA_ (by decide) f_, fun hp_ hq_ => no_tf (addS_off rfl hp_) (hafter_ 13 (by kernel_rfl)), fun hp_ => no_tf (addS_off rfl hp_) (hafter_ 14 (by kernel_rfl))⟩ trivial
 case z2_3 =>
  intro S_ a' w' hA_ hJ_ hS_ hafter_ hbef_ hK hg K_ Q_ hK_
  refine x_ok (φ := SP.isv (v_0)) (by exact ok_move (kn (hK 0 rfl) rfl q0)) fun v_ w2 hE hv_ => hK_ v_ w2 (T_ rfl rfl rfl rfl rfl rfl rfl (by decide) (by decide) (by decide) (by decide) (by decide) (by decide) (by decide) hE hJ_) hv_
 case z2_4 =>
  intro S_ a' w' hA_ hJ_ hS_ hafter_ hbef_ hK hg K_ Q_ hK_
  subst eJ_
  obtain ⟨O_, hB_, k0_, m4_, m6_, m12_, v0_0_, v0_1_, v0_2_, v0_3_⟩ := hJ_
  refine x_ok (φ := SP.ptrz (rInt .i64) O_ x_2.Shop (of_decide_eq_true rfl) (fun _ => rfl)) (by exact okl_fldZ (S := r_aEn) rfl (by decide) (fun _ => rfl) sb_aEn_1 fl26_1 (kn (hK 5 rfl) rfl q5) (ptrz_of_box fit_aEn (GR.v_mono _ f2 k0_))) fun v_ w2 hE hv_ => ?_
  have hB2_ := Base.step hB_ hE hO
  exact hK_ v_ w2 ⟨O_, hB2_, (k0_.trans (KX.keep (KX.ext hE) (by decide))), fun _ => put_me (φ := fun u_ => PtrZ (rInt .i64) O_ w2 u_ x_2.Shop) hA_ (by decide) hv_, fun h_ => po_ (d := some 11) (t := 13) (φ := fun u_ => PtrZ rStr O_ w2 u_ x4) ((PtrZ.keep (m6_ (addS_off rfl h_)) (KX.keep (KX.ext hE) (by decide)) (by decide) (fun _ => rfl))) (by decide), fun h_ => po_ (d := some 11) (t := 19) (φ := fun u_ => (rSl r_aEn).v O_ w2 u_ [x6]) ((GR.v_mono _ (m12_ (addS_off rfl h_)) (KX.keep (KX.ext hE) (by decide)))) (by decide), fun hp_ hq_ => po_ (d := some 11) (t := 7) (φ := fun u_ => OwnL 1 r_aEn 26 (Fr w0) O_ w2 (u_) []) (OwnL.kx (v0_0_ (addS_off rfl hp_) (addS_no hq_)) (KX.ext hE) (by decide) (by decide)) (by decide), fun hp_ hq_ => po_ (d := some 11) (t := 9) (φ := fun u_ => OwnL 1 r_aEn 26 (Fr w0) O_ w2 (u_) x3) (OwnL.kx (v0_1_ (addS_off rfl hp_) (addS_no hq_)) (KX.ext hE) (by decide) (by decide)) (by decide), fun hp_ hq_ => po_ (d := some 11) (t := 20) (φ := fun u_ => OwnL 1 r_aEn 26 (Fr w0) O_ w2 (u_) x7) (OwnL.kx (v0_2_ (addS_off rfl hp_) (addS_no hq_)) (KX.ext hE) (by decide) (by decide)) (by decide), fun hp_ => po_ (d := some 11) (t := 6) (φ := fun u_ => OwnL 1 r_aEn 26 (Fr w0) O_ w2 (u_) x7) (OwnL.kx (v0_3_ (addS_off rfl hp_)) (KX.ext hE) (by decide) (by decide)) (by decide)⟩ trivial
 case z2_5 =>
  intro S_ a' w' hA_ hJ_ hS_ hafter_ hbef_ hK hg K_ Q_ hK_
  have hJ2_ := hJ_; rw [eJ_] at hJ2_; obtain ⟨O_, hB_, k0_, m4_, m6_, m12_, v0_0_, v0_1_, v0_2_, v0_3_⟩ := hJ2_
  refine x_ok (φ := SP.isv (.int .i64 x_2.Shop)) (by exact okl_ldr (rInt .i64) (fun _ => rfl) ty3 rfl rfl rfl (PtrZ.ptr (m4_ (addS_off rfl (hbef_ 4 (by kernel_rfl))))) (fun _ _ _ h => rInt_v.1 h)) fun v_ w2 hE hv_ => hK_ v_ w2 (T_ rfl rfl rfl rfl rfl rfl rfl (by decide) (by decide) (by decide) (by decide) (by decide) (by decide) (by decide) hE hJ_) hv_
 case z2_6 =>
  intro S_ a' w' hA_ hJ_ hS_ hafter_ hbef_ hK hg K_ Q_ hK_
  subst eJ_
  obtain ⟨O_, hB_, k0_, m4_, m6_, m12_, v0_0_, v0_1_, v0_2_, v0_3_⟩ := hJ_
  refine x_ok (φ := SP.ptrz rStr O_ x4 (of_decide_eq_true rfl) (fun _ => rfl)) (by exact okl_idxZ (r := rStr) (by decide) (fun _ => rfl) ty28 ty9 rfl (ksv (j := 3) (hK 10 rfl) rfl rfl rfl) (GR.v_mono _ h_0 k0_) (ksv (j := 5) (hK 12 rfl) rfl rfl rfl) hx4) fun v_ w2 hE hv_ => ?_
  have hB2_ := Base.step hB_ hE hO
  exact hK_ v_ w2 ⟨O_, hB2_, (k0_.trans (KX.keep (KX.ext hE) (by decide))), fun h_ => po_ (d := some 13) (t := 11) (φ := fun u_ => PtrZ (rInt .i64) O_ w2 u_ x_2.Shop) ((PtrZ.keep (m4_ (addS_off rfl h_)) (KX.keep (KX.ext hE) (by decide)) (by decide) (fun _ => rfl))) (by decide), fun _ => put_me (φ := fun u_ => PtrZ rStr O_ w2 u_ x4) hA_ (by decide) hv_, fun h_ => po_ (d := some 13) (t := 19) (φ := fun u_ => (rSl r_aEn).v O_ w2 u_ [x6]) ((GR.v_mono _ (m12_ (addS_off rfl h_)) (KX.keep (KX.ext hE) (by decide)))) (by decide), fun hp_ hq_ => po_ (d := some 13) (t := 7) (φ := fun u_ => OwnL 1 r_aEn 26 (Fr w0) O_ w2 (u_) []) (OwnL.kx (v0_0_ (addS_off rfl hp_) (addS_no hq_)) (KX.ext hE) (by decide) (by decide)) (by decide), fun hp_ hq_ => po_ (d := some 13) (t := 9) (φ := fun u_ => OwnL 1 r_aEn 26 (Fr w0) O_ w2 (u_) x3) (OwnL.kx (v0_1_ (addS_off rfl hp_) (addS_no hq_)) (KX.ext hE) (by decide) (by decide)) (by decide), fun hp_ hq_ => po_ (d := some 13) (t := 20) (φ := fun u_ => OwnL 1 r_aEn 26 (Fr w0) O_ w2 (u_) x7) (OwnL.kx (v0_2_ (addS_off rfl hp_) (addS_no hq_)) (KX.ext hE) (by decide) (by decide)) (by decide), fun hp_ => po_ (d := some 13) (t := 6) (φ := fun u_ => OwnL 1 r_aEn 26 (Fr w0) O_ w2 (u_) x7) (OwnL.kx (v0_3_ (addS_off rfl hp_)) (KX.ext hE) (by decide) (by decide)) (by decide)⟩ trivial
 case z2_7 =>
  intro S_ a' w' hA_ hJ_ hS_ hafter_ hbef_ hK hg K_ Q_ hK_
  have hJ2_ := hJ_; rw [eJ_] at hJ2_; obtain ⟨O_, hB_, k0_, m4_, m6_, m12_, v0_0_, v0_1_, v0_2_, v0_3_⟩ := hJ2_
  refine x_ok (φ := SP.isv (.string (str x4))) (by exact okl_ldr rStr (fun _ => rfl) ty9 rfl rfl rfl (PtrZ.ptr (m6_ (addS_off rfl (hbef_ 6 (by kernel_rfl))))) (fun _ _ _ h => rStr_v.1 h)) fun v_ w2 hE hv_ => hK_ v_ w2 (T_ rfl rfl rfl rfl rfl rfl rfl (by decide) (by decide) (by decide) (by decide) (by decide) (by decide) (by decide) hE hJ_) hv_
 case z2_8 =>
  intro S_ a' w' hA_ hJ_ hS_ hafter_ hbef_ hK hg K_ Q_ hK_
  refine x_ok (φ := SP.isv (v_1)) (by exact ok_move (kn (hK 1 rfl) rfl q1)) fun v_ w2 hE hv_ => hK_ v_ w2 (T_ rfl rfl rfl rfl rfl rfl rfl (by decide) (by decide) (by decide) (by decide) (by decide) (by decide) (by decide) hE hJ_) hv_
 case z2_9 =>
  intro S_ a' w' hA_ hJ_ hS_ hafter_ hbef_ hK hg K_ Q_ hK_
  have hJ2_ := hJ_; rw [eJ_] at hJ2_; obtain ⟨O_, hB_, k0_, m4_, m6_, m12_, v0_0_, v0_1_, v0_2_, v0_3_⟩ := hJ2_
  refine x_ok (φ := SP.isv (.agg #[.int .i64 x_2.Seq, .int .i64 x_2.Shop, .int .i64 x_2.Kind, .int .i64 x_2.Day, .int .i64 x_2.N, .string (str x_2.Before), .string (str x_2.After), .string (str x_2.Prev), .string (str x_2.Mark)])) (by exact okl_ldr r_aEn fit_aEn ty26 rfl rfl (kn (hK 5 rfl) rfl q5) (ptr_of_box fit_aEn (GR.v_mono _ f2 k0_)) (fun _ _ _ h => rC_v.1 h)) fun v_ w2 hE hv_ => hK_ v_ w2 (T_ rfl rfl rfl rfl rfl rfl rfl (by decide) (by decide) (by decide) (by decide) (by decide) (by decide) (by decide) hE hJ_) hv_
 case z2_10 =>
  intro S_ a' w' hA_ hJ_ hS_ hafter_ hbef_ hK hg K_ Q_ hK_
  have hJ2_ := hJ_; rw [eJ_] at hJ2_; obtain ⟨O_, hB_, k0_, m4_, m6_, m12_, v0_0_, v0_1_, v0_2_, v0_3_⟩ := hJ2_
  refine x_ok (φ := SP.isv (.agg #[.int .i64 x5.Seq, .int .i64 x5.Shop, .int .i64 x5.Kind, .int .i64 x5.Day, .int .i64 x5.N, .string (str x5.Before), .string (str x5.After), .string (str x5.Prev), .string (str x5.Mark)])) (by have c_ := ok_passport_Next hB_.ok (GR.v_mono _ h_1 k0_) hx5; exact ok_call2 fn21 (ksv (j := 8) (hK 15 rfl) rfl rfl rfl) (ksv (j := 9) (hK 16 rfl) rfl rfl rfl) c_) fun v_ w2 hE hv_ => hK_ v_ w2 (T_ rfl rfl rfl rfl rfl rfl rfl (by decide) (by decide) (by decide) (by decide) (by decide) (by decide) (by decide) hE hJ_) hv_
 case z2_11 =>
  intro S_ a' w' hA_ hJ_ hS_ hafter_ hbef_ hK hg K_ Q_ hK_
  have hJ2_ := hJ_; rw [eJ_] at hJ2_; obtain ⟨O_, hB_, k0_, m4_, m6_, m12_, v0_0_, v0_1_, v0_2_, v0_3_⟩ := hJ2_
  refine x_ok (φ := SP.isv (.agg #[.int .i64 x6.Seq, .int .i64 x6.Shop, .int .i64 x6.Kind, .int .i64 x6.Day, .int .i64 x6.N, .string (str x6.Before), .string (str x6.After), .string (str x6.Prev), .string (str x6.Mark)])) (by have c_ := ok_passport_Sign hB_.ok  hx6; exact ok_call2 fn19 (ksv (j := 7) (hK 14 rfl) rfl rfl rfl) (ksv (j := 10) (hK 17 rfl) rfl rfl rfl) c_) fun v_ w2 hE hv_ => hK_ v_ w2 (T_ rfl rfl rfl rfl rfl rfl rfl (by decide) (by decide) (by decide) (by decide) (by decide) (by decide) (by decide) hE hJ_) hv_
 case z2_12 =>
  intro S_ a' w' hA_ hJ_ hS_ hafter_ hbef_ hK hg K_ Q_ hK_
  subst eJ_
  obtain ⟨O_, hB_, k0_, m4_, m6_, m12_, v0_0_, v0_1_, v0_2_, v0_3_⟩ := hJ_
  refine x_ok (φ := SP.vl (rSl r_aEn) O_ [x6]) (by exact okl_buildSliceV (r := r_aEn) fit_aEn rfl hB_.ok ty29 ty26 (parts_cons (ksv (j := 11) (hK 18 rfl) rfl rfl rfl) parts_nil) ⟨(by first | exact (rC_v (x := x6)).2 rfl | exact ⟨_, rfl, rfl⟩), trivial⟩ rfl (by decide)) fun v_ w2 hE hv_ => ?_
  have hB2_ := Base.step hB_ hE hO
  exact hK_ v_ w2 ⟨O_, hB2_, (k0_.trans (KX.keep (KX.ext hE) (by decide))), fun h_ => po_ (d := some 19) (t := 11) (φ := fun u_ => PtrZ (rInt .i64) O_ w2 u_ x_2.Shop) ((PtrZ.keep (m4_ (addS_off rfl h_)) (KX.keep (KX.ext hE) (by decide)) (by decide) (fun _ => rfl))) (by decide), fun h_ => po_ (d := some 19) (t := 13) (φ := fun u_ => PtrZ rStr O_ w2 u_ x4) ((PtrZ.keep (m6_ (addS_off rfl h_)) (KX.keep (KX.ext hE) (by decide)) (by decide) (fun _ => rfl))) (by decide), fun _ => put_me (φ := fun u_ => (rSl r_aEn).v O_ w2 u_ [x6]) hA_ (by decide) hv_, fun hp_ hq_ => po_ (d := some 19) (t := 7) (φ := fun u_ => OwnL 1 r_aEn 26 (Fr w0) O_ w2 (u_) []) (OwnL.kx (v0_0_ (addS_off rfl hp_) (addS_no hq_)) (KX.ext hE) (by decide) (by decide)) (by decide), fun hp_ hq_ => po_ (d := some 19) (t := 9) (φ := fun u_ => OwnL 1 r_aEn 26 (Fr w0) O_ w2 (u_) x3) (OwnL.kx (v0_1_ (addS_off rfl hp_) (addS_no hq_)) (KX.ext hE) (by decide) (by decide)) (by decide), fun hp_ hq_ => po_ (d := some 19) (t := 20) (φ := fun u_ => OwnL 1 r_aEn 26 (Fr w0) O_ w2 (u_) x7) (OwnL.kx (v0_2_ (addS_off rfl hp_) (addS_no hq_)) (KX.ext hE) (by decide) (by decide)) (by decide), fun hp_ => po_ (d := some 19) (t := 6) (φ := fun u_ => OwnL 1 r_aEn 26 (Fr w0) O_ w2 (u_) x7) (OwnL.kx (v0_3_ (addS_off rfl hp_)) (KX.ext hE) (by decide) (by decide)) (by decide)⟩ trivial
 case z2_13 =>
  intro S_ a' w' hA_ hJ_ hS_ hafter_ hbef_ hK hg K_ Q_ hK_
  subst eJ_
  obtain ⟨O_, hB_, k0_, m4_, m6_, m12_, v0_0_, v0_1_, v0_2_, v0_3_⟩ := hJ_
  refine x_append (r := r_aEn) fit_aEn rfl ty29 ty26 rfl (by decide) hO hB_ (okB_fr hB_) rfl (v0_1_ (addS_off rfl (hbef_ 2 (by kernel_rfl))) hS_) rfl (rd_of (m12_ (addS_off rfl (hbef_ 12 (by kernel_rfl))))) hx7 (by decide) fun u_ w2 O2_ f_ hB2_ hX_ => ?_
  exact hK_ u_ w2 ⟨O2_, hB2_, (k0_.trans (KX.keep hX_ (by decide))), fun h_ => po_ (d := some 20) (t := 11) (φ := fun u_ => PtrZ (rInt .i64) O2_ w2 u_ x_2.Shop) ((PtrZ.keep (m4_ (addS_off rfl h_)) (KX.keep hX_ (by decide)) (by decide) (fun _ => rfl))) (by decide), fun h_ => po_ (d := some 20) (t := 13) (φ := fun u_ => PtrZ rStr O2_ w2 u_ x4) ((PtrZ.keep (m6_ (addS_off rfl h_)) (KX.keep hX_ (by decide)) (by decide) (fun _ => rfl))) (by decide), fun h_ => po_ (d := some 20) (t := 19) (φ := fun u_ => (rSl r_aEn).v O2_ w2 u_ [x6]) ((GR.v_mono _ (m12_ (addS_off rfl h_)) (KX.keep hX_ (by decide)))) (by decide), fun hp_ hq_ => no_tf (hbef_ 2 (by kernel_rfl)) hq_, fun hp_ hq_ => addS_me hq_, fun hp_ hq_ => put_me (φ := fun u_ => OwnL 1 r_aEn 26 (Fr w0) O2_ w2 (u_) x7) hA_ (by decide) f_, fun hp_ => no_tf (addS_off rfl hp_) (hafter_ 14 (by kernel_rfl))⟩ trivial
 case z2_14 =>
  intro S_ a' w' hA_ hJ_ hS_ hafter_ hbef_ hK hg K_ Q_ hK_
  subst eJ_
  obtain ⟨O_, hB_, k0_, m4_, m6_, m12_, v0_0_, v0_1_, v0_2_, v0_3_⟩ := hJ_
  refine x_ok (φ := SP.isv (a'.get 20)) (ok_assign rfl) fun v_ w2 hE hv_ => ?_
  replace hv_ : v_ = a'.get 20 := hv_
  have hB2_ := Base.step hB_ hE hO
  exact hK_ v_ w2 ⟨O_, hB2_, (k0_.trans (KX.keep (KX.ext hE) (by decide))), fun h_ => po_ (d := some 6) (t := 11) (φ := fun u_ => PtrZ (rInt .i64) O_ w2 u_ x_2.Shop) ((PtrZ.keep (m4_ (addS_off rfl h_)) (KX.keep (KX.ext hE) (by decide)) (by decide) (fun _ => rfl))) (by decide), fun h_ => po_ (d := some 6) (t := 13) (φ := fun u_ => PtrZ rStr O_ w2 u_ x4) ((PtrZ.keep (m6_ (addS_off rfl h_)) (KX.keep (KX.ext hE) (by decide)) (by decide) (fun _ => rfl))) (by decide), fun h_ => po_ (d := some 6) (t := 19) (φ := fun u_ => (rSl r_aEn).v O_ w2 u_ [x6]) ((GR.v_mono _ (m12_ (addS_off rfl h_)) (KX.keep (KX.ext hE) (by decide)))) (by decide), fun hp_ hq_ => no_tf (hbef_ 2 (by kernel_rfl)) hq_, fun hp_ hq_ => no_tf (hbef_ 13 (by kernel_rfl)) hq_, fun hp_ hq_ => addS_me hq_, fun hp_ => put_me (φ := fun u_ => OwnL 1 r_aEn 26 (Fr w0) O_ w2 (u_) x7) hA_ (by decide) (by rw [hv_]; exact OwnL.ext (v0_2_ (addS_off rfl (hbef_ 13 (by kernel_rfl))) hS_) hE)⟩ trivial
 case zsk2 =>
  subst eJ_
  intro i_ o_ S_ a_ w_ ho_ hact_ hA_ hS_ hbef_ hJ_
  obtain ⟨O_, hB_, k0_, m4_, m6_, m12_, v0_0_, v0_1_, v0_2_, v0_3_⟩ := hJ_
  exact ⟨O_, hB_, k0_, fun h_ => by obtain ⟨h1_, h2_⟩ := skip_off (j := 4) hact_ rfl h_; exact po_ (t := 11) (φ := fun u_ => PtrZ (rInt .i64) O_ w_ u_ x_2.Shop) (m4_ h1_) (uniqDst_ne (j := 4) (by kernel_rfl) ho_ h2_), fun h_ => by obtain ⟨h1_, h2_⟩ := skip_off (j := 6) hact_ rfl h_; exact po_ (t := 13) (φ := fun u_ => PtrZ rStr O_ w_ u_ x4) (m6_ h1_) (uniqDst_ne (j := 6) (by kernel_rfl) ho_ h2_), fun h_ => by obtain ⟨h1_, h2_⟩ := skip_off (j := 12) hact_ rfl h_; exact po_ (t := 19) (φ := fun u_ => (rSl r_aEn).v O_ w_ u_ [x6]) (m12_ h1_) (uniqDst_ne (j := 12) (by kernel_rfl) ho_ h2_), fun hp_ hq_ => by obtain ⟨h1_, h2_⟩ := skip_off (j := 0) hact_ rfl hp_; exact po_ (t := 7) (φ := fun u_ => OwnL 1 r_aEn 26 (Fr w0) O_ w_ (u_) []) (v0_0_ h1_ (addS_no hq_)) (uniqDst_ne (j := 0) (by kernel_rfl) ho_ h2_), fun hp_ hq_ => by obtain ⟨h1_, h2_⟩ := skip_off (j := 2) hact_ rfl hp_; exact po_ (t := 9) (φ := fun u_ => OwnL 1 r_aEn 26 (Fr w0) O_ w_ (u_) x3) (v0_1_ h1_ (addS_no hq_)) (uniqDst_ne (j := 2) (by kernel_rfl) ho_ h2_), fun hp_ hq_ => by obtain ⟨h1_, h2_⟩ := skip_off (j := 13) hact_ rfl hp_; exact po_ (t := 20) (φ := fun u_ => OwnL 1 r_aEn 26 (Fr w0) O_ w_ (u_) x7) (v0_2_ h1_ (addS_no hq_)) (uniqDst_ne (j := 13) (by kernel_rfl) ho_ h2_), fun hp_ => by obtain ⟨h1_, h2_⟩ := skip_off (j := 14) hact_ rfl hp_; exact po_ (t := 6) (φ := fun u_ => OwnL 1 r_aEn 26 (Fr w0) O_ w_ (u_) x7) (v0_3_ h1_) (uniqDst_ne (j := 14) (by kernel_rfl) ho_ h2_)⟩
 case zst2 => subst eJ_; exact fun w1_ hE_ => ⟨O, (Base.step hB hE_ hO), (Keep.ext hE_), fun h_ => no_ft h_, fun h_ => no_ft h_, fun h_ => no_ft h_, fun hp_ => no_ft hp_, fun hp_ => no_ft hp_, fun hp_ => no_ft hp_, fun hp_ => no_ft hp_⟩
 case zok2 | zgd2 => kernel_rfl
 subst eJ_; clear T_
 intro a2 w2 hA HF hJ_
 obtain ⟨O8, hB_, k0_, m4_, m6_, m12_, v0_0_, v0_1_, v0_2_, v0_3_⟩ := hJ_
 have f10 := (v0_3_ rfl)
 obtain ⟨u9, q6'⟩ : ∃ u, a2.get 6 = u := ⟨_, rfl⟩
 rw [q6'] at f10
 have q6 := q6'; clear q6'
 clear q0
 clear q1
 clear q5
 clear HF
 replace h_0 := GR.v_mono _ h_0 k0_
 replace h_1 := GR.v_mono _ h_1 k0_
 replace f2 := GR.v_mono _ f2 k0_
 clear hB; have hB := hB_; clear hB_
 clear k0_ m4_ m6_ m12_ v0_0_ v0_1_ v0_2_ v0_3_
 refine nx_then (wp_ret ?_)
 have h := Comp.run_pure h; subst h
 exact retPure Try.results30 hA q6 hB.ext (OwnL.res f10 (by decide) hB.zero)
theorem ok_passport_conditions_f1 {O : Tags} {w0 : World} (hO : OkO O w0) {v_0 : Value} {x_0 : aEn} (h_0 : (rBox r_aEn).v O w0 v_0 x_0) {v_1 : Value} {x_1 : passport_place} (h_1 : (rBox r_passport_place).v O w0 v_1 x_1) {n : Nat} {y : Bool} (h : (passport_conditions_f1 x_0 x_1).run n = some y) : Pure Try.prog 103 #[v_0, v_1] w0 (SP.isv (.bool y)).holds := by
 unfold passport_conditions_f1 at h
 refine pure_of_wp Try.func103 rfl 8 Try.ntmps103 (by simp) fun a0 hA hs0 => ?_
 have q0 : a0.get 0 = v_0 := hs0 0 _ rfl
 have q1 : a0.get 1 = v_1 := hs0 1 _ rfl
 clear hs0
 have hB : Base (Fr w0) O w0 O w0 := Base.start hO
 refine wp_seq ?_
 refine' region [_] mixed hA (.cons (fun _ _ hE hK hg => ok_assign rfl) .nil) ?zok1 ?zgd1 ?zk1
 case zok1 | zgd1 => kernel_rfl
 intro a1 w1 hA hE HF
 replace q0 := kn (HF 0) rfl q0
 replace q1 := kn (HF 1) rfl q1
 clear HF
 replace h_0 := GR.v_ext _ h_0 hE
 replace h_1 := GR.v_ext _ h_1 hE
 replace hB := Base.step hB hE hO; clear hE
 refine li_nil (nx_then (wp_seq ?_))
 refine' region [SP.ptr (rInt .i64) O x_0.Seq, SP.isv (.int .i64 x_0.Seq), SP.ptr (rInt .i64) O x_1.at_, SP.isv (.int .i64 x_1.at_), _, _] mixed hA (.cons (fun _ _ hE hK hg => okl_fldB (S := r_aEn) fit_aEn rfl (fun _ => rfl) sb_aEn_0 fl26_0 (kn (hK 0 rfl) rfl q0) (GR.v_ext _ h_0 hE)) (.cons (fun _ _ hE hK hg => okl_ldr (rInt .i64) (fun _ => rfl) ty3 rfl rfl rfl (kspS (φ := SP.ptr (rInt .i64) O x_0.Seq) (j := 0) (hK 3 rfl) rfl rfl rfl) (fun _ _ _ h => rInt_v.1 h)) (.cons (fun _ _ hE hK hg => okl_fldB (S := r_passport_place) fit_passport_place rfl (fun _ => rfl) sb_passport_place_0 fl92_0 (kn (hK 1 rfl) rfl q1) (GR.v_ext _ h_1 hE)) (.cons (fun _ _ hE hK hg => okl_ldr (rInt .i64) (fun _ => rfl) ty3 rfl rfl rfl (kspS (φ := SP.ptr (rInt .i64) O x_1.at_) (j := 2) (hK 5 rfl) rfl rfl rfl) (fun _ _ _ h => rInt_v.1 h)) (.cons (fun _ _ hE hK hg => ok_eqlI (ksv (j := 1) (hK 4 rfl) rfl rfl rfl) (ksv (j := 3) (hK 6 rfl) rfl rfl rfl)) (.cons (fun _ _ hE hK hg => ok_assign (ksv (j := 4) (hK 7 rfl) rfl rfl rfl)) .nil)))))) ?zok2 ?zgd2 ?zk2
 case zok2 | zgd2 => kernel_rfl
 intro a2 w2 hA hE HF
 have q2 := ksv (HF 2) rfl rfl rfl
 clear q0
 clear q1
 clear HF
 replace h_0 := GR.v_ext _ h_0 hE
 replace h_1 := GR.v_ext _ h_1 hE
 replace hB := Base.step hB hE hO; clear hE
 refine li_nil (nx_then (wp_ret ?_))
 have h := Comp.run_pure h; subst h
 exact retPure Try.results103 hA q2 hB.ext rfl
theorem ok_passport_known {O : Tags} {w0 : World} (hO : OkO O w0) {v_0 : Value} {x_0 : List Bytes} (h_0 : (rSl rStr).v O w0 v_0 x_0) {x_1 : Int} {n : Nat} {y : Bool} (h : (passport_known x_0 x_1).run n = some y) : Pure Try.prog 69 #[v_0, .int .i64 x_1] w0 (SP.isv (.bool y)).holds := by
 unfold passport_known at h
 refine pure_of_wp Try.func69 rfl 13 Try.ntmps69 (by simp) fun a0 hA hs0 => ?_
 have q0 : a0.get 0 = v_0 := hs0 0 _ rfl
 have q1 : a0.get 1 = .int .i64 x_1 := hs0 1 _ rfl
 clear hs0
 have hB : Base (Fr w0) O w0 O w0 := Base.start hO
 refine wp_seq ?_
 refine' region [_] mixed hA (.cons (fun _ _ hE hK hg => ok_assign rfl) .nil) ?zok1 ?zgd1 ?zk1
 case zok1 | zgd1 => kernel_rfl
 intro a1 w1 hA hE HF
 replace q0 := kn (HF 0) rfl q0
 replace q1 := kn (HF 1) rfl q1
 clear HF
 replace h_0 := GR.v_ext _ h_0 hE
 replace hB := Base.step hB hE hO; clear hE
 refine li_nil (nx_then (wp_seq ?_))
 refine' region [_, _, _, _, _, _, _, _, _] mixed hA (.cons (fun _ _ hE hK hg => ok_move (kn (hK 1 rfl) rfl q1)) (.cons (fun _ _ hE hK hg => ok_geq (ksv (j := 0) (hK 5 rfl) rfl rfl rfl) rfl) (.cons (fun _ _ hE hK hg => ok_move (ksv (j := 1) (hK 6 rfl) rfl rfl rfl)) (.cons (fun _ _ hE hK hg => ok_move (kn (hK 1 rfl) rfl q1)) (.cons (fun _ _ hE hK hg => ok_move (kn (hK 0 rfl) rfl q0)) (.cons ?z2_5 (.cons ?z2_6 (.cons ?z2_7 (.cons (fun _ _ hE hK hg => ok_assign (ksv (j := 7) (hK 12 rfl) rfl rfl rfl)) .nil))))))))) ?zok2 ?zgd2 ?zk2
 case z2_5 => intro a' w' hE hK hg; exact okl_len (r := rStr) ty28 (ksv (j := 4) (hK 9 rfl) rfl rfl hg) (rd_of (GR.v_ext _ h_0 hE))
 case z2_6 => intro a' w' hE hK hg; exact ok_lss (ksv (j := 3) (hK 8 rfl) rfl rfl hg) (ksv (j := 5) (hK 10 rfl) rfl rfl hg)
 case z2_7 => intro a' w' hE hK hg; exact ok_pick (ksv (j := 2) (hK 7 rfl) rfl rfl rfl) (fun hb => ksv (j := 6) (hK 11 rfl) rfl rfl (act_g1 rfl rfl hb)) (fun _ => rfl)
 case zok2 | zgd2 => kernel_rfl
 intro a2 w2 hA hE HF
 have q4 := ksv (HF 4) rfl rfl rfl
 clear q0
 clear q1
 clear HF
 replace h_0 := GR.v_ext _ h_0 hE
 replace hB := Base.step hB hE hO; clear hE
 obtain ⟨x1, hx_, h⟩ := Comp.run_bind h; replace hx_ := Comp.run_pure hx_; rw [hx_] at q4; clear hx_
 refine li_nil (nx_then (wp_ret ?_))
 have h := Comp.run_pure h; subst h
 exact retPure Try.results69 hA q4 hB.ext rfl
theorem ok_passport_conditions_f2 {O : Tags} {w0 : World} (hO : OkO O w0) {v_0 : Value} {x_0 : List Bytes} (h_0 : (rBox (rSl rStr)).v O w0 v_0 x_0) {v_1 : Value} {x_1 : aEn} (h_1 : (rBox r_aEn).v O w0 v_1 x_1) {v_2 : Value} {x_2 : passport_place} (h_2 : (rBox r_passport_place).v O w0 v_2 x_2) {n : Nat} {y : Bool} (h : (passport_conditions_f2 x_0 x_1 x_2).run n = some y) : Pure Try.prog 104 #[v_0, v_1, v_2] w0 (SP.isv (.bool y)).holds := by
 unfold passport_conditions_f2 at h
 refine pure_of_wp Try.func104 rfl 20 Try.ntmps104 (by simp) fun a0 hA hs0 => ?_
 have q0 : a0.get 0 = v_0 := hs0 0 _ rfl
 have q1 : a0.get 1 = v_1 := hs0 1 _ rfl
 have q2 : a0.get 2 = v_2 := hs0 2 _ rfl
 clear hs0
 have hB : Base (Fr w0) O w0 O w0 := Base.start hO
 refine wp_seq ?_
 refine' region [_] mixed hA (.cons (fun _ _ hE hK hg => ok_assign rfl) .nil) ?zok1 ?zgd1 ?zk1
 case zok1 | zgd1 => kernel_rfl
 intro a1 w1 hA hE HF
 replace q0 := kn (HF 0) rfl q0
 replace q1 := kn (HF 1) rfl q1
 replace q2 := kn (HF 2) rfl q2
 clear HF
 replace h_0 := GR.v_ext _ h_0 hE
 replace h_1 := GR.v_ext _ h_1 hE
 replace h_2 := GR.v_ext _ h_2 hE
 replace hB := Base.step hB hE hO; clear hE
 refine li_nil (nx_then (wp_seq ?_))
 obtain ⟨x1, hx1, h⟩ := Comp.run_bind h
 refine' region [SP.vl (rSl rStr) O x_0, SP.ptr (rInt .i64) O x_1.Shop, SP.isv (.int .i64 x_1.Shop), SP.isv (.bool x1), _, SP.ptr (rInt .i64) O x_2.at_, SP.isv (.int .i64 x_2.at_), _, _, SP.ptr (rInt .i64) O x_1.Shop, SP.isv (.int .i64 x_1.Shop), SP.ptr (rInt .i64) O x_2.writer_, SP.isv (.int .i64 x_2.writer_), _, _, _, _] mixed hA (.cons (fun _ _ hE hK hg => okl_ld (r := (rSl rStr)) (fun _ => rfl) ty28 rfl rfl (kn (hK 0 rfl) rfl q0) (ptr_of_box (fun _ => rfl) (GR.v_ext _ h_0 hE))) (.cons (fun _ _ hE hK hg => okl_fldB (S := r_aEn) fit_aEn rfl (fun _ => rfl) sb_aEn_1 fl26_1 (kn (hK 1 rfl) rfl q1) (GR.v_ext _ h_1 hE)) (.cons (fun _ _ hE hK hg => okl_ldr (rInt .i64) (fun _ => rfl) ty3 rfl rfl rfl (kspS (φ := SP.ptr (rInt .i64) O x_1.Shop) (j := 1) (hK 5 rfl) rfl rfl rfl) (fun _ _ _ h => rInt_v.1 h)) (.cons ?z2_3 (.cons (fun _ _ hE hK hg => ok_move (ksv (j := 3) (hK 7 rfl) rfl rfl rfl)) (.cons (fun _ _ hE hK hg => okl_fldB (S := r_passport_place) fit_passport_place rfl (fun _ => rfl) sb_passport_place_0 fl92_0 (kn (hK 2 rfl) rfl q2) (GR.v_ext _ h_2 hE)) (.cons ?z2_6 (.cons ?z2_7 (.cons ?z2_8 (.cons (fun _ _ hE hK hg => okl_fldB (S := r_aEn) fit_aEn rfl (fun _ => rfl) sb_aEn_1 fl26_1 (kn (hK 1 rfl) rfl q1) (GR.v_ext _ h_1 hE)) (.cons ?z2_10 (.cons (fun _ _ hE hK hg => okl_fldB (S := r_passport_place) fit_passport_place rfl (fun _ => rfl) sb_passport_place_1 fl92_1 (kn (hK 2 rfl) rfl q2) (GR.v_ext _ h_2 hE)) (.cons ?z2_12 (.cons ?z2_13 (.cons ?z2_14 (.cons ?z2_15 (.cons (fun _ _ hE hK hg => ok_assign (ksv (j := 15) (hK 19 rfl) rfl rfl rfl)) .nil))))))))))))))))) ?zok2 ?zgd2 ?zk2
 case z2_3 => intro a' w' hE hK hg; have c_ := ok_passport_known (OkO.ext hB.ok hE) (kspS (φ := SP.vl (rSl rStr) O x_0) (j := 0) (hK 4 rfl) rfl rfl rfl) hx1; exact ok_call2 fn69 rfl (ksv (j := 2) (hK 6 rfl) rfl rfl rfl) c_
 case z2_6 => intro a' w' hE hK hg; exact okl_ldr (rInt .i64) (fun _ => rfl) ty3 rfl rfl rfl (kspS (φ := SP.ptr (rInt .i64) O x_2.at_) (j := 5) (hK 9 rfl) rfl rfl hg) (fun _ _ _ h => rInt_v.1 h)
 case z2_7 => intro a' w' hE hK hg; exact ok_eqlI (ksv (j := 6) (hK 10 rfl) rfl rfl hg) rfl
 case z2_8 => intro a' w' hE hK hg; exact ok_move (ksv (j := 7) (hK 11 rfl) rfl rfl hg)
 case z2_10 => intro a' w' hE hK hg; exact okl_ldr (rInt .i64) (fun _ => rfl) ty3 rfl rfl rfl (kspS (φ := SP.ptr (rInt .i64) O x_1.Shop) (j := 9) (hK 13 rfl) rfl rfl hg) (fun _ _ _ h => rInt_v.1 h)
 case z2_12 => intro a' w' hE hK hg; exact okl_ldr (rInt .i64) (fun _ => rfl) ty3 rfl rfl rfl (kspS (φ := SP.ptr (rInt .i64) O x_2.writer_) (j := 11) (hK 15 rfl) rfl rfl hg) (fun _ _ _ h => rInt_v.1 h)
 case z2_13 => intro a' w' hE hK hg; exact ok_eqlI (ksv (j := 10) (hK 14 rfl) rfl rfl hg) (ksv (j := 12) (hK 16 rfl) rfl rfl hg)
 case z2_14 => intro a' w' hE hK hg; exact ok_pick (ksv (j := 8) (hK 12 rfl) rfl rfl hg) (fun _ => rfl) (fun hb => ksv (j := 13) (hK 17 rfl) rfl rfl (act_g1 rfl hg hb))
 case z2_15 => intro a' w' hE hK hg; exact ok_pick (ksv (j := 4) (hK 8 rfl) rfl rfl rfl) (fun hb => ksv (j := 14) (hK 18 rfl) rfl rfl (act_g1 rfl rfl hb)) (fun _ => rfl)
 case zok2 | zgd2 => kernel_rfl
 intro a2 w2 hA hE HF
 have q3 := ksv (HF 3) rfl rfl rfl
 clear q0
 clear q1
 clear q2
 clear HF
 replace h_0 := GR.v_ext _ h_0 hE
 replace h_1 := GR.v_ext _ h_1 hE
 replace h_2 := GR.v_ext _ h_2 hE
 replace hB := Base.step hB hE hO; clear hE
 obtain ⟨x2, hx_, h⟩ := Comp.run_bind h; replace hx_ := Comp.run_pure hx_; rw [hx_] at q3; clear hx_
 refine li_nil (nx_then (wp_ret ?_))
 have h := Comp.run_pure h; subst h
 exact retPure Try.results104 hA q3 hB.ext rfl
theorem ok_passport_conditions_f3 {O : Tags} {w0 : World} (hO : OkO O w0) {v_0 : Value} {x_0 : Bool} (h_0 : (rBox rBool).v O w0 v_0 x_0) {v_1 : Value} {x_1 : passport_place} (h_1 : (rBox r_passport_place).v O w0 v_1 x_1) {v_2 : Value} {x_2 : Bool} (h_2 : (rBox rBool).v O w0 v_2 x_2) {v_3 : Value} {x_3 : Bool} (h_3 : (rBox rBool).v O w0 v_3 x_3) {v_4 : Value} {x_4 : aEn} (h_4 : (rBox r_aEn).v O w0 v_4 x_4) {n : Nat} {y : Bool} (h : (passport_conditions_f3 x_0 x_1 x_2 x_3 x_4).run n = some y) : Pure Try.prog 105 #[v_0, v_1, v_2, v_3, v_4] w0 (SP.isv (.bool y)).holds := by
 unfold passport_conditions_f3 at h
 refine pure_of_wp Try.func105 rfl 25 Try.ntmps105 (by simp) fun a0 hA hs0 => ?_
 have q0 : a0.get 0 = v_0 := hs0 0 _ rfl
 have q1 : a0.get 1 = v_1 := hs0 1 _ rfl
 have q2 : a0.get 2 = v_2 := hs0 2 _ rfl
 have q3 : a0.get 3 = v_3 := hs0 3 _ rfl
 have q4 : a0.get 4 = v_4 := hs0 4 _ rfl
 clear hs0
 have hB : Base (Fr w0) O w0 O w0 := Base.start hO
 refine wp_seq ?_
 refine' region [_] mixed hA (.cons (fun _ _ hE hK hg => ok_assign rfl) .nil) ?zok1 ?zgd1 ?zk1
 case zok1 | zgd1 => kernel_rfl
 intro a1 w1 hA hE HF
 replace q0 := kn (HF 0) rfl q0
 replace q1 := kn (HF 1) rfl q1
 replace q2 := kn (HF 2) rfl q2
 replace q3 := kn (HF 3) rfl q3
 replace q4 := kn (HF 4) rfl q4
 clear HF
 replace h_0 := GR.v_ext _ h_0 hE
 replace h_1 := GR.v_ext _ h_1 hE
 replace h_2 := GR.v_ext _ h_2 hE
 replace h_3 := GR.v_ext _ h_3 hE
 replace h_4 := GR.v_ext _ h_4 hE
 replace hB := Base.step hB hE hO; clear hE
 refine li_nil (nx_then (wp_seq ?_))
 refine' region [SP.isv (.bool x_0), SP.ptr (rInt .i64) O x_1.at_, SP.isv (.int .i64 x_1.at_), _, _, _, SP.isv (.bool x_0), _, SP.isv (.bool x_2), _, _, SP.isv (.bool x_3), _, _, SP.ptr (rInt .i64) O x_4.Kind, SP.isv (.int .i64 x_4.Kind), _, _, _, _] mixed hA (.cons (fun _ _ hE hK hg => okl_ldr rBool (fun _ => rfl) ty4 rfl rfl (kn (hK 0 rfl) rfl q0) (ptr_of_box (fun _ => rfl) (GR.v_ext _ h_0 hE)) (fun _ _ _ h => rBool_v.1 h)) (.cons (fun _ _ hE hK hg => okl_fldB (S := r_passport_place) fit_passport_place rfl (fun _ => rfl) sb_passport_place_0 fl92_0 (kn (hK 1 rfl) rfl q1) (GR.v_ext _ h_1 hE)) (.cons (fun _ _ hE hK hg => okl_ldr (rInt .i64) (fun _ => rfl) ty3 rfl rfl rfl (kspS (φ := SP.ptr (rInt .i64) O x_1.at_) (j := 1) (hK 7 rfl) rfl rfl rfl) (fun _ _ _ h => rInt_v.1 h)) (.cons (fun _ _ hE hK hg => ok_eqlI (ksv (j := 2) (hK 8 rfl) rfl rfl rfl) rfl) (.cons (fun _ _ hE hK hg => ok_eqlB ty4 (ksv (j := 0) (hK 6 rfl) rfl rfl rfl) (ksv (j := 3) (hK 9 rfl) rfl rfl rfl)) (.cons (fun _ _ hE hK hg => ok_move (ksv (j := 4) (hK 10 rfl) rfl rfl rfl)) (.cons (fun _ _ hE hK hg => okl_ldr rBool (fun _ => rfl) ty4 rfl rfl (kn (hK 0 rfl) rfl q0) (ptr_of_box (fun _ => rfl) (GR.v_ext _ h_0 hE)) (fun _ _ _ h => rBool_v.1 h)) (.cons ?z2_7 (.cons (fun _ _ hE hK hg => okl_ldr rBool (fun _ => rfl) ty4 rfl rfl (kn (hK 2 rfl) rfl q2) (ptr_of_box (fun _ => rfl) (GR.v_ext _ h_2 hE)) (fun _ _ _ h => rBool_v.1 h)) (.cons ?z2_9 (.cons ?z2_10 (.cons (fun _ _ hE hK hg => okl_ldr rBool (fun _ => rfl) ty4 rfl rfl (kn (hK 3 rfl) rfl q3) (ptr_of_box (fun _ => rfl) (GR.v_ext _ h_3 hE)) (fun _ _ _ h => rBool_v.1 h)) (.cons ?z2_12 (.cons ?z2_13 (.cons (fun _ _ hE hK hg => okl_fldB (S := r_aEn) fit_aEn rfl (fun _ => rfl) sb_aEn_2 fl26_2 (kn (hK 4 rfl) rfl q4) (GR.v_ext _ h_4 hE)) (.cons ?z2_15 (.cons ?z2_16 (.cons ?z2_17 (.cons ?z2_18 (.cons (fun _ _ hE hK hg => ok_assign (ksv (j := 18) (hK 24 rfl) rfl rfl rfl)) .nil)))))))))))))))))))) ?zok2 ?zgd2 ?zk2
 case z2_7 => intro a' w' hE hK hg; exact ok_move (ksv (j := 6) (hK 12 rfl) rfl rfl hg)
 case z2_9 => intro a' w' hE hK hg; exact ok_pick (ksv (j := 7) (hK 13 rfl) rfl rfl hg) (fun _ => rfl) (fun hb => ksv (j := 8) (hK 14 rfl) rfl rfl (act_g1 rfl hg hb))
 case z2_10 => intro a' w' hE hK hg; exact ok_move (ksv (j := 9) (hK 15 rfl) rfl rfl hg)
 case z2_12 => intro a' w' hE hK hg; exact ok_pick (ksv (j := 10) (hK 16 rfl) rfl rfl hg) (fun _ => rfl) (fun hb => ksv (j := 11) (hK 17 rfl) rfl rfl (act_g1 rfl hg hb))
 case z2_13 => intro a' w' hE hK hg; exact ok_move (ksv (j := 12) (hK 18 rfl) rfl rfl hg)
 case z2_15 => intro a' w' hE hK hg; exact okl_ldr (rInt .i64) (fun _ => rfl) ty3 rfl rfl rfl (kspS (φ := SP.ptr (rInt .i64) O x_4.Kind) (j := 14) (hK 20 rfl) rfl rfl hg) (fun _ _ _ h => rInt_v.1 h)
 case z2_16 => intro a' w' hE hK hg; exact ok_eqlI (ksv (j := 15) (hK 21 rfl) rfl rfl hg) rfl
 case z2_17 => intro a' w' hE hK hg; exact ok_pick (ksv (j := 13) (hK 19 rfl) rfl rfl hg) (fun _ => rfl) (fun hb => ksv (j := 16) (hK 22 rfl) rfl rfl (act_g1 rfl hg hb))
 case z2_18 => intro a' w' hE hK hg; exact ok_pick (ksv (j := 5) (hK 11 rfl) rfl rfl rfl) (fun hb => ksv (j := 17) (hK 23 rfl) rfl rfl (act_g1 rfl rfl hb)) (fun _ => rfl)
 case zok2 | zgd2 => kernel_rfl
 intro a2 w2 hA hE HF
 have q5 := ksv (HF 5) rfl rfl rfl
 clear q0
 clear q1
 clear q2
 clear q3
 clear q4
 clear HF
 replace h_0 := GR.v_ext _ h_0 hE
 replace h_1 := GR.v_ext _ h_1 hE
 replace h_2 := GR.v_ext _ h_2 hE
 replace h_3 := GR.v_ext _ h_3 hE
 replace h_4 := GR.v_ext _ h_4 hE
 replace hB := Base.step hB hE hO; clear hE
 obtain ⟨x1, hx_, h⟩ := Comp.run_bind h; replace hx_ := Comp.run_pure hx_; rw [hx_] at q5; clear hx_
 refine li_nil (nx_then (wp_ret ?_))
 have h := Comp.run_pure h; subst h
 exact retPure Try.results105 hA q5 hB.ext rfl
theorem ok_passport_conditions_f4 {O : Tags} {w0 : World} (hO : OkO O w0) {v_0 : Value} {x_0 : Bool} (h_0 : (rBox rBool).v O w0 v_0 x_0) {v_1 : Value} {x_1 : List Bytes} (h_1 : (rBox (rSl rStr)).v O w0 v_1 x_1) {v_2 : Value} {x_2 : aEn} (h_2 : (rBox r_aEn).v O w0 v_2 x_2) {n : Nat} {y : Bool} (h : (passport_conditions_f4 x_0 x_1 x_2).run n = some y) : Pure Try.prog 106 #[v_0, v_1, v_2] w0 (SP.isv (.bool y)).holds := by
 unfold passport_conditions_f4 at h
 refine pure_of_wp Try.func106 rfl 12 Try.ntmps106 (by simp) fun a0 hA hs0 => ?_
 have q0 : a0.get 0 = v_0 := hs0 0 _ rfl
 have q1 : a0.get 1 = v_1 := hs0 1 _ rfl
 have q2 : a0.get 2 = v_2 := hs0 2 _ rfl
 clear hs0
 have hB : Base (Fr w0) O w0 O w0 := Base.start hO
 refine wp_seq ?_
 refine' region [_] mixed hA (.cons (fun _ _ hE hK hg => ok_assign rfl) .nil) ?zok1 ?zgd1 ?zk1
 case zok1 | zgd1 => kernel_rfl
 intro a1 w1 hA hE HF
 replace q0 := kn (HF 0) rfl q0
 replace q1 := kn (HF 1) rfl q1
 replace q2 := kn (HF 2) rfl q2
 clear HF
 replace h_0 := GR.v_ext _ h_0 hE
 replace h_1 := GR.v_ext _ h_1 hE
 replace h_2 := GR.v_ext _ h_2 hE
 replace hB := Base.step hB hE hO; clear hE
 refine li_nil (nx_then (wp_seq ?_))
 obtain ⟨x1, hx1, h⟩ := Comp.run_bind h
 refine' region [SP.isv (.bool x_0), _, _, SP.vl (rSl rStr) O x_1, SP.ptr (rInt .i64) O x_2.N, SP.isv (.int .i64 x_2.N), SP.isv (.bool x1), _, _] mixed hA (.cons (fun _ _ hE hK hg => okl_ldr rBool (fun _ => rfl) ty4 rfl rfl (kn (hK 0 rfl) rfl q0) (ptr_of_box (fun _ => rfl) (GR.v_ext _ h_0 hE)) (fun _ _ _ h => rBool_v.1 h)) (.cons (fun _ _ hE hK hg => ok_not (ksv (j := 0) (hK 4 rfl) rfl rfl rfl)) (.cons (fun _ _ hE hK hg => ok_move (ksv (j := 1) (hK 5 rfl) rfl rfl rfl)) (.cons (fun _ _ hE hK hg => okl_ld (r := (rSl rStr)) (fun _ => rfl) ty28 rfl rfl (kn (hK 1 rfl) rfl q1) (ptr_of_box (fun _ => rfl) (GR.v_ext _ h_1 hE))) (.cons (fun _ _ hE hK hg => okl_fldB (S := r_aEn) fit_aEn rfl (fun _ => rfl) sb_aEn_4 fl26_4 (kn (hK 2 rfl) rfl q2) (GR.v_ext _ h_2 hE)) (.cons ?z2_5 (.cons ?z2_6 (.cons ?z2_7 (.cons (fun _ _ hE hK hg => ok_assign (ksv (j := 7) (hK 11 rfl) rfl rfl rfl)) .nil))))))))) ?zok2 ?zgd2 ?zk2
 case z2_5 => intro a' w' hE hK hg; exact okl_ldr (rInt .i64) (fun _ => rfl) ty3 rfl rfl rfl (kspS (φ := SP.ptr (rInt .i64) O x_2.N) (j := 4) (hK 8 rfl) rfl rfl hg) (fun _ _ _ h => rInt_v.1 h)
 case z2_6 => intro a' w' hE hK hg; have c_ := ok_passport_known (OkO.ext hB.ok hE) (kspS (φ := SP.vl (rSl rStr) O x_1) (j := 3) (hK 7 rfl) rfl rfl hg) (run_gdb hx1 hg); exact ok_call2 fn69 rfl (ksv (j := 5) (hK 9 rfl) rfl rfl hg) c_
 case z2_7 => intro a' w' hE hK hg; exact ok_pick (ksv (j := 2) (hK 6 rfl) rfl rfl rfl) (fun _ => rfl) (fun hb => ksv (j := 6) (hK 10 rfl) rfl rfl (act_g1 rfl rfl hb))
 case zok2 | zgd2 => kernel_rfl
 intro a2 w2 hA hE HF
 have q3 := ksv (HF 3) rfl rfl rfl
 clear q0
 clear q1
 clear q2
 clear HF
 replace h_0 := GR.v_ext _ h_0 hE
 replace h_1 := GR.v_ext _ h_1 hE
 replace h_2 := GR.v_ext _ h_2 hE
 replace hB := Base.step hB hE hO; clear hE
 refine li_nil (nx_then (wp_ret ?_))
 have h := Comp.run_pure h; subst h
 exact retPure Try.results106 hA q3 hB.ext rfl
theorem ok_passport_conditions_f5 {O : Tags} {w0 : World} (hO : OkO O w0) {v_0 : Value} {x_0 : Bool} (h_0 : (rBox rBool).v O w0 v_0 x_0) {v_1 : Value} {x_1 : aEn} (h_1 : (rBox r_aEn).v O w0 v_1 x_1) {v_2 : Value} {x_2 : Bool} (h_2 : (rBox rBool).v O w0 v_2 x_2) {n : Nat} {y : Bool} (h : (passport_conditions_f5 x_0 x_1 x_2).run n = some y) : Pure Try.prog 107 #[v_0, v_1, v_2] w0 (SP.isv (.bool y)).holds := by
 unfold passport_conditions_f5 at h
 refine pure_of_wp Try.func107 rfl 23 Try.ntmps107 (by simp) fun a0 hA hs0 => ?_
 have q0 : a0.get 0 = v_0 := hs0 0 _ rfl
 have q1 : a0.get 1 = v_1 := hs0 1 _ rfl
 have q2 : a0.get 2 = v_2 := hs0 2 _ rfl
 clear hs0
 have hB : Base (Fr w0) O w0 O w0 := Base.start hO
 refine wp_seq ?_
 refine' region [_] mixed hA (.cons (fun _ _ hE hK hg => ok_assign rfl) .nil) ?zok1 ?zgd1 ?zk1
 case zok1 | zgd1 => kernel_rfl
 intro a1 w1 hA hE HF
 replace q0 := kn (HF 0) rfl q0
 replace q1 := kn (HF 1) rfl q1
 replace q2 := kn (HF 2) rfl q2
 clear HF
 replace h_0 := GR.v_ext _ h_0 hE
 replace h_1 := GR.v_ext _ h_1 hE
 replace h_2 := GR.v_ext _ h_2 hE
 replace hB := Base.step hB hE hO; clear hE
 refine li_nil (nx_then (wp_seq ?_))
 refine' region [SP.isv (.bool x_0), _, SP.ptr (rInt .i64) O x_1.N, SP.isv (.int .i64 x_1.N), _, _, _, SP.isv (.bool x_2), _, SP.ptr (rInt .i64) O x_1.N, SP.isv (.int .i64 x_1.N), _, _, _, SP.ptr (rInt .i64) O x_1.N, SP.isv (.int .i64 x_1.N), _, _, _, _] mixed hA (.cons (fun _ _ hE hK hg => okl_ldr rBool (fun _ => rfl) ty4 rfl rfl (kn (hK 0 rfl) rfl q0) (ptr_of_box (fun _ => rfl) (GR.v_ext _ h_0 hE)) (fun _ _ _ h => rBool_v.1 h)) (.cons (fun _ _ hE hK hg => ok_move (ksv (j := 0) (hK 4 rfl) rfl rfl rfl)) (.cons (fun _ _ hE hK hg => okl_fldB (S := r_aEn) fit_aEn rfl (fun _ => rfl) sb_aEn_4 fl26_4 (kn (hK 1 rfl) rfl q1) (GR.v_ext _ h_1 hE)) (.cons ?z2_3 (.cons ?z2_4 (.cons ?z2_5 (.cons (fun _ _ hE hK hg => ok_move (ksv (j := 5) (hK 9 rfl) rfl rfl rfl)) (.cons (fun _ _ hE hK hg => okl_ldr rBool (fun _ => rfl) ty4 rfl rfl (kn (hK 2 rfl) rfl q2) (ptr_of_box (fun _ => rfl) (GR.v_ext _ h_2 hE)) (fun _ _ _ h => rBool_v.1 h)) (.cons ?z2_8 (.cons (fun _ _ hE hK hg => okl_fldB (S := r_aEn) fit_aEn rfl (fun _ => rfl) sb_aEn_4 fl26_4 (kn (hK 1 rfl) rfl q1) (GR.v_ext _ h_1 hE)) (.cons ?z2_10 (.cons ?z2_11 (.cons ?z2_12 (.cons ?z2_13 (.cons (fun _ _ hE hK hg => okl_fldB (S := r_aEn) fit_aEn rfl (fun _ => rfl) sb_aEn_4 fl26_4 (kn (hK 1 rfl) rfl q1) (GR.v_ext _ h_1 hE)) (.cons ?z2_15 (.cons ?z2_16 (.cons ?z2_17 (.cons ?z2_18 (.cons (fun _ _ hE hK hg => ok_assign (ksv (j := 18) (hK 22 rfl) rfl rfl rfl)) .nil)))))))))))))))))))) ?zok2 ?zgd2 ?zk2
 case z2_3 => intro a' w' hE hK hg; exact okl_ldr (rInt .i64) (fun _ => rfl) ty3 rfl rfl rfl (kspS (φ := SP.ptr (rInt .i64) O x_1.N) (j := 2) (hK 6 rfl) rfl rfl hg) (fun _ _ _ h => rInt_v.1 h)
 case z2_4 => intro a' w' hE hK hg; exact ok_eqlI (ksv (j := 3) (hK 7 rfl) rfl rfl hg) rfl
 case z2_5 => intro a' w' hE hK hg; exact ok_pick (ksv (j := 1) (hK 5 rfl) rfl rfl rfl) (fun _ => rfl) (fun hb => ksv (j := 4) (hK 8 rfl) rfl rfl (act_g1 rfl rfl hb))
 case z2_8 => intro a' w' hE hK hg; exact ok_move (ksv (j := 7) (hK 11 rfl) rfl rfl hg)
 case z2_10 => intro a' w' hE hK hg; exact okl_ldr (rInt .i64) (fun _ => rfl) ty3 rfl rfl rfl (kspS (φ := SP.ptr (rInt .i64) O x_1.N) (j := 9) (hK 13 rfl) rfl rfl hg) (fun _ _ _ h => rInt_v.1 h)
 case z2_11 => intro a' w' hE hK hg; exact ok_gtr (ksv (j := 10) (hK 14 rfl) rfl rfl hg) rfl
 case z2_12 => intro a' w' hE hK hg; exact ok_pick (ksv (j := 8) (hK 12 rfl) rfl rfl hg) (fun hb => ksv (j := 11) (hK 15 rfl) rfl rfl (act_g1 rfl hg hb)) (fun _ => rfl)
 case z2_13 => intro a' w' hE hK hg; exact ok_move (ksv (j := 12) (hK 16 rfl) rfl rfl hg)
 case z2_15 => intro a' w' hE hK hg; exact okl_ldr (rInt .i64) (fun _ => rfl) ty3 rfl rfl rfl (kspS (φ := SP.ptr (rInt .i64) O x_1.N) (j := 14) (hK 18 rfl) rfl rfl hg) (fun _ _ _ h => rInt_v.1 h)
 case z2_16 => intro a' w' hE hK hg; exact ok_leq (ksv (j := 15) (hK 19 rfl) rfl rfl hg) rfl
 case z2_17 => intro a' w' hE hK hg; exact ok_pick (ksv (j := 13) (hK 17 rfl) rfl rfl hg) (fun hb => ksv (j := 16) (hK 20 rfl) rfl rfl (act_g1 rfl hg hb)) (fun _ => rfl)
 case z2_18 => intro a' w' hE hK hg; exact ok_pick (ksv (j := 6) (hK 10 rfl) rfl rfl rfl) (fun _ => rfl) (fun hb => ksv (j := 17) (hK 21 rfl) rfl rfl (act_g1 rfl rfl hb))
 case zok2 | zgd2 => kernel_rfl
 intro a2 w2 hA hE HF
 have q3 := ksv (HF 3) rfl rfl rfl
 clear q0
 clear q1
 clear q2
 clear HF
 replace h_0 := GR.v_ext _ h_0 hE
 replace h_1 := GR.v_ext _ h_1 hE
 replace h_2 := GR.v_ext _ h_2 hE
 replace hB := Base.step hB hE hO; clear hE
 obtain ⟨x1, hx_, h⟩ := Comp.run_bind h; replace hx_ := Comp.run_pure hx_; rw [hx_] at q3; clear hx_
 refine li_nil (nx_then (wp_ret ?_))
 have h := Comp.run_pure h; subst h
 exact retPure Try.results107 hA q3 hB.ext rfl
theorem ok_passport_conditions_f6 {O : Tags} {w0 : World} (hO : OkO O w0) {v_0 : Value} {x_0 : aEn} (h_0 : (rBox r_aEn).v O w0 v_0 x_0) {n : Nat} {y : Bool} (h : (passport_conditions_f6 x_0).run n = some y) : Pure Try.prog 108 #[v_0] w0 (SP.isv (.bool y)).holds := by
 unfold passport_conditions_f6 at h
 refine pure_of_wp Try.func108 rfl 10 Try.ntmps108 (by simp) fun a0 hA hs0 => ?_
 have q0 : a0.get 0 = v_0 := hs0 0 _ rfl
 clear hs0
 have hB : Base (Fr w0) O w0 O w0 := Base.start hO
 refine wp_seq ?_
 refine' region [_] mixed hA (.cons (fun _ _ hE hK hg => ok_assign rfl) .nil) ?zok1 ?zgd1 ?zk1
 case zok1 | zgd1 => kernel_rfl
 intro a1 w1 hA hE HF
 replace q0 := kn (HF 0) rfl q0
 clear HF
 replace h_0 := GR.v_ext _ h_0 hE
 replace hB := Base.step hB hE hO; clear hE
 refine li_nil (nx_then (wp_seq ?_))
 refine' region [SP.ptr (rInt .i64) O x_0.Day, SP.isv (.int .i64 x_0.Day), _, _, SP.ptr (rInt .i64) O x_0.Day, SP.isv (.int .i64 x_0.Day), _, _, _] mixed hA (.cons (fun _ _ hE hK hg => okl_fldB (S := r_aEn) fit_aEn rfl (fun _ => rfl) sb_aEn_3 fl26_3 (kn (hK 0 rfl) rfl q0) (GR.v_ext _ h_0 hE)) (.cons (fun _ _ hE hK hg => okl_ldr (rInt .i64) (fun _ => rfl) ty3 rfl rfl rfl (kspS (φ := SP.ptr (rInt .i64) O x_0.Day) (j := 0) (hK 2 rfl) rfl rfl rfl) (fun _ _ _ h => rInt_v.1 h)) (.cons (fun _ _ hE hK hg => ok_geq (ksv (j := 1) (hK 3 rfl) rfl rfl rfl) rfl) (.cons (fun _ _ hE hK hg => ok_move (ksv (j := 2) (hK 4 rfl) rfl rfl rfl)) (.cons (fun _ _ hE hK hg => okl_fldB (S := r_aEn) fit_aEn rfl (fun _ => rfl) sb_aEn_3 fl26_3 (kn (hK 0 rfl) rfl q0) (GR.v_ext _ h_0 hE)) (.cons ?z2_5 (.cons ?z2_6 (.cons ?z2_7 (.cons (fun _ _ hE hK hg => ok_assign (ksv (j := 7) (hK 9 rfl) rfl rfl rfl)) .nil))))))))) ?zok2 ?zgd2 ?zk2
 case z2_5 => intro a' w' hE hK hg; exact okl_ldr (rInt .i64) (fun _ => rfl) ty3 rfl rfl rfl (kspS (φ := SP.ptr (rInt .i64) O x_0.Day) (j := 4) (hK 6 rfl) rfl rfl hg) (fun _ _ _ h => rInt_v.1 h)
 case z2_6 => intro a' w' hE hK hg; exact ok_leq (ksv (j := 5) (hK 7 rfl) rfl rfl hg) rfl
 case z2_7 => intro a' w' hE hK hg; exact ok_pick (ksv (j := 3) (hK 5 rfl) rfl rfl rfl) (fun hb => ksv (j := 6) (hK 8 rfl) rfl rfl (act_g1 rfl rfl hb)) (fun _ => rfl)
 case zok2 | zgd2 => kernel_rfl
 intro a2 w2 hA hE HF
 have q1 := ksv (HF 1) rfl rfl rfl
 clear q0
 clear HF
 replace h_0 := GR.v_ext _ h_0 hE
 replace hB := Base.step hB hE hO; clear hE
 obtain ⟨x1, hx_, h⟩ := Comp.run_bind h; replace hx_ := Comp.run_pure hx_; rw [hx_] at q1; clear hx_
 refine li_nil (nx_then (wp_ret ?_))
 have h := Comp.run_pure h; subst h
 exact retPure Try.results108 hA q1 hB.ext rfl
theorem ok_passport_conditions_f7 {O : Tags} {w0 : World} (hO : OkO O w0) {v_0 : Value} {x_0 : aEn} (h_0 : (rBox r_aEn).v O w0 v_0 x_0) {v_1 : Value} {x_1 : passport_place} (h_1 : (rBox r_passport_place).v O w0 v_1 x_1) {n : Nat} {y : Bool} (h : (passport_conditions_f7 x_0 x_1).run n = some y) : Pure Try.prog 109 #[v_0, v_1] w0 (SP.isv (.bool y)).holds := by
 unfold passport_conditions_f7 at h
 refine pure_of_wp Try.func109 rfl 8 Try.ntmps109 (by simp) fun a0 hA hs0 => ?_
 have q0 : a0.get 0 = v_0 := hs0 0 _ rfl
 have q1 : a0.get 1 = v_1 := hs0 1 _ rfl
 clear hs0
 have hB : Base (Fr w0) O w0 O w0 := Base.start hO
 refine wp_seq ?_
 refine' region [_] mixed hA (.cons (fun _ _ hE hK hg => ok_assign rfl) .nil) ?zok1 ?zgd1 ?zk1
 case zok1 | zgd1 => kernel_rfl
 intro a1 w1 hA hE HF
 replace q0 := kn (HF 0) rfl q0
 replace q1 := kn (HF 1) rfl q1
 clear HF
 replace h_0 := GR.v_ext _ h_0 hE
 replace h_1 := GR.v_ext _ h_1 hE
 replace hB := Base.step hB hE hO; clear hE
 refine li_nil (nx_then (wp_seq ?_))
 refine' region [SP.ptr (rInt .i64) O x_0.Day, SP.isv (.int .i64 x_0.Day), SP.ptr (rInt .i64) O x_1.day_, SP.isv (.int .i64 x_1.day_), _, _] mixed hA (.cons (fun _ _ hE hK hg => okl_fldB (S := r_aEn) fit_aEn rfl (fun _ => rfl) sb_aEn_3 fl26_3 (kn (hK 0 rfl) rfl q0) (GR.v_ext _ h_0 hE)) (.cons (fun _ _ hE hK hg => okl_ldr (rInt .i64) (fun _ => rfl) ty3 rfl rfl rfl (kspS (φ := SP.ptr (rInt .i64) O x_0.Day) (j := 0) (hK 3 rfl) rfl rfl rfl) (fun _ _ _ h => rInt_v.1 h)) (.cons (fun _ _ hE hK hg => okl_fldB (S := r_passport_place) fit_passport_place rfl (fun _ => rfl) sb_passport_place_2 fl92_2 (kn (hK 1 rfl) rfl q1) (GR.v_ext _ h_1 hE)) (.cons (fun _ _ hE hK hg => okl_ldr (rInt .i64) (fun _ => rfl) ty3 rfl rfl rfl (kspS (φ := SP.ptr (rInt .i64) O x_1.day_) (j := 2) (hK 5 rfl) rfl rfl rfl) (fun _ _ _ h => rInt_v.1 h)) (.cons (fun _ _ hE hK hg => ok_geq (ksv (j := 1) (hK 4 rfl) rfl rfl rfl) (ksv (j := 3) (hK 6 rfl) rfl rfl rfl)) (.cons (fun _ _ hE hK hg => ok_assign (ksv (j := 4) (hK 7 rfl) rfl rfl rfl)) .nil)))))) ?zok2 ?zgd2 ?zk2
 case zok2 | zgd2 => kernel_rfl
 intro a2 w2 hA hE HF
 have q2 := ksv (HF 2) rfl rfl rfl
 clear q0
 clear q1
 clear HF
 replace h_0 := GR.v_ext _ h_0 hE
 replace h_1 := GR.v_ext _ h_1 hE
 replace hB := Base.step hB hE hO; clear hE
 refine li_nil (nx_then (wp_ret ?_))
 have h := Comp.run_pure h; subst h
 exact retPure Try.results109 hA q2 hB.ext rfl
theorem ok_passport_conditions_f8 {O : Tags} {w0 : World} (hO : OkO O w0) {v_0 : Value} {x_0 : aEn} (h_0 : (rBox r_aEn).v O w0 v_0 x_0) {v_1 : Value} {x_1 : passport_place} (h_1 : (rBox r_passport_place).v O w0 v_1 x_1) {n : Nat} {y : Bool} (h : (passport_conditions_f8 x_0 x_1).run n = some y) : Pure Try.prog 110 #[v_0, v_1] w0 (SP.isv (.bool y)).holds := by
 unfold passport_conditions_f8 at h
 refine pure_of_wp Try.func110 rfl 8 Try.ntmps110 (by simp) fun a0 hA hs0 => ?_
 have q0 : a0.get 0 = v_0 := hs0 0 _ rfl
 have q1 : a0.get 1 = v_1 := hs0 1 _ rfl
 clear hs0
 have hB : Base (Fr w0) O w0 O w0 := Base.start hO
 refine wp_seq ?_
 refine' region [_] mixed hA (.cons (fun _ _ hE hK hg => ok_assign rfl) .nil) ?zok1 ?zgd1 ?zk1
 case zok1 | zgd1 => kernel_rfl
 intro a1 w1 hA hE HF
 replace q0 := kn (HF 0) rfl q0
 replace q1 := kn (HF 1) rfl q1
 clear HF
 replace h_0 := GR.v_ext _ h_0 hE
 replace h_1 := GR.v_ext _ h_1 hE
 replace hB := Base.step hB hE hO; clear hE
 refine li_nil (nx_then (wp_seq ?_))
 refine' region [SP.ptr rStr O x_0.Prev, SP.isv (.string (str x_0.Prev)), SP.ptr rStr O x_1.prev_, SP.isv (.string (str x_1.prev_)), _, _] mixed hA (.cons (fun _ _ hE hK hg => okl_fldB (S := r_aEn) fit_aEn rfl (fun _ => rfl) sb_aEn_7 fl26_7 (kn (hK 0 rfl) rfl q0) (GR.v_ext _ h_0 hE)) (.cons (fun _ _ hE hK hg => okl_ldr rStr (fun _ => rfl) ty9 rfl rfl rfl (kspS (φ := SP.ptr rStr O x_0.Prev) (j := 0) (hK 3 rfl) rfl rfl rfl) (fun _ _ _ h => rStr_v.1 h)) (.cons (fun _ _ hE hK hg => okl_fldB (S := r_passport_place) fit_passport_place rfl (fun _ => rfl) sb_passport_place_3 fl92_3 (kn (hK 1 rfl) rfl q1) (GR.v_ext _ h_1 hE)) (.cons (fun _ _ hE hK hg => okl_ldr rStr (fun _ => rfl) ty9 rfl rfl rfl (kspS (φ := SP.ptr rStr O x_1.prev_) (j := 2) (hK 5 rfl) rfl rfl rfl) (fun _ _ _ h => rStr_v.1 h)) (.cons (fun _ _ hE hK hg => okl_eqlS (ksv (j := 1) (hK 4 rfl) rfl rfl rfl) (ksv (j := 3) (hK 6 rfl) rfl rfl rfl)) (.cons (fun _ _ hE hK hg => ok_assign (ksv (j := 4) (hK 7 rfl) rfl rfl rfl)) .nil)))))) ?zok2 ?zgd2 ?zk2
 case zok2 | zgd2 => kernel_rfl
 intro a2 w2 hA hE HF
 have q2 := ksv (HF 2) rfl rfl rfl
 clear q0
 clear q1
 clear HF
 replace h_0 := GR.v_ext _ h_0 hE
 replace h_1 := GR.v_ext _ h_1 hE
 replace hB := Base.step hB hE hO; clear hE
 refine li_nil (nx_then (wp_ret ?_))
 have h := Comp.run_pure h; subst h
 exact retPure Try.results110 hA q2 hB.ext rfl
theorem ok_passport_conditions_f9 {O : Tags} {w0 : World} (hO : OkO O w0) {v_0 : Value} {x_0 : aEn} (h_0 : (rBox r_aEn).v O w0 v_0 x_0) {v_1 : Value} {x_1 : passport_place} (h_1 : (rBox r_passport_place).v O w0 v_1 x_1) {v_2 : Value} {x_2 : Bool} (h_2 : (rBox rBool).v O w0 v_2 x_2) {v_3 : Value} {x_3 : Bool} (h_3 : (rBox rBool).v O w0 v_3 x_3) {n : Nat} {y : Bool} (h : (passport_conditions_f9 x_0 x_1 x_2 x_3).run n = some y) : Pure Try.prog 111 #[v_0, v_1, v_2, v_3] w0 (SP.isv (.bool y)).holds := by
 unfold passport_conditions_f9 at h
 refine pure_of_wp Try.func111 rfl 29 Try.ntmps111 (by simp) fun a0 hA hs0 => ?_
 have q0 : a0.get 0 = v_0 := hs0 0 _ rfl
 have q1 : a0.get 1 = v_1 := hs0 1 _ rfl
 have q2 : a0.get 2 = v_2 := hs0 2 _ rfl
 have q3 : a0.get 3 = v_3 := hs0 3 _ rfl
 clear hs0
 have hB : Base (Fr w0) O w0 O w0 := Base.start hO
 refine wp_seq ?_
 refine' region [_] mixed hA (.cons (fun _ _ hE hK hg => ok_assign rfl) .nil) ?zok1 ?zgd1 ?zk1
 case zok1 | zgd1 => kernel_rfl
 intro a1 w1 hA hE HF
 replace q0 := kn (HF 0) rfl q0
 replace q1 := kn (HF 1) rfl q1
 replace q2 := kn (HF 2) rfl q2
 replace q3 := kn (HF 3) rfl q3
 clear HF
 replace h_0 := GR.v_ext _ h_0 hE
 replace h_1 := GR.v_ext _ h_1 hE
 replace h_2 := GR.v_ext _ h_2 hE
 replace h_3 := GR.v_ext _ h_3 hE
 replace hB := Base.step hB hE hO; clear hE
 refine li_nil (nx_then (wp_seq ?_))
 refine' region [SP.ptr rStr O x_0.Before, SP.isv (.string (str x_0.Before)), SP.ptr rStr O x_1.before_, SP.isv (.string (str x_1.before_)), _, _, SP.ptr rStr O x_0.After, SP.isv (.string (str x_0.After)), _, _, _, _, SP.isv (.bool x_2), _, SP.isv (.bool x_3), _, _, SP.ptr rStr O x_0.After, SP.isv (.string (str x_0.After)), SP.ptr rStr O x_0.Before, SP.isv (.string (str x_0.Before)), _, _, _, _] mixed hA (.cons (fun _ _ hE hK hg => okl_fldB (S := r_aEn) fit_aEn rfl (fun _ => rfl) sb_aEn_5 fl26_5 (kn (hK 0 rfl) rfl q0) (GR.v_ext _ h_0 hE)) (.cons (fun _ _ hE hK hg => okl_ldr rStr (fun _ => rfl) ty9 rfl rfl rfl (kspS (φ := SP.ptr rStr O x_0.Before) (j := 0) (hK 5 rfl) rfl rfl rfl) (fun _ _ _ h => rStr_v.1 h)) (.cons (fun _ _ hE hK hg => okl_fldB (S := r_passport_place) fit_passport_place rfl (fun _ => rfl) sb_passport_place_4 fl92_4 (kn (hK 1 rfl) rfl q1) (GR.v_ext _ h_1 hE)) (.cons (fun _ _ hE hK hg => okl_ldr rStr (fun _ => rfl) ty9 rfl rfl rfl (kspS (φ := SP.ptr rStr O x_1.before_) (j := 2) (hK 7 rfl) rfl rfl rfl) (fun _ _ _ h => rStr_v.1 h)) (.cons (fun _ _ hE hK hg => okl_eqlS (ksv (j := 1) (hK 6 rfl) rfl rfl rfl) (ksv (j := 3) (hK 8 rfl) rfl rfl rfl)) (.cons (fun _ _ hE hK hg => ok_move (ksv (j := 4) (hK 9 rfl) rfl rfl rfl)) (.cons (fun _ _ hE hK hg => okl_fldB (S := r_aEn) fit_aEn rfl (fun _ => rfl) sb_aEn_6 fl26_6 (kn (hK 0 rfl) rfl q0) (GR.v_ext _ h_0 hE)) (.cons ?z2_7 (.cons ?z2_8 (.cons ?z2_9 (.cons ?z2_10 (.cons (fun _ _ hE hK hg => ok_move (ksv (j := 10) (hK 15 rfl) rfl rfl rfl)) (.cons (fun _ _ hE hK hg => okl_ldr rBool (fun _ => rfl) ty4 rfl rfl (kn (hK 2 rfl) rfl q2) (ptr_of_box (fun _ => rfl) (GR.v_ext _ h_2 hE)) (fun _ _ _ h => rBool_v.1 h)) (.cons ?z2_13 (.cons (fun _ _ hE hK hg => okl_ldr rBool (fun _ => rfl) ty4 rfl rfl (kn (hK 3 rfl) rfl q3) (ptr_of_box (fun _ => rfl) (GR.v_ext _ h_3 hE)) (fun _ _ _ h => rBool_v.1 h)) (.cons ?z2_15 (.cons ?z2_16 (.cons (fun _ _ hE hK hg => okl_fldB (S := r_aEn) fit_aEn rfl (fun _ => rfl) sb_aEn_6 fl26_6 (kn (hK 0 rfl) rfl q0) (GR.v_ext _ h_0 hE)) (.cons ?z2_18 (.cons (fun _ _ hE hK hg => okl_fldB (S := r_aEn) fit_aEn rfl (fun _ => rfl) sb_aEn_5 fl26_5 (kn (hK 0 rfl) rfl q0) (GR.v_ext _ h_0 hE)) (.cons ?z2_20 (.cons ?z2_21 (.cons ?z2_22 (.cons ?z2_23 (.cons (fun _ _ hE hK hg => ok_assign (ksv (j := 23) (hK 28 rfl) rfl rfl rfl)) .nil))))))))))))))))))))))))) ?zok2 ?zgd2 ?zk2
 case z2_7 => intro a' w' hE hK hg; exact okl_ldr rStr (fun _ => rfl) ty9 rfl rfl rfl (kspS (φ := SP.ptr rStr O x_0.After) (j := 6) (hK 11 rfl) rfl rfl hg) (fun _ _ _ h => rStr_v.1 h)
 case z2_8 => intro a' w' hE hK hg; exact okl_lenS ty9 (ksv (j := 7) (hK 12 rfl) rfl rfl hg)
 case z2_9 => intro a' w' hE hK hg; exact ok_eqlI (ksv (j := 8) (hK 13 rfl) rfl rfl hg) rfl
 case z2_10 => intro a' w' hE hK hg; exact ok_pick (ksv (j := 5) (hK 10 rfl) rfl rfl rfl) (fun hb => ksv (j := 9) (hK 14 rfl) rfl rfl (act_g1 rfl rfl hb)) (fun _ => rfl)
 case z2_13 => intro a' w' hE hK hg; exact ok_move (ksv (j := 12) (hK 17 rfl) rfl rfl hg)
 case z2_15 => intro a' w' hE hK hg; exact ok_pick (ksv (j := 13) (hK 18 rfl) rfl rfl hg) (fun _ => rfl) (fun hb => ksv (j := 14) (hK 19 rfl) rfl rfl (act_g1 rfl hg hb))
 case z2_16 => intro a' w' hE hK hg; exact ok_move (ksv (j := 15) (hK 20 rfl) rfl rfl hg)
 case z2_18 => intro a' w' hE hK hg; exact okl_ldr rStr (fun _ => rfl) ty9 rfl rfl rfl (kspS (φ := SP.ptr rStr O x_0.After) (j := 17) (hK 22 rfl) rfl rfl hg) (fun _ _ _ h => rStr_v.1 h)
 case z2_20 => intro a' w' hE hK hg; exact okl_ldr rStr (fun _ => rfl) ty9 rfl rfl rfl (kspS (φ := SP.ptr rStr O x_0.Before) (j := 19) (hK 24 rfl) rfl rfl hg) (fun _ _ _ h => rStr_v.1 h)
 case z2_21 => intro a' w' hE hK hg; exact okl_eqlS (ksv (j := 18) (hK 23 rfl) rfl rfl hg) (ksv (j := 20) (hK 25 rfl) rfl rfl hg)
 case z2_22 => intro a' w' hE hK hg; exact ok_pick (ksv (j := 16) (hK 21 rfl) rfl rfl hg) (fun _ => rfl) (fun hb => ksv (j := 21) (hK 26 rfl) rfl rfl (act_g1 rfl hg hb))
 case z2_23 => intro a' w' hE hK hg; exact ok_pick (ksv (j := 11) (hK 16 rfl) rfl rfl rfl) (fun hb => ksv (j := 22) (hK 27 rfl) rfl rfl (act_g1 rfl rfl hb)) (fun _ => rfl)
 case zok2 | zgd2 => kernel_rfl
 intro a2 w2 hA hE HF
 have q4 := ksv (HF 4) rfl rfl rfl
 clear q0
 clear q1
 clear q2
 clear q3
 clear HF
 replace h_0 := GR.v_ext _ h_0 hE
 replace h_1 := GR.v_ext _ h_1 hE
 replace h_2 := GR.v_ext _ h_2 hE
 replace h_3 := GR.v_ext _ h_3 hE
 replace hB := Base.step hB hE hO; clear hE
 obtain ⟨x1, hx_, h⟩ := Comp.run_bind h; replace hx_ := Comp.run_pure hx_; rw [hx_] at q4; clear hx_
 refine li_nil (nx_then (wp_ret ?_))
 have h := Comp.run_pure h; subst h
 exact retPure Try.results111 hA q4 hB.ext rfl
theorem ok_digest_Check {O : Tags} {w0 : World} (hO : OkO O w0) {x_0 : Bytes} {x_1 : Bytes} {x_2 : Bytes} {n : Nat} {y : Bool} (h : (digest_Check x_0 x_1 x_2).run n = some y) : Pure Try.prog 34 #[.string (str x_0), .string (str x_1), .string (str x_2)] w0 (SP.isv (.bool y)).holds := by
 unfold digest_Check at h
 refine pure_of_wp Try.func34 rfl 24 Try.ntmps34 (by simp) fun a0 hA hs0 => ?_
 have q0 : a0.get 0 = .string (str x_0) := hs0 0 _ rfl
 have q1 : a0.get 1 = .string (str x_1) := hs0 1 _ rfl
 have q2 : a0.get 2 = .string (str x_2) := hs0 2 _ rfl
 clear hs0
 have hB : Base (Fr w0) O w0 O w0 := Base.start hO
 refine wp_seq ?_
 refine' region [_] mixed hA (.cons (fun _ _ hE hK hg => ok_assign rfl) .nil) ?zok1 ?zgd1 ?zk1
 case zok1 | zgd1 => kernel_rfl
 intro a1 w1 hA hE HF
 replace q0 := kn (HF 0) rfl q0
 replace q1 := kn (HF 1) rfl q1
 replace q2 := kn (HF 2) rfl q2
 clear HF
 replace hB := Base.step hB hE hO; clear hE
 refine li_nil (nx_then (wp_seq ?_))
 obtain ⟨x1, hx1, h⟩ := Comp.run_bind h
 obtain ⟨x2, hx2, h⟩ := Comp.run_bind h
 refine' region [_, _, _, _, _, _, _, _, _, SP.vl (rSl (rInt .u8)) O (ofStr x_2), SP.ptrz (rVec 8 1 (fun x => [.int .u8 x]) (fun _ => rfl) (fun _ => by simp [Value.oneCell'])) O x1 (of_decide_eq_true rfl) (by intro h; cases h), SP.isv (.agg (cellsA (fun x => [.int .u8 x]) x1).toArray), _, _, SP.isv (.agg (cellsA (fun x => [.int .u8 x]) x2).toArray), _, _, _] mixed hA (.cons (fun _ _ hE hK hg => ok_move (kn (hK 0 rfl) rfl q0)) (.cons (fun _ _ hE hK hg => okl_neqS (ksv (j := 0) (hK 7 rfl) rfl rfl rfl) rfl) (.cons (fun _ _ hE hK hg => ok_move (ksv (j := 1) (hK 8 rfl) rfl rfl rfl)) (.cons (fun _ _ hE hK hg => ok_move (kn (hK 2 rfl) rfl q2)) (.cons ?z2_4 (.cons ?z2_5 (.cons ?z2_6 (.cons (fun _ _ hE hK hg => ok_move (ksv (j := 6) (hK 13 rfl) rfl rfl rfl)) (.cons (fun _ _ hE hK hg => ok_move (kn (hK 2 rfl) rfl q2)) (.cons ?z2_9 (.cons ?z2_10 (.cons ?z2_11 (.cons (fun _ _ hE hK hg => ok_move (kn (hK 0 rfl) rfl q0)) (.cons (fun _ _ hE hK hg => ok_move (kn (hK 1 rfl) rfl q1)) (.cons ?z2_14 (.cons ?z2_15 (.cons ?z2_16 (.cons (fun _ _ hE hK hg => ok_assign (ksv (j := 16) (hK 23 rfl) rfl rfl rfl)) .nil)))))))))))))))))) ?zok2 ?zgd2 ?zk2
 case z2_4 => intro a' w' hE hK hg; exact okl_lenS ty9 (ksv (j := 3) (hK 10 rfl) rfl rfl hg)
 case z2_5 => intro a' w' hE hK hg; exact ok_eqlI (ksv (j := 4) (hK 11 rfl) rfl rfl hg) rfl
 case z2_6 => intro a' w' hE hK hg; exact ok_pick (ksv (j := 2) (hK 9 rfl) rfl rfl rfl) (fun hb => ksv (j := 5) (hK 12 rfl) rfl rfl (act_g1 rfl rfl hb)) (fun _ => rfl)
 case z2_9 => intro a' w' hE hK hg; exact okl_strToBytes (OkO.ext hB.ok hE) ty9 ty104 ty5 (ksv (j := 8) (hK 15 rfl) rfl rfl hg)
 case z2_10 => intro a' w' hE hK hg; exact okl_arrAt (r := (rInt .u8)) (f := (fun x => [.int .u8 x])) (hl := (fun _ => rfl)) (ho := (fun _ => by simp [Value.oneCell'])) (fun _ => rfl) rfl (fun _ _ _ _ h => rInt_v.1 h) (fun _ _ _ => rfl) (by decide) (by decide) ty103 rfl (kspS (φ := SP.vl (rSl (rInt .u8)) O (ofStr x_2)) (j := 9) (hK 16 rfl) rfl rfl hg) (run_gdb hx1 hg)
 case z2_11 => intro a' w' hE hK hg; exact okl_ldr (rVec 8 1 (fun x => [.int .u8 x]) (fun _ => rfl) (fun _ => by simp [Value.oneCell'])) (by intro h; cases h) ty103 rfl rfl rfl (PtrZ.ptr (kspS (φ := SP.ptrz (rVec 8 1 (fun x => [.int .u8 x]) (fun _ => rfl) (fun _ => by simp [Value.oneCell'])) O x1 (of_decide_eq_true rfl) (by intro h; cases h)) (j := 10) (hK 17 rfl) rfl rfl hg)) (fun _ _ _ h => rC_v.1 h)
 case z2_14 => intro a' w' hE hK hg; have c_ := ok_digest_marked (OkO.ext hB.ok hE)  (run_gdb hx2 hg); exact ok_call2 fn73 (ksv (j := 12) (hK 19 rfl) rfl rfl hg) (ksv (j := 13) (hK 20 rfl) rfl rfl hg) c_
 case z2_15 => intro a' w' hE hK hg; exact okl_eqlR (O1 := O) (O2 := O) (w1 := w1) (w2 := w1) (eqr_vec (f := (fun x => [.int .u8 x])) (hl := (fun _ => rfl)) (ho := (fun _ => by simp [Value.oneCell'])) ty103 ty5 rfl (eqr_int ty5) (fun _ _ _ => rfl)) rfl (by decide) (by kernel_rfl) (ksv (j := 11) (hK 18 rfl) rfl rfl hg) (ksv (j := 14) (hK 21 rfl) rfl rfl hg) ((rC_v (x := x1)).2 rfl) ((rC_v (x := x2)).2 rfl)
 case z2_16 => intro a' w' hE hK hg; exact ok_pick (ksv (j := 7) (hK 14 rfl) rfl rfl rfl) (fun hb => ksv (j := 15) (hK 22 rfl) rfl rfl (act_g1 rfl rfl hb)) (fun _ => rfl)
 case zok2 | zgd2 => kernel_rfl
 intro a2 w2 hA hE HF
 have q6 := ksv (HF 6) rfl rfl rfl
 clear q0
 clear q1
 clear q2
 clear HF
 replace hB := Base.step hB hE hO; clear hE
 obtain ⟨x3, hx_, h⟩ := Comp.run_bind h; replace hx_ := Comp.run_pure hx_; rw [hx_] at q6; clear hx_
 refine li_nil (nx_then (wp_ret ?_))
 have h := Comp.run_pure h; subst h
 exact retPure Try.results34 hA q6 hB.ext rfl
theorem ok_passport_conditions_f10 {O : Tags} {w0 : World} (hO : OkO O w0) {v_0 : Value} {x_0 : List Bytes} (h_0 : (rBox (rSl rStr)).v O w0 v_0 x_0) {v_1 : Value} {x_1 : aEn} (h_1 : (rBox r_aEn).v O w0 v_1 x_1) {n : Nat} {y : Bool} (h : (passport_conditions_f10 x_0 x_1).run n = some y) : Pure Try.prog 112 #[v_0, v_1] w0 (SP.isv (.bool y)).holds := by
 unfold passport_conditions_f10 at h
 refine pure_of_wp Try.func112 rfl 13 Try.ntmps112 (by simp) fun a0 hA hs0 => ?_
 have q0 : a0.get 0 = v_0 := hs0 0 _ rfl
 have q1 : a0.get 1 = v_1 := hs0 1 _ rfl
 clear hs0
 have hB : Base (Fr w0) O w0 O w0 := Base.start hO
 refine wp_seq ?_
 refine' region [_] mixed hA (.cons (fun _ _ hE hK hg => ok_assign rfl) .nil) ?zok1 ?zgd1 ?zk1
 case zok1 | zgd1 => kernel_rfl
 intro a1 w1 hA hE HF
 replace q0 := kn (HF 0) rfl q0
 replace q1 := kn (HF 1) rfl q1
 clear HF
 replace h_0 := GR.v_ext _ h_0 hE
 replace h_1 := GR.v_ext _ h_1 hE
 replace hB := Base.step hB hE hO; clear hE
 refine li_nil (nx_then (wp_seq ?_))
 obtain ⟨x1, hx1, h⟩ := Comp.run_bind h
 obtain ⟨x2, hx2, h⟩ := Comp.run_bind h
 obtain ⟨x3, hx3, h⟩ := Comp.run_bind h
 refine' region [SP.vl (rSl rStr) O x_0, SP.ptr (rInt .i64) O x_1.Shop, SP.isv (.int .i64 x_1.Shop), SP.ptr rStr O x1, SP.isv (.string (str x1)), SP.isv (.agg #[.int .i64 x_1.Seq, .int .i64 x_1.Shop, .int .i64 x_1.Kind, .int .i64 x_1.Day, .int .i64 x_1.N, .string (str x_1.Before), .string (str x_1.After), .string (str x_1.Prev), .string (str x_1.Mark)]), SP.isv (.string (str x2)), SP.ptr rStr O x_1.Mark, SP.isv (.string (str x_1.Mark)), SP.isv (.bool x3), _] mixed hA (.cons (fun _ _ hE hK hg => okl_ld (r := (rSl rStr)) (fun _ => rfl) ty28 rfl rfl (kn (hK 0 rfl) rfl q0) (ptr_of_box (fun _ => rfl) (GR.v_ext _ h_0 hE))) (.cons (fun _ _ hE hK hg => okl_fldB (S := r_aEn) fit_aEn rfl (fun _ => rfl) sb_aEn_1 fl26_1 (kn (hK 1 rfl) rfl q1) (GR.v_ext _ h_1 hE)) (.cons (fun _ _ hE hK hg => okl_ldr (rInt .i64) (fun _ => rfl) ty3 rfl rfl rfl (kspS (φ := SP.ptr (rInt .i64) O x_1.Shop) (j := 1) (hK 4 rfl) rfl rfl rfl) (fun _ _ _ h => rInt_v.1 h)) (.cons (fun _ _ hE hK hg => okl_idx (r := rStr) (O := O) ty28 ty9 rfl rfl (rd_of (kspS (φ := SP.vl (rSl rStr) O x_0) (j := 0) (hK 3 rfl) rfl rfl rfl)) (ksv (j := 2) (hK 5 rfl) rfl rfl rfl) hx1) (.cons (fun _ _ hE hK hg => okl_ldr rStr (fun _ => rfl) ty9 rfl rfl rfl (kspS (φ := SP.ptr rStr O x1) (j := 3) (hK 6 rfl) rfl rfl rfl) (fun _ _ _ h => rStr_v.1 h)) (.cons (fun _ _ hE hK hg => okl_ldr r_aEn fit_aEn ty26 rfl rfl (kn (hK 1 rfl) rfl q1) (ptr_of_box fit_aEn (GR.v_ext _ h_1 hE)) (fun _ _ _ h => rC_v.1 h)) (.cons ?z2_6 (.cons (fun _ _ hE hK hg => okl_fldB (S := r_aEn) fit_aEn rfl (fun _ => rfl) sb_aEn_8 fl26_8 (kn (hK 1 rfl) rfl q1) (GR.v_ext _ h_1 hE)) (.cons (fun _ _ hE hK hg => okl_ldr rStr (fun _ => rfl) ty9 rfl rfl rfl (kspS (φ := SP.ptr rStr O x_1.Mark) (j := 7) (hK 10 rfl) rfl rfl rfl) (fun _ _ _ h => rStr_v.1 h)) (.cons ?z2_9 (.cons (fun _ _ hE hK hg => ok_assign (ksv (j := 9) (hK 12 rfl) rfl rfl rfl)) .nil))))))))))) ?zok2 ?zgd2 ?zk2
 case z2_6 => intro a' w' hE hK hg; have c_ := ok_passport_Bytes (OkO.ext hB.ok hE)  hx2; exact ok_call1 fn17 (ksv (j := 5) (hK 8 rfl) rfl rfl rfl) c_
 case z2_9 => intro a' w' hE hK hg; have c_ := ok_digest_Check (OkO.ext hB.ok hE)  hx3; exact ok_call3 fn34 (ksv (j := 4) (hK 7 rfl) rfl rfl rfl) (ksv (j := 6) (hK 9 rfl) rfl rfl rfl) (ksv (j := 8) (hK 11 rfl) rfl rfl rfl) c_
 case zok2 | zgd2 => kernel_rfl
 intro a2 w2 hA hE HF
 have q2 := ksv (HF 2) rfl rfl rfl
 clear q0
 clear q1
 clear HF
 replace h_0 := GR.v_ext _ h_0 hE
 replace h_1 := GR.v_ext _ h_1 hE
 replace hB := Base.step hB hE hO; clear hE
 refine li_nil (nx_then (wp_ret ?_))
 have h := Comp.run_pure h; subst h
 exact retPure Try.results112 hA q2 hB.ext rfl
end Go.Proofs.Ytkbipbfncbopnaa
end
