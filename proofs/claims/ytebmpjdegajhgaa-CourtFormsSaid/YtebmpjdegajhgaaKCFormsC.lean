/- Lemmas behind a claim of this seat. No statement of the program stands here. -/
import Derived.Test.YtebmpjdegajhgaaKCFormsB
import Derived.Test.YtebmpjdegajhgaaProg
set_option linter.unusedSimpArgs false
set_option linter.unusedVariables false
section
namespace Go.Proofs.Ytebmpjdegajhgaa
open Go Go.RowKit Go.Eng Go.Lift Go.F
set_option linter.unusedVariables false
set_option linter.unusedSimpArgs false
set_option maxRecDepth 100000
theorem mixed : Try.prog.follows .mixedOrders = true := by kernel_rfl
theorem ty3 : Ty Try.prog 3 (.int .i64) (.int .i64 0) 1 8 := ⟨by kernel_rfl, by kernel_rfl⟩
theorem ty4 : Ty Try.prog 4 .bool (.bool false) 1 1 := ⟨by kernel_rfl, by kernel_rfl⟩
theorem ty5 : Ty Try.prog 5 (.int .u8) (.int .u8 0) 1 1 := ⟨by kernel_rfl, by kernel_rfl⟩
theorem ty9 : Ty Try.prog 9 .string (.string ⟨#[]⟩) 1 16 := ⟨by kernel_rfl, by kernel_rfl⟩
theorem ty22 : Ty Try.prog 22 (.slice 23) (.slice none 0 0) 1 24 := ⟨by kernel_rfl, by kernel_rfl⟩
theorem ty23 : Ty Try.prog 23 (.slice 3) (.slice none 0 0) 1 24 := ⟨by kernel_rfl, by kernel_rfl⟩
theorem ty25 : Ty Try.prog 25 (.struct (Try.prog.fieldsOf 25)) (.agg #[.slice none 0 0, .int .u8 0, .slice none 0 0]) 3 56 := ⟨by kernel_rfl, by kernel_rfl⟩
theorem ty26 : Ty Try.prog 26 (.array 3 3) (.agg #[.int .i64 0, .int .i64 0, .int .i64 0]) 3 24 := ⟨by kernel_rfl, by kernel_rfl⟩
theorem ty27 : Ty Try.prog 27 (.slice 33) (.slice none 0 0) 1 24 := ⟨by kernel_rfl, by kernel_rfl⟩
theorem ty28 : Ty Try.prog 28 (.slice 64) (.slice none 0 0) 1 24 := ⟨by kernel_rfl, by kernel_rfl⟩
theorem ty33 : Ty Try.prog 33 (.struct (Try.prog.fieldsOf 33)) (.agg #[.int .i64 0, .int .i64 0, .int .i64 0, .slice none 0 0, .slice none 0 0]) 5 72 := ⟨by kernel_rfl, by kernel_rfl⟩
theorem ty36 : Ty Try.prog 36 (.slice 27) (.slice none 0 0) 1 24 := ⟨by kernel_rfl, by kernel_rfl⟩
theorem ty37 : Ty Try.prog 37 (.slice 28) (.slice none 0 0) 1 24 := ⟨by kernel_rfl, by kernel_rfl⟩
theorem ty47 : Ty Try.prog 47 (.slice 4) (.slice none 0 0) 1 24 := ⟨by kernel_rfl, by kernel_rfl⟩
theorem ty64 : Ty Try.prog 64 (.struct (Try.prog.fieldsOf 64)) (.agg #[.int .i64 0, .int .i64 0, .bool false]) 3 24 := ⟨by kernel_rfl, by kernel_rfl⟩
theorem ty71 : Ty Try.prog 71 (.map 73 4) (.map none) 1 8 := ⟨by kernel_rfl, by kernel_rfl⟩
theorem ty73 : Ty Try.prog 73 (.array 2 3) (.agg #[.int .i64 0, .int .i64 0]) 2 16 := ⟨by kernel_rfl, by kernel_rfl⟩
theorem ty75 : Ty Try.prog 75 (.slice 94) (.slice none 0 0) 1 24 := ⟨by kernel_rfl, by kernel_rfl⟩
theorem ty79 : Ty Try.prog 79 (.func #[3] #[4] false) (.nilFunc) 1 8 := ⟨by kernel_rfl, by kernel_rfl⟩
theorem ty85 : Ty Try.prog 85 (.int .u64) (.int .u64 0) 1 8 := ⟨by kernel_rfl, by kernel_rfl⟩
theorem ty88 : Ty Try.prog 88 (.struct (Try.prog.fieldsOf 88)) (.agg #[.slice none 0 0, .int .i64 0]) 2 32 := ⟨by kernel_rfl, by kernel_rfl⟩
theorem ty92 : Ty Try.prog 92 (.struct (Try.prog.fieldsOf 92)) (.agg #[.bool false, .bool false, .bool false, .bool false, .bool false, .bool false]) 6 6 := ⟨by kernel_rfl, by kernel_rfl⟩
theorem ty94 : Ty Try.prog 94 (.interface #[("collet/court.speak", 98)]) (.nilIface) 1 16 := ⟨by kernel_rfl, by kernel_rfl⟩
theorem ty96 : Ty Try.prog 96 (.struct (Try.prog.fieldsOf 96)) (.agg #[.slice none 0 0, .slice none 0 0]) 2 48 := ⟨by kernel_rfl, by kernel_rfl⟩
theorem ty101 : Ty Try.prog 101 (.struct (Try.prog.fieldsOf 101)) (.agg #[.slice none 0 0]) 1 24 := ⟨by kernel_rfl, by kernel_rfl⟩
theorem ty102 : Ty Try.prog 102 (.slice 64) (.slice none 0 0) 1 24 := ⟨by kernel_rfl, by kernel_rfl⟩
theorem ty115 : Ty Try.prog 115 (.int .u64) (.int .u64 0) 1 8 := ⟨by kernel_rfl, by kernel_rfl⟩
theorem fl25_0 : Fld Try.prog 25 0 22 0 0 := ⟨by kernel_rfl, by kernel_rfl, by kernel_rfl⟩
theorem fl25_1 : Fld Try.prog 25 1 5 1 0 := ⟨by kernel_rfl, by kernel_rfl, by kernel_rfl⟩
theorem fl25_2 : Fld Try.prog 25 2 23 2 0 := ⟨by kernel_rfl, by kernel_rfl, by kernel_rfl⟩
theorem fl33_0 : Fld Try.prog 33 0 3 0 0 := ⟨by kernel_rfl, by kernel_rfl, by kernel_rfl⟩
theorem fl33_1 : Fld Try.prog 33 1 3 1 0 := ⟨by kernel_rfl, by kernel_rfl, by kernel_rfl⟩
theorem fl33_2 : Fld Try.prog 33 2 3 2 0 := ⟨by kernel_rfl, by kernel_rfl, by kernel_rfl⟩
theorem fl33_3 : Fld Try.prog 33 3 23 3 0 := ⟨by kernel_rfl, by kernel_rfl, by kernel_rfl⟩
theorem fl33_4 : Fld Try.prog 33 4 23 4 0 := ⟨by kernel_rfl, by kernel_rfl, by kernel_rfl⟩
theorem fl64_0 : Fld Try.prog 64 0 3 0 0 := ⟨by kernel_rfl, by kernel_rfl, by kernel_rfl⟩
theorem fl64_1 : Fld Try.prog 64 1 3 1 0 := ⟨by kernel_rfl, by kernel_rfl, by kernel_rfl⟩
theorem fl64_2 : Fld Try.prog 64 2 4 2 0 := ⟨by kernel_rfl, by kernel_rfl, by kernel_rfl⟩
theorem fl88_0 : Fld Try.prog 88 0 23 0 0 := ⟨by kernel_rfl, by kernel_rfl, by kernel_rfl⟩
theorem fl88_1 : Fld Try.prog 88 1 3 1 0 := ⟨by kernel_rfl, by kernel_rfl, by kernel_rfl⟩
theorem fl92_0 : Fld Try.prog 92 0 4 0 0 := ⟨by kernel_rfl, by kernel_rfl, by kernel_rfl⟩
theorem fl92_1 : Fld Try.prog 92 1 4 1 0 := ⟨by kernel_rfl, by kernel_rfl, by kernel_rfl⟩
theorem fl92_2 : Fld Try.prog 92 2 4 2 0 := ⟨by kernel_rfl, by kernel_rfl, by kernel_rfl⟩
theorem fl92_3 : Fld Try.prog 92 3 4 3 0 := ⟨by kernel_rfl, by kernel_rfl, by kernel_rfl⟩
theorem fl92_4 : Fld Try.prog 92 4 4 4 0 := ⟨by kernel_rfl, by kernel_rfl, by kernel_rfl⟩
theorem fl92_5 : Fld Try.prog 92 5 4 5 0 := ⟨by kernel_rfl, by kernel_rfl, by kernel_rfl⟩
theorem fl96_0 : Fld Try.prog 96 0 23 0 0 := ⟨by kernel_rfl, by kernel_rfl, by kernel_rfl⟩
theorem fl96_1 : Fld Try.prog 96 1 23 1 0 := ⟨by kernel_rfl, by kernel_rfl, by kernel_rfl⟩
theorem fl101_0 : Fld Try.prog 101 0 23 0 0 := ⟨by kernel_rfl, by kernel_rfl, by kernel_rfl⟩
theorem fn8 : FnOk Try.prog 8 := ⟨_, Try.func8, rfl, by kernel_rfl⟩
theorem fn9 : FnOk Try.prog 9 := ⟨_, Try.func9, rfl, by kernel_rfl⟩
theorem fn10 : FnOk Try.prog 10 := ⟨_, Try.func10, rfl, by kernel_rfl⟩
theorem fn11 : FnOk Try.prog 11 := ⟨_, Try.func11, rfl, by kernel_rfl⟩
theorem fn12 : FnOk Try.prog 12 := ⟨_, Try.func12, rfl, by kernel_rfl⟩
theorem fn13 : FnOk Try.prog 13 := ⟨_, Try.func13, rfl, by kernel_rfl⟩
theorem fn14 : FnOk Try.prog 14 := ⟨_, Try.func14, rfl, by kernel_rfl⟩
theorem fn15 : FnOk Try.prog 15 := ⟨_, Try.func15, rfl, by kernel_rfl⟩
theorem fn16 : FnOk Try.prog 16 := ⟨_, Try.func16, rfl, by kernel_rfl⟩
theorem fn17 : FnOk Try.prog 17 := ⟨_, Try.func17, rfl, by kernel_rfl⟩
theorem fn18 : FnOk Try.prog 18 := ⟨_, Try.func18, rfl, by kernel_rfl⟩
theorem fn19 : FnOk Try.prog 19 := ⟨_, Try.func19, rfl, by kernel_rfl⟩
theorem fn20 : FnOk Try.prog 20 := ⟨_, Try.func20, rfl, by kernel_rfl⟩
theorem fn21 : FnOk Try.prog 21 := ⟨_, Try.func21, rfl, by kernel_rfl⟩
theorem fn22 : FnOk Try.prog 22 := ⟨_, Try.func22, rfl, by kernel_rfl⟩
theorem fn23 : FnOk Try.prog 23 := ⟨_, Try.func23, rfl, by kernel_rfl⟩
theorem fn32 : FnOk Try.prog 32 := ⟨_, Try.func32, rfl, by kernel_rfl⟩
theorem fn33 : FnOk Try.prog 33 := ⟨_, Try.func33, rfl, by kernel_rfl⟩
theorem fn34 : FnOk Try.prog 34 := ⟨_, Try.func34, rfl, by kernel_rfl⟩
theorem fn35 : FnOk Try.prog 35 := ⟨_, Try.func35, rfl, by kernel_rfl⟩
theorem fn36 : FnOk Try.prog 36 := ⟨_, Try.func36, rfl, by kernel_rfl⟩
theorem fn37 : FnOk Try.prog 37 := ⟨_, Try.func37, rfl, by kernel_rfl⟩
theorem fn38 : FnOk Try.prog 38 := ⟨_, Try.func38, rfl, by kernel_rfl⟩
theorem fn39 : FnOk Try.prog 39 := ⟨_, Try.func39, rfl, by kernel_rfl⟩
theorem fn40 : FnOk Try.prog 40 := ⟨_, Try.func40, rfl, by kernel_rfl⟩
theorem fn41 : FnOk Try.prog 41 := ⟨_, Try.func41, rfl, by kernel_rfl⟩
theorem fn42 : FnOk Try.prog 42 := ⟨_, Try.func42, rfl, by kernel_rfl⟩
theorem fn43 : FnOk Try.prog 43 := ⟨_, Try.func43, rfl, by kernel_rfl⟩
theorem fn44 : FnOk Try.prog 44 := ⟨_, Try.func44, rfl, by kernel_rfl⟩
theorem fn45 : FnOk Try.prog 45 := ⟨_, Try.func45, rfl, by kernel_rfl⟩
theorem fn46 : FnOk Try.prog 46 := ⟨_, Try.func46, rfl, by kernel_rfl⟩
theorem fn47 : FnOk Try.prog 47 := ⟨_, Try.func47, rfl, by kernel_rfl⟩
theorem fn48 : FnOk Try.prog 48 := ⟨_, Try.func48, rfl, by kernel_rfl⟩
theorem fn49 : FnOk Try.prog 49 := ⟨_, Try.func49, rfl, by kernel_rfl⟩
theorem fn50 : FnOk Try.prog 50 := ⟨_, Try.func50, rfl, by kernel_rfl⟩
theorem fn51 : FnOk Try.prog 51 := ⟨_, Try.func51, rfl, by kernel_rfl⟩
theorem fn52 : FnOk Try.prog 52 := ⟨_, Try.func52, rfl, by kernel_rfl⟩
theorem fn54 : FnOk Try.prog 54 := ⟨_, Try.func54, rfl, by kernel_rfl⟩
theorem fn55 : FnOk Try.prog 55 := ⟨_, Try.func55, rfl, by kernel_rfl⟩
theorem fn56 : FnOk Try.prog 56 := ⟨_, Try.func56, rfl, by kernel_rfl⟩
theorem fn57 : FnOk Try.prog 57 := ⟨_, Try.func57, rfl, by kernel_rfl⟩
theorem fn58 : FnOk Try.prog 58 := ⟨_, Try.func58, rfl, by kernel_rfl⟩
theorem fn59 : FnOk Try.prog 59 := ⟨_, Try.func59, rfl, by kernel_rfl⟩
theorem fn60 : FnOk Try.prog 60 := ⟨_, Try.func60, rfl, by kernel_rfl⟩
theorem fn61 : FnOk Try.prog 61 := ⟨_, Try.func61, rfl, by kernel_rfl⟩
theorem fn62 : FnOk Try.prog 62 := ⟨_, Try.func62, rfl, by kernel_rfl⟩
theorem fn63 : FnOk Try.prog 63 := ⟨_, Try.func63, rfl, by kernel_rfl⟩
theorem fn64 : FnOk Try.prog 64 := ⟨_, Try.func64, rfl, by kernel_rfl⟩
theorem fn65 : FnOk Try.prog 65 := ⟨_, Try.func65, rfl, by kernel_rfl⟩
theorem fn66 : FnOk Try.prog 66 := ⟨_, Try.func66, rfl, by kernel_rfl⟩
theorem fn67 : FnOk Try.prog 67 := ⟨_, Try.func67, rfl, by kernel_rfl⟩
theorem fn68 : FnOk Try.prog 68 := ⟨_, Try.func68, rfl, by kernel_rfl⟩
theorem fn69 : FnOk Try.prog 69 := ⟨_, Try.func69, rfl, by kernel_rfl⟩
theorem fn70 : FnOk Try.prog 70 := ⟨_, Try.func70, rfl, by kernel_rfl⟩
theorem fn71 : FnOk Try.prog 71 := ⟨_, Try.func71, rfl, by kernel_rfl⟩
theorem fn72 : FnOk Try.prog 72 := ⟨_, Try.func72, rfl, by kernel_rfl⟩
theorem fn73 : FnOk Try.prog 73 := ⟨_, Try.func73, rfl, by kernel_rfl⟩
theorem fn74 : FnOk Try.prog 74 := ⟨_, Try.func74, rfl, by kernel_rfl⟩
theorem fn75 : FnOk Try.prog 75 := ⟨_, Try.func75, rfl, by kernel_rfl⟩
theorem fn76 : FnOk Try.prog 76 := ⟨_, Try.func76, rfl, by kernel_rfl⟩
theorem fn77 : FnOk Try.prog 77 := ⟨_, Try.func77, rfl, by kernel_rfl⟩
theorem fn78 : FnOk Try.prog 78 := ⟨_, Try.func78, rfl, by kernel_rfl⟩
theorem fn79 : FnOk Try.prog 79 := ⟨_, Try.func79, rfl, by kernel_rfl⟩
theorem fn80 : FnOk Try.prog 80 := ⟨_, Try.func80, rfl, by kernel_rfl⟩
theorem fn82 : FnOk Try.prog 82 := ⟨_, Try.func82, rfl, by kernel_rfl⟩
theorem fn83 : FnOk Try.prog 83 := ⟨_, Try.func83, rfl, by kernel_rfl⟩
theorem fn85 : FnOk Try.prog 85 := ⟨_, Try.func85, rfl, by kernel_rfl⟩
theorem fn115 : FnOk Try.prog 115 := ⟨_, Try.func115, rfl, by kernel_rfl⟩
theorem fn116 : FnOk Try.prog 116 := ⟨_, Try.func116, rfl, by kernel_rfl⟩
theorem fn117 : FnOk Try.prog 117 := ⟨_, Try.func117, rfl, by kernel_rfl⟩
theorem plc33 : Plc Try.prog 33 #[(0, 1), (1, 1), (2, 1), (3, 1), (4, 1)] := ⟨by kernel_rfl, fun w => by kernel_rfl⟩
theorem plc64 : Plc Try.prog 64 #[(0, 1), (1, 1), (2, 1)] := ⟨by kernel_rfl, fun w => by kernel_rfl⟩
theorem plc88 : Plc Try.prog 88 #[(0, 1), (1, 1)] := ⟨by kernel_rfl, fun w => by kernel_rfl⟩
theorem plc92 : Plc Try.prog 92 #[(0, 1), (1, 1), (2, 1), (3, 1), (4, 1), (5, 1)] := ⟨by kernel_rfl, fun w => by kernel_rfl⟩
theorem plc96 : Plc Try.prog 96 #[(0, 1), (1, 1)] := ⟨by kernel_rfl, fun w => by kernel_rfl⟩
theorem plc101 : Plc Try.prog 101 #[(0, 1)] := ⟨by kernel_rfl, fun w => by kernel_rfl⟩
noncomputable def zA : GR api_Claim := (rCons (rInt .i64) (·.Party) (rCons (rInt .i64) (·.Kind) (rCons (rInt .i64) (·.Gauge) (rCons (rSl (rInt .i64)) (·.Sure) (rCons (rSl (rInt .i64)) (·.Touched) rNil)))))
theorem zK : zA.fits := fun h => by cases h
theorem sb_api_Claim_0 : SubR zA 0 (rInt .i64) (·.Party) := sub_hd
theorem yS : SubR zA 1 (rInt .i64) (·.Kind) := (sub_tl sub_hd rfl)
theorem gq : SubR zA 2 (rInt .i64) (·.Gauge) := (sub_tl (sub_tl sub_hd rfl) rfl)
theorem gp : SubR zA 3 (rSl (rInt .i64)) (·.Sure) := (sub_tl (sub_tl (sub_tl sub_hd rfl) rfl) rfl)
theorem go : SubR zA 4 (rSl (rInt .i64)) (·.Touched) := (sub_tl (sub_tl (sub_tl (sub_tl sub_hd rfl) rfl) rfl) rfl)
theorem openR_api_Claim {O : Tags} {w : World} {cs : List Value} {x : api_Claim} (h : zA.rel O w cs x) : ∃ u1 u2 : Value, cs = [.int .i64 x.Party, .int .i64 x.Kind, .int .i64 x.Gauge, u1, u2] ∧ (rSl (rInt .i64)).v O w u1 x.Sure ∧ (rSl (rInt .i64)).v O w u2 x.Touched := by
 obtain ⟨c1, d1, rfl, h1, t1⟩ := h
 replace h1 : c1 = [.int .i64 x.Party] := h1; subst h1
 obtain ⟨c2, d2, rfl, h2, t2⟩ := t1
 replace h2 : c2 = [.int .i64 x.Kind] := h2; subst h2
 obtain ⟨c3, d3, rfl, h3, t3⟩ := t2
 replace h3 : c3 = [.int .i64 x.Gauge] := h3; subst h3
 obtain ⟨c4, d4, rfl, h4, t4⟩ := t3
 obtain ⟨u1, rfl, ku1⟩ := rel_one h4 rfl rfl
 obtain ⟨c5, d5, rfl, h5, t5⟩ := t4
 obtain ⟨u2, rfl, ku2⟩ := rel_one h5 rfl rfl
 replace t5 : _ = ([] : List Value) := t5; subst t5
 exact ⟨u1, u2, rfl, ku1, ku2⟩
theorem openV_api_Claim {O : Tags} {w : World} {u : Value} {x : api_Claim} (h : zA.v O w u x) : ∃ u1 u2 : Value, u = .agg #[.int .i64 x.Party, .int .i64 x.Kind, .int .i64 x.Gauge, u1, u2] ∧ (rSl (rInt .i64)).v O w u1 x.Sure ∧ (rSl (rInt .i64)).v O w u2 x.Touched := by
 obtain ⟨cs, h, rfl⟩ := h
 obtain ⟨u1, u2, e_, ku1, ku2⟩ := openR_api_Claim h
 subst e_
 exact ⟨u1, u2, rfl, ku1, ku2⟩
def zD : GR api_Sight := rC true 3 (fun x => [.int .i64 x.Gauge, .int .i64 x.Cell, .bool x.There]) (fun _ => rfl) (fun _ => by simp [Value.oneCell'])
theorem yv : zD.fits := fun h => by cases h
theorem sb_api_Sight_0 : SubR zD 0 (rInt .i64) (·.Gauge) := @fun O w cs x h => ⟨[], [.int .i64 x.Gauge], [.int .i64 x.Cell, .bool x.There], h.trans (by first | rfl | simp), by first | rfl | simp, rfl⟩
theorem sb_api_Sight_1 : SubR zD 1 (rInt .i64) (·.Cell) := @fun O w cs x h => ⟨[.int .i64 x.Gauge], [.int .i64 x.Cell], [.bool x.There], h.trans (by first | rfl | simp), by first | rfl | simp, rfl⟩
theorem sb_api_Sight_2 : SubR zD 2 rBool (·.There) := @fun O w cs x h => ⟨[.int .i64 x.Gauge, .int .i64 x.Cell], [.bool x.There], [], h.trans (by first | rfl | simp), by first | rfl | simp, rfl⟩
noncomputable def vP : GR court_cut := (rCons (rSl (rInt .i64)) (·.sure_) (rCons (rSl (rInt .i64)) (·.touched_) rNil))
theorem fit_court_cut : vP.fits := fun h => by cases h
theorem sb_court_cut_0 : SubR vP 0 (rSl (rInt .i64)) (·.sure_) := sub_hd
theorem sb_court_cut_1 : SubR vP 1 (rSl (rInt .i64)) (·.touched_) := (sub_tl sub_hd rfl)
theorem openR_court_cut {O : Tags} {w : World} {cs : List Value} {x : court_cut} (h : vP.rel O w cs x) : ∃ u1 u2 : Value, cs = [u1, u2] ∧ (rSl (rInt .i64)).v O w u1 x.sure_ ∧ (rSl (rInt .i64)).v O w u2 x.touched_ := by
 obtain ⟨c1, d1, rfl, h1, t1⟩ := h
 obtain ⟨u1, rfl, ku1⟩ := rel_one h1 rfl rfl
 obtain ⟨c2, d2, rfl, h2, t2⟩ := t1
 obtain ⟨u2, rfl, ku2⟩ := rel_one h2 rfl rfl
 replace t2 : _ = ([] : List Value) := t2; subst t2
 exact ⟨u1, u2, rfl, ku1, ku2⟩
theorem openV_court_cut {O : Tags} {w : World} {u : Value} {x : court_cut} (h : vP.v O w u x) : ∃ u1 u2 : Value, u = .agg #[u1, u2] ∧ (rSl (rInt .i64)).v O w u1 x.sure_ ∧ (rSl (rInt .i64)).v O w u2 x.touched_ := by
 obtain ⟨cs, h, rfl⟩ := h
 obtain ⟨u1, u2, e_, ku1, ku2⟩ := openR_court_cut h
 subst e_
 exact ⟨u1, u2, rfl, ku1, ku2⟩
noncomputable def r_court_blank : GR court_blank := (rCons (rSl (rInt .i64)) (·.cells_) rNil)
theorem fit_court_blank : r_court_blank.fits := fun h => by cases h
theorem sb_court_blank_0 : SubR r_court_blank 0 (rSl (rInt .i64)) (·.cells_) := sub_hd
def tag_court_voice : court_voice → Nat
 | .c96 _ => 96
 | .c101 _ => 101
 | .c102 _ => 102
def sub_court_voice (x : court_voice) (O : Tags) (w : World) (v : Value) : Prop := match x with
 | .c96 x => vP.v O w v x
 | .c101 x => r_court_blank.v O w v x
 | .c102 x => (rSl zD).v O w v x
theorem subm_court_voice : ∀ x {O w O' w' v}, Keep 0 O w O' w' → sub_court_voice x O w v → sub_court_voice x O' w' v := fun x _ _ _ _ _ hk h => by cases x <;> exact GR.zS _ h hk
noncomputable def zX : GR court_voice := rIf tag_court_voice sub_court_voice subm_court_voice
theorem as_court_voice_96 {a : Act} {w : World} {d : Option Tmp} {T : TypeId} {pos : String} {aft : Array Edge} {g : Option (Nat × Bool)} {O : Tags} {x : Operand} {u : Value} {y : court_voice} (hx : a.eval x = u) (h : zX.v O w u y) : Ok Try.prog ⟨d, .typeAssert x 94 96 true, T, pos, aft, g⟩ a w (SP.tup2 (SP.vl vP O (court_voice.as96 y).1) (SP.isv (.bool (court_voice.as96 y).2))).holds := by
 obtain ⟨v, rfl, hs⟩ := rIf_v.1 h
 cases y with
 | c96 b => exact yL (okl_assertY ty96 rfl hx) fun w' v' hE h => ⟨_, _, h, GR.v_ext _ hs hE, rfl⟩
 | c101 b => exact yL (okl_assertN ty96 rfl hx (by show (101 : Nat) ≠ 96; decide)) fun w' v' hE h => ⟨_, _, h, ⟨_, ⟨_, _, rfl, (vf (r := (rSl (rInt .i64))) (kP _ _ _ 0) rfl rfl), ⟨_, _, rfl, (vf (r := (rSl (rInt .i64))) (kP _ _ _ 0) rfl rfl), rfl⟩⟩, rfl⟩, rfl⟩
 | c102 b => exact yL (okl_assertN ty96 rfl hx (by show (102 : Nat) ≠ 96; decide)) fun w' v' hE h => ⟨_, _, h, ⟨_, ⟨_, _, rfl, (vf (r := (rSl (rInt .i64))) (kP _ _ _ 0) rfl rfl), ⟨_, _, rfl, (vf (r := (rSl (rInt .i64))) (kP _ _ _ 0) rfl rfl), rfl⟩⟩, rfl⟩, rfl⟩
def je : GR court_fate := rC true 6 (fun x => [.bool x.solid_, .bool x.empty_, .bool x.taken_, .bool x.loose_, .bool x.there_, .bool x.gone_]) (fun _ => rfl) (fun _ => by simp [Value.oneCell'])
noncomputable def zl : GR colletref01_Draw := (rCons (rSl (rInt .i64)) (·.L) (rCons (rInt .i64) (·.At) rNil))
theorem gf {O : Tags} {w : World} {cs : List Value} {x : colletref01_Draw} (h : zl.rel O w cs x) : ∃ u1 : Value, cs = [u1, .int .i64 x.At] ∧ (rSl (rInt .i64)).v O w u1 x.L := by
 obtain ⟨c1, d1, rfl, h1, t1⟩ := h
 obtain ⟨u1, rfl, ku1⟩ := rel_one h1 rfl rfl
 obtain ⟨c2, d2, rfl, h2, t2⟩ := t1
 replace h2 : c2 = [.int .i64 x.At] := h2; subst h2
 replace t2 : _ = ([] : List Value) := t2; subst t2
 exact ⟨u1, rfl, ku1⟩
noncomputable def ze : GR colletlaw43_Case := (rCons (rSl (rSl (rInt .i64))) (·.Claims) (rCons (rInt .u8) (·.Cells) (rCons (rSl (rInt .i64)) (·.Sights) rNil)))
theorem yX : ze.fits := fun h => by cases h
theorem sb_colletlaw43_Case_0 : SubR ze 0 (rSl (rSl (rInt .i64))) (·.Claims) := sub_hd
theorem sb_colletlaw43_Case_1 : SubR ze 1 (rInt .u8) (·.Cells) := (sub_tl sub_hd rfl)
theorem sb_colletlaw43_Case_2 : SubR ze 2 (rSl (rInt .i64)) (·.Sights) := (sub_tl (sub_tl sub_hd rfl) rfl)
theorem key73 : KeyOk Try.prog 73 (fun x : Vector Int 2 => .agg (jN (fun x => [.int .i64 x]) x).toArray) := KeyOk.agg (cells := fun x => (jN (fun x => [.int .i64 x]) x)) (eqr_vec (f := (fun x => [.int .i64 x])) (hl := (fun _ => rfl)) (ho := (fun _ => by simp [Value.oneCell'])) ty73 ty3 rfl (eqr_int ty3) (fun _ _ _ => rfl)) (by decide) rfl (fun _ _ _ => rfl) ty73 rfl (fun e x w => by obtain ⟨a0, a1, rfl⟩ := vec2 x; kernel_rfl) (fun x => by obtain ⟨a0, a1, rfl⟩ := vec2 x; simp [Instr.sameBits, jN])
theorem yK {O : Tags} {w0 : World} (hO : OkO O w0)  {n : Nat} {y : (List api_Claim)} (h : (yM).run n = some y) : Pure Try.prog 32 #[] w0 (SP.ownr zA 33 (w0.heap.size) O y).holds := by
 unfold yM at h
 refine zW Try.func32 rfl 10 Try.ntmps32 (by simp) fun a0 hA hs0 => ?_
 clear hs0
 have hB : Base (Fr w0) O w0 O w0 := Base.start hO
 refine wp_seq ?_
 refine' rb [_] mixed hA hB hO (cn (fun hE hK => zC rfl) .nil) ?zk1
 intro a1 w1 hA hE hB HF; clear HF; clear hE; refine zE (zB (wp_seq ?_))
 refine' rbT [SP.vl (rSl (rInt .i64)) O [0, 1], SP.vl zA O (api_Claim.mk (-1) 1 0 [] [0, 1]), SP.vl (rSl (rInt .i64)) O [0], SP.vl (rSl (rInt .i64)) O [0], SP.vl zA O (api_Claim.mk 0 2 0 [0] [0]), SP.vl (rSl (rInt .i64)) O [1], SP.vl zA O (api_Claim.mk 1 2 0 [] [1]), SP.isv (.agg #[.int .i64 2, .int .i64 3, .int .i64 0, .slice none 0 0, .slice none 0 0])] hA hB hO (cn (fun hE hK => zP (r := (rInt .i64)) (fun _ => rfl) rfl (OkO.ext hB.ok hE) ty23 ty3 (zM rfl (zM rfl zh)) ⟨(by exact zU.2 rfl), ⟨(by exact zU.2 rfl), trivial⟩⟩ rfl (by decide)) (.cons ?z2_1 (cn (fun hE hK => zP (r := (rInt .i64)) (fun _ => rfl) rfl (OkO.ext hB.ok hE) ty23 ty3 (zM rfl zh) ⟨(by exact zU.2 rfl), trivial⟩ rfl (by decide)) (cn (fun hE hK => zP (r := (rInt .i64)) (fun _ => rfl) rfl (OkO.ext hB.ok hE) ty23 ty3 (zM rfl zh) ⟨(by exact zU.2 rfl), trivial⟩ rfl (by decide)) (.cons ?z2_4 (cn (fun hE hK => zP (r := (rInt .i64)) (fun _ => rfl) rfl (OkO.ext hB.ok hE) ty23 ty3 (zM rfl zh) ⟨(by exact zU.2 rfl), trivial⟩ rfl (by decide)) (.cons ?z2_6 (cn (fun hE hK => jQ plc33 ty33 (gG (v := .int .i64 2) rfl (gG (v := .int .i64 3) rfl pk_nil)) rfl (.cons rfl rfl rfl (leb rfl) (.cons rfl rfl rfl (leb rfl) .nil)) rfl) .nil)))))))) ?zk2
 case z2_1 => intro a' w' hE hK hg; refine yL (jQ (vals := [(0, .int .i64 (-1)), (1, .int .i64 1), (4, (a'.get 1))]) (out := [.int .i64 (-1), .int .i64 1, .int .i64 0, .slice none 0 0, (a'.get 1)]) plc33 ty33 ?_ rfl ?_ rfl) ?_; exact (gG (v := .int .i64 (-1)) rfl (gG (v := .int .i64 1) rfl (gG (v := (a'.get 1)) rfl pk_nil))); exact (.cons rfl rfl rfl (leb rfl) (.cons rfl rfl rfl (leb rfl) (.cons rfl (sl_cells (kp (SP.vl (rSl (rInt .i64)) O [0, 1]) 0 hK 1 rfl) rfl rfl) rfl (leb rfl) .nil))); exact fun w_ v_ hE2_ h_ => by { replace h_ : v_ = _ := h_; subst h_; exact ⟨_, ⟨_, _, rfl, rfl, ⟨_, _, rfl, rfl, ⟨_, _, rfl, rfl, ⟨_, _, rfl, (vf (r := (rSl (rInt .i64))) (kP _ _ _ 0) rfl rfl), ⟨_, _, rfl, (vf (r := (rSl (rInt .i64))) (vx (kp (SP.vl (rSl (rInt .i64)) O [0, 1]) 0 hK 1 rfl) hE2_) rfl rfl), rfl⟩⟩⟩⟩⟩, rfl⟩ }
 case z2_4 => intro a' w' hE hK hg; refine yL (jQ (vals := [(1, .int .i64 2), (3, (a'.get 3)), (4, (a'.get 4))]) (out := [.int .i64 0, .int .i64 2, .int .i64 0, (a'.get 3), (a'.get 4)]) plc33 ty33 ?_ rfl ?_ rfl) ?_; exact (gG (v := .int .i64 2) rfl (gG (v := (a'.get 3)) rfl (gG (v := (a'.get 4)) rfl pk_nil))); exact (.cons rfl rfl rfl (leb rfl) (.cons rfl (sl_cells (kp (SP.vl (rSl (rInt .i64)) O [0]) 2 hK 3 rfl) rfl rfl) rfl (leb rfl) (.cons rfl (sl_cells (kp (SP.vl (rSl (rInt .i64)) O [0]) 3 hK 4 rfl) rfl rfl) rfl (leb rfl) .nil))); exact fun w_ v_ hE2_ h_ => by { replace h_ : v_ = _ := h_; subst h_; exact ⟨_, ⟨_, _, rfl, rfl, ⟨_, _, rfl, rfl, ⟨_, _, rfl, rfl, ⟨_, _, rfl, (vf (r := (rSl (rInt .i64))) (vx (kp (SP.vl (rSl (rInt .i64)) O [0]) 2 hK 3 rfl) hE2_) rfl rfl), ⟨_, _, rfl, (vf (r := (rSl (rInt .i64))) (vx (kp (SP.vl (rSl (rInt .i64)) O [0]) 3 hK 4 rfl) hE2_) rfl rfl), rfl⟩⟩⟩⟩⟩, rfl⟩ }
 case z2_6 => intro a' w' hE hK hg; refine yL (jQ (vals := [(0, .int .i64 1), (1, .int .i64 2), (4, (a'.get 6))]) (out := [.int .i64 1, .int .i64 2, .int .i64 0, .slice none 0 0, (a'.get 6)]) plc33 ty33 ?_ rfl ?_ rfl) ?_; exact (gG (v := .int .i64 1) rfl (gG (v := .int .i64 2) rfl (gG (v := (a'.get 6)) rfl pk_nil))); exact (.cons rfl rfl rfl (leb rfl) (.cons rfl rfl rfl (leb rfl) (.cons rfl (sl_cells (kp (SP.vl (rSl (rInt .i64)) O [1]) 5 hK 6 rfl) rfl rfl) rfl (leb rfl) .nil))); exact fun w_ v_ hE2_ h_ => by { replace h_ : v_ = _ := h_; subst h_; exact ⟨_, ⟨_, _, rfl, rfl, ⟨_, _, rfl, rfl, ⟨_, _, rfl, rfl, ⟨_, _, rfl, (vf (r := (rSl (rInt .i64))) (kP _ _ _ 0) rfl rfl), ⟨_, _, rfl, (vf (r := (rSl (rInt .i64))) (vx (kp (SP.vl (rSl (rInt .i64)) O [1]) 5 hK 6 rfl) hE2_) rfl rfl), rfl⟩⟩⟩⟩⟩, rfl⟩ }
 intro a2 w2 hA hE hB HF; obtain ⟨u1, q2, f2⟩ := kx (HF 2) rfl rfl rfl; obtain ⟨u3, q5, f4⟩ := kx (HF 5) rfl rfl rfl; obtain ⟨u5, q7, f6⟩ := kx (HF 7) rfl rfl rfl; have q8 := ksv (HF 8) rfl rfl rfl; clear HF; clear hE
 refine l_ok (φ := SP.ownr zA 33 w2.heap.size O [(api_Claim.mk (-1) 1 0 [] [0, 1]), (api_Claim.mk 0 2 0 [0] [0]), (api_Claim.mk 1 2 0 [] [1]), (api_Claim.mk 2 3 0 [] [])]) hO hB (by exact jf (r := zA) zK rfl hB.ok ty27 ty33 (Nat.le_refl _) (zM q2 (zM q5 (zM q7 (zM q8 zh)))) ⟨f2, ⟨f4, ⟨f6, ⟨⟨_, ⟨_, _, rfl, rfl, ⟨_, _, rfl, rfl, ⟨_, _, rfl, rfl, ⟨_, _, rfl, (vf (r := (rSl (rInt .i64))) (kP _ _ _ 0) rfl rfl), ⟨_, _, rfl, (vf (r := (rSl (rInt .i64))) (kP _ _ _ 0) rfl rfl), rfl⟩⟩⟩⟩⟩, rfl⟩, trivial⟩⟩⟩⟩ rfl (by decide)) rfl fun u7 w3 hE hB' f8 => ?_
 clear hB'; obtain ⟨O9, hB', hX, f10⟩ := ownNew hO hB hE f8 rfl 1 (by decide)
 clear hB f8; have hB := hB'; clear hB'; replace f2 := vk f2 hX; replace f4 := vk f4 hX; replace f6 := vk f6 hX; clear hX hE
 refine zQ hA (by decide) fun a4 hA q_ hfr => ?_
 refine kd4 hfr q2 q5 q7 q8 ?_; clear q2 q5 q7 q8; intro q2 q5 q7 q8; have q9 := q_; clear q_ hfr
 refine l_ok (φ := SP.isv (u7)) hO hB (by exact zC q9) rfl fun u_ w5 hE hB' hv_ => ?_
 replace hv_ := Eq.symm hv_; subst hv_; clear hB; have hB := hB'; clear hB'
 replace f10 := f10.ext hE; clear hE
 refine zQ hA (by decide) fun a6 hA q_ hfr => ?_
 replace q9 := (hfr _ rfl).trans q9; have q0 := q_; clear q_ hfr; refine zE (zB (wp_ret ?_))
 have h := Comp.run_pure h; subst h
 exact zb Try.results32 hA q0 hB.ext (OwnL.res f10 (by decide) hB.zero)
theorem ok_slices_Index_int_int {O : Tags} {w0 : World} (hO : OkO O w0) {v_0 : Value} {x_0 : List Int} (h_0 : (rSl (rInt .i64)).v O w0 v_0 x_0) {x_1 : Int} {n : Nat} {y : Int} (h : (kU x_0 x_1).run n = some y) : Pure Try.prog 74 #[v_0, .int .i64 x_1] w0 (SP.isv (.int .i64 y)).holds := by
 unfold kU at h
 refine zW Try.func74 rfl 19 Try.ntmps74 (by simp) fun a0 hA hs0 => ?_
 have q0 : a0.get 0 = v_0 := hs0 0 _ rfl
 have q1 : a0.get 1 = .int .i64 x_1 := hs0 1 _ rfl
 clear hs0
 have hB : Base (Fr w0) O w0 O w0 := Base.start hO
 refine wp_seq ?_
 refine' rb [_] mixed hA hB hO (cn (fun hE hK => zC rfl) .nil) ?zk1
 intro a1 w1 hA hE hB HF; replace q0 := kf HF q0; replace q1 := kf HF q1; clear HF; replace h_0 := vx h_0 hE; clear hE; refine zE (zB ?_)
 refine zY (fun a w => ∃ (O5 : Tags), a.fit 19 ∧ Base (Fr w0) O w0 O5 w ∧ (jX ).run n = some y) ?_ ?_
 ·
  refine wp_seq ?_
  refine' rb [_, _, _] mixed hA hB hO (mv q0 (cn (fun hE hK => zg (r := (rInt .i64)) ty23 (ks 0 hK 6 rfl) (rd_of (vx h_0 hE))) (cn (fun hE hK => zJ rfl) .nil))) ?zk2
  intro a2 w2 hA hE hB HF; replace q0 := kf HF q0; replace q1 := kf HF q1; have q7 := ksv (HF 7) rfl rfl rfl; have q8 := ksv (HF 8) rfl rfl rfl; clear HF; replace h_0 := vx h_0 hE; clear hE; refine zE (zB (wp_block ?_))
  obtain ⟨e2, he2, hk2⟩ := Comp.run_bind h; clear h
  refine yt (fun m a w => ∃ (O2 : Tags) (x1 : Int), a.fit 19 ∧ Base (Fr w0) O w0 O2 w ∧ a.get 0 = v_0 ∧ (rSl (rInt .i64)).v O2 w v_0 x_0 ∧ a.get 1 = .int .i64 x_1 ∧ a.get 7 = .int .i64 (x_0.length : Int) ∧ a.get 8 = .int .i64 x1 ∧ Comp.loopN (fun s => vI x_0 x_1 s) n m x1 = some e2) (m := n) ?st2 ?_
  case st2 =>
   exact ⟨_, _, hA, hB, q0, h_0, q1, q7, q8, Comp.zk he2⟩
  intro m_ a3 w3 hI
  clear hA hB he2 q0 q1 q7 q8 h_0
  obtain ⟨O2, x1, hA, hB, q0, h_0, q1, q7, q8, hl⟩ := hI
  obtain ⟨m2, hlt2, st2, h, hnext2, hdone2⟩ := Comp.zZ hl; clear hl
  replace h : (vI x_0 x_1 x1).run n = some st2 := h
  unfold vI at h; refine wp_seq ?_
  refine' rb [_] mixed hA hB hO (cn (fun hE hK => zy (kq hK q8) (kq hK q7)) .nil) ?zk3
  intro a4 w4 hA hE hB HF; refine kr4 HF q0 q1 q7 q8 ?_; clear q0 q1 q7 q8; intro q0 q1 q7 q8; have q9 := ksv (HF 9) rfl rfl rfl; clear HF; replace h_0 := vx h_0 hE; clear hE; refine zE (zB (wp_seq ?_))
  revert h; refine cnd q9 (fun h => ?_) (fun h => ?_)
  ·
   refine wp_skip (zB (wp_seq (wp_block (wp_seq ?_))))
   refine' rb [_, _] mixed hA hB hO (mv q8 (cn (fun hE hK => zC (ks 0 hK 10 rfl)) .nil)) ?zk4
   intro a5 w5 hA hE hB HF; refine kr4 HF q0 q1 q7 q8 ?_; clear q0 q1 q7 q8; intro q0 q1 q7 q8; have q5 := ksv (HF 5) rfl rfl rfl; clear q9 HF; replace h_0 := vx h_0 hE; clear hE; refine zE (zB (wp_seq ?_)); obtain ⟨x3, hx3, h⟩ := Comp.run_bind h
   refine' rb [_, _, _, SP.ptr (rInt .i64) O2 x3, SP.isv (.int .i64 x3), _] mixed hA hB hO (mv q1 (mv q0 (mv q5 (cn (fun hE hK => zp (r := (rInt .i64)) (O := O2) ty23 ty3 rfl (ks 1 hK 12 rfl) (rd_of (vx h_0 hE)) (ks 2 hK 13 rfl) hx3) (cn (fun hE hK => za (rInt .i64) (fun _ => rfl) ty3 rfl rfl rfl (kp (SP.ptr (rInt .i64) O2 x3) 3 hK 14 rfl) (fun _ _ _ h => zU.1 h)) (cn (fun hE hK => yO (ks 0 hK 11 rfl) (ks 4 hK 15 rfl)) .nil)))))) ?zk5
   intro a6 w6 hA hE hB HF; refine kr5 HF q0 q1 q5 q7 q8 ?_; clear q0 q1 q5 q7 q8; intro q0 q1 q5 q7 q8; have q16 := ksv (HF 16) rfl rfl rfl; clear HF; replace h_0 := vx h_0 hE; clear hE; refine zE (zB ?_)
   revert h; refine cnd q16 (fun h => ?_) (fun h => ?_)
   ·
    refine wp_seq ?_
    refine' rb [_, _] mixed hA hB hO (mv q5 (cn (fun hE hK => zC (ks 0 hK 17 rfl)) .nil)) ?zk6
    intro a7 w7 hA hE hB HF; have q4 := ksv (HF 4) rfl rfl rfl; clear q0 q1 q5 q7 q8 q16 HF; replace h_0 := vx h_0 hE; clear hE; refine zE (zB (wp_ret (yA (zN (zN (yA (zN ?_)))))))
    have hd_ := hdone2 _ (Comp.run_pure h).symm; clear h
    subst hd_; have h := hk2; clear hk2; try dsimp only at h
    have h := Comp.run_pure h; subst h
    exact zb Try.results74 hA q4 hB.ext rfl
   ·
    refine wp_skip (zm (zB ?_))
    refine' rb [_, _] mixed hA hB hO (cn (fun hE hK => yP (kq hK q8) rfl) (cn (fun hE hK => zJ (ks 0 hK 18 rfl)) .nil)) ?zk7
    intro a8 w8 hA hE hB HF; refine kr3 HF q0 q1 q7 ?_; clear q0 q1 q7; intro q0 q1 q7; replace q8 := ksv (HF 8) rfl rfl rfl; clear q5 q16 HF; replace h_0 := vx h_0 hE; clear hE; refine zE (zB ?_)
    have h := hnext2 _ (Comp.run_pure h).symm
    refine ⟨m2, hlt2, ?_⟩
    exact ⟨_, _, hA, hB, q0, h_0, q1, q7, q8, h⟩
  ·
   refine wp_exit (zT (zT (zw ?_)))
   have hd_ := hdone2 _ (Comp.run_pure h).symm; clear h
   subst hd_; have h := hk2; clear hk2; try dsimp only at h
   refine zB ?_
   exact ⟨_, hA, hB, h⟩
 intro a9 w9 hI
 clear hA hB h q0 q1 h_0
 obtain ⟨O5, hA, hB, h⟩ := hI
 unfold jX at h; refine wp_seq ?_
 refine' rb [_] mixed hA hB hO (cn (fun hE hK => zC rfl) .nil) ?zk8
 intro a10 w10 hA hE hB HF; have q4 := ksv (HF 4) rfl rfl rfl; clear HF; clear hE; refine zE (zB (wp_ret ?_))
 have h := Comp.run_pure h; subst h
 exact zb Try.results74 hA q4 hB.ext rfl
theorem gb {O : Tags} {w0 : World} (hO : OkO O w0) {v_0 : Value} {x_0 : List Int} (h_0 : (rSl (rInt .i64)).v O w0 v_0 x_0) {x_1 : Int} {n : Nat} {y : Bool} (h : (yk x_0 x_1).run n = some y) : Pure Try.prog 57 #[v_0, .int .i64 x_1] w0 (SP.isv (.bool y)).holds := by
 unfold yk at h
 refine zW Try.func57 rfl 9 Try.ntmps57 (by simp) fun a0 hA hs0 => ?_
 have q0 : a0.get 0 = v_0 := hs0 0 _ rfl
 have q1 : a0.get 1 = .int .i64 x_1 := hs0 1 _ rfl
 clear hs0
 have hB : Base (Fr w0) O w0 O w0 := Base.start hO
 refine wp_seq ?_
 refine' rb [_] mixed hA hB hO (cn (fun hE hK => zC rfl) .nil) ?zk1
 intro a1 w1 hA hE hB HF; replace q0 := kf HF q0; replace q1 := kf HF q1; clear HF; replace h_0 := vx h_0 hE; clear hE; refine zE (zB (wp_seq ?_)); obtain ⟨x1, hx1, h⟩ := Comp.run_bind h
 refine' rb [_, _, SP.isv (.int .i64 x1), _, _] mixed hA hB hO (mv q0 (mv q1 (cn (fun hE hK => zz fn74 (ks 0 hK 5 rfl) (ks 1 hK 6 rfl) (ok_slices_Index_int_int (OkO.ext hB.ok hE) (vx h_0 hE) hx1)) (cn (fun hE hK => ok_geq (ks 2 hK 7 rfl) rfl) (cn (fun hE hK => zC (ks 3 hK 8 rfl)) .nil))))) ?zk2
 intro a2 w2 hA hE hB HF; have q4 := ksv (HF 4) rfl rfl rfl; clear q0 q1 HF; replace h_0 := vx h_0 hE; clear hE; refine zE (zB (wp_ret ?_))
 have h := Comp.run_pure h; subst h
 exact zb Try.results57 hA q4 hB.ext rfl
theorem ok_court_check_f1 {O : Tags} {w0 : World} (hO : OkO O w0) {x_0 : Int} {v_1 : Value} {x_1 : api_Claim} (h_1 : (rBox zA).v O w0 v_1 x_1) {n : Nat} {y : Bool} (h : (kR x_0 x_1).run n = some y) : Pure Try.prog 56 #[.int .i64 x_0, v_1] w0 (SP.isv (.bool y)).holds := by
 unfold kR at h
 refine zW Try.func56 rfl 9 Try.ntmps56 (by simp) fun a0 hA hs0 => ?_
 have q0 : a0.get 0 = .int .i64 x_0 := hs0 0 _ rfl
 have q1 : a0.get 1 = v_1 := hs0 1 _ rfl
 clear hs0
 have hB : Base (Fr w0) O w0 O w0 := Base.start hO
 refine wp_seq ?_
 refine' rb [_] mixed hA hB hO (cn (fun hE hK => zC rfl) .nil) ?zk1
 intro a1 w1 hA hE hB HF; replace q0 := kf HF q0; replace q1 := kf HF q1; clear HF; replace h_1 := vx h_1 hE; clear hE; refine zE (zB (wp_seq ?_)); obtain ⟨x1, hx1, h⟩ := Comp.run_bind h
 refine' rb [SP.ptr (rSl (rInt .i64)) O x_1.Touched, SP.vl (rSl (rInt .i64)) O x_1.Touched, _, SP.isv (.bool x1), _, _] mixed hA hB hO (cn (fun hE hK => yN (S := zA) zK rfl (fun _ => rfl) go fl33_4 (kq hK q1) (vx h_1 hE)) (cn (fun hE hK => vC (r := (rSl (rInt .i64))) (fun _ => rfl) ty23 rfl rfl rfl (kp (SP.ptr (rSl (rInt .i64)) O x_1.Touched) 0 hK 4 rfl)) (mv q0 (cn (fun hE hK => zz fn57 rfl (ks 2 hK 6 rfl) (gb (OkO.ext hB.ok hE) (kp (SP.vl (rSl (rInt .i64)) O x_1.Touched) 1 hK 5 rfl) hx1)) (cn (fun hE hK => jz (ks 3 hK 7 rfl)) (cn (fun hE hK => zC (ks 4 hK 8 rfl)) .nil)))))) ?zk2
 intro a2 w2 hA hE hB HF; have q3 := ksv (HF 3) rfl rfl rfl; clear q0 q1 HF; replace h_1 := vx h_1 hE; clear hE; refine zE (zB (wp_ret ?_))
 have h := Comp.run_pure h; subst h
 exact zb Try.results56 hA q3 hB.ext rfl
theorem ok_cmp_isNaN_int {O : Tags} {w0 : World} (hO : OkO O w0) {x_0 : Int} {n : Nat} {y : Bool} (h : (cmp_isNaN_int x_0).run n = some y) : Pure Try.prog 85 #[.int .i64 x_0] w0 (SP.isv (.bool y)).holds := by
 unfold cmp_isNaN_int at h
 refine zW Try.func85 rfl 6 Try.ntmps85 (by simp) fun a0 hA hs0 => ?_
 have q0 : a0.get 0 = .int .i64 x_0 := hs0 0 _ rfl
 clear hs0
 have hB : Base (Fr w0) O w0 O w0 := Base.start hO
 refine wp_seq ?_
 refine' rb [_] mixed hA hB hO (cn (fun hE hK => zC rfl) .nil) ?zk1
 intro a1 w1 hA hE hB HF; replace q0 := kf HF q0; clear HF; clear hE; refine zE (zB (wp_seq ?_))
 refine' rb [_, _, _, _] mixed hA hB hO (mv q0 (mv q0 (cn (fun hE hK => gR (ks 0 hK 3 rfl) (ks 1 hK 4 rfl)) (cn (fun hE hK => zC (ks 2 hK 5 rfl)) .nil)))) ?zk2
 intro a2 w2 hA hE hB HF; have q2 := ksv (HF 2) rfl rfl rfl; clear q0 HF; clear hE; refine zE (zB (wp_ret ?_))
 have h := Comp.run_pure h; subst h
 exact zb Try.results85 hA q2 hB.ext rfl
theorem ok_cmp_Less_int {O : Tags} {w0 : World} (hO : OkO O w0) {x_0 : Int} {x_1 : Int} {n : Nat} {y : Bool} (h : (cmp_Less_int x_0 x_1).run n = some y) : Pure Try.prog 83 #[.int .i64 x_0, .int .i64 x_1] w0 (SP.isv (.bool y)).holds := by
 unfold cmp_Less_int at h
 refine zW Try.func83 rfl 17 Try.ntmps83 (by simp) fun a0 hA hs0 => ?_
 have q0 : a0.get 0 = .int .i64 x_0 := hs0 0 _ rfl
 have q1 : a0.get 1 = .int .i64 x_1 := hs0 1 _ rfl
 clear hs0
 have hB : Base (Fr w0) O w0 O w0 := Base.start hO
 refine wp_seq ?_
 refine' rb [_] mixed hA hB hO (cn (fun hE hK => zC rfl) .nil) ?zk1
 intro a1 w1 hA hE hB HF; replace q0 := kf HF q0; replace q1 := kf HF q1; clear HF; clear hE; refine zE (zB (wp_seq ?_)); obtain ⟨x1, hx1, h⟩ := Comp.run_bind h; obtain ⟨x2, hx2, h⟩ := Comp.run_bind h
 refine' rb [_, SP.isv (.bool x1), _, _, SP.isv (.bool x2), _, _, _, _, _, _, _, _] mixed hA hB hO (mv q0 (cn (fun hE hK => ok_call1 fn85 (ks 0 hK 5 rfl) (ok_cmp_isNaN_int (OkO.ext hB.ok hE)  hx1)) (cn (fun hE hK => zJ (ks 1 hK 6 rfl)) (mv q1 (.cons (fun _ _ hE hK hg => ok_call1 fn85 (kg 3 hK 8 rfl hg) (ok_cmp_isNaN_int (OkO.ext hB.ok hE)  (zr hx2 hg))) (.cons (fun _ _ hE hK hg => jz (kg 4 hK 9 rfl hg)) (cn (fun hE hK => zV (ks 2 hK 7 rfl) (fun hb => kg 5 hK 10 rfl (zf rfl rfl hb)) (fun _ => rfl)) (cn (fun hE hK => zJ (ks 6 hK 11 rfl)) (mv q0 (mv q1 (.cons (fun _ _ hE hK hg => zy (kg 8 hK 13 rfl hg) (kg 9 hK 14 rfl hg)) (cn (fun hE hK => zV (ks 7 hK 12 rfl) (fun _ => rfl) (fun hb => kg 10 hK 15 rfl (zf rfl rfl hb))) (cn (fun hE hK => zC (ks 11 hK 16 rfl)) .nil))))))))))))) ?zk2
 intro a2 w2 hA hE hB HF; have q4 := ksv (HF 4) rfl rfl rfl; clear q0 q1 HF; clear hE
 obtain ⟨x3, hx_, h⟩ := Comp.run_bind h; replace hx_ := Comp.run_pure hx_; rw [hx_] at q4; clear hx_
 refine zE (zB (wp_ret ?_))
 have h := Comp.run_pure h; subst h
 exact zb Try.results83 hA q4 hB.ext rfl
theorem ok_slices_IsSorted_int_int {O : Tags} {w0 : World} (hO : OkO O w0) {v_0 : Value} {x_0 : List Int} (h_0 : (rSl (rInt .i64)).v O w0 v_0 x_0) {n : Nat} {y : Bool} (h : (ve x_0).run n = some y) : Pure Try.prog 75 #[v_0] w0 (SP.isv (.bool y)).holds := by
 unfold ve at h
 refine zW Try.func75 rfl 21 Try.ntmps75 (by simp) fun a0 hA hs0 => ?_
 have q0 : a0.get 0 = v_0 := hs0 0 _ rfl
 clear hs0
 have hB : Base (Fr w0) O w0 O w0 := Base.start hO
 refine wp_seq ?_
 refine' rb [_] mixed hA hB hO (cn (fun hE hK => zC rfl) .nil) ?zk1
 intro a1 w1 hA hE hB HF; replace q0 := kf HF q0; clear HF; replace h_0 := vx h_0 hE; clear hE; refine zE (zB ?_)
 refine zY (fun a w => ∃ (O8 : Tags), a.fit 21 ∧ Base (Fr w0) O w0 O8 w ∧ (ga ).run n = some y) ?_ ?_
 ·
  refine wp_seq ?_
  refine' rb [_, _, _, _] mixed hA hB hO (mv q0 (cn (fun hE hK => zg (r := (rInt .i64)) ty23 (ks 0 hK 4 rfl) (rd_of (vx h_0 hE))) (cn (fun hE hK => ok_sub (ks 1 hK 5 rfl) rfl) (cn (fun hE hK => zC (ks 2 hK 6 rfl)) .nil)))) ?zk2
  intro a2 w2 hA hE hB HF; replace q0 := kf HF q0; have q3 := ksv (HF 3) rfl rfl rfl; clear HF; replace h_0 := vx h_0 hE; clear hE
  obtain ⟨x1, hx_, h⟩ := Comp.run_bind h; replace hx_ := Comp.run_pure hx_; rw [hx_] at q3; clear hx_
  refine zE (zB (wp_block ?_))
  obtain ⟨e2, he2, hk2⟩ := Comp.run_bind h; clear h
  refine yt (fun m a w => ∃ (O3 : Tags) (x2 : Int), a.fit 21 ∧ Base (Fr w0) O w0 O3 w ∧ a.get 0 = v_0 ∧ (rSl (rInt .i64)).v O3 w v_0 x_0 ∧ a.get 3 = .int .i64 x2 ∧ Comp.loopN (fun s => vi x_0 s) n m x2 = some e2) (m := n) ?st2 ?_
  case st2 =>
   exact ⟨_, _, hA, hB, q0, h_0, q3, Comp.zk he2⟩
  intro m_ a3 w3 hI
  clear hA hB he2 q0 q3 h_0
  obtain ⟨O3, x2, hA, hB, q0, h_0, q3, hl⟩ := hI
  obtain ⟨m2, hlt2, st2, h, hnext2, hdone2⟩ := Comp.zZ hl; clear hl
  replace h : (vi x_0 x2).run n = some st2 := h
  unfold vi at h; refine wp_seq (wp_seq ?_)
  refine' rb [_, _] mixed hA hB hO (mv q3 (cn (fun hE hK => ok_gtr (ks 0 hK 7 rfl) rfl) .nil)) ?zk3
  intro a4 w4 hA hE hB HF; replace q0 := kf HF q0; replace q3 := kf HF q3; have q8 := ksv (HF 8) rfl rfl rfl; clear HF; replace h_0 := vx h_0 hE; clear hE; refine zE (zB ?_)
  revert h; refine cnd q8 (fun h => ?_) (fun h => ?_)
  ·
   refine wp_skip (zB (wp_seq (wp_block (wp_seq ?_)))); obtain ⟨x4, hx4, h⟩ := Comp.run_bind h; obtain ⟨x5, hx5, h⟩ := Comp.run_bind h; obtain ⟨x6, hx6, h⟩ := Comp.run_bind h
   refine' rb [_, _, SP.ptr (rInt .i64) O3 x4, SP.isv (.int .i64 x4), _, _, _, SP.ptr (rInt .i64) O3 x5, SP.isv (.int .i64 x5), SP.isv (.bool x6)] mixed hA hB hO (mv q0 (mv q3 (cn (fun hE hK => zp (r := (rInt .i64)) (O := O3) ty23 ty3 rfl (ks 0 hK 11 rfl) (rd_of (vx h_0 hE)) (ks 1 hK 12 rfl) hx4) (cn (fun hE hK => za (rInt .i64) (fun _ => rfl) ty3 rfl rfl rfl (kp (SP.ptr (rInt .i64) O3 x4) 2 hK 13 rfl) (fun _ _ _ h => zU.1 h)) (mv q0 (mv q3 (cn (fun hE hK => ok_sub (ks 5 hK 16 rfl) rfl) (cn (fun hE hK => zp (r := (rInt .i64)) (O := O3) ty23 ty3 rfl (ks 4 hK 15 rfl) (rd_of (vx h_0 hE)) (ks 6 hK 17 rfl) hx5) (cn (fun hE hK => za (rInt .i64) (fun _ => rfl) ty3 rfl rfl rfl (kp (SP.ptr (rInt .i64) O3 x5) 7 hK 18 rfl) (fun _ _ _ h => zU.1 h)) (cn (fun hE hK => zz fn83 (ks 3 hK 14 rfl) (ks 8 hK 19 rfl) (ok_cmp_Less_int (OkO.ext hB.ok hE)  hx6)) .nil)))))))))) ?zk4
   intro a5 w5 hA hE hB HF; replace q0 := kf HF q0; replace q3 := kf HF q3; have q20 := ksv (HF 20) rfl rfl rfl; clear q8 HF; replace h_0 := vx h_0 hE; clear hE; refine zE (zB ?_)
   revert h; refine cnd q20 (fun h => ?_) (fun h => ?_)
   ·
    refine wp_seq ?_
    refine' rb [_] mixed hA hB hO (cn (fun hE hK => zC rfl) .nil) ?zk5
    intro a6 w6 hA hE hB HF; have q2 := ksv (HF 2) rfl rfl rfl; clear q0 q3 q20 HF; replace h_0 := vx h_0 hE; clear hE; refine zE (zB (wp_ret (yA (zN (zN (yA (zN ?_)))))))
    have hd_ := hdone2 _ (Comp.run_pure h).symm; clear h
    subst hd_; have h := hk2; clear hk2; try dsimp only at h
    have h := Comp.run_pure h; subst h
    exact zb Try.results75 hA q2 hB.ext rfl
   ·
    refine wp_skip (zm (zB ?_))
    refine' rb [_, _, _] mixed hA hB hO (mv q3 (cn (fun hE hK => ok_sub (ks 0 hK 9 rfl) rfl) (cn (fun hE hK => zC (ks 1 hK 10 rfl)) .nil))) ?zk6
    intro a7 w7 hA hE hB HF; replace q0 := kf HF q0; replace q3 := ksv (HF 3) rfl rfl rfl; clear q20 HF; replace h_0 := vx h_0 hE; clear hE; refine zE (zB ?_)
    have h := hnext2 _ (Comp.run_pure h).symm
    refine ⟨m2, hlt2, ?_⟩
    exact ⟨_, _, hA, hB, q0, h_0, q3, h⟩
  ·
   refine wp_exit (zT (zT (zw ?_)))
   have hd_ := hdone2 _ (Comp.run_pure h).symm; clear h
   subst hd_; have h := hk2; clear hk2; try dsimp only at h
   refine zB ?_
   exact ⟨_, hA, hB, h⟩
 intro a8 w8 hI
 clear hA hB h q0 h_0
 obtain ⟨O8, hA, hB, h⟩ := hI
 unfold ga at h; refine wp_seq ?_
 refine' rb [_] mixed hA hB hO (cn (fun hE hK => zC rfl) .nil) ?zk7
 intro a9 w9 hA hE hB HF; have q2 := ksv (HF 2) rfl rfl rfl; clear HF; clear hE; refine zE (zB (wp_ret ?_))
 have h := Comp.run_pure h; subst h
 exact zb Try.results75 hA q2 hB.ext rfl
theorem ok_slices_Clone_int_int {O : Tags} {w0 : World} (hO : OkO O w0) {v_0 : Value} {x_0 : List Int} (h_0 : (rSl (rInt .i64)).v O w0 v_0 x_0) {n : Nat} {y : (List Int)} (h : (vL x_0).run n = some y) : Pure Try.prog 77 #[v_0] w0 (SP.ownr (rInt .i64) 3 (w0.heap.size) O y).holds := by
 unfold vL at h
 refine zW Try.func77 rfl 8 Try.ntmps77 (by simp) fun a0 hA hs0 => ?_
 have q0 : a0.get 0 = v_0 := hs0 0 _ rfl
 clear hs0
 have hB : Base (Fr w0) O w0 O w0 := Base.start hO
 refine wp_seq ?_
 refine' rb [_] mixed hA hB hO (cn (fun hE hK => zC rfl) .nil) ?zk1
 intro a1 w1 hA hE hB HF; replace q0 := kf HF q0; clear HF; replace h_0 := vx h_0 hE; clear hE; refine zE (zB (wp_seq (wp_seq ?_)))
 refine' rb [_, _] mixed hA hB hO (mv q0 (cn (fun hE hK => okl_eqlNil ty23 (ks 0 hK 3 rfl) (rd_of (vx h_0 hE))) .nil)) ?zk2
 intro a2 w2 hA hE hB HF; replace q0 := kf HF q0; have q4 := ksv (HF 4) rfl rfl rfl; clear HF; replace h_0 := vx h_0 hE; clear hE; refine zE (zB ?_)
 refine wp_cond_b q4 (fun hc => ?_) (fun hc => ?_)
 ·
  have hnil := isNil_nil hc (rd_of h_0); subst hnil; replace h := clone_nil h
  refine wp_seq ?_
  refine' rb [_] mixed hA hB hO (cn (fun hE hK => zC rfl) .nil) ?zk3
  intro a3 w3 hA hE hB HF; have q2 := ksv (HF 2) rfl rfl rfl; clear q0 q4 HF; replace h_0 := vx h_0 hE; clear hE; refine zE (zB (wp_ret (zN ?_)))
  have h := Comp.run_pure h; subst h
  exact zb Try.results77 hA q2 hB.ext (OwnR.nil _ _ _ _ _)
 ·
  clear hc; refine wp_skip (zB (wp_seq ?_))
  refine' rbT [] hA hB hO .nil ?zk4
  intro a4 w4 hA hE hB HF; replace q0 := kf HF q0; clear q4 HF; replace h_0 := vx h_0 hE; clear hE
  refine l_ok (φ := SP.ownr (rInt .i64) 3 w4.heap.size O []) hO hB (by exact jf (r := (rInt .i64)) (fun _ => rfl) rfl hB.ok ty23 ty3 (Nat.le_refl _) zh trivial rfl (by decide)) rfl fun u1 w5 hE hB' f2 => ?_
  clear hB'; obtain ⟨O3, hB', hX, f4⟩ := ownNew hO hB hE f2 rfl 1 (by decide)
  clear hB f2; have hB := hB'; clear hB'; replace h_0 := vk h_0 hX; clear hX hE
  refine zQ hA (by decide) fun a6 hA q_ hfr => ?_
  replace q0 := (hfr _ rfl).trans q0; have q5 := q_; clear q_ hfr
  refine l_ok (φ := SP.isv (v_0)) hO hB (by exact zJ q0) rfl fun u_ w7 hE hB' hv_ => ?_
  replace hv_ := Eq.symm hv_; subst hv_; clear hB; have hB := hB'; clear hB'
  replace h_0 := vx h_0 hE; replace f4 := f4.ext hE; clear hE
  refine zQ hA (by decide) fun a8 hA q_ hfr => ?_
  replace q0 := (hfr _ rfl).trans q0; replace q5 := (hfr _ rfl).trans q5; have q6 := q_; clear q_ hfr; obtain ⟨x5, hx5, h⟩ := Comp.run_bind h
  refine gQ (r := (rInt .i64)) (fun _ => rfl) rfl ty23 ty3 rfl (by decide) hO hB (yH hB) q5 f4 q6 (rd_of h_0) hx5 (by decide) fun u6 w9 O7 f8 hB' hX => ?_
  clear hB; have hB := hB'; clear hB'; clear f4; replace h_0 := vk h_0 hX; clear hX
  refine zQ hA (by decide) fun a10 hA q_ hfr => ?_
  replace q5 := (hfr _ rfl).trans q5; replace q6 := (hfr _ rfl).trans q6; have q7 := q_; clear q_ hfr
  refine l_ok (φ := SP.isv (u6)) hO hB (by exact zC q7) rfl fun u_ w11 hE hB' hv_ => ?_
  replace hv_ := Eq.symm hv_; subst hv_; clear hB; have hB := hB'; clear hB'
  replace f8 := f8.ext hE; clear hE
  refine zQ hA (by decide) fun a12 hA q_ hfr => ?_
  replace q7 := (hfr _ rfl).trans q7; have q2 := q_; clear q_ hfr; refine zE (zB (wp_ret ?_))
  have h := Comp.run_pure h; subst h
  exact zb Try.results77 hA q2 hB.ext (OwnL.res f8 (by decide) hB.zero)
theorem ok_court_sorted {O : Tags} {w0 : World} (hO : OkO O w0) {v_0 : Value} {x_0 : List Int} (h_0 : (rSl (rInt .i64)).v O w0 v_0 x_0) {n : Nat} {y : Bool} (h : (court_sorted x_0).run n = some y) : Pure Try.prog 58 #[v_0] w0 (SP.isv (.bool y)).holds := by
 unfold court_sorted at h
 refine zW Try.func58 rfl 14 Try.ntmps58 (by simp) fun a0 hA hs0 => ?_
 have q0 : a0.get 0 = v_0 := hs0 0 _ rfl
 clear hs0
 have hB : Base (Fr w0) O w0 O w0 := Base.start hO
 refine wp_seq ?_
 refine' rb [_] mixed hA hB hO (cn (fun hE hK => zC rfl) .nil) ?zk1
 intro a1 w1 hA hE hB HF; replace q0 := kf HF q0; clear HF; replace h_0 := vx h_0 hE; clear hE; refine zE (zB (wp_seq ?_)); obtain ⟨x1, hx1, h⟩ := Comp.run_bind h; obtain ⟨x2, hx2, h⟩ := Comp.run_bind h; obtain ⟨x3, hx3, h⟩ := Comp.run_bind h
 obtain ⟨J_, eJ_⟩ : ∃ J_ : (Nat → Bool) → Act → World → Prop, J_ = (fun S_ a_ w_ => ∃ O_ : Tags, Base (Fr w0) O w0 O_ w_ ∧ Keep 0 O w1 O_ w_ ∧ (S_ 5 = true → (x1 == true) = true → (rSl (rInt .i64)).v O_ w_ (a_.get 8) x3) ∧ (S_ 4 = true → (x1 == true) = true → S_ 5 = false → OwnL 1 (rInt .i64) 3 (Fr w0) O_ w_ (a_.get 7) x2) ∧ (S_ 5 = true → (x1 == true) = true → OwnL 1 (rInt .i64) 3 (Fr w0) O_ w_ (.slice none 0 0) [])) := ⟨_, rfl⟩
 have T_ : ∀ {i_ : Nat} {d_ : Option Tmp} {v_ : Value} {S_ a' w' w2}, Nat.beq 4 i_ = false → Nat.beq 5 i_ = false → d_ ≠ some 7 → d_ ≠ some 8 → Ext w' w2 → J_ S_ a' w' → J_ (addS S_ i_) (a'.put d_ v_) w2 := by
  subst eJ_; intro i_ d_ v_ S_ a' w' w2 n4_ n5_ s7_ s8_ hE hJ_
  obtain ⟨O_, hB_, k0_, m5_, v0_0_, v0_1_⟩ := hJ_
  exact ⟨O_, (Base.step hB_ hE hO), (k0_.trans (KX.keep (KX.ext hE) (by decide))), fun h_ hG_ => zG (d := d_) (t := 8) (φ := fun u_ => (rSl (rInt .i64)).v O_ w2 u_ x3) ((GR.zS _ (m5_ (zF n5_ h_) hG_) (KX.keep (KX.ext hE) (by decide)))) s8_, fun hp_ hG_ hq_ => zG (d := d_) (t := 7) (φ := fun u_ => OwnL 1 (rInt .i64) 3 (Fr w0) O_ w2 (u_) x2) (OwnL.kx (v0_0_ (zF n4_ hp_) hG_ (zd hq_)) (KX.ext hE) (by decide) (by decide)) s7_, fun hp_ hG_ => OwnL.kx (v0_1_ (zF n5_ hp_) hG_) (KX.ext hE) (by decide) (by decide)⟩
 refine' regionX (draw := false) J_ [SP.isv (v_0), SP.isv (.bool x1), SP.isv (.bool x1), SP.isv (v_0), SP.tt, SP.tt, SP.isv (.int .i64 (x3.length : Int)), SP.isv (v_0), SP.isv (.int .i64 (x_0.length : Int)), SP.isv (.bool (decide ((x3.length : Int) = (x_0.length : Int)))), SP.isv (.bool (bif x1 then (decide ((x3.length : Int) = (x_0.length : Int))) else false)), SP.isv (.bool (bif x1 then (decide ((x3.length : Int) = (x_0.length : Int))) else false))] mixed hA (.cons (zi _) (.cons (zi _) (.cons (zi _) (.cons (zi _) (.cons (gZ _) (.cons (gZ _) (.cons (zi _) (.cons (zi _) (.cons (zi _) (.cons (zi _) (.cons (zi _) (.cons (zi _) .nil)))))))))))) (.cons ?z2_0 (.cons ?z2_1 (.cons ?z2_2 (.cons ?z2_3 (.cons ?z2_4 (.cons ?z2_5 (.cons ?z2_6 (.cons ?z2_7 (.cons ?z2_8 (.cons ?z2_9 (.cons ?z2_10 (.cons ?z2_11 .nil)))))))))))) ?zsk2 ?zst2 ?zok2 ?zgd2 ?zk2
 case z2_0 =>
  intro S_ a' w' hA_ hJ_ hS_ hafter_ hbef_ hK hg K_ Q_ hK_
  refine x_ok (φ := SP.isv (v_0)) (by exact zJ (kq hK q0)) fun v_ w2 hE hv_ => hK_ v_ w2 (T_ rfl rfl (by decide) (by decide) hE hJ_) hv_
 case z2_1 =>
  intro S_ a' w' hA_ hJ_ hS_ hafter_ hbef_ hK hg K_ Q_ hK_
  have hJ2_ := hJ_; rw [eJ_] at hJ2_; obtain ⟨O_, hB_, k0_, m5_, v0_0_, v0_1_⟩ := hJ2_
  refine x_ok (φ := SP.isv (.bool x1)) (by have c_ := ok_slices_IsSorted_int_int hB_.ok (GR.zS _ h_0 k0_) hx1; exact ok_call1 fn75 (ks 0 hK 3 rfl) c_) fun v_ w2 hE hv_ => hK_ v_ w2 (T_ rfl rfl (by decide) (by decide) hE hJ_) hv_
 case z2_2 =>
  intro S_ a' w' hA_ hJ_ hS_ hafter_ hbef_ hK hg K_ Q_ hK_
  refine x_ok (φ := SP.isv (.bool x1)) (by exact zJ (ks 1 hK 4 rfl)) fun v_ w2 hE hv_ => hK_ v_ w2 (T_ rfl rfl (by decide) (by decide) hE hJ_) hv_
 case z2_3 =>
  intro S_ a' w' hA_ hJ_ hS_ hafter_ hbef_ hK hg K_ Q_ hK_
  refine x_ok (φ := SP.isv (v_0)) (by exact zJ (kq hK q0)) fun v_ w2 hE hv_ => hK_ v_ w2 (T_ rfl rfl (by decide) (by decide) hE hJ_) hv_
 case z2_4 =>
  intro S_ a' w' hA_ hJ_ hS_ hafter_ hbef_ hK hg K_ Q_ hK_
  subst eJ_
  obtain ⟨O_, hB_, k0_, m5_, v0_0_, v0_1_⟩ := hJ_
  refine x_ok (φ := SP.ownr (rInt .i64) 3 w'.heap.size O_ x2) (by have c_ := ok_slices_Clone_int_int hB_.ok (GR.zS _ h_0 k0_) (zr hx2 hg); exact yL (ok_call1 fn77 (kg 3 hK 6 rfl hg) c_) (fun _ _ _ h => h)) fun v_ w2 hE hv_ => ?_
  obtain ⟨O2_, hB2_, hX_, f_⟩ := ownNew hO hB_ hE hv_ rfl 1 (by decide)
  exact hK_ v_ w2 ⟨O2_, hB2_, (k0_.trans (KX.keep hX_ (by decide))), fun h_ hG_ => zG (d := some 7) (t := 8) (φ := fun u_ => (rSl (rInt .i64)).v O2_ w2 u_ x3) ((GR.zS _ (m5_ (zF rfl h_) hG_) (KX.keep hX_ (by decide)))) (by decide), fun hp_ hG_ hq_ => jP (φ := fun u_ => OwnL 1 (rInt .i64) 3 (Fr w0) O2_ w2 (u_) x2) hA_ (by decide) f_, fun hp_ hG_ => no_tf (zF rfl hp_) (hafter_ 5 (by kernel_rfl))⟩ trivial
 case z2_5 =>
  intro S_ a' w' hA_ hJ_ hS_ hafter_ hbef_ hK hg K_ Q_ hK_
  subst eJ_
  obtain ⟨O_, hB_, k0_, m5_, v0_0_, v0_1_⟩ := hJ_
  refine x_io (r := (rInt .i64)) (E := 3) (k := 1) hO hB_ (yH hB_) fn76 (map1 rfl) (m_compact Try.slices_Compact_int Try.slices_Compact_int_empty hB_.ok (OwnL.arg (v0_0_ (zF rfl (hbef_ 4 (by kernel_rfl))) hg hS_) (by decide)) (zr hx3 hg)) (v0_0_ (zF rfl (hbef_ 4 (by kernel_rfl))) hg hS_) (by decide) fun v_ u_ w2 O2_ f_ hB2_ hX_ hps_ => ?_
  replace hps_ : v_ = u_ := hps_; subst hps_
  obtain ⟨O3_, hB3_, hX3_, f3_⟩ := freezeL hO hB2_ f_ (by decide)
  have hX4_ := KX.trans_same hX_ hX3_
  exact hK_ v_ w2 ⟨O3_, hB3_, (k0_.trans (KX.keep hX4_ (by decide))), fun _ hG_ => jP (φ := fun u_ => (rSl (rInt .i64)).v O3_ w2 u_ x3) hA_ (by decide) f3_, fun hp_ hG_ hq_ => addS_me hq_, fun hp_ hG_ => (OwnL.nil _ _ _ _ _ _)⟩ trivial
 case z2_6 =>
  intro S_ a' w' hA_ hJ_ hS_ hafter_ hbef_ hK hg K_ Q_ hK_
  have hJ2_ := hJ_; rw [eJ_] at hJ2_; obtain ⟨O_, hB_, k0_, m5_, v0_0_, v0_1_⟩ := hJ2_
  refine x_ok (φ := SP.isv (.int .i64 (x3.length : Int))) (by exact zg (r := (rInt .i64)) ty23 rfl (rd_of (m5_ (zF rfl (hbef_ 5 (by kernel_rfl))) hg))) fun v_ w2 hE hv_ => hK_ v_ w2 (T_ rfl rfl (by decide) (by decide) hE hJ_) hv_
 case z2_7 =>
  intro S_ a' w' hA_ hJ_ hS_ hafter_ hbef_ hK hg K_ Q_ hK_
  refine x_ok (φ := SP.isv (v_0)) (by exact zJ (kq hK q0)) fun v_ w2 hE hv_ => hK_ v_ w2 (T_ rfl rfl (by decide) (by decide) hE hJ_) hv_
 case z2_8 =>
  intro S_ a' w' hA_ hJ_ hS_ hafter_ hbef_ hK hg K_ Q_ hK_
  have hJ2_ := hJ_; rw [eJ_] at hJ2_; obtain ⟨O_, hB_, k0_, m5_, v0_0_, v0_1_⟩ := hJ2_
  refine x_ok (φ := SP.isv (.int .i64 (x_0.length : Int))) (by exact zg (r := (rInt .i64)) ty23 (kg 7 hK 10 rfl hg) (rd_of (GR.zS _ h_0 k0_))) fun v_ w2 hE hv_ => hK_ v_ w2 (T_ rfl rfl (by decide) (by decide) hE hJ_) hv_
 case z2_9 =>
  intro S_ a' w' hA_ hJ_ hS_ hafter_ hbef_ hK hg K_ Q_ hK_
  refine x_ok (φ := SP.isv (.bool (decide ((x3.length : Int) = (x_0.length : Int))))) (by exact yO (kg 6 hK 9 rfl hg) (kg 8 hK 11 rfl hg)) fun v_ w2 hE hv_ => hK_ v_ w2 (T_ rfl rfl (by decide) (by decide) hE hJ_) hv_
 case z2_10 =>
  intro S_ a' w' hA_ hJ_ hS_ hafter_ hbef_ hK hg K_ Q_ hK_
  refine x_ok (φ := SP.isv (.bool (bif x1 then (decide ((x3.length : Int) = (x_0.length : Int))) else false))) (by exact zV (ks 2 hK 5 rfl) (fun hb => kg 9 hK 12 rfl (zf rfl rfl hb)) (fun _ => rfl)) fun v_ w2 hE hv_ => hK_ v_ w2 (T_ rfl rfl (by decide) (by decide) hE hJ_) hv_
 case z2_11 =>
  intro S_ a' w' hA_ hJ_ hS_ hafter_ hbef_ hK hg K_ Q_ hK_
  refine x_ok (φ := SP.isv (.bool (bif x1 then (decide ((x3.length : Int) = (x_0.length : Int))) else false))) (by exact zC (ks 10 hK 13 rfl)) fun v_ w2 hE hv_ => hK_ v_ w2 (T_ rfl rfl (by decide) (by decide) hE hJ_) hv_
 case zsk2 =>
  subst eJ_
  intro i_ o_ S_ a_ w_ ho_ hact_ hA_ hS_ hbef_ hJ_
  obtain ⟨O_, hB_, k0_, m5_, v0_0_, v0_1_⟩ := hJ_
  exact ⟨O_, hB_, k0_, fun h_ hG_ => by obtain ⟨h1_, h2_⟩ := yG (j := 5) hact_ hG_ h_; exact zG (t := 8) (φ := fun u_ => (rSl (rInt .i64)).v O_ w_ u_ x3) (m5_ h1_ hG_) (zv (j := 5) (by kernel_rfl) ho_ h2_), fun hp_ hG_ hq_ => by obtain ⟨h1_, h2_⟩ := yG (j := 4) hact_ hG_ hp_; exact zG (t := 7) (φ := fun u_ => OwnL 1 (rInt .i64) 3 (Fr w0) O_ w_ (u_) x2) (v0_0_ h1_ hG_ (zd hq_)) (zv (j := 4) (by kernel_rfl) ho_ h2_), fun hp_ hG_ => by obtain ⟨h1_, h2_⟩ := yG (j := 5) hact_ hG_ hp_; exact (v0_1_ h1_ hG_)⟩
 case zst2 => subst eJ_; exact fun w1_ hE_ => ⟨O, (Base.step hB hE_ hO), (Keep.ext hE_), fun h_ => no_ft h_, fun hp_ => no_ft hp_, fun hp_ => no_ft hp_⟩
 case zok2 | zgd2 => kernel_rfl
 subst eJ_; clear T_
 intro a2 w2 hA HF hJ_
 obtain ⟨O4, hB_, k0_, m5_, v0_0_, v0_1_⟩ := hJ_
 have q2' := ksv (j := 11) (HF 2) rfl rfl rfl
 have q2 := q2'; clear q2'
 clear q0; clear HF
 replace h_0 := GR.zS _ h_0 k0_
 clear hB; have hB := hB_; clear hB_; clear k0_ m5_ v0_0_ v0_1_
 obtain ⟨x5, hx_, h⟩ := Comp.run_bind h; replace hx_ := Comp.run_pure hx_; rw [hx_] at q2; clear hx_
 refine zB (wp_ret ?_)
 have h := Comp.run_pure h; subst h
 exact zb Try.results58 hA q2 hB.ext rfl
theorem ok_court_outside_f1 {O : Tags} {w0 : World} (hO : OkO O w0) {x_0 : Int} {v_1 : Value} {x_1 : Int} (h_1 : (rBox (rInt .i64)).v O w0 v_1 x_1) {n : Nat} {y : Bool} (h : (court_outside_f1 x_0 x_1).run n = some y) : Pure Try.prog 78 #[.int .i64 x_0, v_1] w0 (SP.isv (.bool y)).holds := by
 unfold court_outside_f1 at h
 refine zW Try.func78 rfl 11 Try.ntmps78 (by simp) fun a0 hA hs0 => ?_
 have q0 : a0.get 0 = .int .i64 x_0 := hs0 0 _ rfl
 have q1 : a0.get 1 = v_1 := hs0 1 _ rfl
 clear hs0
 have hB : Base (Fr w0) O w0 O w0 := Base.start hO
 refine wp_seq ?_
 refine' rb [_] mixed hA hB hO (cn (fun hE hK => zC rfl) .nil) ?zk1
 intro a1 w1 hA hE hB HF; replace q0 := kf HF q0; replace q1 := kf HF q1; clear HF; replace h_1 := vx h_1 hE; clear hE; refine zE (zB (wp_seq ?_))
 refine' rb [_, _, _, _, SP.isv (.int .i64 x_1), _, _, _] mixed hA hB hO (mv q0 (cn (fun hE hK => zy (ks 0 hK 4 rfl) rfl) (cn (fun hE hK => zJ (ks 1 hK 5 rfl)) (mv q0 (cn (fun hE hK => za (rInt .i64) (fun _ => rfl) ty3 rfl rfl (kn (hK 1 rfl) rfl q1) (yi (fun _ => rfl) (vx h_1 hE)) (fun _ _ _ h => zU.1 h)) (.cons (fun _ _ hE hK hg => ok_geq (kg 3 hK 7 rfl hg) (kg 4 hK 8 rfl hg)) (cn (fun hE hK => zV (ks 2 hK 6 rfl) (fun _ => rfl) (fun hb => kg 5 hK 9 rfl (zf rfl rfl hb))) (cn (fun hE hK => zC (ks 6 hK 10 rfl)) .nil)))))))) ?zk2
 intro a2 w2 hA hE hB HF; have q3 := ksv (HF 3) rfl rfl rfl; clear q0 q1 HF; replace h_1 := vx h_1 hE; clear hE
 obtain ⟨x1, hx_, h⟩ := Comp.run_bind h; replace hx_ := Comp.run_pure hx_; rw [hx_] at q3; clear hx_
 refine zE (zB (wp_ret ?_))
 have h := Comp.run_pure h; subst h
 exact zb Try.results78 hA q3 hB.ext rfl
theorem ok_slices_IndexFunc_int_int {O : Tags} {w0 : World} (hO : OkO O w0) {v_0 : Value} {x_0 : List Int} (h_0 : (rSl (rInt .i64)).v O w0 v_0 x_0) {v_1 : Value} {x_1 : Int → Comp Bool} (h_1 : (rF1 Try.prog (rInt .i64) (RS.c (fun x => .bool x))).v O w0 v_1 x_1) {n : Nat} {y : Int} (h : (yy x_0 x_1).run n = some y) : Pure Try.prog 67 #[v_0, v_1] w0 (SP.isv (.int .i64 y)).holds := by
 unfold yy at h
 refine zW Try.func67 rfl 19 Try.ntmps67 (by simp) fun a0 hA hs0 => ?_
 have q0 : a0.get 0 = v_0 := hs0 0 _ rfl
 have q1 : a0.get 1 = v_1 := hs0 1 _ rfl
 clear hs0
 have hB : Base (Fr w0) O w0 O w0 := Base.start hO
 refine wp_seq ?_
 refine' rb [_] mixed hA hB hO (cn (fun hE hK => zC rfl) .nil) ?zk1
 intro a1 w1 hA hE hB HF; replace q0 := kf HF q0; replace q1 := kf HF q1; clear HF; replace h_0 := vx h_0 hE; replace h_1 := vx h_1 hE; clear hE; refine zE (zB ?_)
 refine zY (fun a w => ∃ (O6 : Tags), a.fit 19 ∧ Base (Fr w0) O w0 O6 w ∧ (vY ).run n = some y) ?_ ?_
 ·
  refine wp_seq ?_
  refine' rb [_, _, _] mixed hA hB hO (mv q0 (cn (fun hE hK => zg (r := (rInt .i64)) ty23 (ks 0 hK 6 rfl) (rd_of (vx h_0 hE))) (cn (fun hE hK => zJ rfl) .nil))) ?zk2
  intro a2 w2 hA hE hB HF; replace q0 := kf HF q0; replace q1 := kf HF q1; have q7 := ksv (HF 7) rfl rfl rfl; have q8 := ksv (HF 8) rfl rfl rfl; clear HF; replace h_0 := vx h_0 hE; replace h_1 := vx h_1 hE; clear hE; refine zE (zB (wp_block ?_))
  obtain ⟨e2, he2, hk2⟩ := Comp.run_bind h; clear h
  refine yt (fun m a w => ∃ (O2 : Tags) (x1 : Int), a.fit 19 ∧ Base (Fr w0) O w0 O2 w ∧ a.get 0 = v_0 ∧ (rSl (rInt .i64)).v O2 w v_0 x_0 ∧ a.get 1 = v_1 ∧ (rF1 Try.prog (rInt .i64) (RS.c (fun x => .bool x))).v O2 w v_1 x_1 ∧ a.get 7 = .int .i64 (x_0.length : Int) ∧ a.get 8 = .int .i64 x1 ∧ Comp.loopN (fun s => zn x_0 x_1 s) n m x1 = some e2) (m := n) ?st2 ?_
  case st2 =>
   exact ⟨_, _, hA, hB, q0, h_0, q1, h_1, q7, q8, Comp.zk he2⟩
  intro m_ a3 w3 hI
  clear hA hB he2 q0 q1 q7 q8 h_0 h_1
  obtain ⟨O2, x1, hA, hB, q0, h_0, q1, h_1, q7, q8, hl⟩ := hI
  obtain ⟨m2, hlt2, st2, h, hnext2, hdone2⟩ := Comp.zZ hl; clear hl
  replace h : (zn x_0 x_1 x1).run n = some st2 := h
  unfold zn at h; refine wp_seq ?_
  refine' rb [_] mixed hA hB hO (cn (fun hE hK => zy (kq hK q8) (kq hK q7)) .nil) ?zk3
  intro a4 w4 hA hE hB HF; refine kr4 HF q0 q1 q7 q8 ?_; clear q0 q1 q7 q8; intro q0 q1 q7 q8; have q9 := ksv (HF 9) rfl rfl rfl; clear HF; replace h_0 := vx h_0 hE; replace h_1 := vx h_1 hE; clear hE; refine zE (zB (wp_seq ?_))
  revert h; refine cnd q9 (fun h => ?_) (fun h => ?_)
  ·
   refine wp_skip (zB (wp_seq (wp_block (wp_seq ?_))))
   refine' rb [_, _] mixed hA hB hO (mv q8 (cn (fun hE hK => zC (ks 0 hK 10 rfl)) .nil)) ?zk4
   intro a5 w5 hA hE hB HF; refine kr4 HF q0 q1 q7 q8 ?_; clear q0 q1 q7 q8; intro q0 q1 q7 q8; have q5 := ksv (HF 5) rfl rfl rfl; clear q9 HF; replace h_0 := vx h_0 hE; replace h_1 := vx h_1 hE; clear hE; refine zE (zB (wp_seq ?_)); obtain ⟨x3, hx3, h⟩ := Comp.run_bind h; obtain ⟨x4, hx4, h⟩ := Comp.run_bind h
   refine' rb [_, _, _, SP.ptr (rInt .i64) O2 x3, SP.isv (.int .i64 x3), SP.isv (.bool x4)] mixed hA hB hO (mv q1 (mv q0 (mv q5 (cn (fun hE hK => zp (r := (rInt .i64)) (O := O2) ty23 ty3 rfl (ks 1 hK 12 rfl) (rd_of (vx h_0 hE)) (ks 2 hK 13 rfl) hx3) (cn (fun hE hK => za (rInt .i64) (fun _ => rfl) ty3 rfl rfl rfl (kp (SP.ptr (rInt .i64) O2 x3) 3 hK 14 rfl) (fun _ _ _ h => zU.1 h)) (cn (fun hE hK => okl_callv1 (R := (RS.c (fun x => .bool x))) (ks 0 hK 11 rfl) (show ((rF1 Try.prog (rInt .i64) (RS.c (fun x => .bool x)))).v O2 _ _ _ from (vx h_1 hE)) (OkO.ext hB.ok hE) (ks 4 hK 15 rfl) (by exact zU.2 rfl) hx4) .nil)))))) ?zk5
   intro a6 w6 hA hE hB HF; refine kr5 HF q0 q1 q5 q7 q8 ?_; clear q0 q1 q5 q7 q8; intro q0 q1 q5 q7 q8; have q16 := ksv (HF 16) rfl rfl rfl; clear HF; replace h_0 := vx h_0 hE; replace h_1 := vx h_1 hE; clear hE; refine zE (zB ?_)
   revert h; refine cnd q16 (fun h => ?_) (fun h => ?_)
   ·
    refine wp_seq ?_
    refine' rb [_, _] mixed hA hB hO (mv q5 (cn (fun hE hK => zC (ks 0 hK 17 rfl)) .nil)) ?zk6
    intro a7 w7 hA hE hB HF; have q4 := ksv (HF 4) rfl rfl rfl; clear q0 q1 q5 q7 q8 q16 HF; replace h_0 := vx h_0 hE; replace h_1 := vx h_1 hE; clear hE; refine zE (zB (wp_ret (yA (zN (zN (yA (zN ?_)))))))
    have hd_ := hdone2 _ (Comp.run_pure h).symm; clear h
    subst hd_; have h := hk2; clear hk2; try dsimp only at h
    have h := Comp.run_pure h; subst h
    exact zb Try.results67 hA q4 hB.ext rfl
   ·
    refine wp_skip (zm (zB ?_))
    refine' rb [_, _] mixed hA hB hO (cn (fun hE hK => yP (kq hK q8) rfl) (cn (fun hE hK => zJ (ks 0 hK 18 rfl)) .nil)) ?zk7
    intro a8 w8 hA hE hB HF; refine kr3 HF q0 q1 q7 ?_; clear q0 q1 q7; intro q0 q1 q7; replace q8 := ksv (HF 8) rfl rfl rfl; clear q5 q16 HF; replace h_0 := vx h_0 hE; replace h_1 := vx h_1 hE; clear hE; refine zE (zB ?_)
    have h := hnext2 _ (Comp.run_pure h).symm
    refine ⟨m2, hlt2, ?_⟩
    exact ⟨_, _, hA, hB, q0, h_0, q1, h_1, q7, q8, h⟩
  ·
   refine wp_exit (zT (zT (zw ?_)))
   have hd_ := hdone2 _ (Comp.run_pure h).symm; clear h
   subst hd_; have h := hk2; clear hk2; try dsimp only at h
   refine zB ?_
   exact ⟨_, hA, hB, h⟩
 intro a9 w9 hI
 clear hA hB h q0 q1 h_0 h_1
 obtain ⟨O6, hA, hB, h⟩ := hI
 unfold vY at h; refine wp_seq ?_
 refine' rb [_] mixed hA hB hO (cn (fun hE hK => zC rfl) .nil) ?zk8
 intro a10 w10 hA hE hB HF; have q4 := ksv (HF 4) rfl rfl rfl; clear HF; clear hE; refine zE (zB (wp_ret ?_))
 have h := Comp.run_pure h; subst h
 exact zb Try.results67 hA q4 hB.ext rfl
theorem vn {O : Tags} {w0 : World} (hO : OkO O w0) {v_0 : Value} {x_0 : List Int} (h_0 : (rSl (rInt .i64)).v O w0 v_0 x_0) {v_1 : Value} {x_1 : Int → Comp Bool} (h_1 : (rF1 Try.prog (rInt .i64) (RS.c (fun x => .bool x))).v O w0 v_1 x_1) {n : Nat} {y : Bool} (h : (zo x_0 x_1).run n = some y) : Pure Try.prog 48 #[v_0, v_1] w0 (SP.isv (.bool y)).holds := by
 unfold zo at h
 refine zW Try.func48 rfl 9 Try.ntmps48 (by simp) fun a0 hA hs0 => ?_
 have q0 : a0.get 0 = v_0 := hs0 0 _ rfl
 have q1 : a0.get 1 = v_1 := hs0 1 _ rfl
 clear hs0
 have hB : Base (Fr w0) O w0 O w0 := Base.start hO
 refine wp_seq ?_
 refine' rb [_] mixed hA hB hO (cn (fun hE hK => zC rfl) .nil) ?zk1
 intro a1 w1 hA hE hB HF; replace q0 := kf HF q0; replace q1 := kf HF q1; clear HF; replace h_0 := vx h_0 hE; replace h_1 := vx h_1 hE; clear hE; refine zE (zB (wp_seq ?_)); obtain ⟨x1, hx1, h⟩ := Comp.run_bind h
 refine' rb [_, _, SP.isv (.int .i64 x1), _, _] mixed hA hB hO (mv q0 (mv q1 (cn (fun hE hK => zz fn67 (ks 0 hK 5 rfl) (ks 1 hK 6 rfl) (ok_slices_IndexFunc_int_int (OkO.ext hB.ok hE) (vx h_0 hE) (vx h_1 hE) hx1)) (cn (fun hE hK => ok_geq (ks 2 hK 7 rfl) rfl) (cn (fun hE hK => zC (ks 3 hK 8 rfl)) .nil))))) ?zk2
 intro a2 w2 hA hE hB HF; have q4 := ksv (HF 4) rfl rfl rfl; clear q0 q1 HF; replace h_0 := vx h_0 hE; replace h_1 := vx h_1 hE; clear hE; refine zE (zB (wp_ret ?_))
 have h := Comp.run_pure h; subst h
 exact zb Try.results48 hA q4 hB.ext rfl
theorem ok_court_outside {O : Tags} {w0 : World} (hO : OkO O w0) {v_0 : Value} {x_0 : List Int} (h_0 : (rSl (rInt .i64)).v O w0 v_0 x_0) {x_1 : Int} {n : Nat} {y : Bool} (h : (court_outside x_0 x_1).run n = some y) : Pure Try.prog 59 #[v_0, .int .i64 x_1] w0 (SP.isv (.bool y)).holds := by
 unfold court_outside at h
 refine zW Try.func59 rfl 8 Try.ntmps59 (by simp) fun a0 hA hs0 => ?_
 have q0 : a0.get 0 = v_0 := hs0 0 _ rfl
 have q1 : a0.get 1 = .int .i64 x_1 := hs0 1 _ rfl
 clear hs0
 have hB : Base (Fr w0) O w0 O w0 := Base.start hO
 refine wp_seq ?_
 refine' rb [SP.vl (rBox (rInt .i64)) O x_1, _] mixed hA hB hO (cn (fun hE hK => okl_boxV (r := (rInt .i64)) (fun _ => rfl) (OkO.ext hB.ok hE) (kq hK q1) (by exact zU.2 rfl)) (cn (fun hE hK => zC rfl) .nil)) ?zk1
 intro a1 w1 hA hE hB HF; replace q0 := kf HF q0; obtain ⟨u1, q3, f2⟩ := kx (HF 3) rfl rfl rfl; clear q1 HF; replace h_0 := vx h_0 hE; clear hE; refine zE (zB (wp_seq ?_)); obtain ⟨x3, hx3, h⟩ := Comp.run_bind h
 refine' rb [_, SP.isv (.func (.func 78) #[] #[u1]), SP.isv (.bool x3), _] mixed hA hB hO (mv q0 (cn (fun hE hK => ok_makeFunc map0 (map1 (kq hK q3))) (.cons ?z2_2 (cn (fun hE hK => zC (ks 2 hK 7 rfl)) .nil)))) ?zk2
 case z2_2 => intro a' w' hE hK hg; have c_ := vn (OkO.ext hB.ok hE) (vx h_0 hE) (show (rF1 Try.prog (rInt .i64) (RS.c (fun x => .bool x))).v O _ (.func (.func 78) #[] #[u1]) (fun z0 => court_outside_f1 z0 x_1) from rF1_v.2 ⟨rfl, fun O' w' hO' hk v_0 x_0 hv_0 n_ y_ hy_ => by obtain rfl := zU.1 hv_0; exact callV_func fn78 (ok_court_outside_f1 hO'  (GR.zS _ (vx f2 hE) hk) hy_)⟩) hx3; exact zz fn48 (ks 0 hK 5 rfl) (ks 1 hK 6 rfl) c_
 intro a2 w2 hA hE hB HF; have q4 := ksv (HF 4) rfl rfl rfl; clear q0 q3 HF; replace h_0 := vx h_0 hE; replace f2 := vx f2 hE; clear hE; refine zE (zB (wp_ret ?_))
 have h := Comp.run_pure h; subst h
 exact zb Try.results59 hA q4 hB.ext rfl
theorem ok_court_check {O : Tags} {w0 : World} (hO : OkO O w0) {v_0 : Value} {x_0 : api_Claim} (h_0 : zA.v O w0 v_0 x_0) {x_1 : Int} {n : Nat} {y : Int} (h : (court_check x_0 x_1).run n = some y) : Pure Try.prog 38 #[v_0, .int .i64 x_1] w0 (SP.isv (.int .i64 y)).holds := by
 unfold court_check at h
 refine zW Try.func38 rfl 87 Try.ntmps38 (by simp) fun a0 hA hs0 => ?_
 have q0 : a0.get 0 = v_0 := hs0 0 _ rfl
 have q1 : a0.get 1 = .int .i64 x_1 := hs0 1 _ rfl
 clear hs0
 have hB : Base (Fr w0) O w0 O w0 := Base.start hO
 refine wp_seq ?_
 refine' rb [SP.vl (rBox zA) O x_0, _] mixed hA hB hO (cn (fun hE hK => okl_boxV (r := zA) zK (OkO.ext hB.ok hE) (kq hK q0) (vx h_0 hE)) (cn (fun hE hK => zC rfl) .nil)) ?zk1
 intro a1 w1 hA hE hB HF; replace q1 := kf HF q1; obtain ⟨u1, q2, f2⟩ := kx (HF 2) rfl rfl rfl; clear q0 HF; replace h_0 := vx h_0 hE; clear hE; refine zE (zB (wp_seq ?_))
 refine' rb [SP.isv (.func (.func 56) #[] #[u1]), _] mixed hA hB hO (cn (fun hE hK => ok_makeFunc map0 (map1 (kq hK q2))) (cn (fun hE hK => zC (ks 0 hK 6 rfl)) .nil)) ?zk2
 intro a2 w2 hA hE hB HF; replace q1 := kf HF q1; replace q2 := kf HF q2; have q5 := ksv (HF 5) rfl rfl rfl; clear HF; replace f2 := vx f2 hE; clear hE
 have f3 : (rF1 Try.prog (rInt .i64) (RS.c (fun x => .bool x))).v O w2 (.func (.func 56) #[] #[u1]) (fun z0 => kR z0 x_0) := rF1_v.2 ⟨rfl, fun O' w' hO' hk v_0 x_0 hv_0 n_ y_ hy_ => by obtain rfl := zU.1 hv_0; exact callV_func fn56 (ok_court_check_f1 hO'  (GR.zS _ f2 hk) hy_)⟩
 refine zE (zB (wp_seq (wp_block (wp_seq ?_))))
 refine' rb [SP.ptr (rInt .i64) O x_0.Party, SP.isv (.int .i64 x_0.Party), _, _, SP.ptr (rInt .i64) O x_0.Party, SP.isv (.int .i64 x_0.Party), _, _, _] mixed hA hB hO (cn (fun hE hK => yN (S := zA) zK rfl (fun _ => rfl) sb_api_Claim_0 fl33_0 (kq hK q2) (vx f2 hE)) (cn (fun hE hK => za (rInt .i64) (fun _ => rfl) ty3 rfl rfl rfl (kp (SP.ptr (rInt .i64) O x_0.Party) 0 hK 8 rfl) (fun _ _ _ h => zU.1 h)) (cn (fun hE hK => zy (ks 1 hK 9 rfl) rfl) (cn (fun hE hK => zJ (ks 2 hK 10 rfl)) (cn (fun hE hK => yN (S := zA) zK rfl (fun _ => rfl) sb_api_Claim_0 fl33_0 (kq hK q2) (vx f2 hE)) (.cons (fun _ _ hE hK hg => za (rInt .i64) (fun _ => rfl) ty3 rfl rfl rfl (kspS (φ := SP.ptr (rInt .i64) O x_0.Party) (j := 4) (hK 12 rfl) rfl rfl hg) (fun _ _ _ h => zU.1 h)) (.cons (fun _ _ hE hK hg => ok_geq (kg 5 hK 13 rfl hg) rfl) (cn (fun hE hK => zV (ks 3 hK 11 rfl) (fun _ => rfl) (fun hb => kg 6 hK 14 rfl (zf rfl rfl hb))) (cn (fun hE hK => zC (ks 7 hK 15 rfl)) .nil))))))))) ?zk3
 intro a3 w3 hA hE hB HF; refine kr3 HF q1 q2 q5 ?_; clear q1 q2 q5; intro q1 q2 q5; have q7 := ksv (HF 7) rfl rfl rfl; clear HF; replace f2 := vx f2 hE; replace f3 := vx f3 hE; clear hE
 obtain ⟨x4, hx_, h⟩ := Comp.run_bind h; replace hx_ := Comp.run_pure hx_; rw [hx_] at q7; clear hx_
 refine zE (zB ?_)
 revert h; refine cnd q7 (fun h => ?_) (fun h => ?_)
 ·
  refine wp_seq ?_
  refine' rb [_] mixed hA hB hO (cn (fun hE hK => zC rfl) .nil) ?zk4
  intro a4 w4 hA hE hB HF; have q4 := ksv (HF 4) rfl rfl rfl; clear q1 q2 q5 q7 HF; replace f2 := vx f2 hE; replace f3 := vx f3 hE; clear hE; refine zE (zB (wp_ret (yA (zN ?_))))
  have h := Comp.run_pure h; subst h
  exact zb Try.results38 hA q4 hB.ext rfl
 ·
  refine wp_seq ?_
  refine' rb [SP.ptr (rInt .i64) O x_0.Kind, SP.isv (.int .i64 x_0.Kind), _, _, SP.ptr (rInt .i64) O x_0.Kind, SP.isv (.int .i64 x_0.Kind), _, _, _] mixed hA hB hO (cn (fun hE hK => yN (S := zA) zK rfl (fun _ => rfl) yS fl33_1 (kq hK q2) (vx f2 hE)) (cn (fun hE hK => za (rInt .i64) (fun _ => rfl) ty3 rfl rfl rfl (kp (SP.ptr (rInt .i64) O x_0.Kind) 0 hK 17 rfl) (fun _ _ _ h => zU.1 h)) (cn (fun hE hK => zy (ks 1 hK 18 rfl) rfl) (cn (fun hE hK => zJ (ks 2 hK 19 rfl)) (cn (fun hE hK => yN (S := zA) zK rfl (fun _ => rfl) yS fl33_1 (kq hK q2) (vx f2 hE)) (.cons (fun _ _ hE hK hg => za (rInt .i64) (fun _ => rfl) ty3 rfl rfl rfl (kspS (φ := SP.ptr (rInt .i64) O x_0.Kind) (j := 4) (hK 21 rfl) rfl rfl hg) (fun _ _ _ h => zU.1 h)) (.cons (fun _ _ hE hK hg => ok_gtr (kg 5 hK 22 rfl hg) rfl) (cn (fun hE hK => zV (ks 3 hK 20 rfl) (fun _ => rfl) (fun hb => kg 6 hK 23 rfl (zf rfl rfl hb))) (cn (fun hE hK => zC (ks 7 hK 24 rfl)) .nil))))))))) ?zk5
  intro a5 w5 hA hE hB HF; refine kr3 HF q1 q2 q5 ?_; clear q1 q2 q5; intro q1 q2 q5; have q16 := ksv (HF 16) rfl rfl rfl; clear q7 HF; replace f2 := vx f2 hE; replace f3 := vx f3 hE; clear hE
  obtain ⟨x5, hx_, h⟩ := Comp.run_bind h; replace hx_ := Comp.run_pure hx_; rw [hx_] at q16; clear hx_
  refine zE (zB ?_)
  revert h; refine cnd q16 (fun h => ?_) (fun h => ?_)
  ·
   refine wp_seq ?_
   refine' rb [_] mixed hA hB hO (cn (fun hE hK => zC rfl) .nil) ?zk6
   intro a6 w6 hA hE hB HF; have q4 := ksv (HF 4) rfl rfl rfl; clear q1 q2 q5 q16 HF; replace f2 := vx f2 hE; replace f3 := vx f3 hE; clear hE; refine zE (zB (wp_ret (yA (zN ?_))))
   have h := Comp.run_pure h; subst h
   exact zb Try.results38 hA q4 hB.ext rfl
  ·
   refine wp_seq ?_; obtain ⟨x6, hx6, h⟩ := Comp.run_bind h; obtain ⟨x7, hx7, h⟩ := Comp.run_bind h
   refine' rb [SP.ptr (rSl (rInt .i64)) O x_0.Sure, SP.vl (rSl (rInt .i64)) O x_0.Sure, SP.isv (.bool x6), _, _, SP.ptr (rSl (rInt .i64)) O x_0.Touched, SP.vl (rSl (rInt .i64)) O x_0.Touched, SP.isv (.bool x7), _, _, _] mixed hA hB hO (cn (fun hE hK => yN (S := zA) zK rfl (fun _ => rfl) gp fl33_3 (kq hK q2) (vx f2 hE)) (cn (fun hE hK => vC (r := (rSl (rInt .i64))) (fun _ => rfl) ty23 rfl rfl rfl (kp (SP.ptr (rSl (rInt .i64)) O x_0.Sure) 0 hK 26 rfl)) (cn (fun hE hK => ok_call1 fn58 rfl (ok_court_sorted (OkO.ext hB.ok hE) (kp (SP.vl (rSl (rInt .i64)) O x_0.Sure) 1 hK 27 rfl) hx6)) (cn (fun hE hK => jz (ks 2 hK 28 rfl)) (cn (fun hE hK => zJ (ks 3 hK 29 rfl)) (cn (fun hE hK => yN (S := zA) zK rfl (fun _ => rfl) go fl33_4 (kq hK q2) (vx f2 hE)) (.cons (fun _ _ hE hK hg => vC (r := (rSl (rInt .i64))) (fun _ => rfl) ty23 rfl rfl rfl (kspS (φ := SP.ptr (rSl (rInt .i64)) O x_0.Touched) (j := 5) (hK 31 rfl) rfl rfl hg)) (.cons (fun _ _ hE hK hg => ok_call1 fn58 rfl (ok_court_sorted (OkO.ext hB.ok hE) (kspS (φ := SP.vl (rSl (rInt .i64)) O x_0.Touched) (j := 6) (hK 32 rfl) rfl rfl hg) (zr hx7 hg))) (.cons (fun _ _ hE hK hg => jz (kg 7 hK 33 rfl hg)) (cn (fun hE hK => zV (ks 4 hK 30 rfl) (fun _ => rfl) (fun hb => kg 8 hK 34 rfl (zf rfl rfl hb))) (cn (fun hE hK => zC (ks 9 hK 35 rfl)) .nil))))))))))) ?zk7
   intro a7 w7 hA hE hB HF; refine kr3 HF q1 q2 q5 ?_; clear q1 q2 q5; intro q1 q2 q5; have q25 := ksv (HF 25) rfl rfl rfl; clear q16 HF; replace f2 := vx f2 hE; replace f3 := vx f3 hE; clear hE; refine zE (zB ?_)
   revert h; refine cnd q25 (fun h => ?_) (fun h => ?_)
   ·
    refine wp_seq ?_
    refine' rb [_] mixed hA hB hO (cn (fun hE hK => zC rfl) .nil) ?zk8
    intro a8 w8 hA hE hB HF; have q4 := ksv (HF 4) rfl rfl rfl; clear q1 q2 q5 q25 HF; replace f2 := vx f2 hE; replace f3 := vx f3 hE; clear hE; refine zE (zB (wp_ret (yA (zN ?_))))
    have h := Comp.run_pure h; subst h
    exact zb Try.results38 hA q4 hB.ext rfl
   ·
    refine wp_seq ?_; obtain ⟨x8, hx8, h⟩ := Comp.run_bind h; obtain ⟨x9, hx9, h⟩ := Comp.run_bind h
    refine' rb [SP.ptr (rSl (rInt .i64)) O x_0.Sure, SP.vl (rSl (rInt .i64)) O x_0.Sure, _, SP.isv (.bool x8), _, SP.ptr (rSl (rInt .i64)) O x_0.Touched, SP.vl (rSl (rInt .i64)) O x_0.Touched, _, SP.isv (.bool x9), _, _] mixed hA hB hO (cn (fun hE hK => yN (S := zA) zK rfl (fun _ => rfl) gp fl33_3 (kq hK q2) (vx f2 hE)) (cn (fun hE hK => vC (r := (rSl (rInt .i64))) (fun _ => rfl) ty23 rfl rfl rfl (kp (SP.ptr (rSl (rInt .i64)) O x_0.Sure) 0 hK 37 rfl)) (mv q1 (cn (fun hE hK => zz fn59 rfl (ks 2 hK 39 rfl) (ok_court_outside (OkO.ext hB.ok hE) (kp (SP.vl (rSl (rInt .i64)) O x_0.Sure) 1 hK 38 rfl) hx8)) (cn (fun hE hK => zJ (ks 3 hK 40 rfl)) (cn (fun hE hK => yN (S := zA) zK rfl (fun _ => rfl) go fl33_4 (kq hK q2) (vx f2 hE)) (.cons (fun _ _ hE hK hg => vC (r := (rSl (rInt .i64))) (fun _ => rfl) ty23 rfl rfl rfl (kspS (φ := SP.ptr (rSl (rInt .i64)) O x_0.Touched) (j := 5) (hK 42 rfl) rfl rfl hg)) (mv q1 (.cons (fun _ _ hE hK hg => zz fn59 rfl (kg 7 hK 44 rfl hg) (ok_court_outside (OkO.ext hB.ok hE) (kspS (φ := SP.vl (rSl (rInt .i64)) O x_0.Touched) (j := 6) (hK 43 rfl) rfl rfl hg) (zr hx9 hg))) (cn (fun hE hK => zV (ks 4 hK 41 rfl) (fun _ => rfl) (fun hb => kg 8 hK 45 rfl (zf rfl rfl hb))) (cn (fun hE hK => zC (ks 9 hK 46 rfl)) .nil))))))))))) ?zk9
    intro a9 w9 hA hE hB HF; replace q2 := kf HF q2; replace q5 := kf HF q5; have q36 := ksv (HF 36) rfl rfl rfl; clear q1 q25 HF; replace f2 := vx f2 hE; replace f3 := vx f3 hE; clear hE; refine zE (zB ?_)
    revert h; refine cnd q36 (fun h => ?_) (fun h => ?_)
    ·
     refine wp_seq ?_
     refine' rb [_] mixed hA hB hO (cn (fun hE hK => zC rfl) .nil) ?zk10
     intro a10 w10 hA hE hB HF; have q4 := ksv (HF 4) rfl rfl rfl; clear q2 q5 q36 HF; replace f2 := vx f2 hE; replace f3 := vx f3 hE; clear hE; refine zE (zB (wp_ret (yA (zN ?_))))
     have h := Comp.run_pure h; subst h
     exact zb Try.results38 hA q4 hB.ext rfl
    ·
     refine zY (fun a w => ∃ (O15 : Tags) (x11 : Bool), a.fit 87 ∧ Base (Fr w0) O w0 O15 w ∧ a.get 2 = u1 ∧ (rBox zA).v O15 w u1 x_0 ∧ a.get 47 = .bool x11 ∧ (kQ x_0 x11).run n = some y) ?_ ?_
     ·
      refine wp_seq ?_
      refine' rb [SP.ptr (rInt .i64) O x_0.Kind, SP.isv (.int .i64 x_0.Kind), _, _, SP.ptr (rInt .i64) O x_0.Gauge, SP.isv (.int .i64 x_0.Gauge), _, _, _] mixed hA hB hO (cn (fun hE hK => yN (S := zA) zK rfl (fun _ => rfl) yS fl33_1 (kq hK q2) (vx f2 hE)) (cn (fun hE hK => za (rInt .i64) (fun _ => rfl) ty3 rfl rfl rfl (kp (SP.ptr (rInt .i64) O x_0.Kind) 0 hK 48 rfl) (fun _ _ _ h => zU.1 h)) (cn (fun hE hK => gR (ks 1 hK 49 rfl) rfl) (cn (fun hE hK => zJ (ks 2 hK 50 rfl)) (cn (fun hE hK => yN (S := zA) zK rfl (fun _ => rfl) gq fl33_2 (kq hK q2) (vx f2 hE)) (.cons (fun _ _ hE hK hg => za (rInt .i64) (fun _ => rfl) ty3 rfl rfl rfl (kspS (φ := SP.ptr (rInt .i64) O x_0.Gauge) (j := 4) (hK 52 rfl) rfl rfl hg) (fun _ _ _ h => zU.1 h)) (.cons (fun _ _ hE hK hg => gR (kg 5 hK 53 rfl hg) rfl) (cn (fun hE hK => zV (ks 3 hK 51 rfl) (fun hb => kg 6 hK 54 rfl (zf rfl rfl hb)) (fun _ => rfl)) (cn (fun hE hK => zC (ks 7 hK 55 rfl)) .nil))))))))) ?zk11
      intro a11 w11 hA hE hB HF; replace q2 := kf HF q2; replace q5 := kf HF q5; have q47 := ksv (HF 47) rfl rfl rfl; clear q36 HF; replace f2 := vx f2 hE; replace f3 := vx f3 hE; clear hE
      obtain ⟨x10, hx_, h⟩ := Comp.run_bind h; replace hx_ := Comp.run_pure hx_; rw [hx_] at q47; clear hx_
      refine zE (zB ?_)
      revert h; refine cnd q47 (fun h => ?_) (fun h => ?_)
      ·
       refine wp_skip (zB ?_)
       exact ⟨_, _, hA, hB, q2, f2, q47, h⟩
      ·
       refine wp_seq ?_
       refine' rb [SP.ptr (rInt .i64) O x_0.Kind, SP.isv (.int .i64 x_0.Kind), _, _, SP.ptr (rSl (rInt .i64)) O x_0.Sure, SP.vl (rSl (rInt .i64)) O x_0.Sure, _, _, _, _] mixed hA hB hO (cn (fun hE hK => yN (S := zA) zK rfl (fun _ => rfl) yS fl33_1 (kq hK q2) (vx f2 hE)) (cn (fun hE hK => za (rInt .i64) (fun _ => rfl) ty3 rfl rfl rfl (kp (SP.ptr (rInt .i64) O x_0.Kind) 0 hK 56 rfl) (fun _ _ _ h => zU.1 h)) (cn (fun hE hK => gR (ks 1 hK 57 rfl) rfl) (cn (fun hE hK => zJ (ks 2 hK 58 rfl)) (cn (fun hE hK => yN (S := zA) zK rfl (fun _ => rfl) gp fl33_3 (kq hK q2) (vx f2 hE)) (.cons (fun _ _ hE hK hg => vC (r := (rSl (rInt .i64))) (fun _ => rfl) ty23 rfl rfl rfl (kspS (φ := SP.ptr (rSl (rInt .i64)) O x_0.Sure) (j := 4) (hK 60 rfl) rfl rfl hg)) (.cons (fun _ _ hE hK hg => zg (r := (rInt .i64)) ty23 rfl (rd_of (kspS (φ := SP.vl (rSl (rInt .i64)) O x_0.Sure) (j := 5) (hK 61 rfl) rfl rfl hg))) (.cons (fun _ _ hE hK hg => ok_gtr (kg 6 hK 62 rfl hg) rfl) (cn (fun hE hK => zV (ks 3 hK 59 rfl) (fun hb => kg 7 hK 63 rfl (zf rfl rfl hb)) (fun _ => rfl)) (cn (fun hE hK => zC (ks 8 hK 64 rfl)) .nil)))))))))) ?zk12
       intro a12 w12 hA hE hB HF; replace q2 := kf HF q2; replace q5 := kf HF q5; replace q47 := ksv (HF 47) rfl rfl rfl; clear HF; replace f2 := vx f2 hE; replace f3 := vx f3 hE; clear hE
       obtain ⟨x12, hx_, h⟩ := Comp.run_bind h; replace hx_ := Comp.run_pure hx_; rw [hx_] at q47; clear hx_
       refine zE (zB ?_)
       revert h; refine cnd q47 (fun h => ?_) (fun h => ?_)
       ·
        refine wp_skip (zB ?_)
        exact ⟨_, _, hA, hB, q2, f2, q47, h⟩
       ·
        refine wp_seq ?_
        refine' rb [SP.ptr (rInt .i64) O x_0.Kind, SP.isv (.int .i64 x_0.Kind), _, _, SP.ptr (rSl (rInt .i64)) O x_0.Touched, SP.vl (rSl (rInt .i64)) O x_0.Touched, _, _, _, _] mixed hA hB hO (cn (fun hE hK => yN (S := zA) zK rfl (fun _ => rfl) yS fl33_1 (kq hK q2) (vx f2 hE)) (cn (fun hE hK => za (rInt .i64) (fun _ => rfl) ty3 rfl rfl rfl (kp (SP.ptr (rInt .i64) O x_0.Kind) 0 hK 65 rfl) (fun _ _ _ h => zU.1 h)) (cn (fun hE hK => yO (ks 1 hK 66 rfl) rfl) (cn (fun hE hK => zJ (ks 2 hK 67 rfl)) (cn (fun hE hK => yN (S := zA) zK rfl (fun _ => rfl) go fl33_4 (kq hK q2) (vx f2 hE)) (.cons (fun _ _ hE hK hg => vC (r := (rSl (rInt .i64))) (fun _ => rfl) ty23 rfl rfl rfl (kspS (φ := SP.ptr (rSl (rInt .i64)) O x_0.Touched) (j := 4) (hK 69 rfl) rfl rfl hg)) (.cons (fun _ _ hE hK hg => zg (r := (rInt .i64)) ty23 rfl (rd_of (kspS (φ := SP.vl (rSl (rInt .i64)) O x_0.Touched) (j := 5) (hK 70 rfl) rfl rfl hg))) (.cons (fun _ _ hE hK hg => ok_gtr (kg 6 hK 71 rfl hg) rfl) (cn (fun hE hK => zV (ks 3 hK 68 rfl) (fun hb => kg 7 hK 72 rfl (zf rfl rfl hb)) (fun _ => rfl)) (cn (fun hE hK => zC (ks 8 hK 73 rfl)) .nil)))))))))) ?zk13
        intro a13 w13 hA hE hB HF; replace q2 := kf HF q2; replace q5 := kf HF q5; replace q47 := ksv (HF 47) rfl rfl rfl; clear HF; replace f2 := vx f2 hE; replace f3 := vx f3 hE; clear hE
        obtain ⟨x13, hx_, h⟩ := Comp.run_bind h; replace hx_ := Comp.run_pure hx_; rw [hx_] at q47; clear hx_
        refine zE (zB ?_)
        revert h; refine cnd q47 (fun h => ?_) (fun h => ?_)
        ·
         refine wp_skip (zB ?_)
         exact ⟨_, _, hA, hB, q2, f2, q47, h⟩
        ·
         obtain ⟨x14, hx14, h⟩ := Comp.run_bind h
         refine' rb [SP.ptr (rSl (rInt .i64)) O x_0.Sure, SP.vl (rSl (rInt .i64)) O x_0.Sure, _, SP.isv (.bool x14), _] mixed hA hB hO (cn (fun hE hK => yN (S := zA) zK rfl (fun _ => rfl) gp fl33_3 (kq hK q2) (vx f2 hE)) (cn (fun hE hK => vC (r := (rSl (rInt .i64))) (fun _ => rfl) ty23 rfl rfl rfl (kp (SP.ptr (rSl (rInt .i64)) O x_0.Sure) 0 hK 74 rfl)) (mv q5 (cn (fun hE hK => zz fn48 rfl (ks 2 hK 76 rfl) (vn (OkO.ext hB.ok hE) (kp (SP.vl (rSl (rInt .i64)) O x_0.Sure) 1 hK 75 rfl) (vx f3 hE) hx14)) (cn (fun hE hK => zC (ks 3 hK 77 rfl)) .nil))))) ?zk14
         intro a14 w14 hA hE hB HF; replace q2 := kf HF q2; replace q47 := ksv (HF 47) rfl rfl rfl; clear q5 HF; replace f2 := vx f2 hE; replace f3 := vx f3 hE; clear hE; refine zE (zB ?_)
         exact ⟨_, _, hA, hB, q2, f2, q47, h⟩
     intro a15 w15 hI
     clear hA hB h q2 q5 q36 f2 f3
     obtain ⟨O15, x11, hA, hB, q2, f2, q47, h⟩ := hI
     unfold kQ at h
     revert h; refine cnd q47 (fun h => ?_) (fun h => ?_)
     ·
      refine wp_seq ?_
      refine' rb [_] mixed hA hB hO (cn (fun hE hK => zC rfl) .nil) ?zk15
      intro a16 w16 hA hE hB HF; have q4 := ksv (HF 4) rfl rfl rfl; clear q2 q47 HF; replace f2 := vx f2 hE; clear hE; refine zE (zB (wp_ret (yA (zN ?_))))
      have h := Comp.run_pure h; subst h
      exact zb Try.results38 hA q4 hB.ext rfl
     ·
      refine wp_seq ?_
      refine' rb [SP.ptr (rInt .i64) O15 x_0.Gauge, SP.isv (.int .i64 x_0.Gauge), _, _, SP.ptr (rInt .i64) O15 x_0.Gauge, SP.isv (.int .i64 x_0.Gauge), _, _, _] mixed hA hB hO (cn (fun hE hK => yN (S := zA) zK rfl (fun _ => rfl) gq fl33_2 (kq hK q2) (vx f2 hE)) (cn (fun hE hK => za (rInt .i64) (fun _ => rfl) ty3 rfl rfl rfl (kp (SP.ptr (rInt .i64) O15 x_0.Gauge) 0 hK 79 rfl) (fun _ _ _ h => zU.1 h)) (cn (fun hE hK => zy (ks 1 hK 80 rfl) rfl) (cn (fun hE hK => zJ (ks 2 hK 81 rfl)) (cn (fun hE hK => yN (S := zA) zK rfl (fun _ => rfl) gq fl33_2 (kq hK q2) (vx f2 hE)) (.cons (fun _ _ hE hK hg => za (rInt .i64) (fun _ => rfl) ty3 rfl rfl rfl (kspS (φ := SP.ptr (rInt .i64) O15 x_0.Gauge) (j := 4) (hK 83 rfl) rfl rfl hg) (fun _ _ _ h => zU.1 h)) (.cons (fun _ _ hE hK hg => ok_geq (kg 5 hK 84 rfl hg) rfl) (cn (fun hE hK => zV (ks 3 hK 82 rfl) (fun _ => rfl) (fun hb => kg 6 hK 85 rfl (zf rfl rfl hb))) (cn (fun hE hK => zC (ks 7 hK 86 rfl)) .nil))))))))) ?zk16
      intro a17 w17 hA hE hB HF; have q78 := ksv (HF 78) rfl rfl rfl; clear q2 q47 HF; replace f2 := vx f2 hE; clear hE
      obtain ⟨x16, hx_, h⟩ := Comp.run_bind h; replace hx_ := Comp.run_pure hx_; rw [hx_] at q78; clear hx_
      refine zE (zB ?_)
      revert h; refine cnd q78 (fun h => ?_) (fun h => ?_)
      ·
       refine wp_seq ?_
       refine' rb [_] mixed hA hB hO (cn (fun hE hK => zC rfl) .nil) ?zk17
       intro a18 w18 hA hE hB HF; have q4 := ksv (HF 4) rfl rfl rfl; clear q78 HF; clear hE; refine zE (zB (wp_ret (yA (zN ?_))))
       have h := Comp.run_pure h; subst h
       exact zb Try.results38 hA q4 hB.ext rfl
      ·
       refine wp_skip (zm (zB (wp_seq ?_)))
       refine' rb [_] mixed hA hB hO (cn (fun hE hK => zC rfl) .nil) ?zk18
       intro a19 w19 hA hE hB HF; have q4 := ksv (HF 4) rfl rfl rfl; clear q78 HF; clear hE; refine zE (zB (wp_ret ?_))
       have h := Comp.run_pure h; subst h
       exact zb Try.results38 hA q4 hB.ext rfl
set_option maxHeartbeats 4000000 in
theorem ok_court_Check {O : Tags} {w0 : World} (hO : OkO O w0) {v_0 : Value} {x_0 : List api_Claim} (h_0 : (rSl zA).v O w0 v_0 x_0) {v_1 : Value} {x_1 : List api_Sight} (h_1 : (rSl zD).v O w0 v_1 x_1) {x_2 : Int} {n : Nat} {y : Int} (h : (court_Check x_0 x_1 x_2).run n = some y) : Pure Try.prog 13 #[v_0, v_1, .int .i64 x_2] w0 (SP.isv (.int .i64 y)).holds := by
 unfold court_Check at h
 refine zW Try.func13 rfl 83 Try.ntmps13 (by simp) fun a0 hA hs0 => ?_
 have q0 : a0.get 0 = v_0 := hs0 0 _ rfl
 have q1 : a0.get 1 = v_1 := hs0 1 _ rfl
 have q2 : a0.get 2 = .int .i64 x_2 := hs0 2 _ rfl
 clear hs0
 have hB : Base (Fr w0) O w0 O w0 := Base.start hO
 refine wp_seq ?_
 refine' rb [_] mixed hA hB hO (cn (fun hE hK => zC rfl) .nil) ?zk1
 intro a1 w1 hA hE hB HF; refine kr3 HF q0 q1 q2 ?_; clear q0 q1 q2; intro q0 q1 q2; clear HF; replace h_0 := vx h_0 hE; replace h_1 := vx h_1 hE; clear hE; refine zE (zB (wp_seq (wp_block (wp_seq ?_))))
 refine' rb [_, _, _, _, _, _, _] mixed hA hB hO (mv q2 (cn (fun hE hK => zy (ks 0 hK 15 rfl) rfl) (cn (fun hE hK => zJ (ks 1 hK 16 rfl)) (mv q2 (.cons (fun _ _ hE hK hg => ok_gtr (kg 3 hK 18 rfl hg) rfl) (cn (fun hE hK => zV (ks 2 hK 17 rfl) (fun _ => rfl) (fun hb => kg 4 hK 19 rfl (zf rfl rfl hb))) (cn (fun hE hK => zC (ks 5 hK 20 rfl)) .nil))))))) ?zk2
 intro a2 w2 hA hE hB HF; refine kr3 HF q0 q1 q2 ?_; clear q0 q1 q2; intro q0 q1 q2; have q14 := ksv (HF 14) rfl rfl rfl; clear HF; replace h_0 := vx h_0 hE; replace h_1 := vx h_1 hE; clear hE
 obtain ⟨x1, hx_, h⟩ := Comp.run_bind h; replace hx_ := Comp.run_pure hx_; rw [hx_] at q14; clear hx_
 refine zE (zB ?_)
 revert h; refine cnd q14 (fun h => ?_) (fun h => ?_)
 ·
  refine wp_seq ?_
  refine' rb [_] mixed hA hB hO (cn (fun hE hK => zC rfl) .nil) ?zk3
  intro a3 w3 hA hE hB HF; have q6 := ksv (HF 6) rfl rfl rfl; clear q0 q1 q2 q14 HF; replace h_0 := vx h_0 hE; replace h_1 := vx h_1 hE; clear hE; refine zE (zB (wp_ret (yA (zN ?_))))
  have h := Comp.run_pure h; subst h
  exact zb Try.results13 hA q6 hB.ext rfl
 ·
  refine wp_seq ?_
  refine' rb [_, _, _, _, _, _, _, _, _] mixed hA hB hO (mv q0 (cn (fun hE hK => zg (r := zA) ty27 (ks 0 hK 22 rfl) (rd_of (vx h_0 hE))) (cn (fun hE hK => ok_gtr (ks 1 hK 23 rfl) rfl) (cn (fun hE hK => zJ (ks 2 hK 24 rfl)) (mv q1 (.cons (fun _ _ hE hK hg => zg (r := zD) ty28 (kg 4 hK 26 rfl hg) (rd_of (vx h_1 hE))) (.cons (fun _ _ hE hK hg => ok_gtr (kg 5 hK 27 rfl hg) rfl) (cn (fun hE hK => zV (ks 3 hK 25 rfl) (fun _ => rfl) (fun hb => kg 6 hK 28 rfl (zf rfl rfl hb))) (cn (fun hE hK => zC (ks 7 hK 29 rfl)) .nil))))))))) ?zk4
  intro a4 w4 hA hE hB HF; refine kr3 HF q0 q1 q2 ?_; clear q0 q1 q2; intro q0 q1 q2; have q21 := ksv (HF 21) rfl rfl rfl; clear q14 HF; replace h_0 := vx h_0 hE; replace h_1 := vx h_1 hE; clear hE
  obtain ⟨x2, hx_, h⟩ := Comp.run_bind h; replace hx_ := Comp.run_pure hx_; rw [hx_] at q21; clear hx_
  refine zE (zB ?_)
  revert h; refine cnd q21 (fun h => ?_) (fun h => ?_)
  ·
   refine wp_seq ?_
   refine' rb [_] mixed hA hB hO (cn (fun hE hK => zC rfl) .nil) ?zk5
   intro a5 w5 hA hE hB HF; have q6 := ksv (HF 6) rfl rfl rfl; clear q0 q1 q2 q21 HF; replace h_0 := vx h_0 hE; replace h_1 := vx h_1 hE; clear hE; refine zE (zB (wp_ret (yA (zN ?_))))
   have h := Comp.run_pure h; subst h
   exact zb Try.results13 hA q6 hB.ext rfl
  ·
   refine wp_skip (zm (zB (wp_seq ?_)))
   refine' rbT [] hA hB hO .nil ?zk6
   intro a6 w6 hA hE hB HF; refine kr3 HF q0 q1 q2 ?_; clear q0 q1 q2; intro q0 q1 q2; clear q21 HF; replace h_0 := vx h_0 hE; replace h_1 := vx h_1 hE; clear hE
   refine l_ok (φ := SP.map0 w6.heap.size) hO hB (by exact ok_makeMap (Nat.le_refl _)) rfl fun u3 w7 hE hB' f4 => ?_
   clear hB'; obtain ⟨O5, hB', hX, f6⟩ := mapNew hO hB hE f4 1 (by decide) (fun x : Vector Int 2 => .agg (jN (fun x => [.int .i64 x]) x).toArray) (fun x : Bool => .bool x)
   clear hB f4; have hB := hB'; clear hB'; replace h_0 := vk h_0 hX; replace h_1 := vk h_1 hX; clear hX hE
   refine zQ hA (by decide) fun a8 hA q_ hfr => ?_
   refine kd3 hfr q0 q1 q2 ?_; clear q0 q1 q2; intro q0 q1 q2; have q30 := q_; clear q_ hfr
   refine l_ok (φ := SP.isv (u3)) hO hB (by exact zC q30) rfl fun u_ w9 hE hB' hv_ => ?_
   replace hv_ := Eq.symm hv_; subst hv_; clear hB; have hB := hB'; clear hB'
   replace h_0 := vx h_0 hE; replace h_1 := vx h_1 hE; replace f6 := f6.ext hE; clear hE
   refine zQ hA (by decide) fun a10 hA q_ hfr => ?_
   refine kd4 hfr q0 q1 q2 q30 ?_; clear q0 q1 q2 q30; intro q0 q1 q2 q30; have q7 := q_; clear q_ hfr; refine zE (zB ?_)
   refine zY (fun a w => ∃ (O40 : Tags), a.fit 83 ∧ Base (Fr w0) O w0 O40 w ∧ a.get 1 = v_1 ∧ (rSl zD).v O40 w v_1 x_1 ∧ a.get 2 = .int .i64 x_2 ∧ (court_Check_j1 x_1 x_2 ).run n = some y) ?_ ?_
   ·
    refine wp_seq ?_
    refine' rb [_, _, _] mixed hA hB hO (mv q0 (cn (fun hE hK => zg (r := zA) ty27 (ks 0 hK 31 rfl) (rd_of (vx h_0 hE))) (cn (fun hE hK => zJ rfl) .nil))) ?zk7
    intro a11 w11 hA hE hB HF; refine kr3 HF q1 q2 q7 ?_; clear q1 q2 q7; intro q1 q2 q7; have q31 := ksv (HF 31) rfl rfl rfl; have q32 := ksv (HF 32) rfl rfl rfl; have q33 := ksv (HF 33) rfl rfl rfl; clear q0 HF; replace h_0 := vx h_0 hE; replace h_1 := vx h_1 hE; replace f6 := f6.ext hE; clear hE; refine zE (zB (wp_block ?_))
    obtain ⟨e2, he2, hk2⟩ := Comp.run_bind h; clear h
    refine yt (fun m a w => ∃ (O11 : Tags) (x7 : List ((Vector Int 2) × Bool)) (x10 : Int) (u8 : Value), a.fit 83 ∧ Base (Fr w0) O w0 O11 w ∧ a.get 1 = v_1 ∧ (rSl zD).v O11 w v_1 x_1 ∧ a.get 2 = .int .i64 x_2 ∧ a.get 7 = u8 ∧ OwnM 1 (fun x : Vector Int 2 => .agg (jN (fun x => [.int .i64 x]) x).toArray) (fun x : Bool => .bool x) (Fr w0) O11 w u8 x7 ∧ a.get 31 = v_0 ∧ (rSl zA).v O11 w v_0 x_0 ∧ a.get 32 = .int .i64 (x_0.length : Int) ∧ a.get 33 = .int .i64 x10 ∧ Comp.loopN (fun s => gS x_0 x_2 s.1 s.2) n m (x7, x10) = some e2) (m := n) ?st2 ?_
    case st2 =>
     exact ⟨_, _, _, _, hA, hB, q1, h_1, q2, q7, f6, q31, h_0, q32, q33, Comp.zk he2⟩
    intro m_ a12 w12 hI
    clear hA hB he2 q1 q2 q7 q31 q32 q33 f6 h_0 h_1
    obtain ⟨O11, x7, x10, u8, hA, hB, q1, h_1, q2, q7, f9, q31, h_0, q32, q33, hl⟩ := hI
    obtain ⟨m2, hlt2, st2, h, hnext2, hdone2⟩ := Comp.zZ hl; clear hl
    replace h : (gS x_0 x_2 x7 x10).run n = some st2 := h
    unfold gS at h; refine wp_seq ?_
    refine' rb [_] mixed hA hB hO (cn (fun hE hK => zy (kq hK q33) (kq hK q32)) .nil) ?zk8
    intro a13 w13 hA hE hB HF; refine kr6 HF q1 q2 q7 q31 q32 q33 ?_; clear q1 q2 q7 q31 q32 q33; intro q1 q2 q7 q31 q32 q33; have q34 := ksv (HF 34) rfl rfl rfl; clear HF; replace h_1 := vx h_1 hE; replace f9 := f9.ext hE; replace h_0 := vx h_0 hE; clear hE; refine zE (zB (wp_seq ?_))
    revert h; refine cnd q34 (fun h => ?_) (fun h => ?_)
    ·
     refine wp_skip (zB ?_)
     refine zY (fun a w => ∃ (O39 : Tags) (x36 : List ((Vector Int 2) × Bool)) (u37 : Value), a.fit 83 ∧ Base (Fr w0) O w0 O39 w ∧ a.get 1 = v_1 ∧ (rSl zD).v O39 w v_1 x_1 ∧ a.get 2 = .int .i64 x_2 ∧ a.get 7 = u37 ∧ OwnM 1 (fun x : Vector Int 2 => .agg (jN (fun x => [.int .i64 x]) x).toArray) (fun x : Bool => .bool x) (Fr w0) O39 w u37 x36 ∧ a.get 31 = v_0 ∧ (rSl zA).v O39 w v_0 x_0 ∧ a.get 32 = .int .i64 (x_0.length : Int) ∧ a.get 33 = .int .i64 x10 ∧ (court_Check_j3 x10 x36).run n = some st2) ?_ ?_
     ·
      refine wp_block (wp_seq ?_); obtain ⟨x12, hx12, h⟩ := Comp.run_bind h
      refine' rbT [SP.ptr zA O11 x12, SP.vl zA O11 x12] hA hB hO (cn (fun hE hK => zp (r := zA) (O := O11) ty27 ty33 rfl (kq hK q31) (rd_of (vx h_0 hE)) (kq hK q33) hx12) (cn (fun hE hK => vC (r := zA) zK ty33 rfl rfl rfl (kp (SP.ptr zA O11 x12) 0 hK 35 rfl)) .nil)) ?zk9
      intro a14 w14 hA hE hB HF; refine kr6 HF q1 q2 q7 q31 q32 q33 ?_; clear q1 q2 q7 q31 q32 q33; intro q1 q2 q7 q31 q32 q33; obtain ⟨u13, q36, f14⟩ := kx (HF 36) rfl rfl rfl; clear q34 HF; replace h_1 := vx h_1 hE; replace f9 := f9.ext hE; replace h_0 := vx h_0 hE; clear hE
      refine l_ok (φ := SP.box w14.heap.size #[.int .i64 0, .int .i64 0, .int .i64 0, .slice none 0 0, .slice none 0 0] 33) hO hB (by exact jr (Nat.le_refl _) ty33) rfl fun u15 w15 hE hB' f16 => ?_
      clear hB'; obtain ⟨O17, b19, hB', hX, e_, f18⟩ := boxNew hO hB hE f16 2 (by decide)
      subst e_; clear hB f16; have hB := hB'; clear hB'
      replace h_1 := vk h_1 hX
      replace f9 := f9.kx hX (by decide)
      replace h_0 := vk h_0 hX; replace f14 := vk f14 hX; clear hX hE
      refine zQ hA (by decide) fun a16 hA q_ hfr => ?_
      refine kd7 hfr q1 q2 q7 q31 q32 q33 q36 ?_; clear q1 q2 q7 q31 q32 q33 q36; intro q1 q2 q7 q31 q32 q33 q36; have q9 := q_; clear q_ hfr
      obtain ⟨u20, u22, e_, f21, f23⟩ := openV_api_Claim f14; subst e_
      refine jB (vs := [.int .i64 x12.Party, .int .i64 x12.Kind, .int .i64 x12.Gauge, u20, u22]) (cs' := #[.int .i64 x12.Party, .int .i64 x12.Kind, .int .i64 x12.Gauge, u20, u22]) hO hB (yH hB) ty33 q9 q36 rfl (by intro c_ hc_; simp only [List.mem_cons, List.not_mem_nil, or_false] at hc_; rcases hc_ with rfl | rfl | rfl | rfl | rfl <;> first | rfl | assumption | exact sl_one f21 rfl rfl | exact sl_one f23 rfl rfl) f18 (by simp) rfl fun w17 f24 hB' hX => ?_
      clear hB f18; have hB := hB'; clear hB'; replace h_1 := vk h_1 hX
      replace f9 := f9.kx hX (by decide)
      replace h_0 := vk h_0 hX; replace f21 := vk f21 hX; replace f23 := vk f23 hX; clear hX; refine zE (zB (wp_seq (wp_seq ?_))); obtain ⟨x25, hx25, h⟩ := Comp.run_bind h
      refine' rb [SP.isv (.agg #[.int .i64 x12.Party, .int .i64 x12.Kind, .int .i64 x12.Gauge, u20, u22]), _, SP.isv (.int .i64 x25), _] mixed hA hB hO (cn (fun hE hK => gU ty33 rfl (kq hK q9) (OwnB.ext f24 hE).own rfl) (mv q2 (cn (fun hE hK => zz fn38 (ks 0 hK 37 rfl) (ks 1 hK 38 rfl) (ok_court_check (OkO.ext hB.ok hE) ⟨_, ⟨_, _, rfl, rfl, ⟨_, _, rfl, rfl, ⟨_, _, rfl, rfl, ⟨_, _, rfl, (vf (r := (rSl (rInt .i64))) (vx f21 hE) rfl rfl), ⟨_, _, rfl, (vf (r := (rSl (rInt .i64))) (vx f23 hE) rfl rfl), rfl⟩⟩⟩⟩⟩, rfl⟩ hx25)) (cn (fun hE hK => zC (ks 2 hK 39 rfl)) .nil)))) ?zk10
      intro a18 w18 hA hE hB HF; refine kr7 HF q1 q2 q7 q9 q31 q32 q33 ?_; clear q1 q2 q7 q9 q31 q32 q33; intro q1 q2 q7 q9 q31 q32 q33; have q10 := ksv (HF 10) rfl rfl rfl; clear HF; replace h_1 := vx h_1 hE; replace f9 := f9.ext hE; replace h_0 := vx h_0 hE; replace f24 := f24.ext hE; replace f21 := vx f21 hE; replace f23 := vx f23 hE; clear hE; refine zE (zB (wp_seq ?_))
      refine' rb [_, _] mixed hA hB hO (mv q10 (cn (fun hE hK => gR (ks 0 hK 40 rfl) rfl) .nil)) ?zk11
      intro a19 w19 hA hE hB HF; refine kr8 HF q1 q2 q7 q9 q10 q31 q32 q33 ?_; clear q1 q2 q7 q9 q10 q31 q32 q33; intro q1 q2 q7 q9 q10 q31 q32 q33; have q41 := ksv (HF 41) rfl rfl rfl; clear HF; replace h_1 := vx h_1 hE; replace f9 := f9.ext hE; replace h_0 := vx h_0 hE; replace f24 := f24.ext hE; replace f21 := vx f21 hE; replace f23 := vx f23 hE; clear hE; refine zE (zB ?_)
      revert h; refine cnd q41 (fun h => ?_) (fun h => ?_)
      ·
       refine wp_seq ?_
       refine' rb [_, _] mixed hA hB hO (mv q10 (cn (fun hE hK => zC (ks 0 hK 42 rfl)) .nil)) ?zk12
       intro a20 w20 hA hE hB HF; have q6 := ksv (HF 6) rfl rfl rfl; clear q1 q2 q7 q9 q10 q31 q32 q33 q41 HF; replace h_1 := vx h_1 hE; replace f9 := f9.ext hE; replace h_0 := vx h_0 hE; replace f24 := f24.ext hE; replace f21 := vx f21 hE; replace f23 := vx f23 hE; clear hE; refine zE (zB (wp_ret (zN (yA (zN (zN (yA (zN ?_))))))))
       have hd_ := hdone2 _ (Comp.run_pure h).symm; clear h
       subst hd_; have h := hk2; clear hk2; try dsimp only at h
       have h := Comp.run_pure h; subst h
       exact zb Try.results13 hA q6 hB.ext rfl
      ·
       refine wp_skip (zB (wp_seq ?_))
       refine' rgT [SP.isv (.pointer (some ⟨b19, 1, none⟩)), SP.isv (.int .i64 x12.Kind), SP.isv (.pointer (some ⟨b19, 2, none⟩)), SP.isv (.int .i64 x12.Gauge), SP.isv (.agg (jN (fun x => [.int .i64 x]) (#v[x12.Kind, x12.Gauge] : Vector Int 2)).toArray), SP.box w19.heap.size (jN (fun x => [.int .i64 x]) (Vector.replicate 2 0)).toArray 73] hA (cn (fun hE hK => zO fl33_1 (kq hK q9)) (cn (fun hE hK => zj ty3 rfl (ks 0 hK 43 rfl) (OwnB.ext f24 hE).own rfl) (cn (fun hE hK => zO fl33_2 (kq hK q9)) (cn (fun hE hK => zj ty3 rfl (ks 2 hK 45 rfl) (OwnB.ext f24 hE).own rfl) (.cons ?z13_4 (cn (fun hE hK => jr hE.size ty73) .nil)))))) ?zk13
       case z13_4 => intro a' w' hE hK hg; refine okl_buildArr (vals := [(0, .int .i64 x12.Kind), (1, .int .i64 x12.Gauge)]) (out := [.int .i64 x12.Kind, .int .i64 x12.Gauge]) ty73 ty3 ?_ rfl ?_ rfl; exact (gG (v := .int .i64 x12.Kind) (ksv (j := 1) (hK 44 rfl) rfl rfl rfl) (gG (v := .int .i64 x12.Gauge) (ksv (j := 3) (hK 46 rfl) rfl rfl rfl) pk_nil)); exact (.cons rfl rfl rfl (leb rfl) (.cons rfl rfl rfl (leb rfl) .nil))
       intro a21 w21 hA hE HF; refine kr7 HF q1 q2 q7 q9 q31 q32 q33 ?_; clear q1 q2 q7 q9 q31 q32 q33; intro q1 q2 q7 q9 q31 q32 q33; obtain ⟨u27, q11, f28⟩ := kx (HF 11) rfl rfl rfl; have q47 := ksv (HF 47) rfl rfl rfl; clear q10 q41 HF
       obtain ⟨O29, b30, hB', hX, e_, f31⟩ := boxNew hO hB hE f28 3 (by decide)
       subst e_
       clear hB f28; have hB := hB'; clear hB'; replace h_1 := vk h_1 hX
       replace f9 := f9.kx hX (by decide)
       replace h_0 := vk h_0 hX
       replace f24 := f24.kx hX (by decide)
       replace f21 := vk f21 hX; replace f23 := vk f23 hX; clear hX hE
       refine jB (vs := (jN (fun x => [.int .i64 x]) (#v[x12.Kind, x12.Gauge] : Vector Int 2))) (cs' := (jN (fun x => [.int .i64 x]) (#v[x12.Kind, x12.Gauge] : Vector Int 2)).toArray) hO hB (yH hB) (ty73.szr (by simp [cellsA_len (f := (fun x => [.int .i64 x])) (k := 1) (fun _ => rfl)])) q11 q47 rfl ((show ∀ x_ : Vector Int 2, ∀ c_ ∈ (jN (fun x => [.int .i64 x]) x_), c_.oneCell' = true from (fun _ => (cellsA_one (fun _ => by simp [Value.oneCell']) _))) (#v[x12.Kind, x12.Gauge] : Vector Int 2)) f31 (by simp [cellsA_len (f := (fun x => [.int .i64 x])) (k := 1) (fun _ => rfl)]) (splice_all (by simp [cellsA_len (f := (fun x => [.int .i64 x])) (k := 1) (fun _ => rfl)])) fun w22 f32 hB' hX => ?_
       clear hB f31; have hB := hB'; clear hB'; replace h_1 := vk h_1 hX
       replace f9 := f9.kx hX (by decide)
       replace h_0 := vk h_0 hX
       replace f24 := f24.kx hX (by decide)
       replace f21 := vk f21 hX; replace f23 := vk f23 hX; clear hX; refine zE (zB (wp_seq ?_))
       refine' rb [SP.isv (.pointer (some ⟨b19, 1, none⟩)), SP.isv (.int .i64 x12.Kind), _] mixed hA hB hO (cn (fun hE hK => zO fl33_1 (kq hK q9)) (cn (fun hE hK => zj ty3 rfl (ks 0 hK 48 rfl) (OwnB.ext f24 hE).own rfl) (cn (fun hE hK => gR (ks 1 hK 49 rfl) rfl) .nil))) ?zk14
       intro a23 w23 hA hE hB HF; refine kr7 HF q1 q2 q7 q11 q31 q32 q33 ?_; clear q1 q2 q7 q11 q31 q32 q33; intro q1 q2 q7 q11 q31 q32 q33; have q50 := ksv (HF 50) rfl rfl rfl; clear q9 HF; replace h_1 := vx h_1 hE; replace f9 := f9.ext hE; replace h_0 := vx h_0 hE; replace f24 := f24.ext hE; replace f21 := vx f21 hE; replace f23 := vx f23 hE; replace f32 := f32.ext hE; clear hE; refine zE (zB ?_)
       revert h; refine cnd q50 (fun h => ?_) (fun h => ?_)
       ·
        refine wp_seq (wp_seq ?_)
        refine' rb [_, SP.isv (.agg (jN (fun x => [.int .i64 x]) (#v[x12.Kind, x12.Gauge] : Vector Int 2)).toArray), SP.isv (.bool ((mget x7 (#v[x12.Kind, x12.Gauge] : Vector Int 2)).getD false))] mixed hA hB hO (mv q7 (cn (fun hE hK => gU ty73 rfl (kq hK q11) (OwnB.ext f32 hE).own (by simp [cellsA_len (f := (fun x => [.int .i64 x])) (k := 1) (fun _ => rfl)])) (cn (fun hE hK => okl_lookup (y := (#v[x12.Kind, x12.Gauge] : Vector Int 2)) (z0 := false) ty71 ty4 rfl key73 (ks 0 hK 51 rfl) (OwnM.ext f9 hE) (ks 1 hK 52 rfl)) .nil))) ?zk15
        intro a24 w24 hA hE hB HF; refine kr7 HF q1 q2 q7 q11 q31 q32 q33 ?_; clear q1 q2 q7 q11 q31 q32 q33; intro q1 q2 q7 q11 q31 q32 q33; have q53 := ksv (HF 53) rfl rfl rfl; clear q50 HF; replace h_1 := vx h_1 hE; replace f9 := f9.ext hE; replace h_0 := vx h_0 hE; replace f32 := f32.ext hE; clear hE
        obtain ⟨x33, hx_, h⟩ := Comp.run_bind h; replace hx_ := Comp.run_pure hx_; rw [hx_] at q53; clear hx_
        refine zE (zB ?_)
        revert h; refine cnd q53 (fun h => ?_) (fun h => ?_)
        ·
         refine wp_seq ?_
         refine' rb [_] mixed hA hB hO (cn (fun hE hK => zC rfl) .nil) ?zk16
         intro a25 w25 hA hE hB HF; have q6 := ksv (HF 6) rfl rfl rfl; clear q1 q2 q7 q11 q31 q32 q33 q53 HF; replace h_1 := vx h_1 hE; replace f9 := f9.ext hE; replace h_0 := vx h_0 hE; replace f32 := f32.ext hE; clear hE; refine zE (zB (wp_ret (zN (yA (zN (zN (yA (zN ?_))))))))
         have hd_ := hdone2 _ (Comp.run_pure h).symm; clear h
         subst hd_; have h := hk2; clear hk2; try dsimp only at h
         have h := Comp.run_pure h; subst h
         exact zb Try.results13 hA q6 hB.ext rfl
        ·
         refine wp_skip (zB ?_)
         refine' rbT [_, SP.isv (.agg (jN (fun x => [.int .i64 x]) (#v[x12.Kind, x12.Gauge] : Vector Int 2)).toArray)] hA hB hO (mv q7 (cn (fun hE hK => gU ty73 rfl (kq hK q11) (OwnB.ext f32 hE).own (by simp [cellsA_len (f := (fun x => [.int .i64 x])) (k := 1) (fun _ => rfl)])) .nil)) ?zk17
         intro a26 w26 hA hE hB HF; refine kr6 HF q1 q2 q7 q31 q32 q33 ?_; clear q1 q2 q7 q31 q32 q33; intro q1 q2 q7 q31 q32 q33; have q54 := ksv (HF 54) rfl rfl rfl; have q55 := ksv (HF 55) rfl rfl rfl; clear q11 q53 HF; replace h_1 := vx h_1 hE; replace f9 := f9.ext hE; replace h_0 := vx h_0 hE; replace f32 := f32.ext hE; clear hE
         refine l_mapUpdate (y := (#v[x12.Kind, x12.Gauge] : Vector Int 2)) (z := true) hO hB (yH hB) ty71 key73 q54 f9 q55 rfl fun w27 f35 hB' hX => ?_
         clear hB f9; have hB := hB'; clear hB'; replace h_1 := vk h_1 hX; replace h_0 := vk h_0 hX; clear hX; refine zE (zm (zB ?_))
         exact ⟨_, _, _, hA, hB, q1, h_1, q2, q7, f35, q31, h_0, q32, q33, h⟩
       ·
        refine wp_skip (zm (zB ?_))
        exact ⟨_, _, _, hA, hB, q1, h_1, q2, q7, f9, q31, h_0, q32, q33, h⟩
     intro a28 w28 hI
     clear hA hB h q1 q2 q7 q31 q32 q33 q34 f9 h_0 h_1
     obtain ⟨O39, x36, u37, hA, hB, q1, h_1, q2, q7, f38, q31, h_0, q32, q33, h⟩ := hI
     unfold court_Check_j3 at h
     refine' rb [_, _] mixed hA hB hO (cn (fun hE hK => yP (kq hK q33) rfl) (cn (fun hE hK => zJ (ks 0 hK 56 rfl)) .nil)) ?zk18
     intro a29 w29 hA hE hB HF; refine kr5 HF q1 q2 q7 q31 q32 ?_; clear q1 q2 q7 q31 q32; intro q1 q2 q7 q31 q32; replace q33 := ksv (HF 33) rfl rfl rfl; clear HF; replace h_1 := vx h_1 hE; replace f38 := f38.ext hE; replace h_0 := vx h_0 hE; clear hE; refine zE (zB ?_)
     have h := hnext2 _ (Comp.run_pure h).symm
     refine ⟨m2, hlt2, ?_⟩
     exact ⟨_, _, _, _, hA, hB, q1, h_1, q2, q7, f38, q31, h_0, q32, q33, h⟩
    ·
     refine wp_exit (zT (zT (zw ?_)))
     have hd_ := hdone2 _ (Comp.run_pure h).symm; clear h
     subst hd_; have h := hk2; clear hk2; try dsimp only at h
     refine zB ?_
     exact ⟨_, hA, hB, q1, h_1, q2, h⟩
   intro a30 w30 hI
   clear hA hB h q0 q1 q2 q7 f6 h_0 h_1
   obtain ⟨O40, hA, hB, q1, h_1, q2, h⟩ := hI
   unfold court_Check_j1 at h
   refine zY (fun a w => ∃ (O52 : Tags), a.fit 83 ∧ Base (Fr w0) O w0 O52 w ∧ (court_Check_j4 ).run n = some y) ?_ ?_
   ·
    refine wp_seq ?_
    refine' rb [_, _, _] mixed hA hB hO (mv q1 (cn (fun hE hK => zg (r := zD) ty28 (ks 0 hK 57 rfl) (rd_of (vx h_1 hE))) (cn (fun hE hK => zJ rfl) .nil))) ?zk19
    intro a31 w31 hA hE hB HF; replace q2 := kf HF q2; have q57 := ksv (HF 57) rfl rfl rfl; have q58 := ksv (HF 58) rfl rfl rfl; have q59 := ksv (HF 59) rfl rfl rfl; clear q1 HF; replace h_1 := vx h_1 hE; clear hE; refine zE (zB (wp_block ?_))
    obtain ⟨e5, he5, hk5⟩ := Comp.run_bind h; clear h
    refine yt (fun m a w => ∃ (O42 : Tags) (x41 : Int), a.fit 83 ∧ Base (Fr w0) O w0 O42 w ∧ a.get 2 = .int .i64 x_2 ∧ a.get 57 = v_1 ∧ (rSl zD).v O42 w v_1 x_1 ∧ a.get 58 = .int .i64 (x_1.length : Int) ∧ a.get 59 = .int .i64 x41 ∧ Comp.loopN (fun s => gt x_1 x_2 s) n m x41 = some e5) (m := n) ?st5 ?_
    case st5 =>
     exact ⟨_, _, hA, hB, q2, q57, h_1, q58, q59, Comp.zk he5⟩
    intro m_ a32 w32 hI
    clear hA hB he5 q2 q57 q58 q59 h_1
    obtain ⟨O42, x41, hA, hB, q2, q57, h_1, q58, q59, hl⟩ := hI
    obtain ⟨m5, hlt5, st5, h, hnext5, hdone5⟩ := Comp.zZ hl; clear hl
    replace h : (gt x_1 x_2 x41).run n = some st5 := h
    unfold gt at h; refine wp_seq ?_
    refine' rb [_] mixed hA hB hO (cn (fun hE hK => zy (kq hK q59) (kq hK q58)) .nil) ?zk20
    intro a33 w33 hA hE hB HF; refine kr4 HF q2 q57 q58 q59 ?_; clear q2 q57 q58 q59; intro q2 q57 q58 q59; have q60 := ksv (HF 60) rfl rfl rfl; clear HF; replace h_1 := vx h_1 hE; clear hE; refine zE (zB (wp_seq ?_))
    revert h; refine cnd q60 (fun h => ?_) (fun h => ?_)
    ·
     refine wp_skip (zB (wp_seq (wp_block (wp_seq ?_)))); obtain ⟨x43, hx43, h⟩ := Comp.run_bind h
     refine' rgT [SP.ptr zD O42 x43, SP.isv (.agg #[.int .i64 x43.Gauge, .int .i64 x43.Cell, .bool x43.There]), SP.box w33.heap.size #[.int .i64 0, .int .i64 0, .bool false] 64] hA (cn (fun hE hK => zp (r := zD) (O := O42) ty28 ty64 rfl (kq hK q57) (rd_of (vx h_1 hE)) (kq hK q59) hx43) (cn (fun hE hK => za zD yv ty64 rfl rfl rfl (kp (SP.ptr zD O42 x43) 0 hK 61 rfl) (fun _ _ _ h => rC_v.1 h)) (cn (fun hE hK => jr hE.size ty64) .nil))) ?zk21
     intro a34 w34 hA hE HF; refine kr4 HF q2 q57 q58 q59 ?_; clear q2 q57 q58 q59; intro q2 q57 q58 q59; obtain ⟨u44, q13, f45⟩ := kx (HF 13) rfl rfl rfl; have q62 := ksv (HF 62) rfl rfl rfl; clear q60 HF
     obtain ⟨O46, b47, hB', hX, e_, f48⟩ := boxNew hO hB hE f45 4 (by decide)
     subst e_
     clear hB f45; have hB := hB'; clear hB'; replace h_1 := vk h_1 hX; clear hX hE
     refine jB (vs := [.int .i64 x43.Gauge, .int .i64 x43.Cell, .bool x43.There]) (cs' := #[.int .i64 x43.Gauge, .int .i64 x43.Cell, .bool x43.There]) hO hB (yH hB) ty64 q13 q62 rfl (by simp [Value.oneCell']) f48 (by simp) rfl fun w35 f49 hB' hX => ?_
     clear hB f48; have hB := hB'; clear hB'; replace h_1 := vk h_1 hX; clear hX; refine zE (zB (wp_seq ?_))
     refine' rb [SP.isv (.pointer (some ⟨b47, 0, none⟩)), SP.isv (.int .i64 x43.Gauge), _, _, SP.isv (.pointer (some ⟨b47, 0, none⟩)), SP.isv (.int .i64 x43.Gauge), _, _, _, SP.isv (.pointer (some ⟨b47, 1, none⟩)), SP.isv (.int .i64 x43.Cell), _, _, _, SP.isv (.pointer (some ⟨b47, 1, none⟩)), SP.isv (.int .i64 x43.Cell), _, _, _] mixed hA hB hO (cn (fun hE hK => zO fl64_0 (kq hK q13)) (cn (fun hE hK => zj ty3 rfl (ks 0 hK 63 rfl) (OwnB.ext f49 hE).own rfl) (cn (fun hE hK => zy (ks 1 hK 64 rfl) rfl) (cn (fun hE hK => zJ (ks 2 hK 65 rfl)) (cn (fun hE hK => zO fl64_0 (kq hK q13)) (.cons (fun _ _ hE hK hg => zj ty3 rfl (kg 4 hK 67 rfl hg) (OwnB.ext f49 hE).own rfl) (.cons (fun _ _ hE hK hg => ok_geq (kg 5 hK 68 rfl hg) rfl) (cn (fun hE hK => zV (ks 3 hK 66 rfl) (fun _ => rfl) (fun hb => kg 6 hK 69 rfl (zf rfl rfl hb))) (cn (fun hE hK => zJ (ks 7 hK 70 rfl)) (cn (fun hE hK => zO fl64_1 (kq hK q13)) (.cons (fun _ _ hE hK hg => zj ty3 rfl (kg 9 hK 72 rfl hg) (OwnB.ext f49 hE).own rfl) (.cons (fun _ _ hE hK hg => zy (kg 10 hK 73 rfl hg) rfl) (cn (fun hE hK => zV (ks 8 hK 71 rfl) (fun _ => rfl) (fun hb => kg 11 hK 74 rfl (zf rfl rfl hb))) (cn (fun hE hK => zJ (ks 12 hK 75 rfl)) (cn (fun hE hK => zO fl64_1 (kq hK q13)) (.cons (fun _ _ hE hK hg => zj ty3 rfl (kg 14 hK 77 rfl hg) (OwnB.ext f49 hE).own rfl) (mv q2 (.cons (fun _ _ hE hK hg => ok_geq (kg 15 hK 78 rfl hg) (kg 16 hK 79 rfl hg)) (cn (fun hE hK => zV (ks 13 hK 76 rfl) (fun _ => rfl) (fun hb => kg 17 hK 80 rfl (zf rfl rfl hb))) .nil))))))))))))))))))) ?zk22
     intro a36 w36 hA hE hB HF; refine kr4 HF q2 q57 q58 q59 ?_; clear q2 q57 q58 q59; intro q2 q57 q58 q59; have q81 := ksv (HF 81) rfl rfl rfl; clear q13 HF; replace h_1 := vx h_1 hE; replace f49 := f49.ext hE; clear hE
     obtain ⟨x50, hx_, h⟩ := Comp.run_bind h; replace hx_ := Comp.run_pure hx_; rw [hx_] at q81; clear hx_
     refine zE (zB ?_)
     revert h; refine cnd q81 (fun h => ?_) (fun h => ?_)
     ·
      refine wp_seq ?_
      refine' rb [_] mixed hA hB hO (cn (fun hE hK => zC rfl) .nil) ?zk23
      intro a37 w37 hA hE hB HF; have q6 := ksv (HF 6) rfl rfl rfl; clear q2 q57 q58 q59 q81 HF; replace h_1 := vx h_1 hE; clear hE; refine zE (zB (wp_ret (yA (zN (zN (yA (zN ?_)))))))
      have hd_ := hdone5 _ (Comp.run_pure h).symm; clear h
      subst hd_; have h := hk5; clear hk5; try dsimp only at h
      have h := Comp.run_pure h; subst h
      exact zb Try.results13 hA q6 hB.ext rfl
     ·
      refine wp_skip (zm (zB ?_))
      refine' rb [_, _] mixed hA hB hO (cn (fun hE hK => yP (kq hK q59) rfl) (cn (fun hE hK => zJ (ks 0 hK 82 rfl)) .nil)) ?zk24
      intro a38 w38 hA hE hB HF; refine kr3 HF q2 q57 q58 ?_; clear q2 q57 q58; intro q2 q57 q58; replace q59 := ksv (HF 59) rfl rfl rfl; clear q81 HF; replace h_1 := vx h_1 hE; clear hE; refine zE (zB ?_)
      have h := hnext5 _ (Comp.run_pure h).symm
      refine ⟨m5, hlt5, ?_⟩
      exact ⟨_, _, hA, hB, q2, q57, h_1, q58, q59, h⟩
    ·
     refine wp_exit (zT (zT (zw ?_)))
     have hd_ := hdone5 _ (Comp.run_pure h).symm; clear h
     subst hd_; have h := hk5; clear hk5; try dsimp only at h
     refine zB ?_
     exact ⟨_, hA, hB, h⟩
   intro a39 w39 hI
   clear hA hB h q1 q2 h_1
   obtain ⟨O52, hA, hB, h⟩ := hI
   unfold court_Check_j4 at h; refine wp_seq ?_
   refine' rb [_] mixed hA hB hO (cn (fun hE hK => zC rfl) .nil) ?zk25
   intro a40 w40 hA hE hB HF; have q6 := ksv (HF 6) rfl rfl rfl; clear HF; clear hE; refine zE (zB (wp_ret ?_))
   have h := Comp.run_pure h; subst h
   exact zb Try.results13 hA q6 hB.ext rfl
set_option maxHeartbeats 4000000 in
theorem ok_court_voices {O : Tags} {w0 : World} (hO : OkO O w0) {v_0 : Value} {x_0 : List api_Claim} (h_0 : (rSl zA).v O w0 v_0 x_0) {v_1 : Value} {x_1 : List api_Sight} (h_1 : (rSl zD).v O w0 v_1 x_1) {n : Nat} {y : (List court_voice)} (h : (court_voices x_0 x_1).run n = some y) : Pure Try.prog 41 #[v_0, v_1] w0 (SP.ownr zX 94 (w0.heap.size) O y).holds := by
 unfold court_voices at h
 refine zW Try.func41 rfl 62 Try.ntmps41 (by simp) fun a0 hA hs0 => ?_
 have q0 : a0.get 0 = v_0 := hs0 0 _ rfl
 have q1 : a0.get 1 = v_1 := hs0 1 _ rfl
 clear hs0
 have hB : Base (Fr w0) O w0 O w0 := Base.start hO
 refine wp_seq ?_
 refine' rb [_] mixed hA hB hO (cn (fun hE hK => zC rfl) .nil) ?zk1
 intro a1 w1 hA hE hB HF; replace q0 := kf HF q0; replace q1 := kf HF q1; clear HF; replace h_0 := vx h_0 hE; replace h_1 := vx h_1 hE; clear hE; refine zE (zB (wp_seq ?_))
 refine' rb [_] mixed hA hB hO (cn (fun hE hK => zC rfl) .nil) ?zk2
 intro a2 w2 hA hE hB HF; replace q0 := kf HF q0; replace q1 := kf HF q1; have q5 := ksv (HF 5) rfl rfl rfl; clear HF; replace h_0 := vx h_0 hE; replace h_1 := vx h_1 hE; clear hE; refine zE (zB ?_)
 refine zY (fun a w => ∃ (O76 : Tags) (x73 : List court_voice) (u74 : Value), a.fit 62 ∧ Base (Fr w0) O w0 O76 w ∧ a.get 5 = u74 ∧ OwnL 1 zX 94 (Fr w0) O76 w u74 x73 ∧ (court_voices_j1 x73).run n = some y) ?_ ?_
 ·
  refine wp_seq ?_
  refine' rb [_, _, _] mixed hA hB hO (mv q0 (cn (fun hE hK => zg (r := zA) ty27 (ks 0 hK 11 rfl) (rd_of (vx h_0 hE))) (cn (fun hE hK => zJ rfl) .nil))) ?zk3
  intro a3 w3 hA hE hB HF; replace q1 := kf HF q1; replace q5 := kf HF q5; have q11 := ksv (HF 11) rfl rfl rfl; have q12 := ksv (HF 12) rfl rfl rfl; have q13 := ksv (HF 13) rfl rfl rfl; clear q0 HF; replace h_0 := vx h_0 hE; replace h_1 := vx h_1 hE; clear hE; refine zE (zB (wp_block ?_))
  obtain ⟨e2, he2, hk2⟩ := Comp.run_bind h; clear h
  refine yt (fun m a w => ∃ (O5 : Tags) (x1 : List court_voice) (x4 : Int) (u2 : Value), a.fit 62 ∧ Base (Fr w0) O w0 O5 w ∧ a.get 1 = v_1 ∧ (rSl zD).v O5 w v_1 x_1 ∧ a.get 5 = u2 ∧ OwnL 1 zX 94 (Fr w0) O5 w u2 x1 ∧ a.get 11 = v_0 ∧ (rSl zA).v O5 w v_0 x_0 ∧ a.get 12 = .int .i64 (x_0.length : Int) ∧ a.get 13 = .int .i64 x4 ∧ Comp.loopN (fun s => gu x_0 x_1 s.1 s.2) n m (x1, x4) = some e2) (m := n) ?st2 ?_
  case st2 =>
   exact ⟨_, _, _, _, hA, hB, q1, h_1, q5, (OwnL.nil _ _ _ _ _ _), q11, h_0, q12, q13, Comp.zk he2⟩
  intro m_ a4 w4 hI
  clear hA hB he2 q1 q5 q11 q12 q13 h_0 h_1
  obtain ⟨O5, x1, x4, u2, hA, hB, q1, h_1, q5, f3, q11, h_0, q12, q13, hl⟩ := hI
  obtain ⟨m2, hlt2, st2, h, hnext2, hdone2⟩ := Comp.zZ hl; clear hl
  replace h : (gu x_0 x_1 x1 x4).run n = some st2 := h
  unfold gu at h; refine wp_seq ?_
  refine' rb [_] mixed hA hB hO (cn (fun hE hK => zy (kq hK q13) (kq hK q12)) .nil) ?zk4
  intro a5 w5 hA hE hB HF; refine kr5 HF q1 q5 q11 q12 q13 ?_; clear q1 q5 q11 q12 q13; intro q1 q5 q11 q12 q13; have q14 := ksv (HF 14) rfl rfl rfl; clear HF; replace h_1 := vx h_1 hE; replace f3 := f3.ext hE; replace h_0 := vx h_0 hE; clear hE; refine zE (zB (wp_seq ?_))
  revert h; refine cnd q14 (fun h => ?_) (fun h => ?_)
  ·
   refine wp_skip (zB ?_)
   refine zY (fun a w => ∃ (O70 : Tags) (x25 : List court_voice) (u26 : Value), a.fit 62 ∧ Base (Fr w0) O w0 O70 w ∧ a.get 1 = v_1 ∧ (rSl zD).v O70 w v_1 x_1 ∧ a.get 5 = u26 ∧ OwnL 1 zX 94 (Fr w0) O70 w u26 x25 ∧ a.get 11 = v_0 ∧ (rSl zA).v O70 w v_0 x_0 ∧ a.get 12 = .int .i64 (x_0.length : Int) ∧ a.get 13 = .int .i64 x4 ∧ (jk x4 x25).run n = some st2) ?_ ?_
   ·
    refine wp_block (wp_seq ?_); obtain ⟨x6, hx6, h⟩ := Comp.run_bind h
    refine' rbT [SP.ptr zA O5 x6, SP.vl zA O5 x6] hA hB hO (cn (fun hE hK => zp (r := zA) (O := O5) ty27 ty33 rfl (kq hK q11) (rd_of (vx h_0 hE)) (kq hK q13) hx6) (cn (fun hE hK => vC (r := zA) zK ty33 rfl rfl rfl (kp (SP.ptr zA O5 x6) 0 hK 15 rfl)) .nil)) ?zk5
    intro a6 w6 hA hE hB HF; refine kr5 HF q1 q5 q11 q12 q13 ?_; clear q1 q5 q11 q12 q13; intro q1 q5 q11 q12 q13; obtain ⟨u7, q16, f8⟩ := kx (HF 16) rfl rfl rfl; clear q14 HF; replace h_1 := vx h_1 hE; replace f3 := f3.ext hE; replace h_0 := vx h_0 hE; clear hE
    refine l_ok (φ := SP.box w6.heap.size #[.int .i64 0, .int .i64 0, .int .i64 0, .slice none 0 0, .slice none 0 0] 33) hO hB (by exact jr (Nat.le_refl _) ty33) rfl fun u9 w7 hE hB' f10 => ?_
    clear hB'; obtain ⟨O11, b13, hB', hX, e_, f12⟩ := boxNew hO hB hE f10 2 (by decide)
    subst e_; clear hB f10; have hB := hB'; clear hB'
    replace h_1 := vk h_1 hX
    replace f3 := f3.kx hX (by decide) (by decide)
    replace h_0 := vk h_0 hX; replace f8 := vk f8 hX; clear hX hE
    refine zQ hA (by decide) fun a8 hA q_ hfr => ?_
    refine kd6 hfr q1 q5 q11 q12 q13 q16 ?_; clear q1 q5 q11 q12 q13 q16; intro q1 q5 q11 q12 q13 q16; have q7 := q_; clear q_ hfr
    obtain ⟨u14, u16, e_, f15, f17⟩ := openV_api_Claim f8; subst e_
    refine jB (vs := [.int .i64 x6.Party, .int .i64 x6.Kind, .int .i64 x6.Gauge, u14, u16]) (cs' := #[.int .i64 x6.Party, .int .i64 x6.Kind, .int .i64 x6.Gauge, u14, u16]) hO hB (yH hB) ty33 q7 q16 rfl (by intro c_ hc_; simp only [List.mem_cons, List.not_mem_nil, or_false] at hc_; rcases hc_ with rfl | rfl | rfl | rfl | rfl <;> first | rfl | assumption | exact sl_one f15 rfl rfl | exact sl_one f17 rfl rfl) f12 (by simp) rfl fun w9 f18 hB' hX => ?_
    clear hB f12; have hB := hB'; clear hB'; replace h_1 := vk h_1 hX
    replace f3 := f3.kx hX (by decide) (by decide)
    replace h_0 := vk h_0 hX; replace f15 := vk f15 hX; replace f17 := vk f17 hX; clear hX; refine zE (zB (wp_seq ?_))
    refine' rb [SP.isv (.pointer (some ⟨b13, 1, none⟩)), SP.isv (.int .i64 x6.Kind)] mixed hA hB hO (cn (fun hE hK => zO fl33_1 (kq hK q7)) (cn (fun hE hK => zj ty3 rfl (ks 0 hK 17 rfl) (OwnB.ext f18 hE).own rfl) .nil)) ?zk6
    intro a10 w10 hA hE hB HF; refine kr6 HF q1 q5 q7 q11 q12 q13 ?_; clear q1 q5 q7 q11 q12 q13; intro q1 q5 q7 q11 q12 q13; have q18 := ksv (HF 18) rfl rfl rfl; clear HF; replace h_1 := vx h_1 hE; replace f3 := f3.ext hE; replace h_0 := vx h_0 hE; replace f18 := f18.ext hE; replace f15 := vx f15 hE; replace f17 := vx f17 hE; clear hE; refine zE (zB (wp_block (wp_seq ?_)))
    refine' rb [_, _] mixed hA hB hO (cn (fun hE hK => yO (kq hK q18) rfl) (cn (fun hE hK => zC (ks 0 hK 41 rfl)) .nil)) ?zk7
    intro a11 w11 hA hE hB HF; refine kr7 HF q1 q5 q7 q11 q12 q13 q18 ?_; clear q1 q5 q7 q11 q12 q13 q18; intro q1 q5 q7 q11 q12 q13 q18; have q40 := ksv (HF 40) rfl rfl rfl; clear HF; replace h_1 := vx h_1 hE; replace f3 := f3.ext hE; replace h_0 := vx h_0 hE; replace f18 := f18.ext hE; replace f15 := vx f15 hE; replace f17 := vx f17 hE; clear hE; refine zE (zB ?_)
    revert h; refine cnd q40 (fun h => ?_) (fun h => ?_)
    ·
     refine' rbT [_, SP.isv (.pointer (some ⟨b13, 4, none⟩)), SP.isv (u16), SP.isv (.agg #[u16]), SP.vl zX O11 (court_voice.c101 (court_blank.mk x6.Touched)), SP.vl (rSl zX) O11 [(court_voice.c101 (court_blank.mk x6.Touched))]] hA hB hO (mv q5 (cn (fun hE hK => zO fl33_4 (kq hK q7)) (cn (fun hE hK => zj ty23 rfl (ks 1 hK 43 rfl) (OwnB.ext f18 hE).own rfl) (cn (fun hE hK => jQ plc101 ty101 (gG (v := u16) (ksv (j := 2) (hK 44 rfl) rfl rfl rfl) pk_nil) rfl (.cons rfl (sl_cells (vx f17 hE) rfl rfl) rfl (leb rfl) .nil) rfl) (.cons ?z8_4 (cn (fun hE hK => zP (r := zX) (fun _ => rfl) rfl (OkO.ext hB.ok hE) ty75 ty94 (zM rfl zh) ⟨(kp (SP.vl zX O11 (court_voice.c101 (court_blank.mk x6.Touched))) 4 hK 46 rfl), trivial⟩ rfl (by decide)) .nil)))))) ?zk8
     case z8_4 => intro a' w' hE hK hg; refine yL (okl_mkIface ty101 rfl (ks 3 hK 45 rfl)) ?_; exact fun w_ v_ hE2_ h_ => by { replace h_ : v_ = _ := h_; subst h_; exact rIf_v.2 ⟨_, rfl, ⟨_, ⟨_, _, rfl, (vf (r := (rSl (rInt .i64))) (vx (vx f17 hE) hE2_) rfl rfl), rfl⟩, rfl⟩⟩ }
     intro a12 w12 hA hE hB HF; refine kr5 HF q1 q5 q11 q12 q13 ?_; clear q1 q5 q11 q12 q13; intro q1 q5 q11 q12 q13; obtain ⟨u19, q47, f20⟩ := kx (HF 47) rfl rfl rfl; have q42 := ksv (HF 42) rfl rfl rfl; clear q7 q18 q40 HF; replace h_1 := vx h_1 hE; replace f3 := f3.ext hE; replace h_0 := vx h_0 hE; replace f18 := f18.ext hE; replace f15 := vx f15 hE; replace f17 := vx f17 hE; clear hE; obtain ⟨x21, hx21, h⟩ := Comp.run_bind h
     refine gQ (r := zX) (fun _ => rfl) rfl ty75 ty94 rfl (by decide) hO hB (yH hB) q42 f3 q47 (rd_of f20) hx21 (by decide) fun u22 w13 O23 f24 hB' hX => ?_
     clear hB; have hB := hB'; clear hB'; clear f3; replace h_1 := vk h_1 hX; replace h_0 := vk h_0 hX; replace f20 := vk f20 hX; clear hX
     refine zQ hA (by decide) fun a14 hA q_ hfr => ?_
     refine kd7 hfr q1 q5 q11 q12 q13 q42 q47 ?_; clear q1 q5 q11 q12 q13 q42 q47; intro q1 q5 q11 q12 q13 q42 q47; have q48 := q_; clear q_ hfr
     refine l_ok (φ := SP.isv (u22)) hO hB (by exact zC q48) rfl fun u_ w15 hE hB' hv_ => ?_
     replace hv_ := Eq.symm hv_; subst hv_; clear hB; have hB := hB'; clear hB'
     replace h_1 := vx h_1 hE; replace h_0 := vx h_0 hE; replace f24 := f24.ext hE; clear hE
     refine zQ hA (by decide) fun a16 hA q_ hfr => ?_
     replace q1 := (hfr 1 rfl).trans q1
     replace q11 := (hfr 11 rfl).trans q11
     replace q12 := (hfr 12 rfl).trans q12
     replace q13 := (hfr 13 rfl).trans q13
     replace q48 := (hfr 48 rfl).trans q48
     clear q5; have q5 := q_; clear q_ hfr; refine zE (zm (zm (zB ?_)))
     exact ⟨_, _, _, hA, hB, q1, h_1, q5, f24, q11, h_0, q12, q13, h⟩
    ·
     refine wp_seq ?_
     refine' rb [_, _] mixed hA hB hO (cn (fun hE hK => yO (kq hK q18) rfl) (cn (fun hE hK => zC (ks 0 hK 50 rfl)) .nil)) ?zk9
     intro a17 w17 hA hE hB HF; refine kr6 HF q1 q5 q7 q11 q12 q13 ?_; clear q1 q5 q7 q11 q12 q13; intro q1 q5 q7 q11 q12 q13; have q49 := ksv (HF 49) rfl rfl rfl; clear q18 q40 HF; replace h_1 := vx h_1 hE; replace f3 := f3.ext hE; replace h_0 := vx h_0 hE; replace f18 := f18.ext hE; replace f15 := vx f15 hE; replace f17 := vx f17 hE; clear hE; refine zE (zB ?_)
     revert h; refine cnd q49 (fun h => ?_) (fun h => ?_)
     ·
      refine' rbT [_, SP.isv (.pointer (some ⟨b13, 3, none⟩)), SP.isv (u14), SP.isv (.pointer (some ⟨b13, 4, none⟩)), SP.isv (u16), SP.isv (.agg #[u14, u16]), SP.vl zX O11 (court_voice.c96 (court_cut.mk x6.Sure x6.Touched)), SP.vl (rSl zX) O11 [(court_voice.c96 (court_cut.mk x6.Sure x6.Touched))]] hA hB hO (mv q5 (cn (fun hE hK => zO fl33_3 (kq hK q7)) (cn (fun hE hK => zj ty23 rfl (ks 1 hK 52 rfl) (OwnB.ext f18 hE).own rfl) (cn (fun hE hK => zO fl33_4 (kq hK q7)) (cn (fun hE hK => zj ty23 rfl (ks 3 hK 54 rfl) (OwnB.ext f18 hE).own rfl) (cn (fun hE hK => jQ plc96 ty96 (gG (v := u14) (ksv (j := 2) (hK 53 rfl) rfl rfl rfl) (gG (v := u16) (ksv (j := 4) (hK 55 rfl) rfl rfl rfl) pk_nil)) rfl (.cons rfl (sl_cells (vx f15 hE) rfl rfl) rfl (leb rfl) (.cons rfl (sl_cells (vx f17 hE) rfl rfl) rfl (leb rfl) .nil)) rfl) (.cons ?z10_6 (cn (fun hE hK => zP (r := zX) (fun _ => rfl) rfl (OkO.ext hB.ok hE) ty75 ty94 (zM rfl zh) ⟨(kp (SP.vl zX O11 (court_voice.c96 (court_cut.mk x6.Sure x6.Touched))) 6 hK 57 rfl), trivial⟩ rfl (by decide)) .nil)))))))) ?zk10
      case z10_6 => intro a' w' hE hK hg; refine yL (okl_mkIface ty96 rfl (ks 5 hK 56 rfl)) ?_; exact fun w_ v_ hE2_ h_ => by { replace h_ : v_ = _ := h_; subst h_; exact rIf_v.2 ⟨_, rfl, ⟨_, ⟨_, _, rfl, (vf (r := (rSl (rInt .i64))) (vx (vx f15 hE) hE2_) rfl rfl), ⟨_, _, rfl, (vf (r := (rSl (rInt .i64))) (vx (vx f17 hE) hE2_) rfl rfl), rfl⟩⟩, rfl⟩⟩ }
      intro a18 w18 hA hE hB HF; refine kr5 HF q1 q5 q11 q12 q13 ?_; clear q1 q5 q11 q12 q13; intro q1 q5 q11 q12 q13; obtain ⟨u28, q58, f29⟩ := kx (HF 58) rfl rfl rfl; have q51 := ksv (HF 51) rfl rfl rfl; clear q7 q49 HF; replace h_1 := vx h_1 hE; replace f3 := f3.ext hE; replace h_0 := vx h_0 hE; replace f18 := f18.ext hE; replace f15 := vx f15 hE; replace f17 := vx f17 hE; clear hE; obtain ⟨x30, hx30, h⟩ := Comp.run_bind h
      refine gQ (r := zX) (fun _ => rfl) rfl ty75 ty94 rfl (by decide) hO hB (yH hB) q51 f3 q58 (rd_of f29) hx30 (by decide) fun u31 w19 O32 f33 hB' hX => ?_
      clear hB; have hB := hB'; clear hB'; clear f3; replace h_1 := vk h_1 hX; replace h_0 := vk h_0 hX; replace f29 := vk f29 hX; clear hX
      refine zQ hA (by decide) fun a20 hA q_ hfr => ?_
      refine kd7 hfr q1 q5 q11 q12 q13 q51 q58 ?_; clear q1 q5 q11 q12 q13 q51 q58; intro q1 q5 q11 q12 q13 q51 q58; have q59 := q_; clear q_ hfr
      refine l_ok (φ := SP.isv (u31)) hO hB (by exact zC q59) rfl fun u_ w21 hE hB' hv_ => ?_
      replace hv_ := Eq.symm hv_; subst hv_; clear hB; have hB := hB'; clear hB'
      replace h_1 := vx h_1 hE; replace h_0 := vx h_0 hE; replace f33 := f33.ext hE; clear hE
      refine zQ hA (by decide) fun a22 hA q_ hfr => ?_
      replace q1 := (hfr 1 rfl).trans q1
      replace q11 := (hfr 11 rfl).trans q11
      replace q12 := (hfr 12 rfl).trans q12
      replace q13 := (hfr 13 rfl).trans q13
      replace q59 := (hfr 59 rfl).trans q59
      clear q5; have q5 := q_; clear q_ hfr; refine zE (zm (zm (zB ?_)))
      exact ⟨_, _, _, hA, hB, q1, h_1, q5, f33, q11, h_0, q12, q13, h⟩
     ·
      refine wp_seq ?_
      refine' rb [_] mixed hA hB hO (cn (fun hE hK => zC rfl) .nil) ?zk11
      intro a23 w23 hA hE hB HF; refine kr6 HF q1 q5 q7 q11 q12 q13 ?_; clear q1 q5 q7 q11 q12 q13; intro q1 q5 q7 q11 q12 q13; have q8 := ksv (HF 8) rfl rfl rfl; clear q49 HF; replace h_1 := vx h_1 hE; replace f3 := f3.ext hE; replace h_0 := vx h_0 hE; replace f18 := f18.ext hE; replace f15 := vx f15 hE; replace f17 := vx f17 hE; clear hE; refine zE (zB ?_)
      refine zY (fun a w => ∃ (O63 : Tags) (x58 : List api_Sight) (u59 : Value), a.fit 62 ∧ Base (Fr w0) O w0 O63 w ∧ a.get 1 = v_1 ∧ (rSl zD).v O63 w v_1 x_1 ∧ a.get 5 = u2 ∧ OwnL 1 zX 94 (Fr w0) O63 w u2 x1 ∧ a.get 8 = u59 ∧ (rSl zD).v O63 w u59 x58 ∧ a.get 11 = v_0 ∧ (rSl zA).v O63 w v_0 x_0 ∧ a.get 12 = .int .i64 (x_0.length : Int) ∧ a.get 13 = .int .i64 x4 ∧ (court_voices_j4 x1 x4 x58).run n = some st2) ?_ ?_
      ·
       refine wp_seq ?_
       refine' rb [_, _, _] mixed hA hB hO (mv q1 (cn (fun hE hK => zg (r := zD) ty28 (ks 0 hK 19 rfl) (rd_of (vx h_1 hE))) (cn (fun hE hK => zJ rfl) .nil))) ?zk12
       intro a24 w24 hA hE hB HF; refine kr7 HF q1 q5 q7 q8 q11 q12 q13 ?_; clear q1 q5 q7 q8 q11 q12 q13; intro q1 q5 q7 q8 q11 q12 q13; have q19 := ksv (HF 19) rfl rfl rfl; have q20 := ksv (HF 20) rfl rfl rfl; have q21 := ksv (HF 21) rfl rfl rfl; clear HF; replace h_1 := vx h_1 hE; replace f3 := f3.ext hE; replace h_0 := vx h_0 hE; replace f18 := f18.ext hE; replace f15 := vx f15 hE; replace f17 := vx f17 hE; clear hE; refine zE (zB (wp_block ?_))
       obtain ⟨e5, he5, hk5⟩ := Comp.run_bind h; clear h
       refine yt (fun m a w => ∃ (O38 : Tags) (x34 : List api_Sight) (x37 : Int) (u35 : Value), a.fit 62 ∧ Base (Fr w0) O w0 O38 w ∧ a.get 1 = v_1 ∧ (rSl zD).v O38 w v_1 x_1 ∧ a.get 5 = u2 ∧ OwnL 1 zX 94 (Fr w0) O38 w u2 x1 ∧ a.get 7 = .pointer (some ⟨b13, 0, none⟩) ∧ a.get 8 = u35 ∧ OwnL 3 zD 64 (Fr w0) O38 w u35 x34 ∧ a.get 11 = v_0 ∧ (rSl zA).v O38 w v_0 x_0 ∧ a.get 12 = .int .i64 (x_0.length : Int) ∧ a.get 13 = .int .i64 x4 ∧ a.get 19 = v_1 ∧ a.get 20 = .int .i64 (x_1.length : Int) ∧ a.get 21 = .int .i64 x37 ∧ OwnB 2 (Fr w0) O38 w b13 #[.int .i64 x6.Party, .int .i64 x6.Kind, .int .i64 x6.Gauge, u14, u16] 33 ∧ (rSl (rInt .i64)).v O38 w u14 x6.Sure ∧ (rSl (rInt .i64)).v O38 w u16 x6.Touched ∧ Comp.loopN (fun s => vv x_1 x6 s.1 s.2) n m (x34, x37) = some e5) (m := n) ?st5 ?_
       case st5 =>
        exact ⟨_, _, _, _, hA, hB, q1, h_1, q5, f3, q7, q8, (OwnL.nil _ _ _ _ _ _), q11, h_0, q12, q13, q19, q20, q21, f18, f15, f17, Comp.zk he5⟩
       intro m_ a25 w25 hI
       clear hA hB he5 q1 q5 q7 q8 q11 q12 q13 q19 q20 q21 f15 f17 f18 f3 h_0 h_1
       obtain ⟨O38, x34, x37, u35, hA, hB, q1, h_1, q5, f3, q7, q8, f36, q11, h_0, q12, q13, q19, q20, q21, f18, f15, f17, hl⟩ := hI
       obtain ⟨m5, hlt5, st5, h, hnext5, hdone5⟩ := Comp.zZ hl; clear hl
       replace h : (vv x_1 x6 x34 x37).run n = some st5 := h
       unfold vv at h; refine wp_seq ?_
       refine' rb [_] mixed hA hB hO (cn (fun hE hK => zy (kq hK q21) (kq hK q20)) .nil) ?zk13
       intro a26 w26 hA hE hB HF; refine kr10 HF q1 q5 q7 q8 q11 q12 q13 q19 q20 q21 ?_; clear q1 q5 q7 q8 q11 q12 q13 q19 q20 q21; intro q1 q5 q7 q8 q11 q12 q13 q19 q20 q21; have q22 := ksv (HF 22) rfl rfl rfl; clear HF; replace h_1 := vx h_1 hE; replace f3 := f3.ext hE; replace f36 := f36.ext hE; replace h_0 := vx h_0 hE; replace f18 := f18.ext hE; replace f15 := vx f15 hE; replace f17 := vx f17 hE; clear hE; refine zE (zB (wp_seq ?_))
       revert h; refine cnd q22 (fun h => ?_) (fun h => ?_)
       ·
        refine wp_skip (zB ?_)
        refine zY (fun a w => ∃ (O55 : Tags) (x52 : List api_Sight) (u53 : Value), a.fit 62 ∧ Base (Fr w0) O w0 O55 w ∧ a.get 1 = v_1 ∧ (rSl zD).v O55 w v_1 x_1 ∧ a.get 5 = u2 ∧ OwnL 1 zX 94 (Fr w0) O55 w u2 x1 ∧ a.get 7 = .pointer (some ⟨b13, 0, none⟩) ∧ a.get 8 = u53 ∧ OwnL 3 zD 64 (Fr w0) O55 w u53 x52 ∧ a.get 11 = v_0 ∧ (rSl zA).v O55 w v_0 x_0 ∧ a.get 12 = .int .i64 (x_0.length : Int) ∧ a.get 13 = .int .i64 x4 ∧ a.get 19 = v_1 ∧ a.get 20 = .int .i64 (x_1.length : Int) ∧ a.get 21 = .int .i64 x37 ∧ OwnB 2 (Fr w0) O55 w b13 #[.int .i64 x6.Party, .int .i64 x6.Kind, .int .i64 x6.Gauge, u14, u16] 33 ∧ (rSl (rInt .i64)).v O55 w u14 x6.Sure ∧ (rSl (rInt .i64)).v O55 w u16 x6.Touched ∧ (court_voices_j6 x37 x52).run n = some st5) ?_ ?_
        ·
         refine wp_block (wp_seq ?_); obtain ⟨x39, hx39, h⟩ := Comp.run_bind h
         refine' rgT [SP.ptr zD O38 x39, SP.isv (.agg #[.int .i64 x39.Gauge, .int .i64 x39.Cell, .bool x39.There]), SP.box w26.heap.size #[.int .i64 0, .int .i64 0, .bool false] 64] hA (cn (fun hE hK => zp (r := zD) (O := O38) ty28 ty64 rfl (kq hK q19) (rd_of (vx h_1 hE)) (kq hK q21) hx39) (cn (fun hE hK => za zD yv ty64 rfl rfl rfl (kp (SP.ptr zD O38 x39) 0 hK 23 rfl) (fun _ _ _ h => rC_v.1 h)) (cn (fun hE hK => jr hE.size ty64) .nil))) ?zk14
         intro a27 w27 hA hE HF; refine kr10 HF q1 q5 q7 q8 q11 q12 q13 q19 q20 q21 ?_; clear q1 q5 q7 q8 q11 q12 q13 q19 q20 q21; intro q1 q5 q7 q8 q11 q12 q13 q19 q20 q21; obtain ⟨u40, q10, f41⟩ := kx (HF 10) rfl rfl rfl; have q24 := ksv (HF 24) rfl rfl rfl; clear q22 HF
         obtain ⟨O42, b43, hB', hX, e_, f44⟩ := boxNew hO hB hE f41 4 (by decide)
         subst e_
         clear hB f41; have hB := hB'; clear hB'; replace h_1 := vk h_1 hX
         replace f3 := f3.kx hX (by decide) (by decide)
         replace f36 := f36.kx hX (by decide) (by decide)
         replace h_0 := vk h_0 hX
         replace f18 := f18.kx hX (by decide)
         replace f15 := vk f15 hX; replace f17 := vk f17 hX; clear hX hE
         refine jB (vs := [.int .i64 x39.Gauge, .int .i64 x39.Cell, .bool x39.There]) (cs' := #[.int .i64 x39.Gauge, .int .i64 x39.Cell, .bool x39.There]) hO hB (yH hB) ty64 q10 q24 rfl (by simp [Value.oneCell']) f44 (by simp) rfl fun w28 f45 hB' hX => ?_
         clear hB f44; have hB := hB'; clear hB'; replace h_1 := vk h_1 hX
         replace f3 := f3.kx hX (by decide) (by decide)
         replace f36 := f36.kx hX (by decide) (by decide)
         replace h_0 := vk h_0 hX
         replace f18 := f18.kx hX (by decide)
         replace f15 := vk f15 hX; replace f17 := vk f17 hX; clear hX; refine zE (zB (wp_seq ?_))
         refine' rb [SP.isv (.pointer (some ⟨b43, 0, none⟩)), SP.isv (.int .i64 x39.Gauge), SP.isv (.pointer (some ⟨b13, 2, none⟩)), SP.isv (.int .i64 x6.Gauge), _] mixed hA hB hO (cn (fun hE hK => zO fl64_0 (kq hK q10)) (cn (fun hE hK => zj ty3 rfl (ks 0 hK 25 rfl) (OwnB.ext f45 hE).own rfl) (cn (fun hE hK => zO fl33_2 (kq hK q7)) (cn (fun hE hK => zj ty3 rfl (ks 2 hK 27 rfl) (OwnB.ext f18 hE).own rfl) (cn (fun hE hK => yO (ks 1 hK 26 rfl) (ks 3 hK 28 rfl)) .nil))))) ?zk15
         intro a29 w29 hA hE hB HF; refine kr11 HF q1 q5 q7 q8 q10 q11 q12 q13 q19 q20 q21 ?_; clear q1 q5 q7 q8 q10 q11 q12 q13 q19 q20 q21; intro q1 q5 q7 q8 q10 q11 q12 q13 q19 q20 q21; have q29 := ksv (HF 29) rfl rfl rfl; clear HF; replace h_1 := vx h_1 hE; replace f3 := f3.ext hE; replace f36 := f36.ext hE; replace h_0 := vx h_0 hE; replace f18 := f18.ext hE; replace f15 := vx f15 hE; replace f17 := vx f17 hE; replace f45 := f45.ext hE; clear hE; refine zE (zB ?_)
         revert h; refine cnd q29 (fun h => ?_) (fun h => ?_)
         ·
          refine' rbT [_, SP.isv (.agg #[.int .i64 x39.Gauge, .int .i64 x39.Cell, .bool x39.There]), SP.vl (rSl zD) O42 [x39]] hA hB hO (mv q8 (cn (fun hE hK => gU ty64 rfl (kq hK q10) (OwnB.ext f45 hE).own rfl) (.cons ?z16_2 .nil))) ?zk16
          case z16_2 => intro a' w' hE hK hg; exact zP (r := zD) yv rfl (OkO.ext hB.ok hE) ty102 ty64 (zM (ks 1 hK 31 rfl) zh) ⟨(by first | exact (rC_v (x := x39)).2 rfl | exact ⟨_, rfl, rfl⟩), trivial⟩ rfl (by decide)
          intro a30 w30 hA hE hB HF; refine kr10 HF q1 q5 q7 q8 q11 q12 q13 q19 q20 q21 ?_; clear q1 q5 q7 q8 q11 q12 q13 q19 q20 q21; intro q1 q5 q7 q8 q11 q12 q13 q19 q20 q21; obtain ⟨u46, q32, f47⟩ := kx (HF 32) rfl rfl rfl; have q30 := ksv (HF 30) rfl rfl rfl; clear q10 q29 HF; replace h_1 := vx h_1 hE; replace f3 := f3.ext hE; replace f36 := f36.ext hE; replace h_0 := vx h_0 hE; replace f18 := f18.ext hE; replace f15 := vx f15 hE; replace f17 := vx f17 hE; replace f45 := f45.ext hE; clear hE; obtain ⟨x48, hx48, h⟩ := Comp.run_bind h
          refine gQ (r := zD) yv rfl ty102 ty64 rfl (by decide) hO hB (yH hB) q30 f36 q32 (rd_of f47) hx48 (by decide) fun u49 w31 O50 f51 hB' hX => ?_
          clear hB; have hB := hB'; clear hB'; clear f36; replace h_1 := vk h_1 hX
          replace f3 := f3.kx hX (by decide) (by decide)
          replace h_0 := vk h_0 hX; replace f47 := vk f47 hX
          replace f18 := f18.kx hX (by decide)
          replace f15 := vk f15 hX; replace f17 := vk f17 hX; clear hX
          refine zQ hA (by decide) fun a32 hA q_ hfr => ?_
          refine kd12 hfr q1 q5 q7 q8 q11 q12 q13 q19 q20 q21 q30 q32 ?_; clear q1 q5 q7 q8 q11 q12 q13 q19 q20 q21 q30 q32; intro q1 q5 q7 q8 q11 q12 q13 q19 q20 q21 q30 q32; have q33 := q_; clear q_ hfr
          refine l_ok (φ := SP.isv (u49)) hO hB (by exact zC q33) rfl fun u_ w33 hE hB' hv_ => ?_
          replace hv_ := Eq.symm hv_; subst hv_; clear hB; have hB := hB'; clear hB'
          replace h_1 := vx h_1 hE; replace f3 := f3.ext hE; replace h_0 := vx h_0 hE; replace f51 := f51.ext hE; replace f18 := f18.ext hE; replace f15 := vx f15 hE; replace f17 := vx f17 hE; clear hE
          refine zQ hA (by decide) fun a34 hA q_ hfr => ?_
          replace q1 := (hfr 1 rfl).trans q1
          replace q5 := (hfr 5 rfl).trans q5
          replace q7 := (hfr 7 rfl).trans q7
          replace q11 := (hfr 11 rfl).trans q11
          replace q12 := (hfr 12 rfl).trans q12
          replace q13 := (hfr 13 rfl).trans q13
          replace q19 := (hfr 19 rfl).trans q19
          replace q20 := (hfr 20 rfl).trans q20
          replace q21 := (hfr 21 rfl).trans q21
          replace q33 := (hfr 33 rfl).trans q33
          clear q8; have q8 := q_; clear q_ hfr; refine zE (zm (zB ?_))
          exact ⟨_, _, _, hA, hB, q1, h_1, q5, f3, q7, q8, f51, q11, h_0, q12, q13, q19, q20, q21, f18, f15, f17, h⟩
         ·
          refine wp_skip (zm (zB ?_))
          exact ⟨_, _, _, hA, hB, q1, h_1, q5, f3, q7, q8, f36, q11, h_0, q12, q13, q19, q20, q21, f18, f15, f17, h⟩
        intro a35 w35 hI
        clear hA hB h q1 q5 q7 q8 q11 q12 q13 q19 q20 q21 q22 f15 f17 f18 f3 f36 h_0 h_1
        obtain ⟨O55, x52, u53, hA, hB, q1, h_1, q5, f3, q7, q8, f54, q11, h_0, q12, q13, q19, q20, q21, f18, f15, f17, h⟩ := hI
        unfold court_voices_j6 at h
        refine' rb [_, _] mixed hA hB hO (cn (fun hE hK => yP (kq hK q21) rfl) (cn (fun hE hK => zJ (ks 0 hK 34 rfl)) .nil)) ?zk17
        intro a36 w36 hA hE hB HF; refine kr9 HF q1 q5 q7 q8 q11 q12 q13 q19 q20 ?_; clear q1 q5 q7 q8 q11 q12 q13 q19 q20; intro q1 q5 q7 q8 q11 q12 q13 q19 q20; replace q21 := ksv (HF 21) rfl rfl rfl; clear HF; replace h_1 := vx h_1 hE; replace f3 := f3.ext hE; replace f54 := f54.ext hE; replace h_0 := vx h_0 hE; replace f18 := f18.ext hE; replace f15 := vx f15 hE; replace f17 := vx f17 hE; clear hE; refine zE (zB ?_)
        have h := hnext5 _ (Comp.run_pure h).symm
        refine ⟨m5, hlt5, ?_⟩
        exact ⟨_, _, _, _, hA, hB, q1, h_1, q5, f3, q7, q8, f54, q11, h_0, q12, q13, q19, q20, q21, f18, f15, f17, h⟩
       ·
        refine wp_exit (zT (zT (zw ?_)))
        have hd_ := hdone5 _ (Comp.run_pure h).symm; clear h
        subst hd_; have h := hk5; clear hk5; try dsimp only at h
        refine zB ?_
        obtain ⟨O61, hB', hX, f62⟩ := freezeL hO hB f36 (by decide)
        clear f36 hB; have hB := hB'; clear hB'; replace h_1 := vk h_1 hX
        replace f3 := f3.kx hX (by decide) (by decide)
        replace h_0 := vk h_0 hX
        replace f18 := f18.kx hX (by decide)
        replace f15 := vk f15 hX; replace f17 := vk f17 hX; clear hX
        exact ⟨_, _, _, hA, hB, q1, h_1, q5, f3, q8, f62, q11, h_0, q12, q13, h⟩
      intro a37 w37 hI
      clear hA hB h q1 q5 q7 q8 q11 q12 q13 f15 f17 f18 f3 h_0 h_1
      obtain ⟨O63, x58, u59, hA, hB, q1, h_1, q5, f3, q8, f60, q11, h_0, q12, q13, h⟩ := hI
      unfold court_voices_j4 at h
      refine' rbT [_, _, SP.vl zX O63 (court_voice.c102 x58), SP.vl (rSl zX) O63 [(court_voice.c102 x58)]] hA hB hO (mv q5 (mv q8 (.cons ?z18_2 (cn (fun hE hK => zP (r := zX) (fun _ => rfl) rfl (OkO.ext hB.ok hE) ty75 ty94 (zM rfl zh) ⟨(kp (SP.vl zX O63 (court_voice.c102 x58)) 2 hK 37 rfl), trivial⟩ rfl (by decide)) .nil)))) ?zk18
      case z18_2 => intro a' w' hE hK hg; refine yL (okl_mkIface ty102 rfl (ks 1 hK 36 rfl)) ?_; exact fun w_ v_ hE2_ h_ => by { replace h_ : v_ = _ := h_; subst h_; exact rIf_v.2 ⟨_, rfl, (vx (vx f60 hE) hE2_)⟩ }
      intro a38 w38 hA hE hB HF; refine kr5 HF q1 q5 q11 q12 q13 ?_; clear q1 q5 q11 q12 q13; intro q1 q5 q11 q12 q13; obtain ⟨u64, q38, f65⟩ := kx (HF 38) rfl rfl rfl; have q35 := ksv (HF 35) rfl rfl rfl; clear q8 HF; replace h_1 := vx h_1 hE; replace f3 := f3.ext hE; replace f60 := vx f60 hE; replace h_0 := vx h_0 hE; clear hE; obtain ⟨x66, hx66, h⟩ := Comp.run_bind h
      refine gQ (r := zX) (fun _ => rfl) rfl ty75 ty94 rfl (by decide) hO hB (yH hB) q35 f3 q38 (rd_of f65) hx66 (by decide) fun u67 w39 O68 f69 hB' hX => ?_
      clear hB; have hB := hB'; clear hB'; clear f3; replace h_1 := vk h_1 hX; replace h_0 := vk h_0 hX; replace f65 := vk f65 hX; clear hX
      refine zQ hA (by decide) fun a40 hA q_ hfr => ?_
      refine kd7 hfr q1 q5 q11 q12 q13 q35 q38 ?_; clear q1 q5 q11 q12 q13 q35 q38; intro q1 q5 q11 q12 q13 q35 q38; have q39 := q_; clear q_ hfr
      refine l_ok (φ := SP.isv (u67)) hO hB (by exact zC q39) rfl fun u_ w41 hE hB' hv_ => ?_
      replace hv_ := Eq.symm hv_; subst hv_; clear hB; have hB := hB'; clear hB'
      replace h_1 := vx h_1 hE; replace h_0 := vx h_0 hE; replace f69 := f69.ext hE; clear hE
      refine zQ hA (by decide) fun a42 hA q_ hfr => ?_
      replace q1 := (hfr 1 rfl).trans q1
      replace q11 := (hfr 11 rfl).trans q11
      replace q12 := (hfr 12 rfl).trans q12
      replace q13 := (hfr 13 rfl).trans q13
      replace q39 := (hfr 39 rfl).trans q39
      clear q5; have q5 := q_; clear q_ hfr; refine zE (zm (zm (zB ?_)))
      exact ⟨_, _, _, hA, hB, q1, h_1, q5, f69, q11, h_0, q12, q13, h⟩
   intro a43 w43 hI
   clear hA hB h q1 q5 q11 q12 q13 q14 f3 h_0 h_1
   obtain ⟨O70, x25, u26, hA, hB, q1, h_1, q5, f27, q11, h_0, q12, q13, h⟩ := hI
   unfold jk at h
   refine' rb [_, _] mixed hA hB hO (cn (fun hE hK => yP (kq hK q13) rfl) (cn (fun hE hK => zJ (ks 0 hK 60 rfl)) .nil)) ?zk19
   intro a44 w44 hA hE hB HF; refine kr4 HF q1 q5 q11 q12 ?_; clear q1 q5 q11 q12; intro q1 q5 q11 q12; replace q13 := ksv (HF 13) rfl rfl rfl; clear HF; replace h_1 := vx h_1 hE; replace f27 := f27.ext hE; replace h_0 := vx h_0 hE; clear hE; refine zE (zB ?_)
   have h := hnext2 _ (Comp.run_pure h).symm
   refine ⟨m2, hlt2, ?_⟩
   exact ⟨_, _, _, _, hA, hB, q1, h_1, q5, f27, q11, h_0, q12, q13, h⟩
  ·
   refine wp_exit (zT (zT (zw ?_)))
   have hd_ := hdone2 _ (Comp.run_pure h).symm; clear h
   subst hd_; have h := hk2; clear hk2; try dsimp only at h
   refine zB ?_
   exact ⟨_, _, _, hA, hB, q5, f3, h⟩
 intro a45 w45 hI
 clear hA hB h q0 q1 q5 h_0 h_1
 obtain ⟨O76, x73, u74, hA, hB, q5, f75, h⟩ := hI
 unfold court_voices_j1 at h; refine wp_seq ?_
 refine' rb [_, _] mixed hA hB hO (mv q5 (cn (fun hE hK => zC (ks 0 hK 61 rfl)) .nil)) ?zk20
 intro a46 w46 hA hE hB HF; have q4 := ksv (HF 4) rfl rfl rfl; clear q5 HF; replace f75 := f75.ext hE; clear hE; refine zE (zB (wp_ret ?_))
 have h := Comp.run_pure h; subst h
 exact zb Try.results41 hA q4 hB.ext (OwnL.res f75 (by decide) hB.zero)
theorem ok_court_cut_speak {O : Tags} {w0 : World} (hO : OkO O w0) {v_0 : Value} {x_0 : court_cut} (h_0 : vP.v O w0 v_0 x_0) {x_1 : Int} {b_2 : Nat} {x_2 : court_fate} (h_2 : BoxA je 92 O w0 b_2 x_2) {n : Nat} {y : court_fate} (h : (court_cut_speak x_0 x_1 x_2).run n = some y) : Calls Try.prog 115 #[v_0, .int .i64 x_1, .pointer (some ⟨b_2, 0, none⟩)] w0 (BioPost je 92 O w0 b_2 y (SP.unit)) := by
 unfold court_cut_speak at h
 refine bio_of_wp Try.func115 rfl 32 Try.ntmps115 (by simp) fun a0 hA hs0 => ?_
 have q0 : a0.get 0 = v_0 := hs0 0 _ rfl
 have q1 : a0.get 1 = .int .i64 x_1 := hs0 1 _ rfl
 have q2 : a0.get 2 = .pointer (some ⟨b_2, 0, none⟩) := hs0 2 _ rfl
 clear hs0
 obtain ⟨Oi_, cs_, hB, hb_, hr_, hk_⟩ := bioStart hO h_2
 replace h_0 := GR.zS _ h_0 hk_
 clear hk_ h_2
 replace hr_ : cs_ = [.bool x_2.solid_, .bool x_2.empty_, .bool x_2.taken_, .bool x_2.loose_, .bool x_2.there_, .bool x_2.gone_] := hr_; subst hr_
 refine wp_seq ?_
 refine' rb [SP.vl (rBox vP) Oi_ x_0] mixed hA hB hO (cn (fun hE hK => okl_boxV (r := vP) fit_court_cut (OkO.ext hB.ok hE) (kq hK q0) (vx h_0 hE)) .nil) ?zk1
 intro a1 w1 hA hE hB HF; replace q1 := kf HF q1; replace q2 := kf HF q2; obtain ⟨u1, q3, f2⟩ := kx (HF 3) rfl rfl rfl; clear q0 HF; replace h_0 := vx h_0 hE; replace hb_ := hb_.ext hE; clear hE; refine zE (zB (wp_seq ?_)); obtain ⟨x3, hx3, h⟩ := Comp.run_bind h
 refine' rbT [_, _, SP.isv (.pointer (some ⟨b_2, 0, none⟩)), SP.isv (.pointer (some ⟨b_2, 2, none⟩)), SP.isv (.bool x_2.taken_), _, SP.ptr (rSl (rInt .i64)) Oi_ x_0.sure_, SP.vl (rSl (rInt .i64)) Oi_ x_0.sure_, _, SP.isv (.bool x3), _, SP.isv (.pointer (some ⟨b_2, 0, none⟩)), SP.isv (.pointer (some ⟨b_2, 2, none⟩))] hA hB hO (mv q2 (mv q2 (cn (fun hE hK => jR (ks 1 hK 7 rfl)) (cn (fun hE hK => zO fl92_2 (ks 2 hK 8 rfl)) (cn (fun hE hK => zj ty4 rfl (ks 3 hK 9 rfl) (OwnB.ext hb_ hE).own rfl) (cn (fun hE hK => zJ (ks 4 hK 10 rfl)) (cn (fun hE hK => yN (S := vP) fit_court_cut rfl (fun _ => rfl) sb_court_cut_0 fl96_0 (kq hK q3) (vx f2 hE)) (.cons (fun _ _ hE hK hg => vC (r := (rSl (rInt .i64))) (fun _ => rfl) ty23 rfl rfl rfl (kspS (φ := SP.ptr (rSl (rInt .i64)) Oi_ x_0.sure_) (j := 6) (hK 12 rfl) rfl rfl hg)) (mv q1 (.cons (fun _ _ hE hK hg => zz fn57 rfl (kg 8 hK 14 rfl hg) (gb (OkO.ext hB.ok hE) (kspS (φ := SP.vl (rSl (rInt .i64)) Oi_ x_0.sure_) (j := 7) (hK 13 rfl) rfl rfl hg) (zr hx3 hg))) (cn (fun hE hK => zV (ks 5 hK 11 rfl) (fun _ => rfl) (fun hb => kg 9 hK 15 rfl (zf rfl rfl hb))) (cn (fun hE hK => jR (ks 0 hK 6 rfl)) (cn (fun hE hK => zO fl92_2 (ks 11 hK 17 rfl)) .nil))))))))))))) ?zk2
 intro a2 w2 hA hE hB HF; refine kr3 HF q1 q2 q3 ?_; clear q1 q2 q3; intro q1 q2 q3; have q16 := ksv (HF 16) rfl rfl rfl; have q18 := ksv (HF 18) rfl rfl rfl; clear HF; replace f2 := vx f2 hE; replace hb_ := hb_.ext hE; clear hE
 refine jb (cs' := #[.bool x_2.solid_, .bool x_2.empty_, .bool (bif x_2.taken_ then true else x3), .bool x_2.loose_, .bool x_2.there_, .bool x_2.gone_]) hO hB (okB_self hB) ty4 q18 q16 rfl rfl hb_ (by simp) rfl fun w3 f4 hB' hX => ?_
 clear hB hb_; have hB := hB'; clear hB'; replace f2 := vk f2 hX; clear hX; refine zE (zB ?_); obtain ⟨x5, hx5, h⟩ := Comp.run_bind h
 refine' rbT [_, _, SP.isv (.pointer (some ⟨b_2, 0, none⟩)), SP.isv (.pointer (some ⟨b_2, 3, none⟩)), SP.isv (.bool x_2.loose_), _, SP.ptr (rSl (rInt .i64)) Oi_ x_0.touched_, SP.vl (rSl (rInt .i64)) Oi_ x_0.touched_, _, SP.isv (.bool x5), _, SP.isv (.pointer (some ⟨b_2, 0, none⟩)), SP.isv (.pointer (some ⟨b_2, 3, none⟩))] hA hB hO (mv q2 (mv q2 (cn (fun hE hK => jR (ks 1 hK 20 rfl)) (cn (fun hE hK => zO fl92_3 (ks 2 hK 21 rfl)) (cn (fun hE hK => zj ty4 rfl (ks 3 hK 22 rfl) (OwnB.ext f4 hE).own rfl) (cn (fun hE hK => zJ (ks 4 hK 23 rfl)) (cn (fun hE hK => yN (S := vP) fit_court_cut rfl (fun _ => rfl) sb_court_cut_1 fl96_1 (kq hK q3) (vx f2 hE)) (.cons (fun _ _ hE hK hg => vC (r := (rSl (rInt .i64))) (fun _ => rfl) ty23 rfl rfl rfl (kspS (φ := SP.ptr (rSl (rInt .i64)) Oi_ x_0.touched_) (j := 6) (hK 25 rfl) rfl rfl hg)) (mv q1 (.cons (fun _ _ hE hK hg => zz fn57 rfl (kg 8 hK 27 rfl hg) (gb (OkO.ext hB.ok hE) (kspS (φ := SP.vl (rSl (rInt .i64)) Oi_ x_0.touched_) (j := 7) (hK 26 rfl) rfl rfl hg) (zr hx5 hg))) (cn (fun hE hK => zV (ks 5 hK 24 rfl) (fun _ => rfl) (fun hb => kg 9 hK 28 rfl (zf rfl rfl hb))) (cn (fun hE hK => jR (ks 0 hK 19 rfl)) (cn (fun hE hK => zO fl92_3 (ks 11 hK 30 rfl)) .nil))))))))))))) ?zk3
 intro a4 w4 hA hE hB HF; have q29 := ksv (HF 29) rfl rfl rfl; have q31 := ksv (HF 31) rfl rfl rfl; clear q1 q2 q3 HF; replace f2 := vx f2 hE; replace f4 := f4.ext hE; clear hE
 refine jb (cs' := #[.bool x_2.solid_, .bool x_2.empty_, .bool (bif x_2.taken_ then true else x3), .bool (bif x_2.loose_ then true else x5), .bool x_2.there_, .bool x_2.gone_]) hO hB (okB_self hB) ty4 q31 q29 rfl rfl f4 (by simp) rfl fun w5 f6 hB' hX => ?_
 clear hB f4; have hB := hB'; clear hB'; clear hX; refine zE ?_
 have h := Comp.run_pure h; subst h
 exact retG0n Try.results115 hA  (bioEnd hB f6 rfl trivial)
theorem ok_court_blank_speak {O : Tags} {w0 : World} (hO : OkO O w0) {v_0 : Value} {x_0 : court_blank} (h_0 : r_court_blank.v O w0 v_0 x_0) {x_1 : Int} {b_2 : Nat} {x_2 : court_fate} (h_2 : BoxA je 92 O w0 b_2 x_2) {n : Nat} {y : court_fate} (h : (court_blank_speak x_0 x_1 x_2).run n = some y) : Calls Try.prog 116 #[v_0, .int .i64 x_1, .pointer (some ⟨b_2, 0, none⟩)] w0 (BioPost je 92 O w0 b_2 y (SP.unit)) := by
 unfold court_blank_speak at h
 refine bio_of_wp Try.func116 rfl 16 Try.ntmps116 (by simp) fun a0 hA hs0 => ?_
 have q0 : a0.get 0 = v_0 := hs0 0 _ rfl
 have q1 : a0.get 1 = .int .i64 x_1 := hs0 1 _ rfl
 have q2 : a0.get 2 = .pointer (some ⟨b_2, 0, none⟩) := hs0 2 _ rfl
 clear hs0
 obtain ⟨Oi_, cs_, hB, hb_, hr_, hk_⟩ := bioStart hO h_2
 replace h_0 := GR.zS _ h_0 hk_
 clear hk_ h_2
 replace hr_ : cs_ = [.bool x_2.solid_, .bool x_2.empty_, .bool x_2.taken_, .bool x_2.loose_, .bool x_2.there_, .bool x_2.gone_] := hr_; subst hr_
 refine wp_seq ?_
 refine' rb [SP.vl (rBox r_court_blank) Oi_ x_0] mixed hA hB hO (cn (fun hE hK => okl_boxV (r := r_court_blank) fit_court_blank (OkO.ext hB.ok hE) (kq hK q0) (vx h_0 hE)) .nil) ?zk1
 intro a1 w1 hA hE hB HF; replace q1 := kf HF q1; replace q2 := kf HF q2; obtain ⟨u1, q3, f2⟩ := kx (HF 3) rfl rfl rfl; clear q0 HF; replace h_0 := vx h_0 hE; replace hb_ := hb_.ext hE; clear hE; refine zE (zB (wp_seq ?_)); obtain ⟨x3, hx3, h⟩ := Comp.run_bind h
 refine' rb [SP.ptr (rSl (rInt .i64)) Oi_ x_0.cells_, SP.vl (rSl (rInt .i64)) Oi_ x_0.cells_, _, SP.isv (.bool x3)] mixed hA hB hO (cn (fun hE hK => yN (S := r_court_blank) fit_court_blank rfl (fun _ => rfl) sb_court_blank_0 fl101_0 (kq hK q3) (vx f2 hE)) (cn (fun hE hK => vC (r := (rSl (rInt .i64))) (fun _ => rfl) ty23 rfl rfl rfl (kp (SP.ptr (rSl (rInt .i64)) Oi_ x_0.cells_) 0 hK 6 rfl)) (mv q1 (cn (fun hE hK => zz fn57 rfl (ks 2 hK 8 rfl) (gb (OkO.ext hB.ok hE) (kp (SP.vl (rSl (rInt .i64)) Oi_ x_0.cells_) 1 hK 7 rfl) hx3)) .nil)))) ?zk2
 intro a2 w2 hA hE hB HF; replace q2 := kf HF q2; have q9 := ksv (HF 9) rfl rfl rfl; clear q1 q3 HF; replace f2 := vx f2 hE; replace hb_ := hb_.ext hE; clear hE; refine zE (zB ?_)
 revert h; refine cnd q9 (fun h => ?_) (fun h => ?_)
 ·
  refine' rbT [_, SP.isv (.pointer (some ⟨b_2, 0, none⟩)), SP.isv (.pointer (some ⟨b_2, 1, none⟩))] hA hB hO (mv q2 (cn (fun hE hK => jR (ks 0 hK 10 rfl)) (cn (fun hE hK => zO fl92_1 (ks 1 hK 11 rfl)) .nil))) ?zk3
  intro a3 w3 hA hE hB HF; have q12 := ksv (HF 12) rfl rfl rfl; clear q2 q9 HF; replace hb_ := hb_.ext hE; clear hE
  refine jb (cs' := #[.bool x_2.solid_, .bool false, .bool x_2.taken_, .bool x_2.loose_, .bool x_2.there_, .bool x_2.gone_]) hO hB (okB_self hB) ty4 q12 rfl rfl rfl hb_ (by simp) rfl fun w4 f4 hB' hX => ?_
  clear hB hb_; have hB := hB'; clear hB'; clear hX; refine zE ?_
  have h := Comp.run_pure h; subst h
  exact retG0n Try.results116 hA  (bioEnd hB f4 rfl trivial)
 ·
  refine' rbT [_, SP.isv (.pointer (some ⟨b_2, 0, none⟩)), SP.isv (.pointer (some ⟨b_2, 0, none⟩))] hA hB hO (mv q2 (cn (fun hE hK => jR (ks 0 hK 13 rfl)) (cn (fun hE hK => zO fl92_0 (ks 1 hK 14 rfl)) .nil))) ?zk4
  intro a5 w5 hA hE hB HF; have q15 := ksv (HF 15) rfl rfl rfl; clear q2 q9 HF; replace hb_ := hb_.ext hE; clear hE
  refine jb (cs' := #[.bool false, .bool x_2.empty_, .bool x_2.taken_, .bool x_2.loose_, .bool x_2.there_, .bool x_2.gone_]) hO hB (okB_self hB) ty4 q15 rfl rfl rfl hb_ (by simp) rfl fun w6 f5 hB' hX => ?_
  clear hB hb_; have hB := hB'; clear hB'; clear hX; refine zE ?_
  have h := Comp.run_pure h; subst h
  exact retG0n Try.results116 hA  (bioEnd hB f5 rfl trivial)
end Go.Proofs.Ytebmpjdegajhgaa
end
section
namespace Go.Proofs.Ytebmpjdegajhgaa
open Go Go.RowKit Go.Eng Go.Lift Go.F
set_option linter.unusedVariables false
set_option linter.unusedSimpArgs false
set_option maxRecDepth 100000
theorem ok_court_gauge_speak {O : Tags} {w0 : World} (hO : OkO O w0) {v_0 : Value} {x_0 : List api_Sight} (h_0 : (rSl zD).v O w0 v_0 x_0) {x_1 : Int} {b_2 : Nat} {x_2 : court_fate} (h_2 : BoxA je 92 O w0 b_2 x_2) {n : Nat} {y : court_fate} (h : (gj x_0 x_1 x_2).run n = some y) : Calls Try.prog 117 #[v_0, .int .i64 x_1, .pointer (some ⟨b_2, 0, none⟩)] w0 (BioPost je 92 O w0 b_2 y (SP.unit)) := by
 unfold gj at h
 refine bio_of_wp Try.func117 rfl 42 Try.ntmps117 (by simp) fun a0 hA hs0 => ?_
 have q0 : a0.get 0 = v_0 := hs0 0 _ rfl
 have q1 : a0.get 1 = .int .i64 x_1 := hs0 1 _ rfl
 have q2 : a0.get 2 = .pointer (some ⟨b_2, 0, none⟩) := hs0 2 _ rfl
 clear hs0
 obtain ⟨Oi_, cs_, hB, hb_, hr_, hk_⟩ := bioStart hO h_2
 replace h_0 := GR.zS _ h_0 hk_
 clear hk_ h_2
 replace hr_ : cs_ = [.bool x_2.solid_, .bool x_2.empty_, .bool x_2.taken_, .bool x_2.loose_, .bool x_2.there_, .bool x_2.gone_] := hr_; subst hr_
 refine wp_seq ?_
 refine' rb [_, _, _] mixed hA hB hO (mv q0 (cn (fun hE hK => zg (r := zD) ty102 (ks 0 hK 8 rfl) (rd_of (vx h_0 hE))) (cn (fun hE hK => zJ rfl) .nil))) ?zk1
 intro a1 w1 hA hE hB HF; replace q1 := kf HF q1; replace q2 := kf HF q2; have q8 := ksv (HF 8) rfl rfl rfl; have q9 := ksv (HF 9) rfl rfl rfl; have q10 := ksv (HF 10) rfl rfl rfl; clear q0 HF; replace h_0 := vx h_0 hE; replace hb_ := hb_.ext hE; clear hE; refine zE (zB (wp_block ?_))
 obtain ⟨e1, he1, hk1⟩ := Comp.run_bind h; clear h
 refine yt (fun m a w => ∃ (O3 : Tags) (x1 : Int) (x2 : court_fate), a.fit 42 ∧ Base (FrB w0 b_2) O w0 O3 w ∧ a.get 1 = .int .i64 x_1 ∧ a.get 2 = .pointer (some ⟨b_2, 0, none⟩) ∧ a.get 8 = v_0 ∧ (rSl zD).v O3 w v_0 x_0 ∧ a.get 9 = .int .i64 (x_0.length : Int) ∧ a.get 10 = .int .i64 x1 ∧ OwnB 1 (FrB w0 b_2) O3 w b_2 #[.bool x2.solid_, .bool x2.empty_, .bool x2.taken_, .bool x2.loose_, .bool x2.there_, .bool x2.gone_] 92 ∧ Comp.loopN (fun s => vM x_0 x_1 s.1 s.2) n m (x1, x2) = some e1) (m := n) ?st1 ?_
 case st1 =>
  exact ⟨_, _, _, hA, hB, q1, q2, q8, h_0, q9, q10, hb_, Comp.zk he1⟩
 intro m_ a2 w2 hI
 clear hA hB he1 q1 q2 q8 q9 q10 h_0 hb_
 obtain ⟨O3, x1, x2, hA, hB, q1, q2, q8, h_0, q9, q10, hb_, hl⟩ := hI
 obtain ⟨m1, hlt1, st1, h, hnext1, hdone1⟩ := Comp.zZ hl; clear hl
 replace h : (vM x_0 x_1 x1 x2).run n = some st1 := h
 unfold vM at h; refine wp_seq ?_
 refine' rb [_] mixed hA hB hO (cn (fun hE hK => zy (kq hK q10) (kq hK q9)) .nil) ?zk2
 intro a3 w3 hA hE hB HF; refine kr5 HF q1 q2 q8 q9 q10 ?_; clear q1 q2 q8 q9 q10; intro q1 q2 q8 q9 q10; have q11 := ksv (HF 11) rfl rfl rfl; clear HF; replace h_0 := vx h_0 hE; replace hb_ := hb_.ext hE; clear hE; refine zE (zB (wp_seq ?_))
 revert h; refine cnd q11 (fun h => ?_) (fun h => ?_)
 ·
  refine wp_skip (zB ?_)
  refine zY (fun a w => ∃ (O19 : Tags) (x13 : Bool) (x14 : Bool) (x15 : Bool) (x16 : Bool) (x17 : Bool) (x18 : Bool), a.fit 42 ∧ Base (FrB w0 b_2) O w0 O19 w ∧ a.get 1 = .int .i64 x_1 ∧ a.get 2 = .pointer (some ⟨b_2, 0, none⟩) ∧ a.get 8 = v_0 ∧ (rSl zD).v O19 w v_0 x_0 ∧ a.get 9 = .int .i64 (x_0.length : Int) ∧ a.get 10 = .int .i64 x1 ∧ OwnB 1 (FrB w0 b_2) O19 w b_2 #[.bool x13, .bool x14, .bool x15, .bool x16, .bool x17, .bool x18] 92 ∧ (jS x1 x13 x14 x15 x16 x17 x18).run n = some st1) ?_ ?_
  ·
   refine wp_block (wp_seq ?_); obtain ⟨x4, hx4, h⟩ := Comp.run_bind h
   refine' rgT [SP.ptr zD O3 x4, SP.isv (.agg #[.int .i64 x4.Gauge, .int .i64 x4.Cell, .bool x4.There]), SP.box w3.heap.size #[.int .i64 0, .int .i64 0, .bool false] 64] hA (cn (fun hE hK => zp (r := zD) (O := O3) ty102 ty64 rfl (kq hK q8) (rd_of (vx h_0 hE)) (kq hK q10) hx4) (cn (fun hE hK => za zD yv ty64 rfl rfl rfl (kp (SP.ptr zD O3 x4) 0 hK 12 rfl) (fun _ _ _ h => rC_v.1 h)) (cn (fun hE hK => jr hE.size ty64) .nil))) ?zk3
   intro a4 w4 hA hE HF; refine kr5 HF q1 q2 q8 q9 q10 ?_; clear q1 q2 q8 q9 q10; intro q1 q2 q8 q9 q10; obtain ⟨u5, q7, f6⟩ := kx (HF 7) rfl rfl rfl; have q13 := ksv (HF 13) rfl rfl rfl; clear q11 HF
   obtain ⟨O7, b8, hB', hX, e_, f9⟩ := boxNew hO hB hE f6 2 (by decide)
   subst e_
   clear hB f6; have hB := hB'; clear hB'; replace h_0 := vk h_0 hX
   replace hb_ := hb_.kx hX (by decide)
   clear hX hE
   refine jB (vs := [.int .i64 x4.Gauge, .int .i64 x4.Cell, .bool x4.There]) (cs' := #[.int .i64 x4.Gauge, .int .i64 x4.Cell, .bool x4.There]) hO hB (yH hB) ty64 q7 q13 rfl (by simp [Value.oneCell']) f9 (by simp) rfl fun w5 f10 hB' hX => ?_
   clear hB f9; have hB := hB'; clear hB'; replace h_0 := vk h_0 hX
   replace hb_ := hb_.kx hX (by decide)
   clear hX; refine zE (zB (wp_seq ?_))
   refine' rb [SP.isv (.pointer (some ⟨b8, 1, none⟩)), SP.isv (.int .i64 x4.Cell), _, _] mixed hA hB hO (cn (fun hE hK => zO fl64_1 (kq hK q7)) (cn (fun hE hK => zj ty3 rfl (ks 0 hK 14 rfl) (OwnB.ext f10 hE).own rfl) (mv q1 (cn (fun hE hK => yO (ks 1 hK 15 rfl) (ks 2 hK 16 rfl)) .nil)))) ?zk4
   intro a6 w6 hA hE hB HF; refine kr6 HF q1 q2 q7 q8 q9 q10 ?_; clear q1 q2 q7 q8 q9 q10; intro q1 q2 q7 q8 q9 q10; have q17 := ksv (HF 17) rfl rfl rfl; clear HF; replace h_0 := vx h_0 hE; replace hb_ := hb_.ext hE; replace f10 := f10.ext hE; clear hE; refine zE (zB ?_)
   revert h; refine cnd q17 (fun h => ?_) (fun h => ?_)
   ·
    obtain ⟨J_, eJ_⟩ : ∃ J_ : (Nat → Bool) → Act → World → Prop, J_ = (fun S_ a_ w_ => ∃ O_ : Tags, Base (FrB w0 b_2) O w0 O_ w_ ∧ Keep 0 O7 w6 O_ w_ ∧ Keep 2 O7 w6 O_ w_ ∧ (S_ 21 = false → OwnB 1 (FrB w0 b_2) O_ w_ b_2 #[.bool x2.solid_, .bool x2.empty_, .bool x2.taken_, .bool x2.loose_, .bool x2.there_, .bool x2.gone_] 92) ∧ (S_ 21 = true → S_ 24 = false → OwnB 1 (FrB w0 b_2) O_ w_ b_2 #[.bool x2.solid_, .bool x2.empty_, .bool x2.taken_, .bool x2.loose_, .bool (bif x2.there_ then true else x4.There), .bool x2.gone_] 92) ∧ (S_ 24 = true → OwnB 1 (FrB w0 b_2) O_ w_ b_2 #[.bool x2.solid_, .bool x2.empty_, .bool x2.taken_, .bool x2.loose_, .bool (bif x2.there_ then true else x4.There), .bool (bif x2.gone_ then true else (!x4.There))] 92)) := ⟨_, rfl⟩
    have T_ : ∀ {i_ : Nat} {d_ : Option Tmp} {v_ : Value} {S_ a' w' w2}, Nat.beq 21 i_ = false → Nat.beq 24 i_ = false → Ext w' w2 → J_ S_ a' w' → J_ (addS S_ i_) (a'.put d_ v_) w2 := by
     subst eJ_; intro i_ d_ v_ S_ a' w' w2 n21_ n24_ hE hJ_
     obtain ⟨O_, hB_, k0_, kk1_, v0_0_, v0_1_, v0_2_⟩ := hJ_
     exact ⟨O_, (Base.step hB_ hE hO), (k0_.trans (KX.keep (KX.ext hE) (by decide))), (kk1_.trans (KX.keep (KX.ext hE) (by decide))), fun hq_ => OwnB.kx (v0_0_ (zd hq_)) (KX.ext hE) (by decide), fun hp_ hq_ => OwnB.kx (v0_1_ (zF n21_ hp_) (zd hq_)) (KX.ext hE) (by decide), fun hp_ => OwnB.kx (v0_2_ (zF n24_ hp_)) (KX.ext hE) (by decide)⟩
    refine' regionX (draw := true) J_ [SP.isv (.pointer (some ⟨b_2, 0, none⟩)), SP.isv (.pointer (some ⟨b_2, 0, none⟩)), SP.isv (.pointer (some ⟨b_2, 0, none⟩)), SP.isv (.pointer (some ⟨b_2, 0, none⟩)), SP.isv (.pointer (some ⟨b_2, 4, none⟩)), SP.isv (.bool x2.there_), SP.isv (.bool x2.there_), SP.isv (.pointer (some ⟨b8, 2, none⟩)), SP.isv (.bool x4.There), SP.isv (.bool (bif x2.there_ then true else x4.There)), SP.isv (.pointer (some ⟨b_2, 0, none⟩)), SP.isv (.pointer (some ⟨b_2, 0, none⟩)), SP.isv (.pointer (some ⟨b_2, 5, none⟩)), SP.isv (.bool x2.gone_), SP.isv (.bool x2.gone_), SP.isv (.pointer (some ⟨b8, 2, none⟩)), SP.isv (.bool x4.There), SP.isv (.bool (!x4.There)), SP.isv (.bool (bif x2.gone_ then true else (!x4.There))), SP.isv (.pointer (some ⟨b_2, 0, none⟩)), SP.isv (.pointer (some ⟨b_2, 4, none⟩)), SP.tt, SP.isv (.pointer (some ⟨b_2, 0, none⟩)), SP.isv (.pointer (some ⟨b_2, 5, none⟩)), SP.tt] mixed hA (.cons (zi _) (.cons (zi _) (.cons (zi _) (.cons (zi _) (.cons (zi _) (.cons (zi _) (.cons (zi _) (.cons (zi _) (.cons (zi _) (.cons (zi _) (.cons (zi _) (.cons (zi _) (.cons (zi _) (.cons (zi _) (.cons (zi _) (.cons (zi _) (.cons (zi _) (.cons (zi _) (.cons (zi _) (.cons (zi _) (.cons (zi _) (.cons (gZ _) (.cons (zi _) (.cons (zi _) (.cons (gZ _) .nil))))))))))))))))))))))))) (.cons ?z5_0 (.cons ?z5_1 (.cons ?z5_2 (.cons ?z5_3 (.cons ?z5_4 (.cons ?z5_5 (.cons ?z5_6 (.cons ?z5_7 (.cons ?z5_8 (.cons ?z5_9 (.cons ?z5_10 (.cons ?z5_11 (.cons ?z5_12 (.cons ?z5_13 (.cons ?z5_14 (.cons ?z5_15 (.cons ?z5_16 (.cons ?z5_17 (.cons ?z5_18 (.cons ?z5_19 (.cons ?z5_20 (.cons ?z5_21 (.cons ?z5_22 (.cons ?z5_23 (.cons ?z5_24 .nil))))))))))))))))))))))))) ?zsk5 ?zst5 ?zok5 ?zgd5 ?zk5
    case z5_0 =>
     intro S_ a' w' hA_ hJ_ hS_ hafter_ hbef_ hK hg K_ Q_ hK_
     refine x_ok (φ := SP.isv (.pointer (some ⟨b_2, 0, none⟩))) (by exact zJ (kq hK q2)) fun v_ w2 hE hv_ => hK_ v_ w2 (T_ rfl rfl hE hJ_) hv_
    case z5_1 =>
     intro S_ a' w' hA_ hJ_ hS_ hafter_ hbef_ hK hg K_ Q_ hK_
     refine x_ok (φ := SP.isv (.pointer (some ⟨b_2, 0, none⟩))) (by exact zJ (kq hK q2)) fun v_ w2 hE hv_ => hK_ v_ w2 (T_ rfl rfl hE hJ_) hv_
    case z5_2 =>
     intro S_ a' w' hA_ hJ_ hS_ hafter_ hbef_ hK hg K_ Q_ hK_
     refine x_ok (φ := SP.isv (.pointer (some ⟨b_2, 0, none⟩))) (by exact zJ (kq hK q2)) fun v_ w2 hE hv_ => hK_ v_ w2 (T_ rfl rfl hE hJ_) hv_
    case z5_3 =>
     intro S_ a' w' hA_ hJ_ hS_ hafter_ hbef_ hK hg K_ Q_ hK_
     refine x_ok (φ := SP.isv (.pointer (some ⟨b_2, 0, none⟩))) (by exact jR (ks 2 hK 20 rfl)) fun v_ w2 hE hv_ => hK_ v_ w2 (T_ rfl rfl hE hJ_) hv_
    case z5_4 =>
     intro S_ a' w' hA_ hJ_ hS_ hafter_ hbef_ hK hg K_ Q_ hK_
     refine x_ok (φ := SP.isv (.pointer (some ⟨b_2, 4, none⟩))) (by exact zO fl92_4 (ks 3 hK 21 rfl)) fun v_ w2 hE hv_ => hK_ v_ w2 (T_ rfl rfl hE hJ_) hv_
    case z5_5 =>
     intro S_ a' w' hA_ hJ_ hS_ hafter_ hbef_ hK hg K_ Q_ hK_
     have hJ2_ := hJ_; rw [eJ_] at hJ2_; obtain ⟨O_, hB_, k0_, kk1_, v0_0_, v0_1_, v0_2_⟩ := hJ2_
     refine x_ok (φ := SP.isv (.bool x2.there_)) (by exact zj ty4 rfl (ks 4 hK 22 rfl) (v0_0_ (hafter_ 21 (by kernel_rfl))).own rfl) fun v_ w2 hE hv_ => hK_ v_ w2 (T_ rfl rfl hE hJ_) hv_
    case z5_6 =>
     intro S_ a' w' hA_ hJ_ hS_ hafter_ hbef_ hK hg K_ Q_ hK_
     refine x_ok (φ := SP.isv (.bool x2.there_)) (by exact zJ (ks 5 hK 23 rfl)) fun v_ w2 hE hv_ => hK_ v_ w2 (T_ rfl rfl hE hJ_) hv_
    case z5_7 =>
     intro S_ a' w' hA_ hJ_ hS_ hafter_ hbef_ hK hg K_ Q_ hK_
     refine x_ok (φ := SP.isv (.pointer (some ⟨b8, 2, none⟩))) (by exact zO fl64_2 (kq hK q7)) fun v_ w2 hE hv_ => hK_ v_ w2 (T_ rfl rfl hE hJ_) hv_
    case z5_8 =>
     intro S_ a' w' hA_ hJ_ hS_ hafter_ hbef_ hK hg K_ Q_ hK_
     have hJ2_ := hJ_; rw [eJ_] at hJ2_; obtain ⟨O_, hB_, k0_, kk1_, v0_0_, v0_1_, v0_2_⟩ := hJ2_
     refine x_ok (φ := SP.isv (.bool x4.There)) (by exact zj ty4 rfl (kg 7 hK 25 rfl hg) (OwnB.keep f10 kk1_).own rfl) fun v_ w2 hE hv_ => hK_ v_ w2 (T_ rfl rfl hE hJ_) hv_
    case z5_9 =>
     intro S_ a' w' hA_ hJ_ hS_ hafter_ hbef_ hK hg K_ Q_ hK_
     refine x_ok (φ := SP.isv (.bool (bif x2.there_ then true else x4.There))) (by exact zV (ks 6 hK 24 rfl) (fun _ => rfl) (fun hb => kg 8 hK 26 rfl (zf rfl rfl hb))) fun v_ w2 hE hv_ => hK_ v_ w2 (T_ rfl rfl hE hJ_) hv_
    case z5_10 =>
     intro S_ a' w' hA_ hJ_ hS_ hafter_ hbef_ hK hg K_ Q_ hK_
     refine x_ok (φ := SP.isv (.pointer (some ⟨b_2, 0, none⟩))) (by exact zJ (kq hK q2)) fun v_ w2 hE hv_ => hK_ v_ w2 (T_ rfl rfl hE hJ_) hv_
    case z5_11 =>
     intro S_ a' w' hA_ hJ_ hS_ hafter_ hbef_ hK hg K_ Q_ hK_
     refine x_ok (φ := SP.isv (.pointer (some ⟨b_2, 0, none⟩))) (by exact jR (ks 10 hK 28 rfl)) fun v_ w2 hE hv_ => hK_ v_ w2 (T_ rfl rfl hE hJ_) hv_
    case z5_12 =>
     intro S_ a' w' hA_ hJ_ hS_ hafter_ hbef_ hK hg K_ Q_ hK_
     refine x_ok (φ := SP.isv (.pointer (some ⟨b_2, 5, none⟩))) (by exact zO fl92_5 (ks 11 hK 29 rfl)) fun v_ w2 hE hv_ => hK_ v_ w2 (T_ rfl rfl hE hJ_) hv_
    case z5_13 =>
     intro S_ a' w' hA_ hJ_ hS_ hafter_ hbef_ hK hg K_ Q_ hK_
     have hJ2_ := hJ_; rw [eJ_] at hJ2_; obtain ⟨O_, hB_, k0_, kk1_, v0_0_, v0_1_, v0_2_⟩ := hJ2_
     refine x_ok (φ := SP.isv (.bool x2.gone_)) (by exact zj ty4 rfl (ks 12 hK 30 rfl) (v0_0_ (hafter_ 21 (by kernel_rfl))).own rfl) fun v_ w2 hE hv_ => hK_ v_ w2 (T_ rfl rfl hE hJ_) hv_
    case z5_14 =>
     intro S_ a' w' hA_ hJ_ hS_ hafter_ hbef_ hK hg K_ Q_ hK_
     refine x_ok (φ := SP.isv (.bool x2.gone_)) (by exact zJ (ks 13 hK 31 rfl)) fun v_ w2 hE hv_ => hK_ v_ w2 (T_ rfl rfl hE hJ_) hv_
    case z5_15 =>
     intro S_ a' w' hA_ hJ_ hS_ hafter_ hbef_ hK hg K_ Q_ hK_
     refine x_ok (φ := SP.isv (.pointer (some ⟨b8, 2, none⟩))) (by exact zO fl64_2 (kq hK q7)) fun v_ w2 hE hv_ => hK_ v_ w2 (T_ rfl rfl hE hJ_) hv_
    case z5_16 =>
     intro S_ a' w' hA_ hJ_ hS_ hafter_ hbef_ hK hg K_ Q_ hK_
     have hJ2_ := hJ_; rw [eJ_] at hJ2_; obtain ⟨O_, hB_, k0_, kk1_, v0_0_, v0_1_, v0_2_⟩ := hJ2_
     refine x_ok (φ := SP.isv (.bool x4.There)) (by exact zj ty4 rfl (kg 15 hK 33 rfl hg) (OwnB.keep f10 kk1_).own rfl) fun v_ w2 hE hv_ => hK_ v_ w2 (T_ rfl rfl hE hJ_) hv_
    case z5_17 =>
     intro S_ a' w' hA_ hJ_ hS_ hafter_ hbef_ hK hg K_ Q_ hK_
     refine x_ok (φ := SP.isv (.bool (!x4.There))) (by exact jz (kg 16 hK 34 rfl hg)) fun v_ w2 hE hv_ => hK_ v_ w2 (T_ rfl rfl hE hJ_) hv_
    case z5_18 =>
     intro S_ a' w' hA_ hJ_ hS_ hafter_ hbef_ hK hg K_ Q_ hK_
     refine x_ok (φ := SP.isv (.bool (bif x2.gone_ then true else (!x4.There)))) (by exact zV (ks 14 hK 32 rfl) (fun _ => rfl) (fun hb => kg 17 hK 35 rfl (zf rfl rfl hb))) fun v_ w2 hE hv_ => hK_ v_ w2 (T_ rfl rfl hE hJ_) hv_
    case z5_19 =>
     intro S_ a' w' hA_ hJ_ hS_ hafter_ hbef_ hK hg K_ Q_ hK_
     refine x_ok (φ := SP.isv (.pointer (some ⟨b_2, 0, none⟩))) (by exact jR (ks 0 hK 18 rfl)) fun v_ w2 hE hv_ => hK_ v_ w2 (T_ rfl rfl hE hJ_) hv_
    case z5_20 =>
     intro S_ a' w' hA_ hJ_ hS_ hafter_ hbef_ hK hg K_ Q_ hK_
     refine x_ok (φ := SP.isv (.pointer (some ⟨b_2, 4, none⟩))) (by exact zO fl92_4 (ks 19 hK 37 rfl)) fun v_ w2 hE hv_ => hK_ v_ w2 (T_ rfl rfl hE hJ_) hv_
    case z5_21 =>
     intro S_ a' w' hA_ hJ_ hS_ hafter_ hbef_ hK hg K_ Q_ hK_
     subst eJ_
     obtain ⟨O_, hB_, k0_, kk1_, v0_0_, v0_1_, v0_2_⟩ := hJ_
     refine x_store1 (cs' := #[.bool x2.solid_, .bool x2.empty_, .bool x2.taken_, .bool x2.loose_, .bool (bif x2.there_ then true else x4.There), .bool x2.gone_]) hO hB_ (okB_self hB_) ty4 (ks 20 hK 38 rfl) (ks 9 hK 27 rfl) rfl rfl (v0_0_ hS_) (by simp) rfl fun w2 f_ hB2_ hX_ => ?_
     exact hK_ undef w2 ⟨O_, hB2_, (k0_.trans (KX.keep hX_ (by decide))), (kk1_.trans (KX.keep hX_ (by decide))), fun hq_ => addS_me hq_, fun hp_ hq_ => f_, fun hp_ => no_tf (zF rfl hp_) (hafter_ 24 (by kernel_rfl))⟩ trivial
    case z5_22 =>
     intro S_ a' w' hA_ hJ_ hS_ hafter_ hbef_ hK hg K_ Q_ hK_
     refine x_ok (φ := SP.isv (.pointer (some ⟨b_2, 0, none⟩))) (by exact jR (ks 1 hK 19 rfl)) fun v_ w2 hE hv_ => hK_ v_ w2 (T_ rfl rfl hE hJ_) hv_
    case z5_23 =>
     intro S_ a' w' hA_ hJ_ hS_ hafter_ hbef_ hK hg K_ Q_ hK_
     refine x_ok (φ := SP.isv (.pointer (some ⟨b_2, 5, none⟩))) (by exact zO fl92_5 (ks 22 hK 39 rfl)) fun v_ w2 hE hv_ => hK_ v_ w2 (T_ rfl rfl hE hJ_) hv_
    case z5_24 =>
     intro S_ a' w' hA_ hJ_ hS_ hafter_ hbef_ hK hg K_ Q_ hK_
     subst eJ_
     obtain ⟨O_, hB_, k0_, kk1_, v0_0_, v0_1_, v0_2_⟩ := hJ_
     refine x_store1 (cs' := #[.bool x2.solid_, .bool x2.empty_, .bool x2.taken_, .bool x2.loose_, .bool (bif x2.there_ then true else x4.There), .bool (bif x2.gone_ then true else (!x4.There))]) hO hB_ (okB_self hB_) ty4 (ks 23 hK 40 rfl) (ks 18 hK 36 rfl) rfl rfl (v0_1_ (zF rfl (hbef_ 21 (by kernel_rfl))) hS_) (by simp) rfl fun w2 f_ hB2_ hX_ => ?_
     exact hK_ undef w2 ⟨O_, hB2_, (k0_.trans (KX.keep hX_ (by decide))), (kk1_.trans (KX.keep hX_ (by decide))), fun hq_ => no_tf (hbef_ 21 (by kernel_rfl)) hq_, fun hp_ hq_ => addS_me hq_, fun hp_ => f_⟩ trivial
    case zsk5 =>
     subst eJ_
     intro i_ o_ S_ a_ w_ ho_ hact_ hA_ hS_ hbef_ hJ_
     obtain ⟨O_, hB_, k0_, kk1_, v0_0_, v0_1_, v0_2_⟩ := hJ_
     exact ⟨O_, hB_, k0_, kk1_, fun hq_ => (v0_0_ (zd hq_)), fun hp_ hq_ => by obtain ⟨h1_, h2_⟩ := yG (j := 21) hact_ rfl hp_; exact (v0_1_ h1_ (zd hq_)), fun hp_ => by obtain ⟨h1_, h2_⟩ := yG (j := 24) hact_ rfl hp_; exact (v0_2_ h1_)⟩
    case zst5 => subst eJ_; exact fun w1_ hE_ => ⟨O7, (Base.step hB hE_ hO), (Keep.ext hE_), (Keep.ext hE_), fun _ => OwnB.ext hb_ hE_, fun hp_ => no_ft hp_, fun hp_ => no_ft hp_⟩
    case zok5 | zgd5 => kernel_rfl
    subst eJ_; clear T_
    intro a7 w7 hA HF hJ_
    obtain ⟨O11, hB_, k0_, kk1_, v0_0_, v0_1_, v0_2_⟩ := hJ_
    replace q1 := kn (HF 1) rfl q1
    replace q2 := kn (HF 2) rfl q2
    replace q8 := kn (HF 8) rfl q8
    replace q9 := kn (HF 9) rfl q9
    replace q10 := kn (HF 10) rfl q10
    clear q7; clear q17; clear HF
    replace h_0 := GR.zS _ h_0 k0_
    replace f10 := OwnB.keep f10 kk1_
    have f12 := (v0_2_ rfl)
    clear hb_; clear hB; have hB := hB_; clear hB_; clear k0_ kk1_ v0_0_ v0_1_ v0_2_; refine zm (zB ?_)
    exact ⟨_, _, _, _, _, _, _, hA, hB, q1, q2, q8, h_0, q9, q10, f12, h⟩
   ·
    refine wp_skip (zm (zB ?_))
    exact ⟨_, _, _, _, _, _, _, hA, hB, q1, q2, q8, h_0, q9, q10, hb_, h⟩
  intro a8 w8 hI
  clear hA hB h q1 q2 q8 q9 q10 q11 h_0 hb_
  obtain ⟨O19, x13, x14, x15, x16, x17, x18, hA, hB, q1, q2, q8, h_0, q9, q10, f12, h⟩ := hI
  unfold jS at h
  refine' rb [_, _] mixed hA hB hO (cn (fun hE hK => yP (kq hK q10) rfl) (cn (fun hE hK => zJ (ks 0 hK 41 rfl)) .nil)) ?zk6
  intro a9 w9 hA hE hB HF; refine kr4 HF q1 q2 q8 q9 ?_; clear q1 q2 q8 q9; intro q1 q2 q8 q9; replace q10 := ksv (HF 10) rfl rfl rfl; clear HF; replace h_0 := vx h_0 hE; replace f12 := f12.ext hE; clear hE; refine zE (zB ?_)
  have h := hnext1 _ (Comp.run_pure h).symm
  refine ⟨m1, hlt1, ?_⟩
  exact ⟨_, _, _, hA, hB, q1, q2, q8, h_0, q9, q10, f12, h⟩
 ·
  refine wp_exit (zT (zT (zw ?_)))
  have hd_ := hdone1 _ (Comp.run_pure h).symm; clear h
  subst hd_; have h := hk1; clear hk1; try dsimp only at h
  have h := Comp.run_pure h; subst h
  exact retG0n Try.results117 hA  (bioEnd hB hb_ rfl trivial)
def fn_court_voice_speak : court_voice → Nat
 | .c96 _ => 115
 | .c101 _ => 116
 | .c102 _ => 117
theorem meth115 (v : Value) (w : World) : (method (Try.prog.types.size + Made.depth) 96 v "collet/court.speak").run Try.prog w = .ok (115, v) w := by kernel_rfl
theorem meth116 (v : Value) (w : World) : (method (Try.prog.types.size + Made.depth) 101 v "collet/court.speak").run Try.prog w = .ok (116, v) w := by kernel_rfl
theorem meth117 (v : Value) (w : World) : (method (Try.prog.types.size + Made.depth) 102 v "collet/court.speak").run Try.prog w = .ok (117, v) w := by kernel_rfl
theorem meth_court_voice_speak (x : court_voice) : Meth Try.prog (tag_court_voice x) "collet/court.speak" (fn_court_voice_speak x) := by
 cases x with
 | c96 _ => exact ⟨meth115⟩
 | c101 _ => exact ⟨meth116⟩
 | c102 _ => exact ⟨meth117⟩
theorem fnok_court_voice_speak (x : court_voice) : FnOk Try.prog (fn_court_voice_speak x) := by cases x <;> first | exact fn115 | exact fn116 | exact fn117
theorem ok_court_voice_speak {O : Tags} {w0 : World} (hO : OkO O w0) {v : Value} {x_0 : court_voice} (h_0 : sub_court_voice x_0 O w0 v) {x_1 : Int} {b_2 : Nat} {x_2 : court_fate} (h_2 : BoxA je 92 O w0 b_2 x_2) {n : Nat} {y : court_fate} (h : (court_voice_speak x_0 x_1 x_2).run n = some y) : Calls Try.prog (fn_court_voice_speak x_0) #[v, .int .i64 x_1, .pointer (some ⟨b_2, 0, none⟩)] w0 (BioPost je 92 O w0 b_2 y SP.unit) := by
 cases x_0 with
 | c96 x => exact ok_court_cut_speak hO h_0 h_2 h
 | c101 x => exact ok_court_blank_speak hO h_0 h_2 h
 | c102 x => exact ok_court_gauge_speak hO h_0 h_2 h
theorem ok_court_agrees {O : Tags} {w0 : World} (hO : OkO O w0) {v_0 : Value} {x_0 : List court_voice} (h_0 : (rSl zX).v O w0 v_0 x_0) {x_1 : Int} {x_2 : Int} {n : Nat} {y : Bool} (h : (court_agrees x_0 x_1 x_2).run n = some y) : Pure Try.prog 40 #[v_0, .int .i64 x_1, .int .i64 x_2] w0 (SP.isv (.bool y)).holds := by
 unfold court_agrees at h
 refine zW Try.func40 rfl 75 Try.ntmps40 (by simp) fun a0 hA hs0 => ?_
 have q0 : a0.get 0 = v_0 := hs0 0 _ rfl
 have q1 : a0.get 1 = .int .i64 x_1 := hs0 1 _ rfl
 have q2 : a0.get 2 = .int .i64 x_2 := hs0 2 _ rfl
 clear hs0
 have hB : Base (Fr w0) O w0 O w0 := Base.start hO
 refine wp_seq ?_
 refine' rb [_] mixed hA hB hO (cn (fun hE hK => zC rfl) .nil) ?zk1
 intro a1 w1 hA hE hB HF; refine kr3 HF q0 q1 q2 ?_; clear q0 q1 q2; intro q0 q1 q2; clear HF; replace h_0 := vx h_0 hE; clear hE; refine zE (zB (wp_scope_straight (wp_seq ?_)))
 refine' rb [_] mixed hA hB hO (cn (fun hE hK => zC rfl) .nil) ?zk2
 intro a2 w2 hA hE hB HF; refine kr3 HF q0 q1 q2 ?_; clear q0 q1 q2; intro q0 q1 q2; have q7 := ksv (HF 7) rfl rfl rfl; clear HF; replace h_0 := vx h_0 hE; clear hE; refine zE (zB (wp_seq (wp_label (zB ?_))))
 refine zY (fun a w => ∃ (O45 : Tags) (x44 : Bool), a.fit 75 ∧ Base (Fr w0) O w0 O45 w ∧ a.get 7 = .bool x44 ∧ (court_agrees_j1 x44).run n = some y) ?_ ?_
 ·
  refine wp_seq ?_
  refine' rb [_, _] mixed hA hB hO (mv q1 (cn (fun hE hK => zJ rfl) .nil)) ?zk3
  intro a3 w3 hA hE hB HF; refine kr3 HF q0 q2 q7 ?_; clear q0 q2 q7; intro q0 q2 q7; have q14 := ksv (HF 14) rfl rfl rfl; have q15 := ksv (HF 15) rfl rfl rfl; clear q1 HF; replace h_0 := vx h_0 hE; clear hE; refine zE (zB (wp_block ?_))
  obtain ⟨e2, he2, hk2⟩ := Comp.run_bind h; clear h
  refine yt (fun m a w => ∃ (O3 : Tags) (x1 : Bool) (x2 : Int), a.fit 75 ∧ Base (Fr w0) O w0 O3 w ∧ a.get 0 = v_0 ∧ (rSl zX).v O3 w v_0 x_0 ∧ a.get 2 = .int .i64 x_2 ∧ a.get 7 = .bool x1 ∧ a.get 14 = .int .i64 x_1 ∧ a.get 15 = .int .i64 x2 ∧ Comp.loopN (fun s => gv x_1 x_0 x_2 s.1 s.2) n m (x1, x2) = some e2) (m := n) ?st2 ?_
  case st2 =>
   exact ⟨_, _, _, hA, hB, q0, h_0, q2, q7, q14, q15, Comp.zk he2⟩
  intro m_ a4 w4 hI
  clear hA hB he2 q0 q2 q7 q14 q15 h_0
  obtain ⟨O3, x1, x2, hA, hB, q0, h_0, q2, q7, q14, q15, hl⟩ := hI
  obtain ⟨m2, hlt2, st2, h, hnext2, hdone2⟩ := Comp.zZ hl; clear hl
  replace h : (gv x_1 x_0 x_2 x1 x2).run n = some st2 := h
  unfold gv at h; refine wp_seq ?_
  refine' rb [_] mixed hA hB hO (cn (fun hE hK => zy (kq hK q15) (kq hK q14)) .nil) ?zk4
  intro a5 w5 hA hE hB HF; refine kr5 HF q0 q2 q7 q14 q15 ?_; clear q0 q2 q7 q14 q15; intro q0 q2 q7 q14 q15; have q16 := ksv (HF 16) rfl rfl rfl; clear HF; replace h_0 := vx h_0 hE; clear hE; refine zE (zB (wp_seq ?_))
  revert h; refine cnd q16 (fun h => ?_) (fun h => ?_)
  ·
   refine wp_skip (zB (wp_seq (wp_block (wp_seq ?_))))
   refine' rb [_, _] mixed hA hB hO (mv q15 (cn (fun hE hK => zC (ks 0 hK 17 rfl)) .nil)) ?zk5
   intro a6 w6 hA hE hB HF; refine kr5 HF q0 q2 q7 q14 q15 ?_; clear q0 q2 q7 q14 q15; intro q0 q2 q7 q14 q15; have q8 := ksv (HF 8) rfl rfl rfl; clear q16 HF; replace h_0 := vx h_0 hE; clear hE; refine zE (zB (wp_seq ?_))
   refine' rgT [SP.isv (.agg #[.bool true, .bool true, .bool false, .bool false, .bool false, .bool false]), SP.box w6.heap.size #[.bool false, .bool false, .bool false, .bool false, .bool false, .bool false] 92] hA (cn (fun hE hK => jQ plc92 ty92 (gG (v := .bool true) rfl (gG (v := .bool true) rfl pk_nil)) rfl (.cons rfl rfl rfl (leb rfl) (.cons rfl rfl rfl (leb rfl) .nil)) rfl) (cn (fun hE hK => jr hE.size ty92) .nil)) ?zk6
   intro a7 w7 hA hE HF; refine kr6 HF q0 q2 q7 q8 q14 q15 ?_; clear q0 q2 q7 q8 q14 q15; intro q0 q2 q7 q8 q14 q15; obtain ⟨u4, q9, f5⟩ := kx (HF 9) rfl rfl rfl; have q18 := ksv (HF 18) rfl rfl rfl; clear HF
   obtain ⟨O6, b7, hB', hX, e_, f8⟩ := boxNew hO hB hE f5 1 (by decide)
   subst e_
   clear hB f5; have hB := hB'; clear hB'; replace h_0 := vk h_0 hX; clear hX hE
   refine jB (vs := [.bool true, .bool true, .bool false, .bool false, .bool false, .bool false]) (cs' := #[.bool true, .bool true, .bool false, .bool false, .bool false, .bool false]) hO hB (yH hB) ty92 q9 q18 rfl (by simp [Value.oneCell']) f8 (by simp) rfl fun w8 f9 hB' hX => ?_
   clear hB f8; have hB := hB'; clear hB'; replace h_0 := vk h_0 hX; clear hX; refine zE (zB ?_)
   refine zY (fun a w => ∃ (O40 : Tags) (x39 : court_fate), a.fit 75 ∧ Base (Fr w0) O w0 O40 w ∧ a.get 0 = v_0 ∧ (rSl zX).v O40 w v_0 x_0 ∧ a.get 2 = .int .i64 x_2 ∧ a.get 7 = .bool x1 ∧ a.get 9 = .pointer (some ⟨b7, 0, none⟩) ∧ a.get 14 = .int .i64 x_1 ∧ a.get 15 = .int .i64 x2 ∧ OwnB 1 (Fr w0) O40 w b7 #[.bool x39.solid_, .bool x39.empty_, .bool x39.taken_, .bool x39.loose_, .bool x39.there_, .bool x39.gone_] 92 ∧ (court_agrees_j3 x1 x2 x39).run n = some st2) ?_ ?_
   ·
    refine wp_seq ?_
    refine' rb [_, _, _] mixed hA hB hO (mv q0 (cn (fun hE hK => zg (r := zX) ty75 (ks 0 hK 19 rfl) (rd_of (vx h_0 hE))) (cn (fun hE hK => zJ rfl) .nil))) ?zk7
    intro a9 w9 hA hE hB HF; refine kr7 HF q0 q2 q7 q8 q9 q14 q15 ?_; clear q0 q2 q7 q8 q9 q14 q15; intro q0 q2 q7 q8 q9 q14 q15; have q19 := ksv (HF 19) rfl rfl rfl; have q20 := ksv (HF 20) rfl rfl rfl; have q21 := ksv (HF 21) rfl rfl rfl; clear HF; replace h_0 := vx h_0 hE; replace f9 := f9.ext hE; clear hE; refine zE (zB (wp_block ?_))
    obtain ⟨e4, he4, hk4⟩ := Comp.run_bind h; clear h
    refine yt (fun m a w => ∃ (O12 : Tags) (x10 : Int) (x11 : court_fate), a.fit 75 ∧ Base (Fr w0) O w0 O12 w ∧ a.get 0 = v_0 ∧ (rSl zX).v O12 w v_0 x_0 ∧ a.get 2 = .int .i64 x_2 ∧ a.get 7 = .bool x1 ∧ a.get 8 = .int .i64 x2 ∧ a.get 9 = .pointer (some ⟨b7, 0, none⟩) ∧ a.get 14 = .int .i64 x_1 ∧ a.get 15 = .int .i64 x2 ∧ a.get 19 = v_0 ∧ a.get 20 = .int .i64 (x_0.length : Int) ∧ a.get 21 = .int .i64 x10 ∧ OwnB 1 (Fr w0) O12 w b7 #[.bool x11.solid_, .bool x11.empty_, .bool x11.taken_, .bool x11.loose_, .bool x11.there_, .bool x11.gone_] 92 ∧ Comp.loopN (fun s => vw x_0 x_2 x2 s.1 s.2) n m (x10, x11) = some e4) (m := n) ?st4 ?_
    case st4 =>
     exact ⟨_, _, _, hA, hB, q0, h_0, q2, q7, q8, q9, q14, q15, q19, q20, q21, f9, Comp.zk he4⟩
    intro m_ a10 w10 hI
    clear hA hB he4 q0 q2 q7 q8 q9 q14 q15 q19 q20 q21 f9 h_0
    obtain ⟨O12, x10, x11, hA, hB, q0, h_0, q2, q7, q8, q9, q14, q15, q19, q20, q21, f9, hl⟩ := hI
    obtain ⟨m4, hlt4, st4, h, hnext4, hdone4⟩ := Comp.zZ hl; clear hl
    replace h : (vw x_0 x_2 x2 x10 x11).run n = some st4 := h
    unfold vw at h; refine wp_seq ?_
    refine' rb [_] mixed hA hB hO (cn (fun hE hK => zy (kq hK q21) (kq hK q20)) .nil) ?zk8
    intro a11 w11 hA hE hB HF; refine kr10 HF q0 q2 q7 q8 q9 q14 q15 q19 q20 q21 ?_; clear q0 q2 q7 q8 q9 q14 q15 q19 q20 q21; intro q0 q2 q7 q8 q9 q14 q15 q19 q20 q21; have q22 := ksv (HF 22) rfl rfl rfl; clear HF; replace h_0 := vx h_0 hE; replace f9 := f9.ext hE; clear hE; refine zE (zB (wp_seq ?_))
    revert h; refine cnd q22 (fun h => ?_) (fun h => ?_)
    ·
     refine wp_skip (zB ?_)
     refine zY (fun a w => ∃ (O37 : Tags) (x35 : court_fate), a.fit 75 ∧ Base (Fr w0) O w0 O37 w ∧ a.get 0 = v_0 ∧ (rSl zX).v O37 w v_0 x_0 ∧ a.get 2 = .int .i64 x_2 ∧ a.get 7 = .bool x1 ∧ a.get 8 = .int .i64 x2 ∧ a.get 9 = .pointer (some ⟨b7, 0, none⟩) ∧ a.get 14 = .int .i64 x_1 ∧ a.get 15 = .int .i64 x2 ∧ a.get 19 = v_0 ∧ a.get 20 = .int .i64 (x_0.length : Int) ∧ a.get 21 = .int .i64 x10 ∧ OwnB 1 (Fr w0) O37 w b7 #[.bool x35.solid_, .bool x35.empty_, .bool x35.taken_, .bool x35.loose_, .bool x35.there_, .bool x35.gone_] 92 ∧ (court_agrees_j5 x10 x35).run n = some st4) ?_ ?_
     ·
      refine wp_block (wp_seq ?_); obtain ⟨x13, hx13, h⟩ := Comp.run_bind h
      refine' rb [_, SP.ptr zX O12 x13, SP.vl zX O12 x13, _, SP.vl zX O12 x13] mixed hA hB hO (mv q21 (cn (fun hE hK => zp (r := zX) (O := O12) ty75 ty94 rfl (kq hK q19) (rd_of (vx h_0 hE)) (kq hK q21) hx13) (cn (fun hE hK => vC (r := zX) (fun _ => rfl) ty94 rfl rfl rfl (kp (SP.ptr zX O12 x13) 1 hK 24 rfl)) (cn (fun hE hK => zC (ks 0 hK 23 rfl)) (cn (fun hE hK => zt (φ := SP.vl zX O12 x13) (kp _ 2 hK 25 rfl)) .nil))))) ?zk9
      intro a12 w12 hA hE hB HF; refine kr10 HF q0 q2 q7 q8 q9 q14 q15 q19 q20 q21 ?_; clear q0 q2 q7 q8 q9 q14 q15 q19 q20 q21; intro q0 q2 q7 q8 q9 q14 q15 q19 q20 q21; obtain ⟨u14, q11, f15⟩ := kx (HF 11) rfl rfl rfl; have q10 := ksv (HF 10) rfl rfl rfl; clear q22 HF; replace h_0 := vx h_0 hE; replace f9 := f9.ext hE; clear hE; refine zE (zB (wp_seq ?_))
      refine' rbT [_, SP.tup2 (SP.vl vP O12 (court_voice.as96 x13).1) (SP.isv (.bool (court_voice.as96 x13).2)), SP.tup2 (SP.vl vP O12 (court_voice.as96 x13).1) (SP.isv (.bool (court_voice.as96 x13).2)), SP.vl vP O12 (court_voice.as96 x13).1, SP.isv (.bool ((court_voice.as96 x13).2))] hA hB hO (mv q11 (cn (fun hE hK => as_court_voice_96 (ks 0 hK 27 rfl) (vx f15 hE)) (cn (fun hE hK => vr (φ := SP.tup2 (SP.vl vP O12 (court_voice.as96 x13).1) (SP.isv (.bool (court_voice.as96 x13).2))) (kp _ 1 hK 28 rfl)) (cn (fun hE hK => jZ (kp (SP.tup2 (SP.vl vP O12 (court_voice.as96 x13).1) (SP.isv (.bool (court_voice.as96 x13).2))) 2 hK 26 rfl)) (cn (fun hE hK => jY (kp (SP.tup2 (SP.vl vP O12 (court_voice.as96 x13).1) (SP.isv (.bool (court_voice.as96 x13).2))) 2 hK 26 rfl)) .nil))))) ?zk10
      intro a13 w13 hA hE hB HF; refine kr12 HF q0 q2 q7 q8 q9 q10 q11 q14 q15 q19 q20 q21 ?_; clear q0 q2 q7 q8 q9 q10 q11 q14 q15 q19 q20 q21; intro q0 q2 q7 q8 q9 q10 q11 q14 q15 q19 q20 q21; obtain ⟨u16, q29, f17⟩ := kx (HF 29) rfl rfl rfl; have q30 := ksv (HF 30) rfl rfl rfl; clear HF; replace h_0 := vx h_0 hE; replace f15 := vx f15 hE; replace f9 := f9.ext hE; clear hE
      refine l_ok (φ := SP.box w13.heap.size #[.slice none 0 0, .slice none 0 0] 96) hO hB (by exact jr (Nat.le_refl _) ty96) rfl fun u18 w14 hE hB' f19 => ?_
      clear hB'; obtain ⟨O20, b22, hB', hX, e_, f21⟩ := boxNew hO hB hE f19 2 (by decide)
      subst e_; clear hB f19; have hB := hB'; clear hB'
      replace h_0 := vk h_0 hX; replace f15 := vk f15 hX; replace f17 := vk f17 hX
      replace f9 := f9.kx hX (by decide)
      clear hX hE
      refine zQ hA (by decide) fun a15 hA q_ hfr => ?_
      refine kd14 hfr q0 q2 q7 q8 q9 q10 q11 q14 q15 q19 q20 q21 q29 q30 ?_; clear q0 q2 q7 q8 q9 q10 q11 q14 q15 q19 q20 q21 q29 q30; intro q0 q2 q7 q8 q9 q10 q11 q14 q15 q19 q20 q21 q29 q30; have q12 := q_; clear q_ hfr
      obtain ⟨u23, u25, e_, f24, f26⟩ := openV_court_cut f17; subst e_
      refine jB (vs := [u23, u25]) (cs' := #[u23, u25]) hO hB (yH hB) ty96 q12 q29 rfl (by intro c_ hc_; simp only [List.mem_cons, List.not_mem_nil, or_false] at hc_; rcases hc_ with rfl | rfl <;> first | rfl | assumption | exact sl_one f24 rfl rfl | exact sl_one f26 rfl rfl) f21 (by simp) rfl fun w16 f27 hB' hX => ?_
      clear hB f21; have hB := hB'; clear hB'; replace h_0 := vk h_0 hX; replace f15 := vk f15 hX; replace f24 := vk f24 hX; replace f26 := vk f26 hX
      replace f9 := f9.kx hX (by decide)
      clear hX
      refine l_ok (φ := SP.isv (.bool ((court_voice.as96 x13).2))) hO hB (by exact zC q30) rfl fun u_ w17 hE hB' hv_ => ?_
      replace hv_ := Eq.symm hv_; subst hv_; clear hB; have hB := hB'; clear hB'
      replace h_0 := vx h_0 hE; replace f15 := vx f15 hE; replace f9 := f9.ext hE; clear hE
      refine zQ hA (by decide) fun a18 hA q_ hfr => ?_
      refine kd13 hfr q0 q2 q7 q8 q9 q10 q11 q14 q15 q19 q20 q21 q30 ?_; clear q0 q2 q7 q8 q9 q10 q11 q14 q15 q19 q20 q21 q30; intro q0 q2 q7 q8 q9 q10 q11 q14 q15 q19 q20 q21 q30; have q13 := q_; clear q_ hfr; refine zE (zB (wp_block (wp_seq ?_))); obtain ⟨x28, hx28, h⟩ := Comp.run_bind h
      refine' rb [_, _, _, _, _, _] mixed hA hB hO (mv q2 (mv q10 (cn (fun hE hK => okl_shr (ks 0 hK 32 rfl) (ks 1 hK 33 rfl) (yY hx28)) (cn (fun hE hK => okb_and (ks 2 hK 34 rfl) rfl) (cn (fun hE hK => yO (ks 3 hK 35 rfl) rfl) (cn (fun hE hK => zC (ks 4 hK 36 rfl)) .nil)))))) ?zk11
      intro a19 w19 hA hE hB HF; refine kr12 HF q0 q2 q7 q8 q9 q11 q13 q14 q15 q19 q20 q21 ?_; clear q0 q2 q7 q8 q9 q11 q13 q14 q15 q19 q20 q21; intro q0 q2 q7 q8 q9 q11 q13 q14 q15 q19 q20 q21; have q31 := ksv (HF 31) rfl rfl rfl; clear q10 HF; replace h_0 := vx h_0 hE; replace f15 := vx f15 hE; replace f9 := f9.ext hE; clear hE
      obtain ⟨x29, hx_, h⟩ := Comp.run_bind h; replace hx_ := Comp.run_pure hx_; rw [hx_] at q31; clear hx_
      refine zE (zB ?_)
      revert h; refine cnd q31 (fun h => ?_) (fun h => ?_)
      ·
       refine' rbT [_, _] hA hB hO (mv q11 (mv q8 .nil)) ?zk12
       intro a20 w20 hA hE hB HF; refine kr10 HF q0 q2 q7 q8 q9 q14 q15 q19 q20 q21 ?_; clear q0 q2 q7 q8 q9 q14 q15 q19 q20 q21; intro q0 q2 q7 q8 q9 q14 q15 q19 q20 q21; have q37 := ksv (HF 37) rfl rfl rfl; have q38 := ksv (HF 38) rfl rfl rfl; clear q11 q13 q31 HF; replace h_0 := vx h_0 hE; replace f15 := vx f15 hE; replace f9 := f9.ext hE; clear hE
       obtain ⟨v_, hu_, hs_⟩ := rIf_v.1 f15
       obtain ⟨x30, hx30, h⟩ := Comp.run_bind h
       refine l_pioI (r := je) (x := x11) hO hB (yH hB) (meth_court_voice_speak x13) (fnok_court_voice_speak x13) (Eq.trans q37 hu_) (map2 q38 q9) (ok_court_voice_speak hB.ok hs_ (BoxO.arg (show BoxO 1 (Fr w0) O20 w20 b7 92 je x11 from ⟨_, f9, rfl⟩) (by decide)) hx30) ⟨_, f9, rfl⟩ fun u31 w21 f33 hB' hX f32 => ?_
       clear hB f9; have hB := hB'; clear hB'; replace h_0 := vk h_0 hX; replace f15 := vk f15 hX; clear hX
       have hz_ := f33; clear f33; obtain ⟨cs_, f34, hr_⟩ := hz_
       replace hr_ : cs_ = [.bool x30.solid_, .bool x30.empty_, .bool x30.taken_, .bool x30.loose_, .bool x30.there_, .bool x30.gone_] := hr_; subst hr_
       clear f32
       refine zQ hA (by decide) fun a22 hA q_ hfr => ?_
       refine kd12 hfr q0 q2 q7 q8 q9 q14 q15 q19 q20 q21 q37 q38 ?_; clear q0 q2 q7 q8 q9 q14 q15 q19 q20 q21 q37 q38; intro q0 q2 q7 q8 q9 q14 q15 q19 q20 q21 q37 q38; have q39 := q_; clear q_ hfr; refine zE (zm (zm (zB ?_)))
       exact ⟨_, _, hA, hB, q0, h_0, q2, q7, q8, q9, q14, q15, q19, q20, q21, f34, h⟩
      ·
       refine wp_seq ?_
       refine' rb [_, _] mixed hA hB hO (mv q13 (cn (fun hE hK => zC (ks 0 hK 41 rfl)) .nil)) ?zk13
       intro a23 w23 hA hE hB HF; refine kr10 HF q0 q2 q7 q8 q9 q14 q15 q19 q20 q21 ?_; clear q0 q2 q7 q8 q9 q14 q15 q19 q20 q21; intro q0 q2 q7 q8 q9 q14 q15 q19 q20 q21; have q40 := ksv (HF 40) rfl rfl rfl; clear q11 q13 q31 HF; replace h_0 := vx h_0 hE; replace f15 := vx f15 hE; replace f9 := f9.ext hE; clear hE; refine zE (zB ?_)
       revert h; refine cnd q40 (fun h => ?_) (fun h => ?_)
       ·
        refine' rbT [SP.isv (.pointer (some ⟨b7, 3, none⟩))] hA hB hO (cn (fun hE hK => zO fl92_3 (kq hK q9)) .nil) ?zk14
        intro a24 w24 hA hE hB HF; refine kr10 HF q0 q2 q7 q8 q9 q14 q15 q19 q20 q21 ?_; clear q0 q2 q7 q8 q9 q14 q15 q19 q20 q21; intro q0 q2 q7 q8 q9 q14 q15 q19 q20 q21; have q42 := ksv (HF 42) rfl rfl rfl; clear q40 HF; replace h_0 := vx h_0 hE; replace f9 := f9.ext hE; clear hE
        refine jb (cs' := #[.bool x11.solid_, .bool x11.empty_, .bool x11.taken_, .bool true, .bool x11.there_, .bool x11.gone_]) hO hB (yH hB) ty4 q42 rfl rfl rfl f9 (by simp) rfl fun w25 f36 hB' hX => ?_
        clear hB f9; have hB := hB'; clear hB'; replace h_0 := vk h_0 hX; clear hX; refine zE (zm (zm (zB ?_)))
        exact ⟨_, _, hA, hB, q0, h_0, q2, q7, q8, q9, q14, q15, q19, q20, q21, f36, h⟩
       ·
        refine wp_skip (zm (zm (zB ?_)))
        exact ⟨_, _, hA, hB, q0, h_0, q2, q7, q8, q9, q14, q15, q19, q20, q21, f9, h⟩
     intro a26 w26 hI
     clear hA hB h q0 q2 q7 q8 q9 q14 q15 q19 q20 q21 q22 f9 h_0
     obtain ⟨O37, x35, hA, hB, q0, h_0, q2, q7, q8, q9, q14, q15, q19, q20, q21, f34, h⟩ := hI
     unfold court_agrees_j5 at h
     refine' rb [_, _] mixed hA hB hO (cn (fun hE hK => yP (kq hK q21) rfl) (cn (fun hE hK => zJ (ks 0 hK 43 rfl)) .nil)) ?zk15
     intro a27 w27 hA hE hB HF; refine kr9 HF q0 q2 q7 q8 q9 q14 q15 q19 q20 ?_; clear q0 q2 q7 q8 q9 q14 q15 q19 q20; intro q0 q2 q7 q8 q9 q14 q15 q19 q20; replace q21 := ksv (HF 21) rfl rfl rfl; clear HF; replace h_0 := vx h_0 hE; replace f34 := f34.ext hE; clear hE; refine zE (zB ?_)
     have h := hnext4 _ (Comp.run_pure h).symm
     refine ⟨m4, hlt4, ?_⟩
     exact ⟨_, _, _, hA, hB, q0, h_0, q2, q7, q8, q9, q14, q15, q19, q20, q21, f34, h⟩
    ·
     refine wp_exit (zT (zT (zw ?_)))
     have hd_ := hdone4 _ (Comp.run_pure h).symm; clear h
     subst hd_; have h := hk4; clear hk4; try dsimp only at h
     refine zB ?_
     exact ⟨_, _, hA, hB, q0, h_0, q2, q7, q9, q14, q15, f9, h⟩
   intro a28 w28 hI
   clear hA hB h q0 q2 q7 q8 q9 q14 q15 f9 h_0
   obtain ⟨O40, x39, hA, hB, q0, h_0, q2, q7, q9, q14, q15, f9, h⟩ := hI
   unfold court_agrees_j3 at h; refine wp_seq ?_
   refine' rb [SP.isv (.pointer (some ⟨b7, 4, none⟩)), SP.isv (.bool x39.there_), _, SP.isv (.pointer (some ⟨b7, 5, none⟩)), SP.isv (.bool x39.gone_), _, SP.isv (.pointer (some ⟨b7, 0, none⟩)), SP.isv (.bool x39.solid_), _, _, _, SP.isv (.pointer (some ⟨b7, 2, none⟩)), SP.isv (.bool x39.taken_), _, _, _, SP.isv (.pointer (some ⟨b7, 5, none⟩)), SP.isv (.bool x39.gone_), _, SP.isv (.pointer (some ⟨b7, 1, none⟩)), SP.isv (.bool x39.empty_), _, _, _, SP.isv (.pointer (some ⟨b7, 3, none⟩)), SP.isv (.bool x39.loose_), _, _, _] mixed hA hB hO (cn (fun hE hK => zO fl92_4 (kq hK q9)) (cn (fun hE hK => zj ty4 rfl (ks 0 hK 44 rfl) (OwnB.ext f9 hE).own rfl) (cn (fun hE hK => zJ (ks 1 hK 45 rfl)) (cn (fun hE hK => zO fl92_5 (kq hK q9)) (.cons (fun _ _ hE hK hg => zj ty4 rfl (kg 3 hK 47 rfl hg) (OwnB.ext f9 hE).own rfl) (.cons (fun _ _ hE hK hg => zJ (kg 4 hK 48 rfl hg)) (cn (fun hE hK => zO fl92_0 (kq hK q9)) (.cons (fun _ _ hE hK hg => zj ty4 rfl (kg 6 hK 50 rfl hg) (OwnB.ext f9 hE).own rfl) (.cons (fun _ _ hE hK hg => jz (kg 7 hK 51 rfl hg)) (.cons (fun _ _ hE hK hg => zV (kg 5 hK 49 rfl hg) (fun _ => rfl) (fun hb => kg 8 hK 52 rfl (zf rfl hg hb))) (.cons (fun _ _ hE hK hg => zJ (kg 9 hK 53 rfl hg)) (cn (fun hE hK => zO fl92_2 (kq hK q9)) (.cons (fun _ _ hE hK hg => zj ty4 rfl (kg 11 hK 55 rfl hg) (OwnB.ext f9 hE).own rfl) (.cons (fun _ _ hE hK hg => zV (kg 10 hK 54 rfl hg) (fun _ => rfl) (fun hb => kg 12 hK 56 rfl (zf rfl hg hb))) (cn (fun hE hK => zV (ks 2 hK 46 rfl) (fun hb => kg 13 hK 57 rfl (zf rfl rfl hb)) (fun _ => rfl)) (cn (fun hE hK => zJ (ks 14 hK 58 rfl)) (cn (fun hE hK => zO fl92_5 (kq hK q9)) (.cons (fun _ _ hE hK hg => zj ty4 rfl (kg 16 hK 60 rfl hg) (OwnB.ext f9 hE).own rfl) (.cons (fun _ _ hE hK hg => zJ (kg 17 hK 61 rfl hg)) (cn (fun hE hK => zO fl92_1 (kq hK q9)) (.cons (fun _ _ hE hK hg => zj ty4 rfl (kg 19 hK 63 rfl hg) (OwnB.ext f9 hE).own rfl) (.cons (fun _ _ hE hK hg => jz (kg 20 hK 64 rfl hg)) (.cons (fun _ _ hE hK hg => zV (kg 18 hK 62 rfl hg) (fun hb => kg 21 hK 65 rfl (zf rfl hg hb)) (fun _ => rfl)) (.cons (fun _ _ hE hK hg => zJ (kg 22 hK 66 rfl hg)) (cn (fun hE hK => zO fl92_3 (kq hK q9)) (.cons (fun _ _ hE hK hg => zj ty4 rfl (kg 24 hK 68 rfl hg) (OwnB.ext f9 hE).own rfl) (.cons (fun _ _ hE hK hg => jz (kg 25 hK 69 rfl hg)) (.cons (fun _ _ hE hK hg => zV (kg 23 hK 67 rfl hg) (fun hb => kg 26 hK 70 rfl (zf rfl hg hb)) (fun _ => rfl)) (cn (fun hE hK => zV (ks 15 hK 59 rfl) (fun _ => rfl) (fun hb => kg 27 hK 71 rfl (zf rfl rfl hb))) .nil))))))))))))))))))))))))))))) ?zk16
   intro a29 w29 hA hE hB HF; refine kr5 HF q0 q2 q7 q14 q15 ?_; clear q0 q2 q7 q14 q15; intro q0 q2 q7 q14 q15; have q72 := ksv (HF 72) rfl rfl rfl; clear q9 HF; replace h_0 := vx h_0 hE; replace f9 := f9.ext hE; clear hE
   obtain ⟨x41, hx_, h⟩ := Comp.run_bind h; replace hx_ := Comp.run_pure hx_; rw [hx_] at q72; clear hx_
   refine zE (zB ?_)
   revert h; refine cnd q72 (fun h => ?_) (fun h => ?_)
   ·
    refine wp_seq ?_
    refine' rb [_] mixed hA hB hO (cn (fun hE hK => zC rfl) .nil) ?zk17
    intro a30 w30 hA hE hB HF; replace q7 := ksv (HF 7) rfl rfl rfl; clear q0 q2 q14 q15 q72 HF; replace h_0 := vx h_0 hE; clear hE; refine zE (zB (wp_exit ?_))
    refine (ex_other rfl (zT (zT (zw ?_))))
    have hd_ := hdone2 _ (Comp.run_pure h).symm; clear h
    subst hd_; have h := hk2; clear hk2; try dsimp only at h
    refine zB ?_
    exact ⟨_, _, hA, hB, q7, h⟩
   ·
    refine wp_skip (zm (zB ?_))
    refine' rb [_, _] mixed hA hB hO (cn (fun hE hK => yP (kq hK q15) rfl) (cn (fun hE hK => zJ (ks 0 hK 73 rfl)) .nil)) ?zk18
    intro a31 w31 hA hE hB HF; refine kr4 HF q0 q2 q7 q14 ?_; clear q0 q2 q7 q14; intro q0 q2 q7 q14; replace q15 := ksv (HF 15) rfl rfl rfl; clear q72 HF; replace h_0 := vx h_0 hE; clear hE; refine zE (zB ?_)
    have h := hnext2 _ (Comp.run_pure h).symm
    refine ⟨m2, hlt2, ?_⟩
    exact ⟨_, _, _, hA, hB, q0, h_0, q2, q7, q14, q15, h⟩
  ·
   refine wp_exit (zT (zT (zw ?_)))
   have hd_ := hdone2 _ (Comp.run_pure h).symm; clear h
   subst hd_; have h := hk2; clear hk2; try dsimp only at h
   refine zB ?_
   exact ⟨_, _, hA, hB, q7, h⟩
 intro a32 w32 hI
 clear hA hB h q0 q1 q2 q7 h_0
 obtain ⟨O45, x44, hA, hB, q7, h⟩ := hI
 unfold court_agrees_j1 at h; refine wp_seq ?_
 refine' rb [_, _] mixed hA hB hO (mv q7 (cn (fun hE hK => zC (ks 0 hK 74 rfl)) .nil)) ?zk19
 intro a33 w33 hA hE hB HF; have q6 := ksv (HF 6) rfl rfl rfl; clear q7 HF; clear hE; refine zE (zB (wp_ret (rt_sc ?_)))
 have h := Comp.run_pure h; subst h
 exact zb Try.results40 hA q6 hB.ext rfl
theorem ok_court_Agrees {O : Tags} {w0 : World} (hO : OkO O w0) {v_0 : Value} {x_0 : List api_Claim} (h_0 : (rSl zA).v O w0 v_0 x_0) {v_1 : Value} {x_1 : List api_Sight} (h_1 : (rSl zD).v O w0 v_1 x_1) {x_2 : Int} {x_3 : Int} {n : Nat} {y : Bool} (h : (court_Agrees x_0 x_1 x_2 x_3).run n = some y) : Pure Try.prog 15 #[v_0, v_1, .int .i64 x_2, .int .i64 x_3] w0 (SP.isv (.bool y)).holds := by
 unfold court_Agrees at h
 refine zW Try.func15 rfl 33 Try.ntmps15 (by simp) fun a0 hA hs0 => ?_
 have q0 : a0.get 0 = v_0 := hs0 0 _ rfl
 have q1 : a0.get 1 = v_1 := hs0 1 _ rfl
 have q2 : a0.get 2 = .int .i64 x_2 := hs0 2 _ rfl
 have q3 : a0.get 3 = .int .i64 x_3 := hs0 3 _ rfl
 clear hs0
 have hB : Base (Fr w0) O w0 O w0 := Base.start hO
 refine wp_seq ?_
 refine' rb [_] mixed hA hB hO (cn (fun hE hK => zC rfl) .nil) ?zk1
 intro a1 w1 hA hE hB HF; refine kr4 HF q0 q1 q2 q3 ?_; clear q0 q1 q2 q3; intro q0 q1 q2 q3; clear HF; replace h_0 := vx h_0 hE; replace h_1 := vx h_1 hE; clear hE; refine zE (zB (wp_seq ?_)); obtain ⟨x1, hx1, h⟩ := Comp.run_bind h; obtain ⟨x2, hx2, h⟩ := Comp.run_bind h; obtain ⟨x3, hx3, h⟩ := Comp.run_bind h; obtain ⟨x4, hx4, h⟩ := Comp.run_bind h
 refine' rb [_, _, _, SP.isv (.int .i64 x1), _, _, _, _, _, _, _, _, _, _, _, _, _, _, _, SP.vl (rSl zX) O x3, _, _, SP.isv (.bool x4), _, _] mixed hA hB hO (mv q0 (mv q1 (mv q2 (cn (fun hE hK => vR fn13 (ks 0 hK 9 rfl) (ks 1 hK 10 rfl) (ks 2 hK 11 rfl) (ok_court_Check (OkO.ext hB.ok hE) (vx h_0 hE) (vx h_1 hE) hx1)) (cn (fun hE hK => yO (ks 3 hK 12 rfl) rfl) (cn (fun hE hK => zJ (ks 4 hK 13 rfl)) (mv q3 (.cons (fun _ _ hE hK hg => ok_geq (kg 6 hK 15 rfl hg) rfl) (cn (fun hE hK => zV (ks 5 hK 14 rfl) (fun hb => kg 7 hK 16 rfl (zf rfl rfl hb)) (fun _ => rfl)) (cn (fun hE hK => zJ (ks 8 hK 17 rfl)) (mv q3 (mv q0 (.cons (fun _ _ hE hK hg => zg (r := zA) ty27 (kg 11 hK 20 rfl hg) (rd_of (vx h_0 hE))) (.cons (fun _ _ hE hK hg => okl_shl rfl (kg 12 hK 21 rfl hg) (yY (zr hx2 hg))) (.cons (fun _ _ hE hK hg => zy (kg 10 hK 19 rfl hg) (kg 13 hK 22 rfl hg)) (cn (fun hE hK => zV (ks 9 hK 18 rfl) (fun hb => kg 14 hK 23 rfl (zf rfl rfl hb)) (fun _ => rfl)) (cn (fun hE hK => zJ (ks 15 hK 24 rfl)) (mv q0 (mv q1 (.cons (fun _ _ hE hK hg => yL (zz fn41 (kg 17 hK 26 rfl hg) (kg 18 hK 27 rfl hg) (ok_court_voices (OkO.ext hB.ok hE) (vx h_0 hE) (vx h_1 hE) (zr hx3 hg))) (fun _ _ _ h => (OwnR.val h (fun g hg => (OkO.ext hB.ok hE) g (OwnR.ge h g hg).1)))) (mv q2 (mv q3 (.cons (fun _ _ hE hK hg => vR fn40 rfl (kg 20 hK 29 rfl hg) (kg 21 hK 30 rfl hg) (ok_court_agrees (OkO.ext hB.ok hE) (kspS (φ := SP.vl (rSl zX) O x3) (j := 19) (hK 28 rfl) rfl rfl hg) (zr hx4 hg))) (cn (fun hE hK => zV (ks 16 hK 25 rfl) (fun hb => kg 22 hK 31 rfl (zf rfl rfl hb)) (fun _ => rfl)) (cn (fun hE hK => zC (ks 23 hK 32 rfl)) .nil))))))))))))))))))))))))) ?zk2
 intro a2 w2 hA hE hB HF; have q8 := ksv (HF 8) rfl rfl rfl; clear q0 q1 q2 q3 HF; replace h_0 := vx h_0 hE; replace h_1 := vx h_1 hE; clear hE
 obtain ⟨x5, hx_, h⟩ := Comp.run_bind h; replace hx_ := Comp.run_pure hx_; rw [hx_] at q8; clear hx_
 refine zE (zB (wp_ret ?_))
 have h := Comp.run_pure h; subst h
 exact zb Try.results15 hA q8 hB.ext rfl
theorem ok_math_bits_Len64 {O : Tags} {w0 : World} (hO : OkO O w0) {x_0 : Int} {n : Nat} {y : Int} (h : (math_bits_Len64 x_0).run n = some y) : Pure Try.prog 82 #[.int .u64 x_0] w0 (SP.isv (.int .i64 y)).holds := by
 unfold math_bits_Len64 at h
 refine zW Try.func82 rfl 25 Try.ntmps82 (by simp) fun a0 hA hs0 => ?_
 have q0 : a0.get 0 = .int .u64 x_0 := hs0 0 _ rfl
 clear hs0
 have hB : Base (Fr w0) O w0 O w0 := Base.start hO
 refine wp_seq ?_
 refine' rb [_] mixed hA hB hO (cn (fun hE hK => zC rfl) .nil) ?zk1
 intro a1 w1 hA hE hB HF; replace q0 := kf HF q0; have q2 := ksv (HF 2) rfl rfl rfl; clear HF; clear hE; refine zE (zB ?_)
 refine zY (fun a w => ∃ (O3 : Tags) (x1 : Int) (x2 : Int), a.fit 25 ∧ Base (Fr w0) O w0 O3 w ∧ a.get 0 = .int .u64 x1 ∧ a.get 2 = .int .i64 x2 ∧ (math_bits_Len64_j1 x1 x2).run n = some y) ?_ ?_
 ·
  refine wp_seq ?_
  refine' rb [_, _] mixed hA hB hO (mv q0 (cn (fun hE hK => ok_geq (ks 0 hK 3 rfl) rfl) .nil)) ?zk2
  intro a2 w2 hA hE hB HF; replace q0 := kf HF q0; replace q2 := kf HF q2; have q4 := ksv (HF 4) rfl rfl rfl; clear HF; clear hE; refine zE (zB ?_)
  revert h; refine cnd q4 (fun h => ?_) (fun h => ?_)
  ·
   refine wp_seq ?_
   refine' rb [_, _, _] mixed hA hB hO (mv q0 (cn (fun hE hK => okl_shr (ks 0 hK 5 rfl) rfl (by decide)) (cn (fun hE hK => zC (ks 1 hK 6 rfl)) .nil))) ?zk3
   intro a3 w3 hA hE hB HF; replace q0 := ksv (HF 0) rfl rfl rfl; clear q2 q4 HF; clear hE; refine zE (zB ?_)
   refine' rb [_] mixed hA hB hO (cn (fun hE hK => zC rfl) .nil) ?zk4
   intro a4 w4 hA hE hB HF; replace q0 := kf HF q0; have q2 := ksv (HF 2) rfl rfl rfl; clear HF; clear hE; refine zE (zB ?_)
   exact ⟨_, _, _, hA, hB, q0, q2, h⟩
  ·
   refine wp_skip (zB ?_)
   exact ⟨_, _, _, hA, hB, q0, q2, h⟩
 intro a5 w5 hI
 clear hA hB h q0 q2
 obtain ⟨O3, x1, x2, hA, hB, q0, q2, h⟩ := hI
 unfold math_bits_Len64_j1 at h
 refine zY (fun a w => ∃ (O6 : Tags) (x4 : Int) (x5 : Int), a.fit 25 ∧ Base (Fr w0) O w0 O6 w ∧ a.get 0 = .int .u64 x4 ∧ a.get 2 = .int .i64 x5 ∧ (math_bits_Len64_j2 x4 x5).run n = some y) ?_ ?_
 ·
  refine wp_seq ?_
  refine' rb [_, _] mixed hA hB hO (mv q0 (cn (fun hE hK => ok_geq (ks 0 hK 7 rfl) rfl) .nil)) ?zk5
  intro a6 w6 hA hE hB HF; replace q0 := kf HF q0; replace q2 := kf HF q2; have q8 := ksv (HF 8) rfl rfl rfl; clear HF; clear hE; refine zE (zB ?_)
  revert h; refine cnd q8 (fun h => ?_) (fun h => ?_)
  ·
   refine wp_seq ?_
   refine' rb [_, _, _] mixed hA hB hO (mv q0 (cn (fun hE hK => okl_shr (ks 0 hK 9 rfl) rfl (by decide)) (cn (fun hE hK => zC (ks 1 hK 10 rfl)) .nil))) ?zk6
   intro a7 w7 hA hE hB HF; replace q2 := kf HF q2; replace q0 := ksv (HF 0) rfl rfl rfl; clear q8 HF; clear hE; refine zE (zB ?_)
   refine' rb [_, _, _] mixed hA hB hO (mv q2 (cn (fun hE hK => yP (ks 0 hK 11 rfl) rfl) (cn (fun hE hK => zC (ks 1 hK 12 rfl)) .nil))) ?zk7
   intro a8 w8 hA hE hB HF; replace q0 := kf HF q0; replace q2 := ksv (HF 2) rfl rfl rfl; clear HF; clear hE; refine zE (zB ?_)
   exact ⟨_, _, _, hA, hB, q0, q2, h⟩
  ·
   refine wp_skip (zB ?_)
   exact ⟨_, _, _, hA, hB, q0, q2, h⟩
 intro a9 w9 hI
 clear hA hB h q0 q2
 obtain ⟨O6, x4, x5, hA, hB, q0, q2, h⟩ := hI
 unfold math_bits_Len64_j2 at h
 refine zY (fun a w => ∃ (O9 : Tags) (x7 : Int) (x8 : Int), a.fit 25 ∧ Base (Fr w0) O w0 O9 w ∧ a.get 0 = .int .u64 x7 ∧ a.get 2 = .int .i64 x8 ∧ (math_bits_Len64_j3 x7 x8).run n = some y) ?_ ?_
 ·
  refine wp_seq ?_
  refine' rb [_, _] mixed hA hB hO (mv q0 (cn (fun hE hK => ok_geq (ks 0 hK 13 rfl) rfl) .nil)) ?zk8
  intro a10 w10 hA hE hB HF; replace q0 := kf HF q0; replace q2 := kf HF q2; have q14 := ksv (HF 14) rfl rfl rfl; clear HF; clear hE; refine zE (zB ?_)
  revert h; refine cnd q14 (fun h => ?_) (fun h => ?_)
  ·
   refine wp_seq ?_
   refine' rb [_, _, _] mixed hA hB hO (mv q0 (cn (fun hE hK => okl_shr (ks 0 hK 15 rfl) rfl (by decide)) (cn (fun hE hK => zC (ks 1 hK 16 rfl)) .nil))) ?zk9
   intro a11 w11 hA hE hB HF; replace q2 := kf HF q2; replace q0 := ksv (HF 0) rfl rfl rfl; clear q14 HF; clear hE; refine zE (zB ?_)
   refine' rb [_, _, _] mixed hA hB hO (mv q2 (cn (fun hE hK => yP (ks 0 hK 17 rfl) rfl) (cn (fun hE hK => zC (ks 1 hK 18 rfl)) .nil))) ?zk10
   intro a12 w12 hA hE hB HF; replace q0 := kf HF q0; replace q2 := ksv (HF 2) rfl rfl rfl; clear HF; clear hE; refine zE (zB ?_)
   exact ⟨_, _, _, hA, hB, q0, q2, h⟩
  ·
   refine wp_skip (zB ?_)
   exact ⟨_, _, _, hA, hB, q0, q2, h⟩
 intro a13 w13 hI
 clear hA hB h q0 q2
 obtain ⟨O9, x7, x8, hA, hB, q0, q2, h⟩ := hI
 unfold math_bits_Len64_j3 at h; refine wp_seq ?_; obtain ⟨x10, hx10, h⟩ := Comp.run_bind h
 refine' rb [_, _, _, SP.isv (.int .u8 x10), _, _, _] mixed hA hB hO (mv q2 (mv q0 (cn (fun hE hK => ok_convI ty115 ty5 (ks 1 hK 20 rfl)) (cn (fun hE hK => okl_indexS ty9 rfl (ks 2 hK 21 rfl) hx10) (cn (fun hE hK => ok_convI ty5 ty3 (ks 3 hK 22 rfl)) (cn (fun hE hK => yP (ks 0 hK 19 rfl) (ks 4 hK 23 rfl)) (cn (fun hE hK => zC (ks 5 hK 24 rfl)) .nil))))))) ?zk11
 intro a14 w14 hA hE hB HF; replace q2 := ksv (HF 2) rfl rfl rfl; clear q0 HF; clear hE
 obtain ⟨x11, hx_, h⟩ := Comp.run_bind h; replace hx_ := Comp.run_pure hx_; rw [hx_] at q2; clear hx_
 refine zE (zB (wp_ret ?_))
 have h := Comp.run_pure h; subst h
 exact zb Try.results82 hA q2 hB.ext rfl
theorem ok_math_bits_Len {O : Tags} {w0 : World} (hO : OkO O w0) {x_0 : Int} {n : Nat} {y : Int} (h : (math_bits_Len x_0).run n = some y) : Pure Try.prog 69 #[.int .u64 x_0] w0 (SP.isv (.int .i64 y)).holds := by
 unfold math_bits_Len at h
 refine zW Try.func69 rfl 8 Try.ntmps69 (by simp) fun a0 hA hs0 => ?_
 have q0 : a0.get 0 = .int .u64 x_0 := hs0 0 _ rfl
 clear hs0
 have hB : Base (Fr w0) O w0 O w0 := Base.start hO
 refine wp_seq ?_
 refine' rb [_] mixed hA hB hO (cn (fun hE hK => zC rfl) .nil) ?zk1
 intro a1 w1 hA hE hB HF; replace q0 := kf HF q0; clear HF; clear hE; refine zE (zB (wp_seq ?_)); refine wp_cond_false rfl ?_; refine wp_skip (zB (wp_seq ?_)); obtain ⟨x1, hx1, h⟩ := Comp.run_bind h
 refine' rb [_, SP.isv (.int .i64 x1), _] mixed hA hB hO (mv q0 (cn (fun hE hK => ok_call1 fn82 (ks 0 hK 6 rfl) (ok_math_bits_Len64 (OkO.ext hB.ok hE)  hx1)) (cn (fun hE hK => zC (ks 1 hK 7 rfl)) .nil))) ?zk2
 intro a2 w2 hA hE hB HF; have q2 := ksv (HF 2) rfl rfl rfl; clear q0 HF; clear hE; refine zE (zB (wp_ret ?_))
 have h := Comp.run_pure h; subst h
 exact zb Try.results69 hA q2 hB.ext rfl
theorem ok_core_Conflicts_f1 {O : Tags} {w0 : World} (hO : OkO O w0) {x_0 : Int} {v_1 : Value} {x_1 : Int} (h_1 : (rBox (rInt .i64)).v O w0 v_1 x_1) {v_2 : Value} {x_2 : List Bool} (h_2 : (rBox (rSl rBool)).v O w0 v_2 x_2) {n : Nat} {y : Bool} (h : (yj x_0 x_1 x_2).run n = some y) : Pure Try.prog 70 #[.int .i64 x_0, v_1, v_2] w0 (SP.isv (.bool y)).holds := by
 unfold yj at h
 refine zW Try.func70 rfl 26 Try.ntmps70 (by simp) fun a0 hA hs0 => ?_
 have q0 : a0.get 0 = .int .i64 x_0 := hs0 0 _ rfl
 have q1 : a0.get 1 = v_1 := hs0 1 _ rfl
 have q2 : a0.get 2 = v_2 := hs0 2 _ rfl
 clear hs0
 have hB : Base (Fr w0) O w0 O w0 := Base.start hO
 refine wp_seq ?_
 refine' rb [_] mixed hA hB hO (cn (fun hE hK => zC rfl) .nil) ?zk1
 intro a1 w1 hA hE hB HF; refine kr3 HF q0 q1 q2 ?_; clear q0 q1 q2; intro q0 q1 q2; clear HF; replace h_1 := vx h_1 hE; replace h_2 := vx h_2 hE; clear hE; refine zE (zB ?_)
 refine zY (fun a w => ∃ (O8 : Tags), a.fit 26 ∧ Base (Fr w0) O w0 O8 w ∧ (core_Conflicts_f1_j1 ).run n = some y) ?_ ?_
 ·
  refine wp_seq ?_
  refine' rb [SP.isv (.int .i64 x_1), _] mixed hA hB hO (cn (fun hE hK => za (rInt .i64) (fun _ => rfl) ty3 rfl rfl (kn (hK 1 rfl) rfl q1) (yi (fun _ => rfl) (vx h_1 hE)) (fun _ _ _ h => zU.1 h)) (cn (fun hE hK => zJ rfl) .nil)) ?zk2
  intro a2 w2 hA hE hB HF; replace q0 := kf HF q0; replace q2 := kf HF q2; have q6 := ksv (HF 6) rfl rfl rfl; have q7 := ksv (HF 7) rfl rfl rfl; clear q1 HF; replace h_1 := vx h_1 hE; replace h_2 := vx h_2 hE; clear hE; refine zE (zB (wp_block ?_))
  obtain ⟨e2, he2, hk2⟩ := Comp.run_bind h; clear h
  refine yt (fun m a w => ∃ (O2 : Tags) (x1 : Int), a.fit 26 ∧ Base (Fr w0) O w0 O2 w ∧ a.get 0 = .int .i64 x_0 ∧ a.get 2 = v_2 ∧ (rBox (rSl rBool)).v O2 w v_2 x_2 ∧ a.get 6 = .int .i64 x_1 ∧ a.get 7 = .int .i64 x1 ∧ Comp.loopN (fun s => vj x_1 x_0 x_2 s) n m x1 = some e2) (m := n) ?st2 ?_
  case st2 =>
   exact ⟨_, _, hA, hB, q0, q2, h_2, q6, q7, Comp.zk he2⟩
  intro m_ a3 w3 hI
  clear hA hB he2 q0 q2 q6 q7 h_2
  obtain ⟨O2, x1, hA, hB, q0, q2, h_2, q6, q7, hl⟩ := hI
  obtain ⟨m2, hlt2, st2, h, hnext2, hdone2⟩ := Comp.zZ hl; clear hl
  replace h : (vj x_1 x_0 x_2 x1).run n = some st2 := h
  unfold vj at h; refine wp_seq ?_
  refine' rb [_] mixed hA hB hO (cn (fun hE hK => zy (kq hK q7) (kq hK q6)) .nil) ?zk3
  intro a4 w4 hA hE hB HF; refine kr4 HF q0 q2 q6 q7 ?_; clear q0 q2 q6 q7; intro q0 q2 q6 q7; have q8 := ksv (HF 8) rfl rfl rfl; clear HF; replace h_2 := vx h_2 hE; clear hE; refine zE (zB (wp_seq ?_))
  revert h; refine cnd q8 (fun h => ?_) (fun h => ?_)
  ·
   refine wp_skip (zB (wp_seq (wp_block (wp_seq ?_))))
   refine' rb [_, _] mixed hA hB hO (mv q7 (cn (fun hE hK => zC (ks 0 hK 9 rfl)) .nil)) ?zk4
   intro a5 w5 hA hE hB HF; refine kr4 HF q0 q2 q6 q7 ?_; clear q0 q2 q6 q7; intro q0 q2 q6 q7; have q5 := ksv (HF 5) rfl rfl rfl; clear q8 HF; replace h_2 := vx h_2 hE; clear hE; refine zE (zB (wp_seq ?_)); obtain ⟨x3, hx3, h⟩ := Comp.run_bind h; obtain ⟨x4, hx4, h⟩ := Comp.run_bind h; obtain ⟨x5, hx5, h⟩ := Comp.run_bind h
   refine' rb [_, _, _, _, _, _, SP.vl (rSl rBool) O2 x_2, _, _, _, _, SP.ptr rBool O2 x5, SP.isv (.bool x5), _, _] mixed hA hB hO (mv q0 (mv q5 (cn (fun hE hK => okl_shr (ks 0 hK 10 rfl) (ks 1 hK 11 rfl) (yY hx3)) (cn (fun hE hK => okb_and (ks 2 hK 12 rfl) rfl) (cn (fun hE hK => yO (ks 3 hK 13 rfl) rfl) (cn (fun hE hK => zJ (ks 4 hK 14 rfl)) (cn (fun hE hK => vC (r := (rSl rBool)) (fun _ => rfl) ty47 rfl rfl (kn (hK 2 rfl) rfl q2) (yi (fun _ => rfl) (vx h_2 hE))) (mv q0 (mv q5 (.cons (fun _ _ hE hK hg => okl_shl rfl (kg 8 hK 18 rfl hg) (yY (zr hx4 hg))) (.cons (fun _ _ hE hK hg => okb_andNot (kg 7 hK 17 rfl hg) (kg 9 hK 19 rfl hg)) (.cons (fun _ _ hE hK hg => zp (r := rBool) (O := O2) ty47 ty4 rfl rfl (rd_of (kspS (φ := SP.vl (rSl rBool) O2 x_2) (j := 6) (hK 16 rfl) rfl rfl hg)) (kg 10 hK 20 rfl hg) (zr hx5 hg)) (.cons (fun _ _ hE hK hg => za rBool (fun _ => rfl) ty4 rfl rfl rfl (kspS (φ := SP.ptr rBool O2 x5) (j := 11) (hK 21 rfl) rfl rfl hg) (fun _ _ _ h => rBool_v.1 h)) (.cons (fun _ _ hE hK hg => jz (kg 12 hK 22 rfl hg)) (cn (fun hE hK => zV (ks 5 hK 15 rfl) (fun hb => kg 13 hK 23 rfl (zf rfl rfl hb)) (fun _ => rfl)) .nil))))))))))))))) ?zk5
   intro a6 w6 hA hE hB HF; refine kr4 HF q0 q2 q6 q7 ?_; clear q0 q2 q6 q7; intro q0 q2 q6 q7; have q24 := ksv (HF 24) rfl rfl rfl; clear q5 HF; replace h_2 := vx h_2 hE; clear hE
   obtain ⟨x6, hx_, h⟩ := Comp.run_bind h; replace hx_ := Comp.run_pure hx_; rw [hx_] at q24; clear hx_
   refine zE (zB ?_)
   revert h; refine cnd q24 (fun h => ?_) (fun h => ?_)
   ·
    refine wp_seq ?_
    refine' rb [_] mixed hA hB hO (cn (fun hE hK => zC rfl) .nil) ?zk6
    intro a7 w7 hA hE hB HF; have q4 := ksv (HF 4) rfl rfl rfl; clear q0 q2 q6 q7 q24 HF; replace h_2 := vx h_2 hE; clear hE; refine zE (zB (wp_ret (yA (zN (zN (yA (zN ?_)))))))
    have hd_ := hdone2 _ (Comp.run_pure h).symm; clear h
    subst hd_; have h := hk2; clear hk2; try dsimp only at h
    have h := Comp.run_pure h; subst h
    exact zb Try.results70 hA q4 hB.ext rfl
   ·
    refine wp_skip (zm (zB ?_))
    refine' rb [_, _] mixed hA hB hO (cn (fun hE hK => yP (kq hK q7) rfl) (cn (fun hE hK => zJ (ks 0 hK 25 rfl)) .nil)) ?zk7
    intro a8 w8 hA hE hB HF; refine kr3 HF q0 q2 q6 ?_; clear q0 q2 q6; intro q0 q2 q6; replace q7 := ksv (HF 7) rfl rfl rfl; clear q24 HF; replace h_2 := vx h_2 hE; clear hE; refine zE (zB ?_)
    have h := hnext2 _ (Comp.run_pure h).symm
    refine ⟨m2, hlt2, ?_⟩
    exact ⟨_, _, hA, hB, q0, q2, h_2, q6, q7, h⟩
  ·
   refine wp_exit (zT (zT (zw ?_)))
   have hd_ := hdone2 _ (Comp.run_pure h).symm; clear h
   subst hd_; have h := hk2; clear hk2; try dsimp only at h
   refine zB ?_
   exact ⟨_, hA, hB, h⟩
 intro a9 w9 hI
 clear hA hB h q0 q1 q2 h_1 h_2
 obtain ⟨O8, hA, hB, h⟩ := hI
 unfold core_Conflicts_f1_j1 at h; refine wp_seq ?_
 refine' rb [_] mixed hA hB hO (cn (fun hE hK => zC rfl) .nil) ?zk8
 intro a10 w10 hA hE hB HF; have q4 := ksv (HF 4) rfl rfl rfl; clear HF; clear hE; refine zE (zB (wp_ret ?_))
 have h := Comp.run_pure h; subst h
 exact zb Try.results70 hA q4 hB.ext rfl
theorem ok_core_Conflicts_f2 {O : Tags} {w0 : World} (hO : OkO O w0) {x_0 : Int} {v_1 : Value} {x_1 : List Bool} (h_1 : (rBox (rSl rBool)).v O w0 v_1 x_1) {v_2 : Value} {x_2 : Int → Comp Bool} (h_2 : (rBox (rF1 Try.prog (rInt .i64) (RS.c (fun x => .bool x)))).v O w0 v_2 x_2) {n : Nat} {y : Bool} (h : (jh x_0 x_1 x_2).run n = some y) : Pure Try.prog 72 #[.int .i64 x_0, v_1, v_2] w0 (SP.isv (.bool y)).holds := by
 unfold jh at h
 refine zW Try.func72 rfl 15 Try.ntmps72 (by simp) fun a0 hA hs0 => ?_
 have q0 : a0.get 0 = .int .i64 x_0 := hs0 0 _ rfl
 have q1 : a0.get 1 = v_1 := hs0 1 _ rfl
 have q2 : a0.get 2 = v_2 := hs0 2 _ rfl
 clear hs0
 have hB : Base (Fr w0) O w0 O w0 := Base.start hO
 refine wp_seq ?_
 refine' rb [_] mixed hA hB hO (cn (fun hE hK => zC rfl) .nil) ?zk1
 intro a1 w1 hA hE hB HF; refine kr3 HF q0 q1 q2 ?_; clear q0 q1 q2; intro q0 q1 q2; clear HF; replace h_1 := vx h_1 hE; replace h_2 := vx h_2 hE; clear hE; refine zE (zB (wp_seq ?_)); obtain ⟨x1, hx1, h⟩ := Comp.run_bind h; obtain ⟨x2, hx2, h⟩ := Comp.run_bind h
 refine' rb [SP.vl (rSl rBool) O x_1, _, SP.ptr rBool O x1, SP.isv (.bool x1), _, SP.vl (rF1 Try.prog (rInt .i64) (RS.c (fun x => .bool x))) O x_2, _, SP.isv (.bool x2), _, _, _] mixed hA hB hO (cn (fun hE hK => vC (r := (rSl rBool)) (fun _ => rfl) ty47 rfl rfl (kn (hK 1 rfl) rfl q1) (yi (fun _ => rfl) (vx h_1 hE))) (mv q0 (cn (fun hE hK => zp (r := rBool) (O := O) ty47 ty4 rfl rfl (rd_of (kp (SP.vl (rSl rBool) O x_1) 0 hK 5 rfl)) (ks 1 hK 6 rfl) hx1) (cn (fun hE hK => za rBool (fun _ => rfl) ty4 rfl rfl rfl (kp (SP.ptr rBool O x1) 2 hK 7 rfl) (fun _ _ _ h => rBool_v.1 h)) (cn (fun hE hK => zJ (ks 3 hK 8 rfl)) (cn (fun hE hK => vC (r := (rF1 Try.prog (rInt .i64) (RS.c (fun x => .bool x)))) (fun _ => rfl) ty79 rfl rfl (kn (hK 2 rfl) rfl q2) (yi (fun _ => rfl) (vx h_2 hE))) (mv q0 (.cons (fun _ _ hE hK hg => okl_callv1 (R := (RS.c (fun x => .bool x))) rfl (show ((rF1 Try.prog (rInt .i64) (RS.c (fun x => .bool x)))).v O _ _ _ from (kspS (φ := SP.vl (rF1 Try.prog (rInt .i64) (RS.c (fun x => .bool x))) O x_2) (j := 5) (hK 10 rfl) rfl rfl hg)) (OkO.ext hB.ok hE) (kg 6 hK 11 rfl hg) (by exact zU.2 rfl) (zr hx2 hg)) (.cons (fun _ _ hE hK hg => jz (kg 7 hK 12 rfl hg)) (cn (fun hE hK => zV (ks 4 hK 9 rfl) (fun hb => kg 8 hK 13 rfl (zf rfl rfl hb)) (fun _ => rfl)) (cn (fun hE hK => zC (ks 9 hK 14 rfl)) .nil))))))))))) ?zk2
 intro a2 w2 hA hE hB HF; have q4 := ksv (HF 4) rfl rfl rfl; clear q0 q1 q2 HF; replace h_1 := vx h_1 hE; replace h_2 := vx h_2 hE; clear hE; refine zE (zB (wp_ret ?_))
 have h := Comp.run_pure h; subst h
 exact zb Try.results72 hA q4 hB.ext rfl
theorem ok_core_only {O : Tags} {w0 : World} (hO : OkO O w0) {x_0 : Int} {v_1 : Value} {x_1 : Int → Comp Bool} (h_1 : (rF1 Try.prog (rInt .i64) (RS.c (fun x => .bool x))).v O w0 v_1 x_1) {n : Nat} {y : (List Int)} (h : (core_only x_0 x_1).run n = some y) : Pure Try.prog 71 #[.int .i64 x_0, v_1] w0 (SP.ownr (rInt .i64) 3 (w0.heap.size) O y).holds := by
 unfold core_only at h
 refine zW Try.func71 rfl 20 Try.ntmps71 (by simp) fun a0 hA hs0 => ?_
 have q0 : a0.get 0 = .int .i64 x_0 := hs0 0 _ rfl
 have q1 : a0.get 1 = v_1 := hs0 1 _ rfl
 clear hs0
 have hB : Base (Fr w0) O w0 O w0 := Base.start hO
 refine wp_seq ?_
 refine' rb [_] mixed hA hB hO (cn (fun hE hK => zC rfl) .nil) ?zk1
 intro a1 w1 hA hE hB HF; replace q0 := kf HF q0; replace q1 := kf HF q1; clear HF; replace h_1 := vx h_1 hE; clear hE; refine zE (zB (wp_seq ?_))
 refine' rb [_] mixed hA hB hO (cn (fun hE hK => zC rfl) .nil) ?zk2
 intro a2 w2 hA hE hB HF; replace q0 := kf HF q0; replace q1 := kf HF q1; have q5 := ksv (HF 5) rfl rfl rfl; clear HF; replace h_1 := vx h_1 hE; clear hE; refine zE (zB ?_)
 refine zY (fun a w => ∃ (O22 : Tags) (x19 : List Int) (u20 : Value), a.fit 20 ∧ Base (Fr w0) O w0 O22 w ∧ a.get 5 = u20 ∧ OwnL 1 (rInt .i64) 3 (Fr w0) O22 w u20 x19 ∧ (core_only_j1 x19).run n = some y) ?_ ?_
 ·
  refine wp_seq ?_
  refine' rb [_, _] mixed hA hB hO (mv q0 (cn (fun hE hK => zJ rfl) .nil)) ?zk3
  intro a3 w3 hA hE hB HF; replace q1 := kf HF q1; replace q5 := kf HF q5; have q7 := ksv (HF 7) rfl rfl rfl; have q8 := ksv (HF 8) rfl rfl rfl; clear q0 HF; replace h_1 := vx h_1 hE; clear hE; refine zE (zB (wp_block ?_))
  obtain ⟨e2, he2, hk2⟩ := Comp.run_bind h; clear h
  refine yt (fun m a w => ∃ (O5 : Tags) (x1 : List Int) (x4 : Int) (u2 : Value), a.fit 20 ∧ Base (Fr w0) O w0 O5 w ∧ a.get 1 = v_1 ∧ (rF1 Try.prog (rInt .i64) (RS.c (fun x => .bool x))).v O5 w v_1 x_1 ∧ a.get 5 = u2 ∧ OwnL 1 (rInt .i64) 3 (Fr w0) O5 w u2 x1 ∧ a.get 7 = .int .i64 x_0 ∧ a.get 8 = .int .i64 x4 ∧ Comp.loopN (fun s => kA x_0 x_1 s.1 s.2) n m (x1, x4) = some e2) (m := n) ?st2 ?_
  case st2 =>
   exact ⟨_, _, _, _, hA, hB, q1, h_1, q5, (OwnL.nil _ _ _ _ _ _), q7, q8, Comp.zk he2⟩
  intro m_ a4 w4 hI
  clear hA hB he2 q1 q5 q7 q8 h_1
  obtain ⟨O5, x1, x4, u2, hA, hB, q1, h_1, q5, f3, q7, q8, hl⟩ := hI
  obtain ⟨m2, hlt2, st2, h, hnext2, hdone2⟩ := Comp.zZ hl; clear hl
  replace h : (kA x_0 x_1 x1 x4).run n = some st2 := h
  unfold kA at h; refine wp_seq ?_
  refine' rb [_] mixed hA hB hO (cn (fun hE hK => zy (kq hK q8) (kq hK q7)) .nil) ?zk4
  intro a5 w5 hA hE hB HF; refine kr4 HF q1 q5 q7 q8 ?_; clear q1 q5 q7 q8; intro q1 q5 q7 q8; have q9 := ksv (HF 9) rfl rfl rfl; clear HF; replace h_1 := vx h_1 hE; replace f3 := f3.ext hE; clear hE; refine zE (zB (wp_seq ?_))
  revert h; refine cnd q9 (fun h => ?_) (fun h => ?_)
  ·
   refine wp_skip (zB ?_)
   refine zY (fun a w => ∃ (O16 : Tags) (x13 : List Int) (u14 : Value), a.fit 20 ∧ Base (Fr w0) O w0 O16 w ∧ a.get 1 = v_1 ∧ (rF1 Try.prog (rInt .i64) (RS.c (fun x => .bool x))).v O16 w v_1 x_1 ∧ a.get 5 = u14 ∧ OwnL 1 (rInt .i64) 3 (Fr w0) O16 w u14 x13 ∧ a.get 7 = .int .i64 x_0 ∧ a.get 8 = .int .i64 x4 ∧ (core_only_j3 x4 x13).run n = some st2) ?_ ?_
   ·
    refine wp_block (wp_seq ?_)
    refine' rb [_, _] mixed hA hB hO (mv q8 (cn (fun hE hK => zC (ks 0 hK 10 rfl)) .nil)) ?zk5
    intro a6 w6 hA hE hB HF; refine kr4 HF q1 q5 q7 q8 ?_; clear q1 q5 q7 q8; intro q1 q5 q7 q8; have q6 := ksv (HF 6) rfl rfl rfl; clear q9 HF; replace h_1 := vx h_1 hE; replace f3 := f3.ext hE; clear hE; refine zE (zB (wp_seq ?_)); obtain ⟨x6, hx6, h⟩ := Comp.run_bind h
    refine' rb [_, _, SP.isv (.bool x6)] mixed hA hB hO (mv q1 (mv q6 (cn (fun hE hK => okl_callv1 (R := (RS.c (fun x => .bool x))) (ks 0 hK 11 rfl) (show ((rF1 Try.prog (rInt .i64) (RS.c (fun x => .bool x)))).v O5 _ _ _ from (vx h_1 hE)) (OkO.ext hB.ok hE) (ks 1 hK 12 rfl) (by exact zU.2 rfl) hx6) .nil))) ?zk6
    intro a7 w7 hA hE hB HF; refine kr5 HF q1 q5 q6 q7 q8 ?_; clear q1 q5 q6 q7 q8; intro q1 q5 q6 q7 q8; have q13 := ksv (HF 13) rfl rfl rfl; clear HF; replace h_1 := vx h_1 hE; replace f3 := f3.ext hE; clear hE; refine zE (zB ?_)
    revert h; refine cnd q13 (fun h => ?_) (fun h => ?_)
    ·
     refine' rbT [_, _, SP.vl (rSl (rInt .i64)) O5 [x4]] hA hB hO (mv q5 (mv q6 (cn (fun hE hK => zP (r := (rInt .i64)) (fun _ => rfl) rfl (OkO.ext hB.ok hE) ty23 ty3 (zM (ks 1 hK 15 rfl) zh) ⟨(by exact zU.2 rfl), trivial⟩ rfl (by decide)) .nil))) ?zk7
     intro a8 w8 hA hE hB HF; refine kr4 HF q1 q5 q7 q8 ?_; clear q1 q5 q7 q8; intro q1 q5 q7 q8; obtain ⟨u7, q16, f8⟩ := kx (HF 16) rfl rfl rfl; have q14 := ksv (HF 14) rfl rfl rfl; clear q6 q13 HF; replace h_1 := vx h_1 hE; replace f3 := f3.ext hE; clear hE; obtain ⟨x9, hx9, h⟩ := Comp.run_bind h
     refine gQ (r := (rInt .i64)) (fun _ => rfl) rfl ty23 ty3 rfl (by decide) hO hB (yH hB) q14 f3 q16 (rd_of f8) hx9 (by decide) fun u10 w9 O11 f12 hB' hX => ?_
     clear hB; have hB := hB'; clear hB'; clear f3; replace h_1 := vk h_1 hX; replace f8 := vk f8 hX; clear hX
     refine zQ hA (by decide) fun a10 hA q_ hfr => ?_
     refine kd6 hfr q1 q5 q7 q8 q14 q16 ?_; clear q1 q5 q7 q8 q14 q16; intro q1 q5 q7 q8 q14 q16; have q17 := q_; clear q_ hfr
     refine l_ok (φ := SP.isv (u10)) hO hB (by exact zC q17) rfl fun u_ w11 hE hB' hv_ => ?_
     replace hv_ := Eq.symm hv_; subst hv_; clear hB; have hB := hB'; clear hB'
     replace h_1 := vx h_1 hE; replace f12 := f12.ext hE; clear hE
     refine zQ hA (by decide) fun a12 hA q_ hfr => ?_
     replace q1 := (hfr 1 rfl).trans q1
     replace q7 := (hfr 7 rfl).trans q7
     replace q8 := (hfr 8 rfl).trans q8
     replace q17 := (hfr 17 rfl).trans q17
     clear q5; have q5 := q_; clear q_ hfr; refine zE (zm (zB ?_))
     exact ⟨_, _, _, hA, hB, q1, h_1, q5, f12, q7, q8, h⟩
    ·
     refine wp_skip (zm (zB ?_))
     exact ⟨_, _, _, hA, hB, q1, h_1, q5, f3, q7, q8, h⟩
   intro a13 w13 hI
   clear hA hB h q1 q5 q7 q8 q9 f3 h_1
   obtain ⟨O16, x13, u14, hA, hB, q1, h_1, q5, f15, q7, q8, h⟩ := hI
   unfold core_only_j3 at h
   refine' rb [_, _] mixed hA hB hO (cn (fun hE hK => yP (kq hK q8) rfl) (cn (fun hE hK => zJ (ks 0 hK 18 rfl)) .nil)) ?zk8
   intro a14 w14 hA hE hB HF; refine kr3 HF q1 q5 q7 ?_; clear q1 q5 q7; intro q1 q5 q7; replace q8 := ksv (HF 8) rfl rfl rfl; clear HF; replace h_1 := vx h_1 hE; replace f15 := f15.ext hE; clear hE; refine zE (zB ?_)
   have h := hnext2 _ (Comp.run_pure h).symm
   refine ⟨m2, hlt2, ?_⟩
   exact ⟨_, _, _, _, hA, hB, q1, h_1, q5, f15, q7, q8, h⟩
  ·
   refine wp_exit (zT (zT (zw ?_)))
   have hd_ := hdone2 _ (Comp.run_pure h).symm; clear h
   subst hd_; have h := hk2; clear hk2; try dsimp only at h
   refine zB ?_
   exact ⟨_, _, _, hA, hB, q5, f3, h⟩
 intro a15 w15 hI
 clear hA hB h q0 q1 q5 h_1
 obtain ⟨O22, x19, u20, hA, hB, q5, f21, h⟩ := hI
 unfold core_only_j1 at h; refine wp_seq ?_
 refine' rb [_, _] mixed hA hB hO (mv q5 (cn (fun hE hK => zC (ks 0 hK 19 rfl)) .nil)) ?zk9
 intro a16 w16 hA hE hB HF; have q4 := ksv (HF 4) rfl rfl rfl; clear q5 HF; replace f21 := f21.ext hE; clear hE; refine zE (zB (wp_ret ?_))
 have h := Comp.run_pure h; subst h
 exact zb Try.results71 hA q4 hB.ext (OwnL.res f21 (by decide) hB.zero)
theorem ok_core_Conflicts_f3 {O : Tags} {w0 : World} (hO : OkO O w0) {x_0 : Int} {v_1 : Value} {x_1 : List Bool} (h_1 : (rBox (rSl rBool)).v O w0 v_1 x_1) {v_2 : Value} {x_2 : Int → Comp Bool} (h_2 : (rBox (rF1 Try.prog (rInt .i64) (RS.c (fun x => .bool x)))).v O w0 v_2 x_2) {n : Nat} {y : Bool} (h : (jg x_0 x_1 x_2).run n = some y) : Pure Try.prog 73 #[.int .i64 x_0, v_1, v_2] w0 (SP.isv (.bool y)).holds := by
 unfold jg at h
 refine zW Try.func73 rfl 15 Try.ntmps73 (by simp) fun a0 hA hs0 => ?_
 have q0 : a0.get 0 = .int .i64 x_0 := hs0 0 _ rfl
 have q1 : a0.get 1 = v_1 := hs0 1 _ rfl
 have q2 : a0.get 2 = v_2 := hs0 2 _ rfl
 clear hs0
 have hB : Base (Fr w0) O w0 O w0 := Base.start hO
 refine wp_seq ?_
 refine' rb [_] mixed hA hB hO (cn (fun hE hK => zC rfl) .nil) ?zk1
 intro a1 w1 hA hE hB HF; refine kr3 HF q0 q1 q2 ?_; clear q0 q1 q2; intro q0 q1 q2; clear HF; replace h_1 := vx h_1 hE; replace h_2 := vx h_2 hE; clear hE; refine zE (zB (wp_seq ?_)); obtain ⟨x1, hx1, h⟩ := Comp.run_bind h; obtain ⟨x2, hx2, h⟩ := Comp.run_bind h
 refine' rb [SP.vl (rSl rBool) O x_1, _, SP.ptr rBool O x1, SP.isv (.bool x1), _, _, SP.vl (rF1 Try.prog (rInt .i64) (RS.c (fun x => .bool x))) O x_2, _, SP.isv (.bool x2), _, _] mixed hA hB hO (cn (fun hE hK => vC (r := (rSl rBool)) (fun _ => rfl) ty47 rfl rfl (kn (hK 1 rfl) rfl q1) (yi (fun _ => rfl) (vx h_1 hE))) (mv q0 (cn (fun hE hK => zp (r := rBool) (O := O) ty47 ty4 rfl rfl (rd_of (kp (SP.vl (rSl rBool) O x_1) 0 hK 5 rfl)) (ks 1 hK 6 rfl) hx1) (cn (fun hE hK => za rBool (fun _ => rfl) ty4 rfl rfl rfl (kp (SP.ptr rBool O x1) 2 hK 7 rfl) (fun _ _ _ h => rBool_v.1 h)) (cn (fun hE hK => jz (ks 3 hK 8 rfl)) (cn (fun hE hK => zJ (ks 4 hK 9 rfl)) (cn (fun hE hK => vC (r := (rF1 Try.prog (rInt .i64) (RS.c (fun x => .bool x)))) (fun _ => rfl) ty79 rfl rfl (kn (hK 2 rfl) rfl q2) (yi (fun _ => rfl) (vx h_2 hE))) (mv q0 (.cons (fun _ _ hE hK hg => okl_callv1 (R := (RS.c (fun x => .bool x))) rfl (show ((rF1 Try.prog (rInt .i64) (RS.c (fun x => .bool x)))).v O _ _ _ from (kspS (φ := SP.vl (rF1 Try.prog (rInt .i64) (RS.c (fun x => .bool x))) O x_2) (j := 6) (hK 11 rfl) rfl rfl hg)) (OkO.ext hB.ok hE) (kg 7 hK 12 rfl hg) (by exact zU.2 rfl) (zr hx2 hg)) (cn (fun hE hK => zV (ks 5 hK 10 rfl) (fun hb => kg 8 hK 13 rfl (zf rfl rfl hb)) (fun _ => rfl)) (cn (fun hE hK => zC (ks 9 hK 14 rfl)) .nil))))))))))) ?zk2
 intro a2 w2 hA hE hB HF; have q4 := ksv (HF 4) rfl rfl rfl; clear q0 q1 q2 HF; replace h_1 := vx h_1 hE; replace h_2 := vx h_2 hE; clear hE; refine zE (zB (wp_ret ?_))
 have h := Comp.run_pure h; subst h
 exact zb Try.results73 hA q4 hB.ext rfl
theorem ok_core_Conflicts {O : Tags} {w0 : World} (hO : OkO O w0) {v_0 : Value} {x_0 : List Bool} (h_0 : (rSl rBool).v O w0 v_0 x_0) {n : Nat} {y : ((List Int) × Int)} (h : (gT x_0).run n = some y) : Pure Try.prog 51 #[v_0] w0 (SP.tup2 (SP.ownr (rInt .i64) 3 (w0.heap.size) O y.1) (SP.isv (.int .i64 y.2))).holds := by
 unfold gT at h
 refine zW Try.func51 rfl 38 Try.ntmps51 (by simp) fun a0 hA hs0 => ?_
 have q0 : a0.get 0 = v_0 := hs0 0 _ rfl
 clear hs0
 have hB : Base (Fr w0) O w0 O w0 := Base.start hO
 refine wp_seq ?_
 refine' rb [SP.vl (rBox (rSl rBool)) O x_0, _, _] mixed hA hB hO (cn (fun hE hK => okl_boxV (r := (rSl rBool)) (fun _ => rfl) (OkO.ext hB.ok hE) (kq hK q0) (vx h_0 hE)) (cn (fun hE hK => zC rfl) (cn (fun hE hK => zC rfl) .nil))) ?zk1
 intro a1 w1 hA hE hB HF; obtain ⟨u1, q1, f2⟩ := kx (HF 1) rfl rfl rfl; clear q0 HF; replace h_0 := vx h_0 hE; clear hE; refine zE (zB (wp_seq (wp_seq ?_)))
 refine' rb [SP.vl (rSl rBool) O x_0, _, _] mixed hA hB hO (cn (fun hE hK => vC (r := (rSl rBool)) (fun _ => rfl) ty47 rfl rfl (kn (hK 1 rfl) rfl q1) (yi (fun _ => rfl) (vx f2 hE))) (cn (fun hE hK => zg (r := rBool) ty47 rfl (rd_of (kp (SP.vl (rSl rBool) O x_0) 0 hK 7 rfl))) (cn (fun hE hK => zC (ks 1 hK 8 rfl)) .nil))) ?zk2
 intro a2 w2 hA hE hB HF; replace q1 := kf HF q1; have q4 := ksv (HF 4) rfl rfl rfl; clear HF; replace f2 := vx f2 hE; clear hE; refine zE (zB (wp_block (wp_seq ?_)))
 refine' rb [_, _, _] mixed hA hB hO (mv q4 (cn (fun hE hK => ok_gtr (ks 0 hK 10 rfl) rfl) (cn (fun hE hK => zC (ks 1 hK 11 rfl)) .nil))) ?zk3
 intro a3 w3 hA hE hB HF; replace q1 := kf HF q1; replace q4 := kf HF q4; have q9 := ksv (HF 9) rfl rfl rfl; clear HF; replace f2 := vx f2 hE; clear hE; refine zE (zB ?_)
 revert h; refine cnd q9 (fun h => ?_) (fun h => ?_)
 ·
  refine wp_seq ?_
  refine' rb [_, _] mixed hA hB hO (cn (fun hE hK => zC rfl) (cn (fun hE hK => zC rfl) .nil)) ?zk4
  intro a4 w4 hA hE hB HF; have q2 := ksv (HF 2) rfl rfl rfl; have q3 := ksv (HF 3) rfl rfl rfl; clear q1 q4 q9 HF; replace f2 := vx f2 hE; clear hE; refine zE (zB (wp_ret (yA (zN ?_))))
  have h := Comp.run_pure h; subst h
  exact vB Try.results51 hA q2 q3 hB.ext ⟨_, _, rfl, (OwnR.nil _ _ _ _ _), rfl⟩
 ·
  refine wp_seq ?_
  refine' rb [_, _, _, _, _, _, _, _, _, _] mixed hA hB hO (mv q4 (cn (fun hE hK => yO (ks 0 hK 13 rfl) rfl) (cn (fun hE hK => zJ (ks 1 hK 14 rfl)) (mv q4 (mv q4 (.cons (fun _ _ hE hK hg => ok_sub (kg 4 hK 17 rfl hg) rfl) (.cons (fun _ _ hE hK hg => okb_and (kg 3 hK 16 rfl hg) (kg 5 hK 18 rfl hg)) (.cons (fun _ _ hE hK hg => gR (kg 6 hK 19 rfl hg) rfl) (cn (fun hE hK => zV (ks 2 hK 15 rfl) (fun _ => rfl) (fun hb => kg 7 hK 20 rfl (zf rfl rfl hb))) (cn (fun hE hK => zC (ks 8 hK 21 rfl)) .nil)))))))))) ?zk5
  intro a5 w5 hA hE hB HF; replace q1 := kf HF q1; have q12 := ksv (HF 12) rfl rfl rfl; clear q4 q9 HF; replace f2 := vx f2 hE; clear hE
  obtain ⟨x3, hx_, h⟩ := Comp.run_bind h; replace hx_ := Comp.run_pure hx_; rw [hx_] at q12; clear hx_
  refine zE (zB ?_)
  revert h; refine cnd q12 (fun h => ?_) (fun h => ?_)
  ·
   refine wp_seq ?_
   refine' rb [_, _] mixed hA hB hO (cn (fun hE hK => zC rfl) (cn (fun hE hK => zC rfl) .nil)) ?zk6
   intro a6 w6 hA hE hB HF; have q2 := ksv (HF 2) rfl rfl rfl; have q3 := ksv (HF 3) rfl rfl rfl; clear q1 q12 HF; replace f2 := vx f2 hE; clear hE; refine zE (zB (wp_ret (yA (zN ?_))))
   have h := Comp.run_pure h; subst h
   exact vB Try.results51 hA q2 q3 hB.ext ⟨_, _, rfl, (OwnR.nil _ _ _ _ _), rfl⟩
  ·
   refine wp_skip (zm (zB (wp_seq ?_))); obtain ⟨x4, hx4, h⟩ := Comp.run_bind h
   refine' rbT [SP.vl (rSl rBool) O x_0, _, _, SP.isv (.int .i64 x4), _] hA hB hO (cn (fun hE hK => vC (r := (rSl rBool)) (fun _ => rfl) ty47 rfl rfl (kn (hK 1 rfl) rfl q1) (yi (fun _ => rfl) (vx f2 hE))) (cn (fun hE hK => zg (r := rBool) ty47 rfl (rd_of (kp (SP.vl (rSl rBool) O x_0) 0 hK 22 rfl))) (cn (fun hE hK => ok_convI ty3 ty85 (ks 1 hK 23 rfl)) (cn (fun hE hK => ok_call1 fn69 (ks 2 hK 24 rfl) (ok_math_bits_Len (OkO.ext hB.ok hE)  hx4)) (cn (fun hE hK => ok_sub (ks 3 hK 25 rfl) rfl) .nil))))) ?zk7
   intro a7 w7 hA hE hB HF; replace q1 := kf HF q1; have q26 := ksv (HF 26) rfl rfl rfl; clear q12 HF; replace f2 := vx f2 hE; clear hE
   refine l_ok (φ := SP.box w7.heap.size #[.int .i64 0] 3) hO hB (by exact jr (Nat.le_refl _) ty3) rfl fun u5 w8 hE hB' f6 => ?_
   clear hB'; obtain ⟨O7, b9, hB', hX, e_, f8⟩ := boxNew hO hB hE f6 1 (by decide)
   subst e_; clear hB f6; have hB := hB'; clear hB'
   replace f2 := vk f2 hX; clear hX hE
   refine zQ hA (by decide) fun a9 hA q_ hfr => ?_
   replace q1 := (hfr _ rfl).trans q1; replace q26 := (hfr _ rfl).trans q26; have q5 := q_; clear q_ hfr
   refine jb (cs' := #[.int .i64 (IntKind.wrap .i64 (x4 - 1))]) hO hB (yH hB) ty3 q5 q26 rfl rfl f8 (by simp) rfl fun w10 f10 hB' hX => ?_
   clear hB f8; have hB := hB'; clear hB'; replace f2 := vk f2 hX; clear hX; refine zE (zB (wp_seq ?_))
   obtain ⟨O11, hB', hX, f12⟩ := freezeB (r := (rInt .i64)) (x := (IntKind.wrap .i64 (x4 - 1))) hO hB f10 (by decide) rfl
   clear f10 hB; have hB := hB'; clear hB'; replace f2 := vk f2 hX; clear hX
   refine' rgT [SP.isv (.func (.func 70) #[] #[.pointer (some ⟨b9, 0, none⟩), u1]), SP.box w10.heap.size #[.nilFunc] 79] hA (cn (fun hE hK => ok_makeFunc map0 (map2 (kq hK q5) (kq hK q1))) (cn (fun hE hK => jr hE.size ty79) .nil)) ?zk8
   intro a11 w11 hA hE HF; replace q1 := kf HF q1; obtain ⟨u13, q6, f14⟩ := kx (HF 6) rfl rfl rfl; have q27 := ksv (HF 27) rfl rfl rfl; clear q5 HF
   obtain ⟨O15, b16, hB', hX, e_, f17⟩ := boxNew hO hB hE f14 2 (by decide)
   subst e_
   clear hB f14; have hB := hB'; clear hB'; replace f2 := vk f2 hX; replace f12 := vk f12 hX; clear hX hE
   have f18 : (rF1 Try.prog (rInt .i64) (RS.c (fun x => .bool x))).v O15 w11 (.func (.func 70) #[] #[.pointer (some ⟨b9, 0, none⟩), u1]) (fun z0 => yj z0 (IntKind.wrap .i64 (x4 - 1)) x_0) := rF1_v.2 ⟨rfl, fun O' w' hO' hk v_0 x_0 hv_0 n_ y_ hy_ => by obtain rfl := zU.1 hv_0; exact callV_func fn70 (ok_core_Conflicts_f1 hO'  (GR.zS _ f12 hk) (GR.zS _ f2 hk) hy_)⟩
   refine jb (cs' := #[.func (.func 70) #[] #[.pointer (some ⟨b9, 0, none⟩), u1]]) hO hB (yH hB) ty79 q6 q27 (sl_cells f18 rfl rfl) (sl_one f18 rfl rfl) f17 (by simp) rfl fun w12 f19 hB' hX => ?_
   clear hB f17; have hB := hB'; clear hB'; replace f2 := vk f2 hX; replace f18 := vk f18 hX; clear hX; refine zE (zB (wp_seq (wp_seq ?_)))
   obtain ⟨O20, hB', hX, f21⟩ := freezeB (r := (rF1 Try.prog (rInt .i64) (RS.c (fun x => .bool x)))) (x := (fun z0 => yj z0 (IntKind.wrap .i64 (x4 - 1)) x_0)) hO hB f19 (by decide) (vf (r := (rF1 Try.prog (rInt .i64) (RS.c (fun x => .bool x)))) f18 rfl rfl)
   clear f19 hB; have hB := hB'; clear hB'; replace f2 := vk f2 hX; replace f18 := vk f18 hX; clear hX; obtain ⟨x22, hx22, h⟩ := Comp.run_bind h
   refine' rb [SP.vl (rSl rBool) O20 x_0, _, SP.isv (.func (.func 72) #[] #[u1, .pointer (some ⟨b16, 0, none⟩)]), SP.vl (rSl (rInt .i64)) O20 x22, _, _] mixed hA hB hO (cn (fun hE hK => vC (r := (rSl rBool)) (fun _ => rfl) ty47 rfl rfl (kn (hK 1 rfl) rfl q1) (yi (fun _ => rfl) (vx f2 hE))) (cn (fun hE hK => zg (r := rBool) ty47 rfl (rd_of (kp (SP.vl (rSl rBool) O20 x_0) 0 hK 28 rfl))) (cn (fun hE hK => ok_makeFunc map0 (map2 (kq hK q1) (kq hK q6))) (.cons ?z9_3 (cn (fun hE hK => zg (r := (rInt .i64)) ty23 rfl (rd_of (kp (SP.vl (rSl (rInt .i64)) O20 x22) 3 hK 31 rfl))) (cn (fun hE hK => ok_gtr (ks 4 hK 32 rfl) rfl) .nil)))))) ?zk9
   case z9_3 => intro a' w' hE hK hg; have c_ := ok_core_only (OkO.ext hB.ok hE) (show (rF1 Try.prog (rInt .i64) (RS.c (fun x => .bool x))).v O20 _ (.func (.func 72) #[] #[u1, .pointer (some ⟨b16, 0, none⟩)]) (fun z0 => jh z0 x_0 (fun z0 => yj z0 (IntKind.wrap .i64 (x4 - 1)) x_0)) from rF1_v.2 ⟨rfl, fun O' w' hO' hk v_0 x_0 hv_0 n_ y_ hy_ => by obtain rfl := zU.1 hv_0; exact callV_func fn72 (ok_core_Conflicts_f2 hO'  (GR.zS _ (vx f2 hE) hk) (GR.zS _ (vx f21 hE) hk) hy_)⟩) hx22; exact yL (zz fn71 (ks 1 hK 29 rfl) (ks 2 hK 30 rfl) c_) (fun _ _ _ h => (OwnR.val h (fun g hg => (OkO.ext hB.ok hE) g (OwnR.ge h g hg).1)))
   intro a13 w13 hA hE hB HF; replace q1 := kf HF q1; replace q6 := kf HF q6; have q33 := ksv (HF 33) rfl rfl rfl; clear HF; replace f2 := vx f2 hE; replace f21 := vx f21 hE; clear hE; refine zE (zB ?_)
   revert h; refine cnd q33 (fun h => ?_) (fun h => ?_)
   ·
    refine wp_seq ?_
    refine' rb [_, _] mixed hA hB hO (cn (fun hE hK => zC rfl) (cn (fun hE hK => zC rfl) .nil)) ?zk10
    intro a14 w14 hA hE hB HF; have q2 := ksv (HF 2) rfl rfl rfl; have q3 := ksv (HF 3) rfl rfl rfl; clear q1 q6 q33 HF; replace f2 := vx f2 hE; replace f21 := vx f21 hE; clear hE; refine zE (zB (wp_ret (zN ?_)))
    have h := Comp.run_pure h; subst h
    exact vB Try.results51 hA q2 q3 hB.ext ⟨_, _, rfl, (OwnR.nil _ _ _ _ _), rfl⟩
   ·
    refine wp_skip (zB (wp_seq ?_))
    refine' rbT [SP.vl (rSl rBool) O20 x_0, _, SP.isv (.func (.func 73) #[] #[u1, .pointer (some ⟨b16, 0, none⟩)])] hA hB hO (cn (fun hE hK => vC (r := (rSl rBool)) (fun _ => rfl) ty47 rfl rfl (kn (hK 1 rfl) rfl q1) (yi (fun _ => rfl) (vx f2 hE))) (cn (fun hE hK => zg (r := rBool) ty47 rfl (rd_of (kp (SP.vl (rSl rBool) O20 x_0) 0 hK 34 rfl))) (cn (fun hE hK => ok_makeFunc map0 (map2 (kq hK q1) (kq hK q6))) .nil))) ?zk11
    intro a15 w15 hA hE hB HF; have q35 := ksv (HF 35) rfl rfl rfl; have q36 := ksv (HF 36) rfl rfl rfl; clear q1 q6 q33 HF; replace f2 := vx f2 hE; replace f21 := vx f21 hE; clear hE
    have f23 : (rF1 Try.prog (rInt .i64) (RS.c (fun x => .bool x))).v O20 w15 (.func (.func 73) #[] #[u1, .pointer (some ⟨b16, 0, none⟩)]) (fun z0 => jg z0 x_0 (fun z0 => yj z0 (IntKind.wrap .i64 (x4 - 1)) x_0)) := rF1_v.2 ⟨rfl, fun O' w' hO' hk v_0 x_0 hv_0 n_ y_ hy_ => by obtain rfl := zU.1 hv_0; exact callV_func fn73 (ok_core_Conflicts_f3 hO'  (GR.zS _ f2 hk) (GR.zS _ f21 hk) hy_)⟩
    obtain ⟨x24, hx24, h⟩ := Comp.run_bind h
    refine l_ok (φ := SP.ownr (rInt .i64) 3 w15.heap.size O20 x24) hO hB (by have c_ := ok_core_only hB.ok f23 hx24; exact yL (zz fn71 q35 q36 c_) (fun _ _ _ h => h)) rfl fun u25 w16 hE hB' f26 => ?_
    clear hB'; obtain ⟨O27, hB', hX, f28⟩ := ownNew hO hB hE f26 rfl 3 (by decide)
    clear hB f26; have hB := hB'; clear hB'; replace f23 := vk f23 hX; clear hX hE
    refine zQ hA (by decide) fun a17 hA q_ hfr => ?_
    replace q35 := (hfr _ rfl).trans q35; replace q36 := (hfr _ rfl).trans q36; have q37 := q_; clear q_ hfr
    refine l_ok (φ := SP.isv (u25)) hO hB (by exact zC q37) rfl fun u_ w18 hE hB' hv_ => ?_
    replace hv_ := Eq.symm hv_; subst hv_; clear hB; have hB := hB'; clear hB'
    replace f28 := f28.ext hE; clear hE
    refine zQ hA (by decide) fun a19 hA q_ hfr => ?_
    replace q37 := (hfr _ rfl).trans q37; have q2 := q_; clear q_ hfr
    refine l_ok (φ := SP.isv (.int .i64 0)) hO hB (by exact zC rfl) rfl fun u_ w20 hE hB' hv_ => ?_
    replace hv_ := Eq.symm hv_; subst hv_; clear hB; have hB := hB'; clear hB'
    replace f28 := f28.ext hE; clear hE
    refine zQ hA (by decide) fun a21 hA q_ hfr => ?_
    replace q2 := (hfr _ rfl).trans q2; have q3 := q_; clear q_ hfr; refine zE (zB (wp_ret ?_))
    have h := Comp.run_pure h; subst h
    exact vB Try.results51 hA q2 q3 hB.ext ⟨_, _, rfl, (OwnL.res f28 (by decide) hB.zero), rfl⟩
theorem ok_court_Conflicts {O : Tags} {w0 : World} (hO : OkO O w0) {v_0 : Value} {x_0 : List api_Claim} (h_0 : (rSl zA).v O w0 v_0 x_0) {v_1 : Value} {x_1 : List api_Sight} (h_1 : (rSl zD).v O w0 v_1 x_1) {x_2 : Int} {n : Nat} {y : ((List Int) × Int)} (h : (vy x_0 x_1 x_2).run n = some y) : Pure Try.prog 22 #[v_0, v_1, .int .i64 x_2] w0 (SP.tup2 (SP.ownr (rInt .i64) 3 (w0.heap.size) O y.1) (SP.isv (.int .i64 y.2))).holds := by
 unfold vy at h
 refine zW Try.func22 rfl 43 Try.ntmps22 (by simp) fun a0 hA hs0 => ?_
 have q0 : a0.get 0 = v_0 := hs0 0 _ rfl
 have q1 : a0.get 1 = v_1 := hs0 1 _ rfl
 have q2 : a0.get 2 = .int .i64 x_2 := hs0 2 _ rfl
 clear hs0
 have hB : Base (Fr w0) O w0 O w0 := Base.start hO
 refine wp_seq ?_
 refine' rb [_, _] mixed hA hB hO (cn (fun hE hK => zC rfl) (cn (fun hE hK => zC rfl) .nil)) ?zk1
 intro a1 w1 hA hE hB HF; refine kr3 HF q0 q1 q2 ?_; clear q0 q1 q2; intro q0 q1 q2; clear HF; replace h_0 := vx h_0 hE; replace h_1 := vx h_1 hE; clear hE; refine zE (zB (wp_seq (wp_seq ?_))); obtain ⟨x1, hx1, h⟩ := Comp.run_bind h
 refine' rb [_, _, _, SP.isv (.int .i64 x1), _] mixed hA hB hO (mv q0 (mv q1 (mv q2 (cn (fun hE hK => vR fn13 (ks 0 hK 12 rfl) (ks 1 hK 13 rfl) (ks 2 hK 14 rfl) (ok_court_Check (OkO.ext hB.ok hE) (vx h_0 hE) (vx h_1 hE) hx1)) (cn (fun hE hK => zC (ks 3 hK 15 rfl)) .nil))))) ?zk2
 intro a2 w2 hA hE hB HF; refine kr3 HF q0 q1 q2 ?_; clear q0 q1 q2; intro q0 q1 q2; have q8 := ksv (HF 8) rfl rfl rfl; clear HF; replace h_0 := vx h_0 hE; replace h_1 := vx h_1 hE; clear hE; refine zE (zB (wp_seq ?_))
 refine' rb [_, _] mixed hA hB hO (mv q8 (cn (fun hE hK => gR (ks 0 hK 16 rfl) rfl) .nil)) ?zk3
 intro a3 w3 hA hE hB HF; refine kr4 HF q0 q1 q2 q8 ?_; clear q0 q1 q2 q8; intro q0 q1 q2 q8; have q17 := ksv (HF 17) rfl rfl rfl; clear HF; replace h_0 := vx h_0 hE; replace h_1 := vx h_1 hE; clear hE; refine zE (zB ?_)
 revert h; refine cnd q17 (fun h => ?_) (fun h => ?_)
 ·
  refine wp_seq ?_
  refine' rb [_, _, _] mixed hA hB hO (mv q8 (cn (fun hE hK => zC rfl) (cn (fun hE hK => zC (ks 0 hK 18 rfl)) .nil))) ?zk4
  intro a4 w4 hA hE hB HF; have q6 := ksv (HF 6) rfl rfl rfl; have q7 := ksv (HF 7) rfl rfl rfl; clear q0 q1 q2 q8 q17 HF; replace h_0 := vx h_0 hE; replace h_1 := vx h_1 hE; clear hE; refine zE (zB (wp_ret (zN ?_)))
  have h := Comp.run_pure h; subst h
  exact vB Try.results22 hA q6 q7 hB.ext ⟨_, _, rfl, (OwnR.nil _ _ _ _ _), rfl⟩
 ·
  refine wp_skip (zB (wp_seq ?_)); obtain ⟨x2, hx2, h⟩ := Comp.run_bind h
  refine' rb [_, _, SP.vl (rSl zX) O x2, SP.vl (rSl zX) O x2] mixed hA hB hO (mv q0 (mv q1 (.cons (fun _ _ hE hK hg => yL (zz fn41 (ks 0 hK 19 rfl) (ks 1 hK 20 rfl) (ok_court_voices (OkO.ext hB.ok hE) (vx h_0 hE) (vx h_1 hE) hx2)) (fun _ _ _ h => (OwnR.val h (fun g hg => (OkO.ext hB.ok hE) g (OwnR.ge h g hg).1)))) (cn (fun hE hK => zt (φ := SP.vl (rSl zX) O x2) (kp _ 2 hK 21 rfl)) .nil)))) ?zk5
  intro a5 w5 hA hE hB HF; replace q0 := kf HF q0; replace q2 := kf HF q2; obtain ⟨u3, q9, f4⟩ := kx (HF 9) rfl rfl rfl; clear q1 q8 q17 HF; replace h_0 := vx h_0 hE; replace h_1 := vx h_1 hE; clear hE; refine zE (zB (wp_seq ?_)); obtain ⟨x5, hx5, h⟩ := Comp.run_bind h
  refine' rbT [_, _, _] hA hB hO (mv q0 (cn (fun hE hK => zg (r := zA) ty27 (ks 0 hK 22 rfl) (rd_of (vx h_0 hE))) (cn (fun hE hK => okl_shl rfl (ks 1 hK 23 rfl) (yY hx5)) .nil))) ?zk6
  intro a6 w6 hA hE hB HF; replace q2 := kf HF q2; replace q9 := kf HF q9; have q24 := ksv (HF 24) rfl rfl rfl; clear q0 HF; replace h_0 := vx h_0 hE; replace f4 := vx f4 hE; clear hE; obtain ⟨x6, hx6, h⟩ := Comp.run_bind h
  refine l_ok (φ := SP.ownr rBool 4 w6.heap.size O x6) hO hB (by exact okl_make (r := rBool) (B := w6.heap.size) rfl ty47 ty4 (by decide) rfl (Nat.le_refl _) q24 q24 (fun _ _ => rBool_v.2 rfl) hx6) rfl fun u7 w7 hE hB' f8 => ?_
  clear hB'; obtain ⟨O9, hB', hX, f10⟩ := ownNew hO hB hE f8 rfl 1 (by decide)
  clear hB f8; have hB := hB'; clear hB'; replace f4 := vk f4 hX; clear hX hE
  refine zQ hA (by decide) fun a8 hA q_ hfr => ?_
  refine kd3 hfr q2 q9 q24 ?_; clear q2 q9 q24; intro q2 q9 q24; have q25 := q_; clear q_ hfr
  refine l_ok (φ := SP.isv (u7)) hO hB (by exact zC q25) rfl fun u_ w9 hE hB' hv_ => ?_
  replace hv_ := Eq.symm hv_; subst hv_; clear hB; have hB := hB'; clear hB'
  replace f4 := vx f4 hE; replace f10 := f10.ext hE; clear hE
  refine zQ hA (by decide) fun a10 hA q_ hfr => ?_
  refine kd3 hfr q2 q9 q25 ?_; clear q2 q9 q25; intro q2 q9 q25; have q10 := q_; clear q_ hfr; refine zE (zB ?_)
  refine zY (fun a w => ∃ (O31 : Tags) (x26 : List Bool) (u27 : Value), a.fit 43 ∧ Base (Fr w0) O w0 O31 w ∧ a.get 10 = u27 ∧ (rSl rBool).v O31 w u27 x26 ∧ (court_Conflicts_j1 x26).run n = some y) ?_ ?_
  ·
   refine wp_seq ?_
   refine' rb [_, _, _] mixed hA hB hO (mv q10 (cn (fun hE hK => zg (r := rBool) ty47 (ks 0 hK 26 rfl) (OwnL.rd (OwnL.ext f10 hE))) (cn (fun hE hK => zJ rfl) .nil))) ?zk7
   intro a11 w11 hA hE hB HF; refine kr3 HF q2 q9 q10 ?_; clear q2 q9 q10; intro q2 q9 q10; have q27 := ksv (HF 27) rfl rfl rfl; have q28 := ksv (HF 28) rfl rfl rfl; clear HF; replace f4 := vx f4 hE; replace f10 := f10.ext hE; clear hE; refine zE (zB (wp_block ?_))
   obtain ⟨O15, hB', hX, f16⟩ := retagL (yH hB) hB f10 2 (by decide) (by decide)
   clear f10 hB; have hB := hB'; clear hB'; replace f4 := vk f4 hX; clear hX
   obtain ⟨e2, he2, hk2⟩ := Comp.run_bind h; clear h
   refine yt (fun m a w => ∃ (O17 : Tags) (x11 : List Bool) (x14 : Int) (u12 : Value), a.fit 43 ∧ Base (Fr w0) O w0 O17 w ∧ a.get 2 = .int .i64 x_2 ∧ a.get 9 = u3 ∧ (rSl zX).v O17 w u3 x2 ∧ a.get 10 = u12 ∧ OwnL 2 rBool 4 (Fr w0) O17 w u12 x11 ∧ a.get 27 = .int .i64 (x6.length : Int) ∧ a.get 28 = .int .i64 x14 ∧ Comp.loopN (fun s => vS x6 x2 x_2 s.1 s.2) n m (x11, x14) = some e2) (m := n) ?st2 ?_
   case st2 =>
    exact ⟨_, _, _, _, hA, hB, q2, q9, f4, q10, f16, q27, q28, Comp.zk he2⟩
   intro m_ a12 w12 hI
   clear hA hB he2 q2 q9 q10 q27 q28 f16 f4
   obtain ⟨O17, x11, x14, u12, hA, hB, q2, q9, f4, q10, f13, q27, q28, hl⟩ := hI
   obtain ⟨m2, hlt2, st2, h, hnext2, hdone2⟩ := Comp.zZ hl; clear hl
   replace h : (vS x6 x2 x_2 x11 x14).run n = some st2 := h
   unfold vS at h; refine wp_seq ?_
   refine' rb [_] mixed hA hB hO (cn (fun hE hK => zy (kq hK q28) (kq hK q27)) .nil) ?zk8
   intro a13 w13 hA hE hB HF; refine kr5 HF q2 q9 q10 q27 q28 ?_; clear q2 q9 q10 q27 q28; intro q2 q9 q10 q27 q28; have q29 := ksv (HF 29) rfl rfl rfl; clear HF; replace f4 := vx f4 hE; replace f13 := f13.ext hE; clear hE; refine zE (zB (wp_seq ?_))
   revert h; refine cnd q29 (fun h => ?_) (fun h => ?_)
   ·
    refine wp_skip (zB (wp_seq (wp_block (wp_seq ?_))))
    refine' rb [_, _] mixed hA hB hO (mv q28 (cn (fun hE hK => zC (ks 0 hK 30 rfl)) .nil)) ?zk9
    intro a14 w14 hA hE hB HF; refine kr5 HF q2 q9 q10 q27 q28 ?_; clear q2 q9 q10 q27 q28; intro q2 q9 q10 q27 q28; have q11 := ksv (HF 11) rfl rfl rfl; clear q29 HF; replace f4 := vx f4 hE; replace f13 := f13.ext hE; clear hE; refine zE (zB ?_); obtain ⟨x18, hx18, h⟩ := Comp.run_bind h; obtain ⟨x19, hx19, h⟩ := Comp.run_bind h
    refine' rbT [_, _, _, _, _, SP.isv (.bool x18), SP.elt (u12) (Int.toNat x14 * 1)] hA hB hO (mv q10 (mv q11 (mv q9 (mv q2 (mv q11 (cn (fun hE hK => vR fn40 (ks 2 hK 33 rfl) (ks 3 hK 34 rfl) (ks 4 hK 35 rfl) (ok_court_agrees (OkO.ext hB.ok hE) (vx f4 hE) hx18)) (cn (fun hE hK => okl_idxOwn rfl ty47 ty4 (ksv (j := 0) (hK 31 rfl) rfl rfl rfl) (OwnL.ext f13 hE) (ks 1 hK 32 rfl) (idx_lt hx19)) .nil))))))) ?zk10
    intro a15 w15 hA hE hB HF; refine kr5 HF q2 q9 q10 q27 q28 ?_; clear q2 q9 q10 q27 q28; intro q2 q9 q10 q27 q28; obtain ⟨u20, q37, f21⟩ := kx (HF 37) rfl rfl rfl; have q36 := ksv (HF 36) rfl rfl rfl; clear q11 HF; replace f4 := vx f4 hE; replace f13 := f13.ext hE; clear hE; obtain ⟨x23, hx23, h⟩ := Comp.run_bind h
    refine l_storeElt (r := rBool) (fun _ => rfl) rfl hO hB (yH hB) ty4 q37 f21 f13 q36 (by exact rBool_v.2 rfl) hx23 (by decide) fun w16 f22 hB' hX => ?_
    clear hB; have hB := hB'; clear hB'; replace f4 := vk f4 hX; clear hX f13; refine zE (zm (zB ?_))
    refine' rb [_, _] mixed hA hB hO (cn (fun hE hK => yP (kq hK q28) rfl) (cn (fun hE hK => zJ (ks 0 hK 38 rfl)) .nil)) ?zk11
    intro a17 w17 hA hE hB HF; refine kr4 HF q2 q9 q10 q27 ?_; clear q2 q9 q10 q27; intro q2 q9 q10 q27; replace q28 := ksv (HF 28) rfl rfl rfl; clear HF; replace f4 := vx f4 hE; replace f22 := f22.ext hE; clear hE; refine zE (zB ?_)
    have h := hnext2 _ (Comp.run_pure h).symm
    refine ⟨m2, hlt2, ?_⟩
    exact ⟨_, _, _, _, hA, hB, q2, q9, f4, q10, f22, q27, q28, h⟩
   ·
    refine wp_exit (zT (zT (zw ?_)))
    have hd_ := hdone2 _ (Comp.run_pure h).symm; clear h
    subst hd_; have h := hk2; clear hk2; try dsimp only at h
    refine zB ?_
    obtain ⟨O29, hB', hX, f30⟩ := freezeL hO hB f13 (by decide)
    clear f13 hB; have hB := hB'; clear hB'; replace f4 := vk f4 hX; clear hX
    exact ⟨_, _, _, hA, hB, q10, f30, h⟩
  intro a18 w18 hI
  clear hA hB h q2 q9 q10 f10 f4
  obtain ⟨O31, x26, u27, hA, hB, q10, f28, h⟩ := hI
  unfold court_Conflicts_j1 at h; refine wp_seq ?_; obtain ⟨x32, hx32, h⟩ := Comp.run_bind h
  refine' rg [_, SP.tup2 (SP.ownr (rInt .i64) 3 w18.heap.size O31 x32.1) (SP.isv (.int .i64 x32.2)), SP.ownr (rInt .i64) 3 w18.heap.size O31 x32.1, SP.isv (.int .i64 x32.2), SP.ownr (rInt .i64) 3 w18.heap.size O31 x32.1, _] mixed hA (mv q10 (cn (fun hE hK => yL (ok_call1 fn51 (ks 0 hK 39 rfl) (ok_core_Conflicts (OkO.ext hB.ok hE) (vx f28 hE) hx32)) (fun _ _ _ ⟨a_, b_, e0_, h0_, h1_⟩ => ⟨a_, b_, e0_, (fun h => (OwnR.base h hE.size)) h0_, h1_⟩)) (cn (fun hE hK => jZ (kp (SP.tup2 (SP.ownr (rInt .i64) 3 w18.heap.size O31 x32.1) (SP.isv (.int .i64 x32.2))) 1 hK 40 rfl)) (cn (fun hE hK => jY (kp (SP.tup2 (SP.ownr (rInt .i64) 3 w18.heap.size O31 x32.1) (SP.isv (.int .i64 x32.2))) 1 hK 40 rfl)) (cn (fun hE hK => zt (φ := SP.ownr (rInt .i64) 3 w18.heap.size O31 x32.1) (kp _ 2 hK 41 rfl)) (cn (fun hE hK => zC (ks 3 hK 42 rfl)) .nil)))))) ?zk12
  intro a19 w19 hA hE HF; obtain ⟨u33, q6, f34⟩ := kx (HF 6) rfl rfl rfl; have q7 := ksv (HF 7) rfl rfl rfl; clear q10 HF
  obtain ⟨O35, hB', hX, f36⟩ := ownNew hO hB hE f34 rfl 3 (by decide)
  clear hB f34; have hB := hB'; clear hB'; replace f28 := vk f28 hX; clear hX hE; refine zE (zB (wp_ret ?_))
  have h := Comp.run_pure h; subst h
  exact vB Try.results22 hA q6 q7 hB.ext ⟨_, _, rfl, (OwnL.res f36 (by decide) hB.zero), rfl⟩
theorem vg {O : Tags} {w0 : World} (hO : OkO O w0) {v_0 : Value} {x_0 : List Int} (h_0 : (rSl (rInt .i64)).v O w0 v_0 x_0) {v_1 : Value} {x_1 : List Int} (h_1 : (rSl (rInt .i64)).v O w0 v_1 x_1) {n : Nat} {y : Bool} (h : (yg x_0 x_1).run n = some y) : Pure Try.prog 21 #[v_0, v_1] w0 (SP.isv (.bool y)).holds := by
 unfold yg at h
 refine zW Try.func21 rfl 26 Try.ntmps21 (by simp) fun a0 hA hs0 => ?_
 have q0 : a0.get 0 = v_0 := hs0 0 _ rfl
 have q1 : a0.get 1 = v_1 := hs0 1 _ rfl
 clear hs0
 have hB : Base (Fr w0) O w0 O w0 := Base.start hO
 refine wp_seq ?_
 refine' rb [_] mixed hA hB hO (cn (fun hE hK => zC rfl) .nil) ?zk1
 intro a1 w1 hA hE hB HF; replace q0 := kf HF q0; replace q1 := kf HF q1; clear HF; replace h_0 := vx h_0 hE; replace h_1 := vx h_1 hE; clear hE; refine zE (zB (wp_seq (wp_seq ?_)))
 refine' rb [_, _, _, _, _] mixed hA hB hO (mv q0 (cn (fun hE hK => zg (r := (rInt .i64)) ty23 (ks 0 hK 6 rfl) (rd_of (vx h_0 hE))) (mv q1 (cn (fun hE hK => zg (r := (rInt .i64)) ty23 (ks 2 hK 8 rfl) (rd_of (vx h_1 hE))) (cn (fun hE hK => gR (ks 1 hK 7 rfl) (ks 3 hK 9 rfl)) .nil))))) ?zk2
 intro a2 w2 hA hE hB HF; replace q0 := kf HF q0; replace q1 := kf HF q1; have q10 := ksv (HF 10) rfl rfl rfl; clear HF; replace h_0 := vx h_0 hE; replace h_1 := vx h_1 hE; clear hE
 obtain ⟨x1, hx_, h⟩ := Comp.run_bind h; replace hx_ := Comp.run_pure hx_; rw [hx_] at q10; clear hx_
 refine zE (zB ?_)
 revert h; refine cnd q10 (fun h => ?_) (fun h => ?_)
 ·
  refine wp_seq ?_
  refine' rb [_] mixed hA hB hO (cn (fun hE hK => zC rfl) .nil) ?zk3
  intro a3 w3 hA hE hB HF; have q4 := ksv (HF 4) rfl rfl rfl; clear q0 q1 q10 HF; replace h_0 := vx h_0 hE; replace h_1 := vx h_1 hE; clear hE; refine zE (zB (wp_ret (zN ?_)))
  have h := Comp.run_pure h; subst h
  exact zb Try.results21 hA q4 hB.ext rfl
 ·
  refine wp_skip (zB ?_)
  refine zY (fun a w => ∃ (O7 : Tags), a.fit 26 ∧ Base (Fr w0) O w0 O7 w ∧ (jc ).run n = some y) ?_ ?_
  ·
   refine wp_seq ?_
   refine' rb [_] mixed hA hB hO (cn (fun hE hK => zC rfl) .nil) ?zk4
   intro a4 w4 hA hE hB HF; replace q0 := kf HF q0; replace q1 := kf HF q1; have q5 := ksv (HF 5) rfl rfl rfl; clear q10 HF; replace h_0 := vx h_0 hE; replace h_1 := vx h_1 hE; clear hE; refine zE (zB (wp_block ?_))
   obtain ⟨e2, he2, hk2⟩ := Comp.run_bind h; clear h
   refine yt (fun m a w => ∃ (O3 : Tags) (x2 : Int), a.fit 26 ∧ Base (Fr w0) O w0 O3 w ∧ a.get 0 = v_0 ∧ (rSl (rInt .i64)).v O3 w v_0 x_0 ∧ a.get 1 = v_1 ∧ (rSl (rInt .i64)).v O3 w v_1 x_1 ∧ a.get 5 = .int .i64 x2 ∧ Comp.loopN (fun s => yc x_0 x_1 s) n m x2 = some e2) (m := n) ?st2 ?_
   case st2 =>
    exact ⟨_, _, hA, hB, q0, h_0, q1, h_1, q5, Comp.zk he2⟩
   intro m_ a5 w5 hI
   clear hA hB he2 q0 q1 q5 h_0 h_1
   obtain ⟨O3, x2, hA, hB, q0, h_0, q1, h_1, q5, hl⟩ := hI
   obtain ⟨m2, hlt2, st2, h, hnext2, hdone2⟩ := Comp.zZ hl; clear hl
   replace h : (yc x_0 x_1 x2).run n = some st2 := h
   unfold yc at h; refine wp_seq (wp_seq ?_)
   refine' rb [_, _, _, _] mixed hA hB hO (mv q5 (mv q0 (cn (fun hE hK => zg (r := (rInt .i64)) ty23 (ks 1 hK 12 rfl) (rd_of (vx h_0 hE))) (cn (fun hE hK => zy (ks 0 hK 11 rfl) (ks 2 hK 13 rfl)) .nil)))) ?zk5
   intro a6 w6 hA hE hB HF; refine kr3 HF q0 q1 q5 ?_; clear q0 q1 q5; intro q0 q1 q5; have q14 := ksv (HF 14) rfl rfl rfl; clear HF; replace h_0 := vx h_0 hE; replace h_1 := vx h_1 hE; clear hE; refine zE (zB ?_)
   revert h; refine cnd q14 (fun h => ?_) (fun h => ?_)
   ·
    refine wp_skip (zB (wp_seq (wp_block (wp_seq ?_)))); obtain ⟨x4, hx4, h⟩ := Comp.run_bind h; obtain ⟨x5, hx5, h⟩ := Comp.run_bind h
    refine' rb [_, _, SP.ptr (rInt .i64) O3 x4, SP.isv (.int .i64 x4), _, _, SP.ptr (rInt .i64) O3 x5, SP.isv (.int .i64 x5), _] mixed hA hB hO (mv q0 (mv q5 (cn (fun hE hK => zp (r := (rInt .i64)) (O := O3) ty23 ty3 rfl (ks 0 hK 17 rfl) (rd_of (vx h_0 hE)) (ks 1 hK 18 rfl) hx4) (cn (fun hE hK => za (rInt .i64) (fun _ => rfl) ty3 rfl rfl rfl (kp (SP.ptr (rInt .i64) O3 x4) 2 hK 19 rfl) (fun _ _ _ h => zU.1 h)) (mv q1 (mv q5 (cn (fun hE hK => zp (r := (rInt .i64)) (O := O3) ty23 ty3 rfl (ks 4 hK 21 rfl) (rd_of (vx h_1 hE)) (ks 5 hK 22 rfl) hx5) (cn (fun hE hK => za (rInt .i64) (fun _ => rfl) ty3 rfl rfl rfl (kp (SP.ptr (rInt .i64) O3 x5) 6 hK 23 rfl) (fun _ _ _ h => zU.1 h)) (cn (fun hE hK => gR (ks 3 hK 20 rfl) (ks 7 hK 24 rfl)) .nil))))))))) ?zk6
    intro a7 w7 hA hE hB HF; refine kr3 HF q0 q1 q5 ?_; clear q0 q1 q5; intro q0 q1 q5; have q25 := ksv (HF 25) rfl rfl rfl; clear q14 HF; replace h_0 := vx h_0 hE; replace h_1 := vx h_1 hE; clear hE; refine zE (zB ?_)
    revert h; refine cnd q25 (fun h => ?_) (fun h => ?_)
    ·
     refine wp_seq ?_
     refine' rb [_] mixed hA hB hO (cn (fun hE hK => zC rfl) .nil) ?zk7
     intro a8 w8 hA hE hB HF; have q4 := ksv (HF 4) rfl rfl rfl; clear q0 q1 q5 q25 HF; replace h_0 := vx h_0 hE; replace h_1 := vx h_1 hE; clear hE; refine zE (zB (wp_ret (yA (zN (zN (yA (zN ?_)))))))
     have hd_ := hdone2 _ (Comp.run_pure h).symm; clear h
     subst hd_; have h := hk2; clear hk2; try dsimp only at h
     have h := Comp.run_pure h; subst h
     exact zb Try.results21 hA q4 hB.ext rfl
    ·
     refine wp_skip (zm (zB ?_))
     refine' rb [_, _, _] mixed hA hB hO (mv q5 (cn (fun hE hK => yP (ks 0 hK 15 rfl) rfl) (cn (fun hE hK => zC (ks 1 hK 16 rfl)) .nil))) ?zk8
     intro a9 w9 hA hE hB HF; replace q0 := kf HF q0; replace q1 := kf HF q1; replace q5 := ksv (HF 5) rfl rfl rfl; clear q25 HF; replace h_0 := vx h_0 hE; replace h_1 := vx h_1 hE; clear hE; refine zE (zB ?_)
     have h := hnext2 _ (Comp.run_pure h).symm
     refine ⟨m2, hlt2, ?_⟩
     exact ⟨_, _, hA, hB, q0, h_0, q1, h_1, q5, h⟩
   ·
    refine wp_exit (zT (zT (zw ?_)))
    have hd_ := hdone2 _ (Comp.run_pure h).symm; clear h
    subst hd_; have h := hk2; clear hk2; try dsimp only at h
    refine zB ?_
    exact ⟨_, hA, hB, h⟩
  intro a10 w10 hI
  clear hA hB h q0 q1 q10 h_0 h_1
  obtain ⟨O7, hA, hB, h⟩ := hI
  unfold jc at h; refine wp_seq ?_
  refine' rb [_] mixed hA hB hO (cn (fun hE hK => zC rfl) .nil) ?zk9
  intro a11 w11 hA hE hB HF; have q4 := ksv (HF 4) rfl rfl rfl; clear HF; clear hE; refine zE (zB (wp_ret ?_))
  have h := Comp.run_pure h; subst h
  exact zb Try.results21 hA q4 hB.ext rfl
theorem vW {O : Tags} {w0 : World} (hO : OkO O w0) {v_0 : Value} {x_0 : List api_Claim} (h_0 : (rSl zA).v O w0 v_0 x_0) {v_1 : Value} {x_1 : List api_Sight} (h_1 : (rSl zD).v O w0 v_1 x_1) {v_2 : Value} {x_2 : List Int} (h_2 : (rSl (rInt .i64)).v O w0 v_2 x_2) {n : Nat} {y : Bool} (h : (vG x_0 x_1 x_2).run n = some y) : Pure Try.prog 33 #[v_0, v_1, v_2] w0 (SP.isv (.bool y)).holds := by
 unfold vG at h
 refine zW Try.func33 rfl 22 Try.ntmps33 (by simp) fun a0 hA hs0 => ?_
 have q0 : a0.get 0 = v_0 := hs0 0 _ rfl
 have q1 : a0.get 1 = v_1 := hs0 1 _ rfl
 have q2 : a0.get 2 = v_2 := hs0 2 _ rfl
 clear hs0
 have hB : Base (Fr w0) O w0 O w0 := Base.start hO
 refine wp_seq ?_
 refine' rb [_] mixed hA hB hO (cn (fun hE hK => zC rfl) .nil) ?zk1
 intro a1 w1 hA hE hB HF; refine kr3 HF q0 q1 q2 ?_; clear q0 q1 q2; intro q0 q1 q2; clear HF; replace h_0 := vx h_0 hE; replace h_1 := vx h_1 hE; replace h_2 := vx h_2 hE; clear hE; refine zE (zB (wp_seq ?_)); obtain ⟨x1, hx1, h⟩ := Comp.run_bind h
 refine' rb [_, _, SP.tup2 (SP.vl (rSl (rInt .i64)) O x1.1) (SP.isv (.int .i64 x1.2)), SP.tup2 (SP.vl (rSl (rInt .i64)) O x1.1) (SP.isv (.int .i64 x1.2)), SP.vl (rSl (rInt .i64)) O x1.1, SP.isv (.int .i64 x1.2), SP.vl (rSl (rInt .i64)) O x1.1, _] mixed hA hB hO (mv q0 (mv q1 (.cons (fun _ _ hE hK hg => yL (vR fn22 (ks 0 hK 10 rfl) (ks 1 hK 11 rfl) rfl (ok_court_Conflicts (OkO.ext hB.ok hE) (vx h_0 hE) (vx h_1 hE) hx1)) (fun _ _ _ ⟨a_, b_, e0_, h0_, h1_⟩ => ⟨a_, b_, e0_, (fun h => (OwnR.val h (fun g hg => (OkO.ext hB.ok hE) g (OwnR.ge h g hg).1))) h0_, h1_⟩)) (cn (fun hE hK => vr (φ := SP.tup2 (SP.vl (rSl (rInt .i64)) O x1.1) (SP.isv (.int .i64 x1.2))) (kp _ 2 hK 12 rfl)) (cn (fun hE hK => jZ (kp (SP.tup2 (SP.vl (rSl (rInt .i64)) O x1.1) (SP.isv (.int .i64 x1.2))) 3 hK 9 rfl)) (cn (fun hE hK => jY (kp (SP.tup2 (SP.vl (rSl (rInt .i64)) O x1.1) (SP.isv (.int .i64 x1.2))) 3 hK 9 rfl)) (cn (fun hE hK => zt (φ := SP.vl (rSl (rInt .i64)) O x1.1) (kp _ 4 hK 13 rfl)) (cn (fun hE hK => zC (ks 5 hK 14 rfl)) .nil)))))))) ?zk2
 intro a2 w2 hA hE hB HF; replace q2 := kf HF q2; obtain ⟨u2, q7, f3⟩ := kx (HF 7) rfl rfl rfl; have q8 := ksv (HF 8) rfl rfl rfl; clear q0 q1 HF; replace h_0 := vx h_0 hE; replace h_1 := vx h_1 hE; replace h_2 := vx h_2 hE; clear hE; refine zE (zB (wp_seq ?_)); obtain ⟨x4, hx4, h⟩ := Comp.run_bind h
 refine' rb [_, _, _, _, _, SP.isv (.bool x4), _, _] mixed hA hB hO (mv q8 (cn (fun hE hK => yO (ks 0 hK 15 rfl) rfl) (cn (fun hE hK => zJ (ks 1 hK 16 rfl)) (mv q7 (mv q2 (.cons (fun _ _ hE hK hg => zz fn21 (kg 3 hK 18 rfl hg) (kg 4 hK 19 rfl hg) (vg (OkO.ext hB.ok hE) (vx f3 hE) (vx h_2 hE) (zr hx4 hg))) (cn (fun hE hK => zV (ks 2 hK 17 rfl) (fun hb => kg 5 hK 20 rfl (zf rfl rfl hb)) (fun _ => rfl)) (cn (fun hE hK => zC (ks 6 hK 21 rfl)) .nil)))))))) ?zk3
 intro a3 w3 hA hE hB HF; have q6 := ksv (HF 6) rfl rfl rfl; clear q2 q7 q8 HF; replace h_2 := vx h_2 hE; replace f3 := vx f3 hE; clear hE
 obtain ⟨x5, hx_, h⟩ := Comp.run_bind h; replace hx_ := Comp.run_pure hx_; rw [hx_] at q6; clear hx_
 refine zE (zB (wp_ret ?_))
 have h := Comp.run_pure h; subst h
 exact zb Try.results33 hA q6 hB.ext rfl
theorem ok_core_Hitting_f1 {O : Tags} {w0 : World} (hO : OkO O w0) {x_0 : Int} {v_1 : Value} {x_1 : Int} (h_1 : (rBox (rInt .i64)).v O w0 v_1 x_1) {n : Nat} {y : Bool} (h : (gw x_0 x_1).run n = some y) : Pure Try.prog 65 #[.int .i64 x_0, v_1] w0 (SP.isv (.bool y)).holds := by
 unfold gw at h
 refine zW Try.func65 rfl 12 Try.ntmps65 (by simp) fun a0 hA hs0 => ?_
 have q0 : a0.get 0 = .int .i64 x_0 := hs0 0 _ rfl
 have q1 : a0.get 1 = v_1 := hs0 1 _ rfl
 clear hs0
 have hB : Base (Fr w0) O w0 O w0 := Base.start hO
 refine wp_seq ?_
 refine' rb [_] mixed hA hB hO (cn (fun hE hK => zC rfl) .nil) ?zk1
 intro a1 w1 hA hE hB HF; replace q0 := kf HF q0; replace q1 := kf HF q1; clear HF; replace h_1 := vx h_1 hE; clear hE; refine zE (zB (wp_seq ?_)); obtain ⟨x1, hx1, h⟩ := Comp.run_bind h
 refine' rb [_, _, _, _, SP.isv (.int .i64 x_1), _, _, _, _] mixed hA hB hO (mv q0 (cn (fun hE hK => zy (ks 0 hK 4 rfl) rfl) (cn (fun hE hK => zJ (ks 1 hK 5 rfl)) (mv q0 (cn (fun hE hK => za (rInt .i64) (fun _ => rfl) ty3 rfl rfl (kn (hK 1 rfl) rfl q1) (yi (fun _ => rfl) (vx h_1 hE)) (fun _ _ _ h => zU.1 h)) (.cons (fun _ _ hE hK hg => okl_shl rfl (kg 4 hK 8 rfl hg) (yY (zr hx1 hg))) (.cons (fun _ _ hE hK hg => ok_geq (kg 3 hK 7 rfl hg) (kg 5 hK 9 rfl hg)) (cn (fun hE hK => zV (ks 2 hK 6 rfl) (fun _ => rfl) (fun hb => kg 6 hK 10 rfl (zf rfl rfl hb))) (cn (fun hE hK => zC (ks 7 hK 11 rfl)) .nil))))))))) ?zk2
 intro a2 w2 hA hE hB HF; have q3 := ksv (HF 3) rfl rfl rfl; clear q0 q1 HF; replace h_1 := vx h_1 hE; clear hE
 obtain ⟨x2, hx_, h⟩ := Comp.run_bind h; replace hx_ := Comp.run_pure hx_; rw [hx_] at q3; clear hx_
 refine zE (zB (wp_ret ?_))
 have h := Comp.run_pure h; subst h
 exact zb Try.results65 hA q3 hB.ext rfl
theorem ok_core_Minimal {O : Tags} {w0 : World} (hO : OkO O w0) {v_0 : Value} {x_0 : List Int} (h_0 : (rSl (rInt .i64)).v O w0 v_0 x_0) {n : Nat} {y : (List Int)} (h : (core_Minimal x_0).run n = some y) : Pure Try.prog 66 #[v_0] w0 (SP.ownr (rInt .i64) 3 (w0.heap.size) O y).holds := by
 unfold core_Minimal at h
 refine zW Try.func66 rfl 43 Try.ntmps66 (by simp) fun a0 hA hs0 => ?_
 have q0 : a0.get 0 = v_0 := hs0 0 _ rfl
 clear hs0
 have hB : Base (Fr w0) O w0 O w0 := Base.start hO
 refine wp_seq ?_
 refine' rb [_] mixed hA hB hO (cn (fun hE hK => zC rfl) .nil) ?zk1
 intro a1 w1 hA hE hB HF; replace q0 := kf HF q0; clear HF; replace h_0 := vx h_0 hE; clear hE; refine zE (zB (wp_scope_straight (wp_seq ?_)))
 refine' rbT [_] hA hB hO (mv q0 .nil) ?zk2
 intro a2 w2 hA hE hB HF; replace q0 := kf HF q0; have q8 := ksv (HF 8) rfl rfl rfl; clear HF; replace h_0 := vx h_0 hE; clear hE; obtain ⟨x1, hx1, h⟩ := Comp.run_bind h
 refine l_ok (φ := SP.ownr (rInt .i64) 3 w2.heap.size O x1) hO hB (by have c_ := ok_slices_Clone_int_int hB.ok h_0 hx1; exact yL (ok_call1 fn77 q8 c_) (fun _ _ _ h => h)) rfl fun u2 w3 hE hB' f3 => ?_
 clear hB'; obtain ⟨O4, hB', hX, f5⟩ := ownNew hO hB hE f3 rfl 1 (by decide)
 clear hB f3; have hB := hB'; clear hB'; replace h_0 := vk h_0 hX; clear hX hE
 refine zQ hA (by decide) fun a4 hA q_ hfr => ?_
 replace q0 := (hfr _ rfl).trans q0; replace q8 := (hfr _ rfl).trans q8; have q9 := q_; clear q_ hfr
 refine l_ok (φ := SP.isv (u2)) hO hB (by exact zC q9) rfl fun u_ w5 hE hB' hv_ => ?_
 replace hv_ := Eq.symm hv_; subst hv_; clear hB; have hB := hB'; clear hB'
 replace h_0 := vx h_0 hE; replace f5 := f5.ext hE; clear hE
 refine zQ hA (by decide) fun a6 hA q_ hfr => ?_
 replace q9 := (hfr 9 rfl).trans q9
 clear q0; have q0 := q_; clear q_ hfr; refine zE (zB (wp_seq ?_))
 refine' rbT [_] hA hB hO (mv q0 .nil) ?zk3
 intro a7 w7 hA hE hB HF; replace q0 := kf HF q0; have q10 := ksv (HF 10) rfl rfl rfl; clear HF; replace f5 := f5.ext hE; clear hE; obtain ⟨x6, hx6, h⟩ := Comp.run_bind h
 refine l_io (r := (rInt .i64)) (E := 3) (k := 1) hO hB (yH hB) fn80 (map1 q10) (m_sort Try.slices_Sort_int Try.slices_Sort_int_none hB.ok (OwnL.arg f5 (by decide)) hx6) f5 (by decide) fun u8 u7 w8 O9 f10 hB' hX hps => ?_
 clear hB; have hB := hB'; clear hB'; clear f5
 replace hps : _ = _ := hps; subst hps
 clear hX
 refine zQ hA (by decide) fun a9 hA q_ hfr => ?_
 replace q0 := (hfr _ rfl).trans q0; replace q10 := (hfr _ rfl).trans q10; have q11 := q_; clear q_ hfr; refine zE (zB (wp_seq ?_))
 refine' rbT [_] hA hB hO (mv q0 .nil) ?zk4
 intro a10 w10 hA hE hB HF; replace q0 := kf HF q0; have q12 := ksv (HF 12) rfl rfl rfl; clear HF; replace f10 := f10.ext hE; clear hE; obtain ⟨x11, hx11, h⟩ := Comp.run_bind h
 refine l_io (r := (rInt .i64)) (E := 3) (k := 1) hO hB (yH hB) fn76 (map1 q12) (m_compact Try.slices_Compact_int Try.slices_Compact_int_empty hB.ok (OwnL.arg f10 (by decide)) hx11) f10 (by decide) fun u13 u12 w11 O14 f15 hB' hX hps => ?_
 clear hB; have hB := hB'; clear hB'; clear f10
 replace hps : _ = _ := hps; subst hps
 clear hX
 refine zQ hA (by decide) fun a12 hA q_ hfr => ?_
 replace q0 := (hfr _ rfl).trans q0; replace q12 := (hfr _ rfl).trans q12; have q13 := q_; clear q_ hfr
 refine l_ok (φ := SP.isv (u13)) hO hB (by exact zC q13) rfl fun u_ w13 hE hB' hv_ => ?_
 replace hv_ := Eq.symm hv_; subst hv_; clear hB; have hB := hB'; clear hB'
 replace f15 := f15.ext hE; clear hE
 refine zQ hA (by decide) fun a14 hA q_ hfr => ?_
 replace q13 := (hfr 13 rfl).trans q13
 clear q0; have q0 := q_; clear q_ hfr; refine zE (zB (wp_seq ?_))
 refine' rb [_] mixed hA hB hO (cn (fun hE hK => zC rfl) .nil) ?zk5
 intro a15 w15 hA hE hB HF; replace q0 := kf HF q0; have q3 := ksv (HF 3) rfl rfl rfl; clear HF; replace f15 := f15.ext hE; clear hE; refine zE (zB (wp_seq (wp_label (zB ?_))))
 refine zY (fun a w => ∃ (O42 : Tags) (x39 : List Int) (u40 : Value), a.fit 43 ∧ Base (Fr w0) O w0 O42 w ∧ a.get 3 = u40 ∧ OwnL 2 (rInt .i64) 3 (Fr w0) O42 w u40 x39 ∧ (core_Minimal_j1 x39).run n = some y) ?_ ?_
 ·
  refine wp_seq ?_
  refine' rb [_, _, _] mixed hA hB hO (mv q0 (cn (fun hE hK => zg (r := (rInt .i64)) ty23 (ks 0 hK 14 rfl) (OwnL.rd (OwnL.ext f15 hE))) (cn (fun hE hK => zJ rfl) .nil))) ?zk6
  intro a16 w16 hA hE hB HF; replace q0 := kf HF q0; replace q3 := kf HF q3; have q14 := ksv (HF 14) rfl rfl rfl; have q15 := ksv (HF 15) rfl rfl rfl; have q16 := ksv (HF 16) rfl rfl rfl; clear HF; replace f15 := f15.ext hE; clear hE; refine zE (zB (wp_block ?_))
  obtain ⟨e2, he2, hk2⟩ := Comp.run_bind h; clear h
  refine yt (fun m a w => ∃ (O20 : Tags) (x16 : List Int) (x19 : Int) (u17 : Value), a.fit 43 ∧ Base (Fr w0) O w0 O20 w ∧ a.get 0 = u13 ∧ OwnL 1 (rInt .i64) 3 (Fr w0) O20 w u13 x11 ∧ a.get 3 = u17 ∧ OwnL 2 (rInt .i64) 3 (Fr w0) O20 w u17 x16 ∧ a.get 14 = u13 ∧ a.get 15 = .int .i64 (x11.length : Int) ∧ a.get 16 = .int .i64 x19 ∧ Comp.loopN (fun s => gV x11 s.1 s.2) n m (x16, x19) = some e2) (m := n) ?st2 ?_
  case st2 =>
   exact ⟨_, _, _, _, hA, hB, q0, f15, q3, (OwnL.nil _ _ _ _ _ _), q14, q15, q16, Comp.zk he2⟩
  intro m_ a17 w17 hI
  clear hA hB he2 q0 q3 q14 q15 q16 f15
  obtain ⟨O20, x16, x19, u17, hA, hB, q0, f15, q3, f18, q14, q15, q16, hl⟩ := hI
  obtain ⟨m2, hlt2, st2, h, hnext2, hdone2⟩ := Comp.zZ hl; clear hl
  replace h : (gV x11 x16 x19).run n = some st2 := h
  unfold gV at h; refine wp_seq ?_
  refine' rb [_] mixed hA hB hO (cn (fun hE hK => zy (kq hK q16) (kq hK q15)) .nil) ?zk7
  intro a18 w18 hA hE hB HF; refine kr5 HF q0 q3 q14 q15 q16 ?_; clear q0 q3 q14 q15 q16; intro q0 q3 q14 q15 q16; have q17 := ksv (HF 17) rfl rfl rfl; clear HF; replace f15 := f15.ext hE; replace f18 := f18.ext hE; clear hE; refine zE (zB (wp_seq ?_))
  revert h; refine cnd q17 (fun h => ?_) (fun h => ?_)
  ·
   refine wp_skip (zB ?_)
   refine zY (fun a w => ∃ (O36 : Tags) (x26 : List Int) (u27 : Value), a.fit 43 ∧ Base (Fr w0) O w0 O36 w ∧ a.get 0 = u13 ∧ OwnL 1 (rInt .i64) 3 (Fr w0) O36 w u13 x11 ∧ a.get 3 = u27 ∧ OwnL 2 (rInt .i64) 3 (Fr w0) O36 w u27 x26 ∧ a.get 14 = u13 ∧ a.get 15 = .int .i64 (x11.length : Int) ∧ a.get 16 = .int .i64 x19 ∧ (core_Minimal_j3 x19 x26).run n = some st2) ?_ ?_
   ·
    refine wp_block (wp_seq ?_); obtain ⟨x21, hx21, h⟩ := Comp.run_bind h
    refine' rb [SP.ptr (rInt .i64) O20 x21, SP.isv (.int .i64 x21), _] mixed hA hB hO (cn (fun hE hK => zp (r := (rInt .i64)) (O := O20) ty23 ty3 rfl (kq hK q14) (OwnL.rd (OwnL.ext f15 hE)) (kq hK q16) hx21) (cn (fun hE hK => za (rInt .i64) (fun _ => rfl) ty3 rfl rfl rfl (kp (SP.ptr (rInt .i64) O20 x21) 0 hK 18 rfl) (fun _ _ _ h => zU.1 h)) (cn (fun hE hK => zC (ks 1 hK 19 rfl)) .nil))) ?zk8
    intro a19 w19 hA hE hB HF; refine kr5 HF q0 q3 q14 q15 q16 ?_; clear q0 q3 q14 q15 q16; intro q0 q3 q14 q15 q16; have q5 := ksv (HF 5) rfl rfl rfl; clear q17 HF; replace f15 := f15.ext hE; replace f18 := f18.ext hE; clear hE; refine zE (zB ?_)
    refine zY (fun a w => ∃ (O29 : Tags), a.fit 43 ∧ Base (Fr w0) O w0 O29 w ∧ a.get 0 = u13 ∧ OwnL 1 (rInt .i64) 3 (Fr w0) O29 w u13 x11 ∧ a.get 3 = u17 ∧ OwnL 2 (rInt .i64) 3 (Fr w0) O29 w u17 x16 ∧ a.get 5 = .int .i64 x21 ∧ a.get 14 = u13 ∧ a.get 15 = .int .i64 (x11.length : Int) ∧ a.get 16 = .int .i64 x19 ∧ (core_Minimal_j4 x16 x21 x19 ).run n = some st2) ?_ ?_
    ·
     refine wp_seq ?_
     refine' rb [_, _, _] mixed hA hB hO (mv q0 (cn (fun hE hK => zg (r := (rInt .i64)) ty23 (ks 0 hK 20 rfl) (OwnL.rd (OwnL.ext f15 hE))) (cn (fun hE hK => zJ rfl) .nil))) ?zk9
     intro a20 w20 hA hE hB HF; refine kr6 HF q0 q3 q5 q14 q15 q16 ?_; clear q0 q3 q5 q14 q15 q16; intro q0 q3 q5 q14 q15 q16; have q20 := ksv (HF 20) rfl rfl rfl; have q21 := ksv (HF 21) rfl rfl rfl; have q22 := ksv (HF 22) rfl rfl rfl; clear HF; replace f15 := f15.ext hE; replace f18 := f18.ext hE; clear hE; refine zE (zB (wp_block ?_))
     obtain ⟨e5, he5, hk5⟩ := Comp.run_bind h; clear h
     refine yt (fun m a w => ∃ (O23 : Tags) (x22 : Int), a.fit 43 ∧ Base (Fr w0) O w0 O23 w ∧ a.get 0 = u13 ∧ OwnL 1 (rInt .i64) 3 (Fr w0) O23 w u13 x11 ∧ a.get 3 = u17 ∧ OwnL 2 (rInt .i64) 3 (Fr w0) O23 w u17 x16 ∧ a.get 5 = .int .i64 x21 ∧ a.get 14 = u13 ∧ a.get 15 = .int .i64 (x11.length : Int) ∧ a.get 16 = .int .i64 x19 ∧ a.get 20 = u13 ∧ a.get 21 = .int .i64 (x11.length : Int) ∧ a.get 22 = .int .i64 x22 ∧ Comp.loopN (fun s => jl x11 x21 s) n m x22 = some e5) (m := n) ?st5 ?_
     case st5 =>
      exact ⟨_, _, hA, hB, q0, f15, q3, f18, q5, q14, q15, q16, q20, q21, q22, Comp.zk he5⟩
     intro m_ a21 w21 hI
     clear hA hB he5 q0 q3 q5 q14 q15 q16 q20 q21 q22 f15 f18
     obtain ⟨O23, x22, hA, hB, q0, f15, q3, f18, q5, q14, q15, q16, q20, q21, q22, hl⟩ := hI
     obtain ⟨m5, hlt5, st5, h, hnext5, hdone5⟩ := Comp.zZ hl; clear hl
     replace h : (jl x11 x21 x22).run n = some st5 := h
     unfold jl at h; refine wp_seq ?_
     refine' rb [_] mixed hA hB hO (cn (fun hE hK => zy (kq hK q22) (kq hK q21)) .nil) ?zk10
     intro a22 w22 hA hE hB HF; refine kr9 HF q0 q3 q5 q14 q15 q16 q20 q21 q22 ?_; clear q0 q3 q5 q14 q15 q16 q20 q21 q22; intro q0 q3 q5 q14 q15 q16 q20 q21 q22; have q23 := ksv (HF 23) rfl rfl rfl; clear HF; replace f15 := f15.ext hE; replace f18 := f18.ext hE; clear hE; refine zE (zB (wp_seq ?_))
     revert h; refine cnd q23 (fun h => ?_) (fun h => ?_)
     ·
      refine wp_skip (zB (wp_seq (wp_block (wp_seq ?_)))); obtain ⟨x24, hx24, h⟩ := Comp.run_bind h
      refine' rb [SP.ptr (rInt .i64) O23 x24, SP.isv (.int .i64 x24), _] mixed hA hB hO (cn (fun hE hK => zp (r := (rInt .i64)) (O := O23) ty23 ty3 rfl (kq hK q20) (OwnL.rd (OwnL.ext f15 hE)) (kq hK q22) hx24) (cn (fun hE hK => za (rInt .i64) (fun _ => rfl) ty3 rfl rfl rfl (kp (SP.ptr (rInt .i64) O23 x24) 0 hK 24 rfl) (fun _ _ _ h => zU.1 h)) (cn (fun hE hK => zC (ks 1 hK 25 rfl)) .nil))) ?zk11
      intro a23 w23 hA hE hB HF; refine kr9 HF q0 q3 q5 q14 q15 q16 q20 q21 q22 ?_; clear q0 q3 q5 q14 q15 q16 q20 q21 q22; intro q0 q3 q5 q14 q15 q16 q20 q21 q22; have q7 := ksv (HF 7) rfl rfl rfl; clear q23 HF; replace f15 := f15.ext hE; replace f18 := f18.ext hE; clear hE; refine zE (zB (wp_seq ?_))
      refine' rb [_, _, _, _, _, _, _, _, _, _] mixed hA hB hO (mv q7 (mv q5 (cn (fun hE hK => gR (ks 0 hK 26 rfl) (ks 1 hK 27 rfl)) (cn (fun hE hK => zJ (ks 2 hK 28 rfl)) (mv q5 (mv q7 (.cons (fun _ _ hE hK hg => okb_and (kg 4 hK 30 rfl hg) (kg 5 hK 31 rfl hg)) (mv q7 (.cons (fun _ _ hE hK hg => yO (kg 6 hK 32 rfl hg) (kg 7 hK 33 rfl hg)) (cn (fun hE hK => zV (ks 3 hK 29 rfl) (fun hb => kg 8 hK 34 rfl (zf rfl rfl hb)) (fun _ => rfl)) .nil)))))))))) ?zk12
      intro a24 w24 hA hE hB HF; refine kr9 HF q0 q3 q5 q14 q15 q16 q20 q21 q22 ?_; clear q0 q3 q5 q14 q15 q16 q20 q21 q22; intro q0 q3 q5 q14 q15 q16 q20 q21 q22; have q35 := ksv (HF 35) rfl rfl rfl; clear q7 HF; replace f15 := f15.ext hE; replace f18 := f18.ext hE; clear hE
      obtain ⟨x25, hx_, h⟩ := Comp.run_bind h; replace hx_ := Comp.run_pure hx_; rw [hx_] at q35; clear hx_
      refine zE (zB ?_)
      revert h; refine cnd q35 (fun h => ?_) (fun h => ?_)
      ·
       refine wp_exit ?_
       refine (ex_other rfl (zT (zT (ex_other rfl (zT (zw ?_))))))
       have hd_ := hdone5 _ (Comp.run_pure h).symm; clear h
       subst hd_; have h := hk5; clear hk5; try dsimp only at h
       refine zB ?_
       exact ⟨_, _, _, hA, hB, q0, f15, q3, f18, q14, q15, q16, h⟩
      ·
       refine wp_skip (zm (zB ?_))
       refine' rb [_, _] mixed hA hB hO (cn (fun hE hK => yP (kq hK q22) rfl) (cn (fun hE hK => zJ (ks 0 hK 36 rfl)) .nil)) ?zk13
       intro a25 w25 hA hE hB HF; refine kr8 HF q0 q3 q5 q14 q15 q16 q20 q21 ?_; clear q0 q3 q5 q14 q15 q16 q20 q21; intro q0 q3 q5 q14 q15 q16 q20 q21; replace q22 := ksv (HF 22) rfl rfl rfl; clear q35 HF; replace f15 := f15.ext hE; replace f18 := f18.ext hE; clear hE; refine zE (zB ?_)
       have h := hnext5 _ (Comp.run_pure h).symm
       refine ⟨m5, hlt5, ?_⟩
       exact ⟨_, _, hA, hB, q0, f15, q3, f18, q5, q14, q15, q16, q20, q21, q22, h⟩
     ·
      refine wp_exit (zT (zT (zw ?_)))
      have hd_ := hdone5 _ (Comp.run_pure h).symm; clear h
      subst hd_; have h := hk5; clear hk5; try dsimp only at h
      refine zB ?_
      exact ⟨_, hA, hB, q0, f15, q3, f18, q5, q14, q15, q16, h⟩
    intro a26 w26 hI
    clear hA hB h q0 q3 q5 q14 q15 q16 f15 f18
    obtain ⟨O29, hA, hB, q0, f15, q3, f18, q5, q14, q15, q16, h⟩ := hI
    unfold core_Minimal_j4 at h
    refine' rbT [_, _, SP.vl (rSl (rInt .i64)) O29 [x21]] hA hB hO (mv q3 (mv q5 (cn (fun hE hK => zP (r := (rInt .i64)) (fun _ => rfl) rfl (OkO.ext hB.ok hE) ty23 ty3 (zM (ks 1 hK 38 rfl) zh) ⟨(by exact zU.2 rfl), trivial⟩ rfl (by decide)) .nil))) ?zk14
    intro a27 w27 hA hE hB HF; refine kr5 HF q0 q3 q14 q15 q16 ?_; clear q0 q3 q14 q15 q16; intro q0 q3 q14 q15 q16; obtain ⟨u30, q39, f31⟩ := kx (HF 39) rfl rfl rfl; have q37 := ksv (HF 37) rfl rfl rfl; clear q5 HF; replace f15 := f15.ext hE; replace f18 := f18.ext hE; clear hE; obtain ⟨x32, hx32, h⟩ := Comp.run_bind h
    refine gQ (r := (rInt .i64)) (fun _ => rfl) rfl ty23 ty3 rfl (by decide) hO hB (yH hB) q37 f18 q39 (rd_of f31) hx32 (by decide) fun u33 w28 O34 f35 hB' hX => ?_
    clear hB; have hB := hB'; clear hB'; clear f18
    replace f15 := f15.kx hX (by decide) (by decide)
    replace f31 := vk f31 hX; clear hX
    refine zQ hA (by decide) fun a29 hA q_ hfr => ?_
    refine kd7 hfr q0 q3 q14 q15 q16 q37 q39 ?_; clear q0 q3 q14 q15 q16 q37 q39; intro q0 q3 q14 q15 q16 q37 q39; have q40 := q_; clear q_ hfr
    refine l_ok (φ := SP.isv (u33)) hO hB (by exact zC q40) rfl fun u_ w30 hE hB' hv_ => ?_
    replace hv_ := Eq.symm hv_; subst hv_; clear hB; have hB := hB'; clear hB'
    replace f15 := f15.ext hE; replace f35 := f35.ext hE; clear hE
    refine zQ hA (by decide) fun a31 hA q_ hfr => ?_
    replace q0 := (hfr 0 rfl).trans q0
    replace q14 := (hfr 14 rfl).trans q14
    replace q15 := (hfr 15 rfl).trans q15
    replace q16 := (hfr 16 rfl).trans q16
    replace q40 := (hfr 40 rfl).trans q40
    clear q3; have q3 := q_; clear q_ hfr; refine zE (zm (zB ?_))
    exact ⟨_, _, _, hA, hB, q0, f15, q3, f35, q14, q15, q16, h⟩
   intro a32 w32 hI
   clear hA hB h q0 q3 q14 q15 q16 q17 f15 f18
   obtain ⟨O36, x26, u27, hA, hB, q0, f15, q3, f28, q14, q15, q16, h⟩ := hI
   unfold core_Minimal_j3 at h
   refine' rb [_, _] mixed hA hB hO (cn (fun hE hK => yP (kq hK q16) rfl) (cn (fun hE hK => zJ (ks 0 hK 41 rfl)) .nil)) ?zk15
   intro a33 w33 hA hE hB HF; refine kr4 HF q0 q3 q14 q15 ?_; clear q0 q3 q14 q15; intro q0 q3 q14 q15; replace q16 := ksv (HF 16) rfl rfl rfl; clear HF; replace f15 := f15.ext hE; replace f28 := f28.ext hE; clear hE; refine zE (zB ?_)
   have h := hnext2 _ (Comp.run_pure h).symm
   refine ⟨m2, hlt2, ?_⟩
   exact ⟨_, _, _, _, hA, hB, q0, f15, q3, f28, q14, q15, q16, h⟩
  ·
   refine wp_exit (zT (zT (zw ?_)))
   have hd_ := hdone2 _ (Comp.run_pure h).symm; clear h
   subst hd_; have h := hk2; clear hk2; try dsimp only at h
   refine zB ?_
   exact ⟨_, _, _, hA, hB, q3, f18, h⟩
 intro a34 w34 hI
 clear hA hB h q0 q3 f15
 obtain ⟨O42, x39, u40, hA, hB, q3, f41, h⟩ := hI
 unfold core_Minimal_j1 at h; refine wp_seq ?_
 refine' rb [_, _] mixed hA hB hO (mv q3 (cn (fun hE hK => zC (ks 0 hK 42 rfl)) .nil)) ?zk16
 intro a35 w35 hA hE hB HF; have q2 := ksv (HF 2) rfl rfl rfl; clear q3 HF; replace f41 := f41.ext hE; clear hE; refine zE (zB (wp_ret (rt_sc ?_)))
 have h := Comp.run_pure h; subst h
 exact zb Try.results66 hA q2 hB.ext (OwnL.res f41 (by decide) hB.zero)
end Go.Proofs.Ytebmpjdegajhgaa
end
