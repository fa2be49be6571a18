/- Lemmas behind a claim of this seat. No statement of the program stands here. -/
import Derived.Test.YtebmpjdegajhgaaKCTrueB
import Derived.Test.YtebmpjdegajhgaaProg
set_option linter.unusedSimpArgs false
set_option linter.unusedVariables false
section
namespace Go.Proofs.Ytebmpjdegajhgaa
open Go Go.RowKit Go.Eng Go.Lift Go.F
set_option linter.unusedVariables false
set_option linter.unusedSimpArgs false
set_option maxRecDepth 100000
theorem mixed : Try.prog.follows .mixedOrders = true := by kernel_rfl
theorem ty3 : Ty Try.prog 3 (.int .i64) (.int .i64 0) 1 8 := ⟨by kernel_rfl, by kernel_rfl⟩
theorem ty4 : Ty Try.prog 4 .bool (.bool false) 1 1 := ⟨by kernel_rfl, by kernel_rfl⟩
theorem ty5 : Ty Try.prog 5 (.int .u8) (.int .u8 0) 1 1 := ⟨by kernel_rfl, by kernel_rfl⟩
theorem ty9 : Ty Try.prog 9 .string (.string ⟨#[]⟩) 1 16 := ⟨by kernel_rfl, by kernel_rfl⟩
theorem ty22 : Ty Try.prog 22 (.slice 23) (.slice none 0 0) 1 24 := ⟨by kernel_rfl, by kernel_rfl⟩
theorem ty23 : Ty Try.prog 23 (.slice 3) (.slice none 0 0) 1 24 := ⟨by kernel_rfl, by kernel_rfl⟩
theorem ty25 : Ty Try.prog 25 (.struct (Try.prog.fieldsOf 25)) (.agg #[.slice none 0 0, .int .u8 0, .slice none 0 0]) 3 56 := ⟨by kernel_rfl, by kernel_rfl⟩
theorem ty27 : Ty Try.prog 27 (.slice 33) (.slice none 0 0) 1 24 := ⟨by kernel_rfl, by kernel_rfl⟩
theorem ty28 : Ty Try.prog 28 (.slice 64) (.slice none 0 0) 1 24 := ⟨by kernel_rfl, by kernel_rfl⟩
theorem ty33 : Ty Try.prog 33 (.struct (Try.prog.fieldsOf 33)) (.agg #[.int .i64 0, .int .i64 0, .int .i64 0, .slice none 0 0, .slice none 0 0]) 5 72 := ⟨by kernel_rfl, by kernel_rfl⟩
theorem ty47 : Ty Try.prog 47 (.slice 4) (.slice none 0 0) 1 24 := ⟨by kernel_rfl, by kernel_rfl⟩
theorem ty49 : Ty Try.prog 49 (.struct (Try.prog.fieldsOf 49)) (.agg #[.int .i64 0, .slice none 0 0]) 2 32 := ⟨by kernel_rfl, by kernel_rfl⟩
theorem ty54 : Ty Try.prog 54 (.array 6 5) (.agg #[.int .u8 0, .int .u8 0, .int .u8 0, .int .u8 0, .int .u8 0, .int .u8 0]) 6 6 := ⟨by kernel_rfl, by kernel_rfl⟩
theorem ty64 : Ty Try.prog 64 (.struct (Try.prog.fieldsOf 64)) (.agg #[.int .i64 0, .int .i64 0, .bool false]) 3 24 := ⟨by kernel_rfl, by kernel_rfl⟩
theorem ty71 : Ty Try.prog 71 (.map 73 4) (.map none) 1 8 := ⟨by kernel_rfl, by kernel_rfl⟩
theorem ty73 : Ty Try.prog 73 (.array 2 3) (.agg #[.int .i64 0, .int .i64 0]) 2 16 := ⟨by kernel_rfl, by kernel_rfl⟩
theorem ty75 : Ty Try.prog 75 (.slice 94) (.slice none 0 0) 1 24 := ⟨by kernel_rfl, by kernel_rfl⟩
theorem ty79 : Ty Try.prog 79 (.func #[3] #[4] false) (.nilFunc) 1 8 := ⟨by kernel_rfl, by kernel_rfl⟩
theorem ty85 : Ty Try.prog 85 (.int .u64) (.int .u64 0) 1 8 := ⟨by kernel_rfl, by kernel_rfl⟩
theorem ty88 : Ty Try.prog 88 (.struct (Try.prog.fieldsOf 88)) (.agg #[.slice none 0 0, .int .i64 0]) 2 32 := ⟨by kernel_rfl, by kernel_rfl⟩
theorem ty92 : Ty Try.prog 92 (.struct (Try.prog.fieldsOf 92)) (.agg #[.bool false, .bool false, .bool false, .bool false, .bool false, .bool false]) 6 6 := ⟨by kernel_rfl, by kernel_rfl⟩
theorem ty94 : Ty Try.prog 94 (.interface #[("collet/court.speak", 98)]) (.nilIface) 1 16 := ⟨by kernel_rfl, by kernel_rfl⟩
theorem ty96 : Ty Try.prog 96 (.struct (Try.prog.fieldsOf 96)) (.agg #[.slice none 0 0, .slice none 0 0]) 2 48 := ⟨by kernel_rfl, by kernel_rfl⟩
theorem ty101 : Ty Try.prog 101 (.struct (Try.prog.fieldsOf 101)) (.agg #[.slice none 0 0]) 1 24 := ⟨by kernel_rfl, by kernel_rfl⟩
theorem ty102 : Ty Try.prog 102 (.slice 64) (.slice none 0 0) 1 24 := ⟨by kernel_rfl, by kernel_rfl⟩
theorem ty115 : Ty Try.prog 115 (.int .u64) (.int .u64 0) 1 8 := ⟨by kernel_rfl, by kernel_rfl⟩
theorem fl25_0 : Fld Try.prog 25 0 22 0 0 := ⟨by kernel_rfl, by kernel_rfl, by kernel_rfl⟩
theorem fl25_1 : Fld Try.prog 25 1 5 1 0 := ⟨by kernel_rfl, by kernel_rfl, by kernel_rfl⟩
theorem fl25_2 : Fld Try.prog 25 2 23 2 0 := ⟨by kernel_rfl, by kernel_rfl, by kernel_rfl⟩
theorem fl33_0 : Fld Try.prog 33 0 3 0 0 := ⟨by kernel_rfl, by kernel_rfl, by kernel_rfl⟩
theorem fl33_1 : Fld Try.prog 33 1 3 1 0 := ⟨by kernel_rfl, by kernel_rfl, by kernel_rfl⟩
theorem fl33_2 : Fld Try.prog 33 2 3 2 0 := ⟨by kernel_rfl, by kernel_rfl, by kernel_rfl⟩
theorem fl33_3 : Fld Try.prog 33 3 23 3 0 := ⟨by kernel_rfl, by kernel_rfl, by kernel_rfl⟩
theorem fl33_4 : Fld Try.prog 33 4 23 4 0 := ⟨by kernel_rfl, by kernel_rfl, by kernel_rfl⟩
theorem fl49_0 : Fld Try.prog 49 0 3 0 0 := ⟨by kernel_rfl, by kernel_rfl, by kernel_rfl⟩
theorem fl49_1 : Fld Try.prog 49 1 23 1 0 := ⟨by kernel_rfl, by kernel_rfl, by kernel_rfl⟩
theorem fl64_0 : Fld Try.prog 64 0 3 0 0 := ⟨by kernel_rfl, by kernel_rfl, by kernel_rfl⟩
theorem fl64_1 : Fld Try.prog 64 1 3 1 0 := ⟨by kernel_rfl, by kernel_rfl, by kernel_rfl⟩
theorem fl64_2 : Fld Try.prog 64 2 4 2 0 := ⟨by kernel_rfl, by kernel_rfl, by kernel_rfl⟩
theorem fl88_0 : Fld Try.prog 88 0 23 0 0 := ⟨by kernel_rfl, by kernel_rfl, by kernel_rfl⟩
theorem fl88_1 : Fld Try.prog 88 1 3 1 0 := ⟨by kernel_rfl, by kernel_rfl, by kernel_rfl⟩
theorem fl92_0 : Fld Try.prog 92 0 4 0 0 := ⟨by kernel_rfl, by kernel_rfl, by kernel_rfl⟩
theorem fl92_1 : Fld Try.prog 92 1 4 1 0 := ⟨by kernel_rfl, by kernel_rfl, by kernel_rfl⟩
theorem fl92_2 : Fld Try.prog 92 2 4 2 0 := ⟨by kernel_rfl, by kernel_rfl, by kernel_rfl⟩
theorem fl92_3 : Fld Try.prog 92 3 4 3 0 := ⟨by kernel_rfl, by kernel_rfl, by kernel_rfl⟩
theorem fl92_4 : Fld Try.prog 92 4 4 4 0 := ⟨by kernel_rfl, by kernel_rfl, by kernel_rfl⟩
theorem fl92_5 : Fld Try.prog 92 5 4 5 0 := ⟨by kernel_rfl, by kernel_rfl, by kernel_rfl⟩
theorem fl96_0 : Fld Try.prog 96 0 23 0 0 := ⟨by kernel_rfl, by kernel_rfl, by kernel_rfl⟩
theorem fl96_1 : Fld Try.prog 96 1 23 1 0 := ⟨by kernel_rfl, by kernel_rfl, by kernel_rfl⟩
theorem fl101_0 : Fld Try.prog 101 0 23 0 0 := ⟨by kernel_rfl, by kernel_rfl, by kernel_rfl⟩
theorem fn8 : FnOk Try.prog 8 := ⟨_, Try.func8, rfl, by kernel_rfl⟩
theorem fn9 : FnOk Try.prog 9 := ⟨_, Try.func9, rfl, by kernel_rfl⟩
theorem fn12 : FnOk Try.prog 12 := ⟨_, Try.func12, rfl, by kernel_rfl⟩
theorem fn13 : FnOk Try.prog 13 := ⟨_, Try.func13, rfl, by kernel_rfl⟩
theorem fn15 : FnOk Try.prog 15 := ⟨_, Try.func15, rfl, by kernel_rfl⟩
theorem fn17 : FnOk Try.prog 17 := ⟨_, Try.func17, rfl, by kernel_rfl⟩
theorem fn19 : FnOk Try.prog 19 := ⟨_, Try.func19, rfl, by kernel_rfl⟩
theorem fn21 : FnOk Try.prog 21 := ⟨_, Try.func21, rfl, by kernel_rfl⟩
theorem fn22 : FnOk Try.prog 22 := ⟨_, Try.func22, rfl, by kernel_rfl⟩
theorem fn25 : FnOk Try.prog 25 := ⟨_, Try.func25, rfl, by kernel_rfl⟩
theorem fn26 : FnOk Try.prog 26 := ⟨_, Try.func26, rfl, by kernel_rfl⟩
theorem fn27 : FnOk Try.prog 27 := ⟨_, Try.func27, rfl, by kernel_rfl⟩
theorem fn28 : FnOk Try.prog 28 := ⟨_, Try.func28, rfl, by kernel_rfl⟩
theorem fn29 : FnOk Try.prog 29 := ⟨_, Try.func29, rfl, by kernel_rfl⟩
theorem fn30 : FnOk Try.prog 30 := ⟨_, Try.func30, rfl, by kernel_rfl⟩
theorem fn32 : FnOk Try.prog 32 := ⟨_, Try.func32, rfl, by kernel_rfl⟩
theorem fn33 : FnOk Try.prog 33 := ⟨_, Try.func33, rfl, by kernel_rfl⟩
theorem fn34 : FnOk Try.prog 34 := ⟨_, Try.func34, rfl, by kernel_rfl⟩
theorem fn35 : FnOk Try.prog 35 := ⟨_, Try.func35, rfl, by kernel_rfl⟩
theorem fn36 : FnOk Try.prog 36 := ⟨_, Try.func36, rfl, by kernel_rfl⟩
theorem fn37 : FnOk Try.prog 37 := ⟨_, Try.func37, rfl, by kernel_rfl⟩
theorem fn38 : FnOk Try.prog 38 := ⟨_, Try.func38, rfl, by kernel_rfl⟩
theorem fn40 : FnOk Try.prog 40 := ⟨_, Try.func40, rfl, by kernel_rfl⟩
theorem fn41 : FnOk Try.prog 41 := ⟨_, Try.func41, rfl, by kernel_rfl⟩
theorem fn43 : FnOk Try.prog 43 := ⟨_, Try.func43, rfl, by kernel_rfl⟩
theorem fn44 : FnOk Try.prog 44 := ⟨_, Try.func44, rfl, by kernel_rfl⟩
theorem fn45 : FnOk Try.prog 45 := ⟨_, Try.func45, rfl, by kernel_rfl⟩
theorem fn48 : FnOk Try.prog 48 := ⟨_, Try.func48, rfl, by kernel_rfl⟩
theorem fn49 : FnOk Try.prog 49 := ⟨_, Try.func49, rfl, by kernel_rfl⟩
theorem fn51 : FnOk Try.prog 51 := ⟨_, Try.func51, rfl, by kernel_rfl⟩
theorem fn53 : FnOk Try.prog 53 := ⟨_, Try.func53, rfl, by kernel_rfl⟩
theorem fn54 : FnOk Try.prog 54 := ⟨_, Try.func54, rfl, by kernel_rfl⟩
theorem fn55 : FnOk Try.prog 55 := ⟨_, Try.func55, rfl, by kernel_rfl⟩
theorem fn56 : FnOk Try.prog 56 := ⟨_, Try.func56, rfl, by kernel_rfl⟩
theorem fn57 : FnOk Try.prog 57 := ⟨_, Try.func57, rfl, by kernel_rfl⟩
theorem fn58 : FnOk Try.prog 58 := ⟨_, Try.func58, rfl, by kernel_rfl⟩
theorem fn59 : FnOk Try.prog 59 := ⟨_, Try.func59, rfl, by kernel_rfl⟩
theorem fn65 : FnOk Try.prog 65 := ⟨_, Try.func65, rfl, by kernel_rfl⟩
theorem fn66 : FnOk Try.prog 66 := ⟨_, Try.func66, rfl, by kernel_rfl⟩
theorem fn67 : FnOk Try.prog 67 := ⟨_, Try.func67, rfl, by kernel_rfl⟩
theorem fn69 : FnOk Try.prog 69 := ⟨_, Try.func69, rfl, by kernel_rfl⟩
theorem fn70 : FnOk Try.prog 70 := ⟨_, Try.func70, rfl, by kernel_rfl⟩
theorem fn71 : FnOk Try.prog 71 := ⟨_, Try.func71, rfl, by kernel_rfl⟩
theorem fn72 : FnOk Try.prog 72 := ⟨_, Try.func72, rfl, by kernel_rfl⟩
theorem fn73 : FnOk Try.prog 73 := ⟨_, Try.func73, rfl, by kernel_rfl⟩
theorem fn74 : FnOk Try.prog 74 := ⟨_, Try.func74, rfl, by kernel_rfl⟩
theorem fn75 : FnOk Try.prog 75 := ⟨_, Try.func75, rfl, by kernel_rfl⟩
theorem fn76 : FnOk Try.prog 76 := ⟨_, Try.func76, rfl, by kernel_rfl⟩
theorem fn77 : FnOk Try.prog 77 := ⟨_, Try.func77, rfl, by kernel_rfl⟩
theorem fn78 : FnOk Try.prog 78 := ⟨_, Try.func78, rfl, by kernel_rfl⟩
theorem fn80 : FnOk Try.prog 80 := ⟨_, Try.func80, rfl, by kernel_rfl⟩
theorem fn82 : FnOk Try.prog 82 := ⟨_, Try.func82, rfl, by kernel_rfl⟩
theorem fn83 : FnOk Try.prog 83 := ⟨_, Try.func83, rfl, by kernel_rfl⟩
theorem fn85 : FnOk Try.prog 85 := ⟨_, Try.func85, rfl, by kernel_rfl⟩
theorem fn115 : FnOk Try.prog 115 := ⟨_, Try.func115, rfl, by kernel_rfl⟩
theorem fn116 : FnOk Try.prog 116 := ⟨_, Try.func116, rfl, by kernel_rfl⟩
theorem fn117 : FnOk Try.prog 117 := ⟨_, Try.func117, rfl, by kernel_rfl⟩
theorem plc33 : Plc Try.prog 33 #[(0, 1), (1, 1), (2, 1), (3, 1), (4, 1)] := ⟨by kernel_rfl, fun w => by kernel_rfl⟩
theorem plc49 : Plc Try.prog 49 #[(0, 1), (1, 1)] := ⟨by kernel_rfl, fun w => by kernel_rfl⟩
theorem plc64 : Plc Try.prog 64 #[(0, 1), (1, 1), (2, 1)] := ⟨by kernel_rfl, fun w => by kernel_rfl⟩
theorem plc88 : Plc Try.prog 88 #[(0, 1), (1, 1)] := ⟨by kernel_rfl, fun w => by kernel_rfl⟩
theorem plc92 : Plc Try.prog 92 #[(0, 1), (1, 1), (2, 1), (3, 1), (4, 1), (5, 1)] := ⟨by kernel_rfl, fun w => by kernel_rfl⟩
theorem plc96 : Plc Try.prog 96 #[(0, 1), (1, 1)] := ⟨by kernel_rfl, fun w => by kernel_rfl⟩
theorem plc101 : Plc Try.prog 101 #[(0, 1)] := ⟨by kernel_rfl, fun w => by kernel_rfl⟩
noncomputable def r_api_Claim : GR api_Claim := (rCons (rInt .i64) (·.Party) (rCons (rInt .i64) (·.Kind) (rCons (rInt .i64) (·.Gauge) (rCons (rSl (rInt .i64)) (·.Sure) (rCons (rSl (rInt .i64)) (·.Touched) rNil)))))
theorem fit_api_Claim : r_api_Claim.fits := fun h => by cases h
theorem sb_api_Claim_0 : SubR r_api_Claim 0 (rInt .i64) (·.Party) := sub_hd
theorem sb_api_Claim_1 : SubR r_api_Claim 1 (rInt .i64) (·.Kind) := (sub_tl sub_hd rfl)
theorem sb_api_Claim_2 : SubR r_api_Claim 2 (rInt .i64) (·.Gauge) := (sub_tl (sub_tl sub_hd rfl) rfl)
theorem sb_api_Claim_3 : SubR r_api_Claim 3 (rSl (rInt .i64)) (·.Sure) := (sub_tl (sub_tl (sub_tl sub_hd rfl) rfl) rfl)
theorem sb_api_Claim_4 : SubR r_api_Claim 4 (rSl (rInt .i64)) (·.Touched) := (sub_tl (sub_tl (sub_tl (sub_tl sub_hd rfl) rfl) rfl) rfl)
theorem openR_api_Claim {O : Tags} {w : World} {cs : List Value} {x : api_Claim} (h : r_api_Claim.rel O w cs x) : ∃ u1 u2 : Value, cs = [.int .i64 x.Party, .int .i64 x.Kind, .int .i64 x.Gauge, u1, u2] ∧ (rSl (rInt .i64)).v O w u1 x.Sure ∧ (rSl (rInt .i64)).v O w u2 x.Touched := by
 obtain ⟨c1, d1, rfl, h1, t1⟩ := h
 replace h1 : c1 = [.int .i64 x.Party] := h1; subst h1
 obtain ⟨c2, d2, rfl, h2, t2⟩ := t1
 replace h2 : c2 = [.int .i64 x.Kind] := h2; subst h2
 obtain ⟨c3, d3, rfl, h3, t3⟩ := t2
 replace h3 : c3 = [.int .i64 x.Gauge] := h3; subst h3
 obtain ⟨c4, d4, rfl, h4, t4⟩ := t3
 obtain ⟨u1, rfl, ku1⟩ := rel_one h4 rfl rfl
 obtain ⟨c5, d5, rfl, h5, t5⟩ := t4
 obtain ⟨u2, rfl, ku2⟩ := rel_one h5 rfl rfl
 replace t5 : _ = ([] : List Value) := t5; subst t5
 exact ⟨u1, u2, rfl, ku1, ku2⟩
theorem openV_api_Claim {O : Tags} {w : World} {u : Value} {x : api_Claim} (h : r_api_Claim.v O w u x) : ∃ u1 u2 : Value, u = .agg #[.int .i64 x.Party, .int .i64 x.Kind, .int .i64 x.Gauge, u1, u2] ∧ (rSl (rInt .i64)).v O w u1 x.Sure ∧ (rSl (rInt .i64)).v O w u2 x.Touched := by
 obtain ⟨cs, h, rfl⟩ := h
 obtain ⟨u1, u2, e_, ku1, ku2⟩ := openR_api_Claim h
 subst e_
 exact ⟨u1, u2, rfl, ku1, ku2⟩
def r_api_Sight : GR api_Sight := rC true 3 (fun x => [.int .i64 x.Gauge, .int .i64 x.Cell, .bool x.There]) (fun _ => rfl) (fun _ => by simp [Value.oneCell'])
theorem fit_api_Sight : r_api_Sight.fits := fun h => by cases h
theorem sb_api_Sight_0 : SubR r_api_Sight 0 (rInt .i64) (·.Gauge) := @fun O w cs x h => ⟨[], [.int .i64 x.Gauge], [.int .i64 x.Cell, .bool x.There], h.trans (by first | rfl | simp), by first | rfl | simp, rfl⟩
theorem sb_api_Sight_1 : SubR r_api_Sight 1 (rInt .i64) (·.Cell) := @fun O w cs x h => ⟨[.int .i64 x.Gauge], [.int .i64 x.Cell], [.bool x.There], h.trans (by first | rfl | simp), by first | rfl | simp, rfl⟩
noncomputable def r_court_cut : GR court_cut := (rCons (rSl (rInt .i64)) (·.sure_) (rCons (rSl (rInt .i64)) (·.touched_) rNil))
theorem fit_court_cut : r_court_cut.fits := fun h => by cases h
theorem sb_court_cut_0 : SubR r_court_cut 0 (rSl (rInt .i64)) (·.sure_) := sub_hd
theorem sb_court_cut_1 : SubR r_court_cut 1 (rSl (rInt .i64)) (·.touched_) := (sub_tl sub_hd rfl)
theorem openR_court_cut {O : Tags} {w : World} {cs : List Value} {x : court_cut} (h : r_court_cut.rel O w cs x) : ∃ u1 u2 : Value, cs = [u1, u2] ∧ (rSl (rInt .i64)).v O w u1 x.sure_ ∧ (rSl (rInt .i64)).v O w u2 x.touched_ := by
 obtain ⟨c1, d1, rfl, h1, t1⟩ := h
 obtain ⟨u1, rfl, ku1⟩ := rel_one h1 rfl rfl
 obtain ⟨c2, d2, rfl, h2, t2⟩ := t1
 obtain ⟨u2, rfl, ku2⟩ := rel_one h2 rfl rfl
 replace t2 : _ = ([] : List Value) := t2; subst t2
 exact ⟨u1, u2, rfl, ku1, ku2⟩
theorem openV_court_cut {O : Tags} {w : World} {u : Value} {x : court_cut} (h : r_court_cut.v O w u x) : ∃ u1 u2 : Value, u = .agg #[u1, u2] ∧ (rSl (rInt .i64)).v O w u1 x.sure_ ∧ (rSl (rInt .i64)).v O w u2 x.touched_ := by
 obtain ⟨cs, h, rfl⟩ := h
 obtain ⟨u1, u2, e_, ku1, ku2⟩ := openR_court_cut h
 subst e_
 exact ⟨u1, u2, rfl, ku1, ku2⟩
noncomputable def r_court_blank : GR court_blank := (rCons (rSl (rInt .i64)) (·.cells_) rNil)
theorem fit_court_blank : r_court_blank.fits := fun h => by cases h
theorem sb_court_blank_0 : SubR r_court_blank 0 (rSl (rInt .i64)) (·.cells_) := sub_hd
def tag_court_voice : court_voice → Nat
 | .c96 _ => 96
 | .c101 _ => 101
 | .c102 _ => 102
def sub_court_voice (x : court_voice) (O : Tags) (w : World) (v : Value) : Prop := match x with
 | .c96 x => r_court_cut.v O w v x
 | .c101 x => r_court_blank.v O w v x
 | .c102 x => (rSl r_api_Sight).v O w v x
theorem subm_court_voice : ∀ x {O w O' w' v}, Keep 0 O w O' w' → sub_court_voice x O w v → sub_court_voice x O' w' v := fun x _ _ _ _ _ hk h => by cases x <;> exact GR.v_mono _ h hk
noncomputable def r_court_voice : GR court_voice := rIf tag_court_voice sub_court_voice subm_court_voice
theorem as_court_voice_96 {a : Act} {w : World} {d : Option Tmp} {T : TypeId} {pos : String} {aft : Array Edge} {g : Option (Nat × Bool)} {O : Tags} {x : Operand} {u : Value} {y : court_voice} (hx : a.eval x = u) (h : r_court_voice.v O w u y) : Ok Try.prog ⟨d, .typeAssert x 94 96 true, T, pos, aft, g⟩ a w (SP.tup2 (SP.vl r_court_cut O (court_voice.as96 y).1) (SP.isv (.bool (court_voice.as96 y).2))).holds := by
 obtain ⟨v, rfl, hs⟩ := rIf_v.1 h
 cases y with
 | c96 b => exact ok_weak (okl_assertY ty96 rfl hx) fun w' v' hE h => ⟨_, _, h, GR.v_ext _ hs hE, rfl⟩
 | c101 b => exact ok_weak (okl_assertN ty96 rfl hx (by show (101 : Nat) ≠ 96; decide)) fun w' v' hE h => ⟨_, _, h, ⟨_, ⟨_, _, rfl, (rel_ofF (r := (rSl (rInt .i64))) (rSl_nil _ _ _ 0) rfl rfl), ⟨_, _, rfl, (rel_ofF (r := (rSl (rInt .i64))) (rSl_nil _ _ _ 0) rfl rfl), rfl⟩⟩, rfl⟩, rfl⟩
 | c102 b => exact ok_weak (okl_assertN ty96 rfl hx (by show (102 : Nat) ≠ 96; decide)) fun w' v' hE h => ⟨_, _, h, ⟨_, ⟨_, _, rfl, (rel_ofF (r := (rSl (rInt .i64))) (rSl_nil _ _ _ 0) rfl rfl), ⟨_, _, rfl, (rel_ofF (r := (rSl (rInt .i64))) (rSl_nil _ _ _ 0) rfl rfl), rfl⟩⟩, rfl⟩, rfl⟩
def r_court_fate : GR court_fate := rC true 6 (fun x => [.bool x.solid_, .bool x.empty_, .bool x.taken_, .bool x.loose_, .bool x.there_, .bool x.gone_]) (fun _ => rfl) (fun _ => by simp [Value.oneCell'])
noncomputable def r_colletref01_Draw : GR colletref01_Draw := (rCons (rSl (rInt .i64)) (·.L) (rCons (rInt .i64) (·.At) rNil))
theorem openR_colletref01_Draw {O : Tags} {w : World} {cs : List Value} {x : colletref01_Draw} (h : r_colletref01_Draw.rel O w cs x) : ∃ u1 : Value, cs = [u1, .int .i64 x.At] ∧ (rSl (rInt .i64)).v O w u1 x.L := by
 obtain ⟨c1, d1, rfl, h1, t1⟩ := h
 obtain ⟨u1, rfl, ku1⟩ := rel_one h1 rfl rfl
 obtain ⟨c2, d2, rfl, h2, t2⟩ := t1
 replace h2 : c2 = [.int .i64 x.At] := h2; subst h2
 replace t2 : _ = ([] : List Value) := t2; subst t2
 exact ⟨u1, rfl, ku1⟩
noncomputable def r_colletlaw43_Case : GR colletlaw43_Case := (rCons (rSl (rSl (rInt .i64))) (·.Claims) (rCons (rInt .u8) (·.Cells) (rCons (rSl (rInt .i64)) (·.Sights) rNil)))
theorem fit_colletlaw43_Case : r_colletlaw43_Case.fits := fun h => by cases h
theorem sb_colletlaw43_Case_0 : SubR r_colletlaw43_Case 0 (rSl (rSl (rInt .i64))) (·.Claims) := sub_hd
theorem sb_colletlaw43_Case_1 : SubR r_colletlaw43_Case 1 (rInt .u8) (·.Cells) := (sub_tl sub_hd rfl)
theorem sb_colletlaw43_Case_2 : SubR r_colletlaw43_Case 2 (rSl (rInt .i64)) (·.Sights) := (sub_tl (sub_tl sub_hd rfl) rfl)
noncomputable def r_colletlaw43_world : GR colletlaw43_world := (rCons (rInt .i64) (·.material_) (rCons (rSl (rInt .i64)) (·.removed_) rNil))
theorem fit_colletlaw43_world : r_colletlaw43_world.fits := fun h => by cases h
theorem sb_colletlaw43_world_0 : SubR r_colletlaw43_world 0 (rInt .i64) (·.material_) := sub_hd
theorem sb_colletlaw43_world_1 : SubR r_colletlaw43_world 1 (rSl (rInt .i64)) (·.removed_) := (sub_tl sub_hd rfl)
theorem key73 : KeyOk Try.prog 73 (fun x : Vector Int 2 => .agg (cellsA (fun x => [.int .i64 x]) x).toArray) := KeyOk.agg (cells := fun x => (cellsA (fun x => [.int .i64 x]) x)) (eqr_vec (f := (fun x => [.int .i64 x])) (hl := (fun _ => rfl)) (ho := (fun _ => by simp [Value.oneCell'])) ty73 ty3 rfl (eqr_int ty3) (fun _ _ _ => rfl)) (by decide) rfl (fun _ _ _ => rfl) ty73 rfl (fun e x w => by obtain ⟨a0, a1, rfl⟩ := vec2 x; kernel_rfl) (fun x => by obtain ⟨a0, a1, rfl⟩ := vec2 x; simp [Instr.sameBits, cellsA])
theorem ok_colletlaw43_example {O : Tags} {w0 : World} (hO : OkO O w0)  {n : Nat} {y : (List api_Claim)} (h : (colletlaw43_example).run n = some y) : Pure Try.prog 32 #[] w0 (SP.ownr r_api_Claim 33 (w0.heap.size) O y).holds := by
 unfold colletlaw43_example at h
 refine pure_of_wp Try.func32 rfl 10 Try.ntmps32 (by simp) fun a0 hA hs0 => ?_
 clear hs0
 have hB : Base (Fr w0) O w0 O w0 := Base.start hO
 refine wp_seq ?_
 refine' region [_] mixed hA (.cons (fun _ _ hE hK hg => ok_assign rfl) .nil) ?zok1 ?zgd1 ?zk1
 case zok1 | zgd1 => kernel_rfl
 intro a1 w1 hA hE HF
 clear HF
 replace hB := Base.step hB hE hO; clear hE
 refine li_nil (nx_then (wp_seq ?_))
 refine' regionT [SP.vl (rSl (rInt .i64)) O [0, 1], SP.vl r_api_Claim O (api_Claim.mk (-1) 1 0 [] [0, 1]), SP.vl (rSl (rInt .i64)) O [0], SP.vl (rSl (rInt .i64)) O [0], SP.vl r_api_Claim O (api_Claim.mk 0 2 0 [0] [0]), SP.vl (rSl (rInt .i64)) O [1], SP.vl r_api_Claim O (api_Claim.mk 1 2 0 [] [1]), SP.isv (.agg #[.int .i64 2, .int .i64 3, .int .i64 0, .slice none 0 0, .slice none 0 0])] hA (.cons (fun _ _ hE hK hg => okl_buildSliceV (r := (rInt .i64)) (fun _ => rfl) rfl (OkO.ext hB.ok hE) ty23 ty3 (parts_cons rfl (parts_cons rfl parts_nil)) ⟨(by exact rInt_v.2 rfl), ⟨(by exact rInt_v.2 rfl), trivial⟩⟩ rfl (by decide)) (.cons ?z2_1 (.cons (fun _ _ hE hK hg => okl_buildSliceV (r := (rInt .i64)) (fun _ => rfl) rfl (OkO.ext hB.ok hE) ty23 ty3 (parts_cons rfl parts_nil) ⟨(by exact rInt_v.2 rfl), trivial⟩ rfl (by decide)) (.cons (fun _ _ hE hK hg => okl_buildSliceV (r := (rInt .i64)) (fun _ => rfl) rfl (OkO.ext hB.ok hE) ty23 ty3 (parts_cons rfl parts_nil) ⟨(by exact rInt_v.2 rfl), trivial⟩ rfl (by decide)) (.cons ?z2_4 (.cons (fun _ _ hE hK hg => okl_buildSliceV (r := (rInt .i64)) (fun _ => rfl) rfl (OkO.ext hB.ok hE) ty23 ty3 (parts_cons rfl parts_nil) ⟨(by exact rInt_v.2 rfl), trivial⟩ rfl (by decide)) (.cons ?z2_6 (.cons (fun _ _ hE hK hg => okl_build plc33 ty33 (pk_cons (v := .int .i64 2) rfl (pk_cons (v := .int .i64 3) rfl pk_nil)) rfl (.cons rfl rfl rfl (leb rfl) (.cons rfl rfl rfl (leb rfl) .nil)) rfl) .nil)))))))) ?zok2 ?zgd2 ?zk2
 case z2_1 => intro a' w' hE hK hg; refine ok_weak (okl_build (vals := [(0, .int .i64 (-1)), (1, .int .i64 1), (4, (a'.get 1))]) (out := [.int .i64 (-1), .int .i64 1, .int .i64 0, .slice none 0 0, (a'.get 1)]) plc33 ty33 ?_ rfl ?_ rfl) ?_; exact (pk_cons (v := .int .i64 (-1)) rfl (pk_cons (v := .int .i64 1) rfl (pk_cons (v := (a'.get 1)) rfl pk_nil))); exact (.cons rfl rfl rfl (leb rfl) (.cons rfl rfl rfl (leb rfl) (.cons rfl (sl_cells (kspS (φ := SP.vl (rSl (rInt .i64)) O [0, 1]) (j := 0) (hK 1 rfl) rfl rfl rfl) rfl rfl) rfl (leb rfl) .nil))); exact fun w_ v_ hE2_ h_ => by { replace h_ : v_ = _ := h_; subst h_; exact ⟨_, ⟨_, _, rfl, rfl, ⟨_, _, rfl, rfl, ⟨_, _, rfl, rfl, ⟨_, _, rfl, (rel_ofF (r := (rSl (rInt .i64))) (rSl_nil _ _ _ 0) rfl rfl), ⟨_, _, rfl, (rel_ofF (r := (rSl (rInt .i64))) (GR.v_ext _ (kspS (φ := SP.vl (rSl (rInt .i64)) O [0, 1]) (j := 0) (hK 1 rfl) rfl rfl rfl) hE2_) rfl rfl), rfl⟩⟩⟩⟩⟩, rfl⟩ }
 case z2_4 => intro a' w' hE hK hg; refine ok_weak (okl_build (vals := [(1, .int .i64 2), (3, (a'.get 3)), (4, (a'.get 4))]) (out := [.int .i64 0, .int .i64 2, .int .i64 0, (a'.get 3), (a'.get 4)]) plc33 ty33 ?_ rfl ?_ rfl) ?_; exact (pk_cons (v := .int .i64 2) rfl (pk_cons (v := (a'.get 3)) rfl (pk_cons (v := (a'.get 4)) rfl pk_nil))); exact (.cons rfl rfl rfl (leb rfl) (.cons rfl (sl_cells (kspS (φ := SP.vl (rSl (rInt .i64)) O [0]) (j := 2) (hK 3 rfl) rfl rfl rfl) rfl rfl) rfl (leb rfl) (.cons rfl (sl_cells (kspS (φ := SP.vl (rSl (rInt .i64)) O [0]) (j := 3) (hK 4 rfl) rfl rfl rfl) rfl rfl) rfl (leb rfl) .nil))); exact fun w_ v_ hE2_ h_ => by { replace h_ : v_ = _ := h_; subst h_; exact ⟨_, ⟨_, _, rfl, rfl, ⟨_, _, rfl, rfl, ⟨_, _, rfl, rfl, ⟨_, _, rfl, (rel_ofF (r := (rSl (rInt .i64))) (GR.v_ext _ (kspS (φ := SP.vl (rSl (rInt .i64)) O [0]) (j := 2) (hK 3 rfl) rfl rfl rfl) hE2_) rfl rfl), ⟨_, _, rfl, (rel_ofF (r := (rSl (rInt .i64))) (GR.v_ext _ (kspS (φ := SP.vl (rSl (rInt .i64)) O [0]) (j := 3) (hK 4 rfl) rfl rfl rfl) hE2_) rfl rfl), rfl⟩⟩⟩⟩⟩, rfl⟩ }
 case z2_6 => intro a' w' hE hK hg; refine ok_weak (okl_build (vals := [(0, .int .i64 1), (1, .int .i64 2), (4, (a'.get 6))]) (out := [.int .i64 1, .int .i64 2, .int .i64 0, .slice none 0 0, (a'.get 6)]) plc33 ty33 ?_ rfl ?_ rfl) ?_; exact (pk_cons (v := .int .i64 1) rfl (pk_cons (v := .int .i64 2) rfl (pk_cons (v := (a'.get 6)) rfl pk_nil))); exact (.cons rfl rfl rfl (leb rfl) (.cons rfl rfl rfl (leb rfl) (.cons rfl (sl_cells (kspS (φ := SP.vl (rSl (rInt .i64)) O [1]) (j := 5) (hK 6 rfl) rfl rfl rfl) rfl rfl) rfl (leb rfl) .nil))); exact fun w_ v_ hE2_ h_ => by { replace h_ : v_ = _ := h_; subst h_; exact ⟨_, ⟨_, _, rfl, rfl, ⟨_, _, rfl, rfl, ⟨_, _, rfl, rfl, ⟨_, _, rfl, (rel_ofF (r := (rSl (rInt .i64))) (rSl_nil _ _ _ 0) rfl rfl), ⟨_, _, rfl, (rel_ofF (r := (rSl (rInt .i64))) (GR.v_ext _ (kspS (φ := SP.vl (rSl (rInt .i64)) O [1]) (j := 5) (hK 6 rfl) rfl rfl rfl) hE2_) rfl rfl), rfl⟩⟩⟩⟩⟩, rfl⟩ }
 case zok2 | zgd2 => kernel_rfl
 intro a2 w2 hA hE HF
 have f2 := ksp (HF 2) rfl rfl rfl
 obtain ⟨u1, q2'⟩ : ∃ u, a2.get 2 = u := ⟨_, rfl⟩
 rw [q2'] at f2
 have q2 := q2'; clear q2'
 have f4 := ksp (HF 5) rfl rfl rfl
 obtain ⟨u3, q5'⟩ : ∃ u, a2.get 5 = u := ⟨_, rfl⟩
 rw [q5'] at f4
 have q5 := q5'; clear q5'
 have f6 := ksp (HF 7) rfl rfl rfl
 obtain ⟨u5, q7'⟩ : ∃ u, a2.get 7 = u := ⟨_, rfl⟩
 rw [q7'] at f6
 have q7 := q7'; clear q7'
 have q8 := ksv (HF 8) rfl rfl rfl
 clear HF
 replace hB := Base.step hB hE hO; clear hE
 refine l_ok (φ := SP.ownr r_api_Claim 33 w2.heap.size O [(api_Claim.mk (-1) 1 0 [] [0, 1]), (api_Claim.mk 0 2 0 [0] [0]), (api_Claim.mk 1 2 0 [] [1]), (api_Claim.mk 2 3 0 [] [])]) hO hB (by exact okl_buildSlice (r := r_api_Claim) fit_api_Claim rfl hB.ok ty27 ty33 (Nat.le_refl _) (parts_cons q2 (parts_cons q5 (parts_cons q7 (parts_cons q8 parts_nil)))) ⟨f2, ⟨f4, ⟨f6, ⟨⟨_, ⟨_, _, rfl, rfl, ⟨_, _, rfl, rfl, ⟨_, _, rfl, rfl, ⟨_, _, rfl, (rel_ofF (r := (rSl (rInt .i64))) (rSl_nil _ _ _ 0) rfl rfl), ⟨_, _, rfl, (rel_ofF (r := (rSl (rInt .i64))) (rSl_nil _ _ _ 0) rfl rfl), rfl⟩⟩⟩⟩⟩, rfl⟩, trivial⟩⟩⟩⟩ rfl (by decide)) rfl fun u7 w3 hE hB' f8 => ?_
 clear hB'; obtain ⟨O9, hB', hX, f10⟩ := ownNew hO hB hE f8 rfl 1 (by decide)
 clear hB f8; have hB := hB'; clear hB'
 replace f2 := GR.kx _ f2 hX (by decide)
 replace f4 := GR.kx _ f4 hX (by decide)
 replace f6 := GR.kx _ f6 hX (by decide)
 clear hX hE
 refine put_cont hA (by decide) fun a4 hA q_ hfr => ?_
 replace q2 := (hfr 2 rfl).trans q2
 replace q5 := (hfr 5 rfl).trans q5
 replace q7 := (hfr 7 rfl).trans q7
 replace q8 := (hfr 8 rfl).trans q8
 have q9 := q_; clear q_ hfr
 refine l_ok (φ := SP.isv (u7)) hO hB (by exact ok_assign q9) rfl fun u_ w5 hE hB' hv_ => ?_
 replace hv_ := Eq.symm hv_; subst hv_; clear hB; have hB := hB'; clear hB'
 replace f10 := f10.ext hE
 clear hE
 refine put_cont hA (by decide) fun a6 hA q_ hfr => ?_
 replace q9 := (hfr 9 rfl).trans q9
 have q0 := q_; clear q_ hfr
 refine li_nil (nx_then (wp_ret ?_))
 have h := Comp.run_pure h; subst h
 exact retPure Try.results32 hA q0 hB.ext (OwnL.res f10 (by decide) hB.zero)
theorem ok_slices_Index_int_int {O : Tags} {w0 : World} (hO : OkO O w0) {v_0 : Value} {x_0 : List Int} (h_0 : (rSl (rInt .i64)).v O w0 v_0 x_0) {x_1 : Int} {n : Nat} {y : Int} (h : (slices_Index_int_int x_0 x_1).run n = some y) : Pure Try.prog 74 #[v_0, .int .i64 x_1] w0 (SP.isv (.int .i64 y)).holds := by
 unfold slices_Index_int_int at h
 refine pure_of_wp Try.func74 rfl 19 Try.ntmps74 (by simp) fun a0 hA hs0 => ?_
 have q0 : a0.get 0 = v_0 := hs0 0 _ rfl
 have q1 : a0.get 1 = .int .i64 x_1 := hs0 1 _ rfl
 clear hs0
 have hB : Base (Fr w0) O w0 O w0 := Base.start hO
 refine wp_seq ?_
 refine' region [_] mixed hA (.cons (fun _ _ hE hK hg => ok_assign rfl) .nil) ?zok1 ?zgd1 ?zk1
 case zok1 | zgd1 => kernel_rfl
 intro a1 w1 hA hE HF
 replace q0 := kn (HF 0) rfl q0
 replace q1 := kn (HF 1) rfl q1
 clear HF
 replace h_0 := GR.v_ext _ h_0 hE
 replace hB := Base.step hB hE hO; clear hE
 refine li_nil (nx_then ?_)
 refine seq_join (fun a w => ∃ (O5 : Tags), a.fit 19 ∧ Base (Fr w0) O w0 O5 w ∧ (slices_Index_int_int_j1 ).run n = some y) ?_ ?_
 ·
  refine wp_seq ?_
  refine' region [_, _, _] mixed hA (.cons (fun _ _ hE hK hg => ok_move (kn (hK 0 rfl) rfl q0)) (.cons (fun _ _ hE hK hg => okl_len (r := (rInt .i64)) ty23 (ksv (j := 0) (hK 6 rfl) rfl rfl rfl) (rd_of (GR.v_ext _ h_0 hE))) (.cons (fun _ _ hE hK hg => ok_move rfl) .nil))) ?zok2 ?zgd2 ?zk2
  case zok2 | zgd2 => kernel_rfl
  intro a2 w2 hA hE HF
  replace q0 := kn (HF 0) rfl q0
  replace q1 := kn (HF 1) rfl q1
  have q7 := ksv (HF 7) rfl rfl rfl
  have q8 := ksv (HF 8) rfl rfl rfl
  clear HF
  replace h_0 := GR.v_ext _ h_0 hE
  replace hB := Base.step hB hE hO; clear hE
  refine li_nil (nx_then (wp_block ?_))
  obtain ⟨e2, he2, hk2⟩ := Comp.run_bind h; clear h
  refine loop_m (fun m a w => ∃ (O2 : Tags) (x1 : Int), a.fit 19 ∧ Base (Fr w0) O w0 O2 w ∧ a.get 0 = v_0 ∧ (rSl (rInt .i64)).v O2 w v_0 x_0 ∧ a.get 1 = .int .i64 x_1 ∧ a.get 7 = .int .i64 (x_0.length : Int) ∧ a.get 8 = .int .i64 x1 ∧ Comp.loopN (fun s => slices_Index_int_int_l2 x_0 x_1 s) n m x1 = some e2) (m := n) ?st2 ?_
  case st2 =>
   exact ⟨_, _, hA, hB, q0, h_0, q1, q7, q8, Comp.run_loop he2⟩
  intro m_ a3 w3 hI
  clear hA hB he2 q0 q1 q7 q8 h_0
  obtain ⟨O2, x1, hA, hB, q0, h_0, q1, q7, q8, hl⟩ := hI
  obtain ⟨m2, hlt2, st2, h, hnext2, hdone2⟩ := Comp.loopN_succ hl; clear hl
  replace h : (slices_Index_int_int_l2 x_0 x_1 x1).run n = some st2 := h
  unfold slices_Index_int_int_l2 at h
  refine wp_seq ?_
  refine' region [_] mixed hA (.cons (fun _ _ hE hK hg => ok_lss (kn (hK 8 rfl) rfl q8) (kn (hK 7 rfl) rfl q7)) .nil) ?zok3 ?zgd3 ?zk3
  case zok3 | zgd3 => kernel_rfl
  intro a4 w4 hA hE HF
  replace q0 := kn (HF 0) rfl q0
  replace q1 := kn (HF 1) rfl q1
  replace q7 := kn (HF 7) rfl q7
  replace q8 := kn (HF 8) rfl q8
  have q9 := ksv (HF 9) rfl rfl rfl
  clear HF
  replace h_0 := GR.v_ext _ h_0 hE
  replace hB := Base.step hB hE hO; clear hE
  refine li_nil (nx_then (wp_seq ?_))
  refine wp_cond_b q9 (fun hc => ?_) (fun hc => ?_)
  ·
   replace h := Comp.run_b_t hc h; clear hc
   refine wp_skip (nx_then (wp_seq (wp_block (wp_seq ?_))))
   refine' region [_, _] mixed hA (.cons (fun _ _ hE hK hg => ok_move (kn (hK 8 rfl) rfl q8)) (.cons (fun _ _ hE hK hg => ok_assign (ksv (j := 0) (hK 10 rfl) rfl rfl rfl)) .nil)) ?zok4 ?zgd4 ?zk4
   case zok4 | zgd4 => kernel_rfl
   intro a5 w5 hA hE HF
   replace q0 := kn (HF 0) rfl q0
   replace q1 := kn (HF 1) rfl q1
   have q5 := ksv (HF 5) rfl rfl rfl
   replace q7 := kn (HF 7) rfl q7
   replace q8 := kn (HF 8) rfl q8
   clear q9
   clear HF
   replace h_0 := GR.v_ext _ h_0 hE
   replace hB := Base.step hB hE hO; clear hE
   refine li_nil (nx_then (wp_seq ?_))
   obtain ⟨x3, hx3, h⟩ := Comp.run_bind h
   refine' region [_, _, _, SP.ptr (rInt .i64) O2 x3, SP.isv (.int .i64 x3), _] mixed hA (.cons (fun _ _ hE hK hg => ok_move (kn (hK 1 rfl) rfl q1)) (.cons (fun _ _ hE hK hg => ok_move (kn (hK 0 rfl) rfl q0)) (.cons (fun _ _ hE hK hg => ok_move (kn (hK 5 rfl) rfl q5)) (.cons (fun _ _ hE hK hg => okl_idx (r := (rInt .i64)) (O := O2) ty23 ty3 rfl (ksv (j := 1) (hK 12 rfl) rfl rfl rfl) (rd_of (GR.v_ext _ h_0 hE)) (ksv (j := 2) (hK 13 rfl) rfl rfl rfl) hx3) (.cons (fun _ _ hE hK hg => okl_ldr (rInt .i64) (fun _ => rfl) ty3 rfl rfl rfl (kspS (φ := SP.ptr (rInt .i64) O2 x3) (j := 3) (hK 14 rfl) rfl rfl rfl) (fun _ _ _ h => rInt_v.1 h)) (.cons (fun _ _ hE hK hg => ok_eqlI (ksv (j := 0) (hK 11 rfl) rfl rfl rfl) (ksv (j := 4) (hK 15 rfl) rfl rfl rfl)) .nil)))))) ?zok5 ?zgd5 ?zk5
   case zok5 | zgd5 => kernel_rfl
   intro a6 w6 hA hE HF
   replace q0 := kn (HF 0) rfl q0
   replace q1 := kn (HF 1) rfl q1
   replace q5 := kn (HF 5) rfl q5
   replace q7 := kn (HF 7) rfl q7
   replace q8 := kn (HF 8) rfl q8
   have q16 := ksv (HF 16) rfl rfl rfl
   clear HF
   replace h_0 := GR.v_ext _ h_0 hE
   replace hB := Base.step hB hE hO; clear hE
   refine li_nil (nx_then ?_)
   refine wp_cond_b q16 (fun hc => ?_) (fun hc => ?_)
   ·
    replace h := Comp.run_b_t hc h; clear hc
    refine wp_seq ?_
    refine' region [_, _] mixed hA (.cons (fun _ _ hE hK hg => ok_move (kn (hK 5 rfl) rfl q5)) (.cons (fun _ _ hE hK hg => ok_assign (ksv (j := 0) (hK 17 rfl) rfl rfl rfl)) .nil)) ?zok6 ?zgd6 ?zk6
    case zok6 | zgd6 => kernel_rfl
    intro a7 w7 hA hE HF
    have q4 := ksv (HF 4) rfl rfl rfl
    clear q0
    clear q1
    clear q5
    clear q7
    clear q8
    clear q16
    clear HF
    replace h_0 := GR.v_ext _ h_0 hE
    replace hB := Base.step hB hE hO; clear hE
    refine li_nil (nx_then (wp_ret (rt_blk (rt_then (rt_then (rt_blk (rt_then ?_)))))))
    have hd_ := hdone2 _ (Comp.run_pure h).symm; clear h
    subst hd_; have h := hk2; clear hk2; try dsimp only at h
    have h := Comp.run_pure h; subst h
    exact retPure Try.results74 hA q4 hB.ext rfl
   ·
    replace h := Comp.run_b_f hc h; clear hc
    refine wp_skip (nx_blk (nx_then ?_))
    refine' region [_, _] mixed hA (.cons (fun _ _ hE hK hg => ok_add (kn (hK 8 rfl) rfl q8) rfl) (.cons (fun _ _ hE hK hg => ok_move (ksv (j := 0) (hK 18 rfl) rfl rfl rfl)) .nil)) ?zok7 ?zgd7 ?zk7
    case zok7 | zgd7 => kernel_rfl
    intro a8 w8 hA hE HF
    replace q0 := kn (HF 0) rfl q0
    replace q1 := kn (HF 1) rfl q1
    replace q7 := kn (HF 7) rfl q7
    have q8' := ksv (HF 8) rfl rfl rfl
    replace q8 := q8'; clear q8'
    clear q5
    clear q16
    clear HF
    replace h_0 := GR.v_ext _ h_0 hE
    replace hB := Base.step hB hE hO; clear hE
    refine li_nil (nx_then ?_)
    have h := hnext2 _ (Comp.run_pure h).symm
    refine ⟨m2, hlt2, ?_⟩
    exact ⟨_, _, hA, hB, q0, h_0, q1, q7, q8, h⟩
  ·
   replace h := Comp.run_b_f hc h; clear hc
   refine wp_exit (ex_then (ex_then (ex_same ?_)))
   have hd_ := hdone2 _ (Comp.run_pure h).symm; clear h
   subst hd_; have h := hk2; clear hk2; try dsimp only at h
   refine nx_then ?_
   exact ⟨_, hA, hB, h⟩
 intro a9 w9 hI
 clear hA hB h q0 q1 h_0
 obtain ⟨O5, hA, hB, h⟩ := hI
 unfold slices_Index_int_int_j1 at h
 refine wp_seq ?_
 refine' region [_] mixed hA (.cons (fun _ _ hE hK hg => ok_assign rfl) .nil) ?zok8 ?zgd8 ?zk8
 case zok8 | zgd8 => kernel_rfl
 intro a10 w10 hA hE HF
 have q4 := ksv (HF 4) rfl rfl rfl
 clear HF
 replace hB := Base.step hB hE hO; clear hE
 refine li_nil (nx_then (wp_ret ?_))
 have h := Comp.run_pure h; subst h
 exact retPure Try.results74 hA q4 hB.ext rfl
theorem ok_slices_Contains_int_int {O : Tags} {w0 : World} (hO : OkO O w0) {v_0 : Value} {x_0 : List Int} (h_0 : (rSl (rInt .i64)).v O w0 v_0 x_0) {x_1 : Int} {n : Nat} {y : Bool} (h : (slices_Contains_int_int x_0 x_1).run n = some y) : Pure Try.prog 57 #[v_0, .int .i64 x_1] w0 (SP.isv (.bool y)).holds := by
 unfold slices_Contains_int_int at h
 refine pure_of_wp Try.func57 rfl 9 Try.ntmps57 (by simp) fun a0 hA hs0 => ?_
 have q0 : a0.get 0 = v_0 := hs0 0 _ rfl
 have q1 : a0.get 1 = .int .i64 x_1 := hs0 1 _ rfl
 clear hs0
 have hB : Base (Fr w0) O w0 O w0 := Base.start hO
 refine wp_seq ?_
 refine' region [_] mixed hA (.cons (fun _ _ hE hK hg => ok_assign rfl) .nil) ?zok1 ?zgd1 ?zk1
 case zok1 | zgd1 => kernel_rfl
 intro a1 w1 hA hE HF
 replace q0 := kn (HF 0) rfl q0
 replace q1 := kn (HF 1) rfl q1
 clear HF
 replace h_0 := GR.v_ext _ h_0 hE
 replace hB := Base.step hB hE hO; clear hE
 refine li_nil (nx_then (wp_seq ?_))
 obtain ⟨x1, hx1, h⟩ := Comp.run_bind h
 refine' region [_, _, SP.isv (.int .i64 x1), _, _] mixed hA (.cons (fun _ _ hE hK hg => ok_move (kn (hK 0 rfl) rfl q0)) (.cons (fun _ _ hE hK hg => ok_move (kn (hK 1 rfl) rfl q1)) (.cons ?z2_2 (.cons (fun _ _ hE hK hg => ok_geq (ksv (j := 2) (hK 7 rfl) rfl rfl rfl) rfl) (.cons (fun _ _ hE hK hg => ok_assign (ksv (j := 3) (hK 8 rfl) rfl rfl rfl)) .nil))))) ?zok2 ?zgd2 ?zk2
 case z2_2 => intro a' w' hE hK hg; have c_ := ok_slices_Index_int_int (OkO.ext hB.ok hE) (GR.v_ext _ h_0 hE) hx1; exact ok_call2 fn74 (ksv (j := 0) (hK 5 rfl) rfl rfl rfl) (ksv (j := 1) (hK 6 rfl) rfl rfl rfl) c_
 case zok2 | zgd2 => kernel_rfl
 intro a2 w2 hA hE HF
 have q4 := ksv (HF 4) rfl rfl rfl
 clear q0
 clear q1
 clear HF
 replace h_0 := GR.v_ext _ h_0 hE
 replace hB := Base.step hB hE hO; clear hE
 refine li_nil (nx_then (wp_ret ?_))
 have h := Comp.run_pure h; subst h
 exact retPure Try.results57 hA q4 hB.ext rfl
theorem ok_court_check_f1 {O : Tags} {w0 : World} (hO : OkO O w0) {x_0 : Int} {v_1 : Value} {x_1 : api_Claim} (h_1 : (rBox r_api_Claim).v O w0 v_1 x_1) {n : Nat} {y : Bool} (h : (court_check_f1 x_0 x_1).run n = some y) : Pure Try.prog 56 #[.int .i64 x_0, v_1] w0 (SP.isv (.bool y)).holds := by
 unfold court_check_f1 at h
 refine pure_of_wp Try.func56 rfl 9 Try.ntmps56 (by simp) fun a0 hA hs0 => ?_
 have q0 : a0.get 0 = .int .i64 x_0 := hs0 0 _ rfl
 have q1 : a0.get 1 = v_1 := hs0 1 _ rfl
 clear hs0
 have hB : Base (Fr w0) O w0 O w0 := Base.start hO
 refine wp_seq ?_
 refine' region [_] mixed hA (.cons (fun _ _ hE hK hg => ok_assign rfl) .nil) ?zok1 ?zgd1 ?zk1
 case zok1 | zgd1 => kernel_rfl
 intro a1 w1 hA hE HF
 replace q0 := kn (HF 0) rfl q0
 replace q1 := kn (HF 1) rfl q1
 clear HF
 replace h_1 := GR.v_ext _ h_1 hE
 replace hB := Base.step hB hE hO; clear hE
 refine li_nil (nx_then (wp_seq ?_))
 obtain ⟨x1, hx1, h⟩ := Comp.run_bind h
 refine' region [SP.ptr (rSl (rInt .i64)) O x_1.Touched, SP.vl (rSl (rInt .i64)) O x_1.Touched, _, SP.isv (.bool x1), _, _] mixed hA (.cons (fun _ _ hE hK hg => okl_fldB (S := r_api_Claim) fit_api_Claim rfl (fun _ => rfl) sb_api_Claim_4 fl33_4 (kn (hK 1 rfl) rfl q1) (GR.v_ext _ h_1 hE)) (.cons (fun _ _ hE hK hg => okl_ld (r := (rSl (rInt .i64))) (fun _ => rfl) ty23 rfl rfl rfl (kspS (φ := SP.ptr (rSl (rInt .i64)) O x_1.Touched) (j := 0) (hK 4 rfl) rfl rfl rfl)) (.cons (fun _ _ hE hK hg => ok_move (kn (hK 0 rfl) rfl q0)) (.cons ?z2_3 (.cons (fun _ _ hE hK hg => ok_not (ksv (j := 3) (hK 7 rfl) rfl rfl rfl)) (.cons (fun _ _ hE hK hg => ok_assign (ksv (j := 4) (hK 8 rfl) rfl rfl rfl)) .nil)))))) ?zok2 ?zgd2 ?zk2
 case z2_3 => intro a' w' hE hK hg; have c_ := ok_slices_Contains_int_int (OkO.ext hB.ok hE) (kspS (φ := SP.vl (rSl (rInt .i64)) O x_1.Touched) (j := 1) (hK 5 rfl) rfl rfl rfl) hx1; exact ok_call2 fn57 rfl (ksv (j := 2) (hK 6 rfl) rfl rfl rfl) c_
 case zok2 | zgd2 => kernel_rfl
 intro a2 w2 hA hE HF
 have q3 := ksv (HF 3) rfl rfl rfl
 clear q0
 clear q1
 clear HF
 replace h_1 := GR.v_ext _ h_1 hE
 replace hB := Base.step hB hE hO; clear hE
 refine li_nil (nx_then (wp_ret ?_))
 have h := Comp.run_pure h; subst h
 exact retPure Try.results56 hA q3 hB.ext rfl
theorem ok_cmp_isNaN_int {O : Tags} {w0 : World} (hO : OkO O w0) {x_0 : Int} {n : Nat} {y : Bool} (h : (cmp_isNaN_int x_0).run n = some y) : Pure Try.prog 85 #[.int .i64 x_0] w0 (SP.isv (.bool y)).holds := by
 unfold cmp_isNaN_int at h
 refine pure_of_wp Try.func85 rfl 6 Try.ntmps85 (by simp) fun a0 hA hs0 => ?_
 have q0 : a0.get 0 = .int .i64 x_0 := hs0 0 _ rfl
 clear hs0
 have hB : Base (Fr w0) O w0 O w0 := Base.start hO
 refine wp_seq ?_
 refine' region [_] mixed hA (.cons (fun _ _ hE hK hg => ok_assign rfl) .nil) ?zok1 ?zgd1 ?zk1
 case zok1 | zgd1 => kernel_rfl
 intro a1 w1 hA hE HF
 replace q0 := kn (HF 0) rfl q0
 clear HF
 replace hB := Base.step hB hE hO; clear hE
 refine li_nil (nx_then (wp_seq ?_))
 refine' region [_, _, _, _] mixed hA (.cons (fun _ _ hE hK hg => ok_move (kn (hK 0 rfl) rfl q0)) (.cons (fun _ _ hE hK hg => ok_move (kn (hK 0 rfl) rfl q0)) (.cons (fun _ _ hE hK hg => ok_neqI (ksv (j := 0) (hK 3 rfl) rfl rfl rfl) (ksv (j := 1) (hK 4 rfl) rfl rfl rfl)) (.cons (fun _ _ hE hK hg => ok_assign (ksv (j := 2) (hK 5 rfl) rfl rfl rfl)) .nil)))) ?zok2 ?zgd2 ?zk2
 case zok2 | zgd2 => kernel_rfl
 intro a2 w2 hA hE HF
 have q2 := ksv (HF 2) rfl rfl rfl
 clear q0
 clear HF
 replace hB := Base.step hB hE hO; clear hE
 refine li_nil (nx_then (wp_ret ?_))
 have h := Comp.run_pure h; subst h
 exact retPure Try.results85 hA q2 hB.ext rfl
theorem ok_cmp_Less_int {O : Tags} {w0 : World} (hO : OkO O w0) {x_0 : Int} {x_1 : Int} {n : Nat} {y : Bool} (h : (cmp_Less_int x_0 x_1).run n = some y) : Pure Try.prog 83 #[.int .i64 x_0, .int .i64 x_1] w0 (SP.isv (.bool y)).holds := by
 unfold cmp_Less_int at h
 refine pure_of_wp Try.func83 rfl 17 Try.ntmps83 (by simp) fun a0 hA hs0 => ?_
 have q0 : a0.get 0 = .int .i64 x_0 := hs0 0 _ rfl
 have q1 : a0.get 1 = .int .i64 x_1 := hs0 1 _ rfl
 clear hs0
 have hB : Base (Fr w0) O w0 O w0 := Base.start hO
 refine wp_seq ?_
 refine' region [_] mixed hA (.cons (fun _ _ hE hK hg => ok_assign rfl) .nil) ?zok1 ?zgd1 ?zk1
 case zok1 | zgd1 => kernel_rfl
 intro a1 w1 hA hE HF
 replace q0 := kn (HF 0) rfl q0
 replace q1 := kn (HF 1) rfl q1
 clear HF
 replace hB := Base.step hB hE hO; clear hE
 refine li_nil (nx_then (wp_seq ?_))
 obtain ⟨x1, hx1, h⟩ := Comp.run_bind h
 obtain ⟨x2, hx2, h⟩ := Comp.run_bind h
 refine' region [_, SP.isv (.bool x1), _, _, SP.isv (.bool x2), _, _, _, _, _, _, _, _] mixed hA (.cons (fun _ _ hE hK hg => ok_move (kn (hK 0 rfl) rfl q0)) (.cons ?z2_1 (.cons (fun _ _ hE hK hg => ok_move (ksv (j := 1) (hK 6 rfl) rfl rfl rfl)) (.cons (fun _ _ hE hK hg => ok_move (kn (hK 1 rfl) rfl q1)) (.cons ?z2_4 (.cons ?z2_5 (.cons ?z2_6 (.cons (fun _ _ hE hK hg => ok_move (ksv (j := 6) (hK 11 rfl) rfl rfl rfl)) (.cons (fun _ _ hE hK hg => ok_move (kn (hK 0 rfl) rfl q0)) (.cons (fun _ _ hE hK hg => ok_move (kn (hK 1 rfl) rfl q1)) (.cons ?z2_10 (.cons ?z2_11 (.cons (fun _ _ hE hK hg => ok_assign (ksv (j := 11) (hK 16 rfl) rfl rfl rfl)) .nil))))))))))))) ?zok2 ?zgd2 ?zk2
 case z2_1 => intro a' w' hE hK hg; have c_ := ok_cmp_isNaN_int (OkO.ext hB.ok hE)  hx1; exact ok_call1 fn85 (ksv (j := 0) (hK 5 rfl) rfl rfl rfl) c_
 case z2_4 => intro a' w' hE hK hg; have c_ := ok_cmp_isNaN_int (OkO.ext hB.ok hE)  (run_gdb hx2 hg); exact ok_call1 fn85 (ksv (j := 3) (hK 8 rfl) rfl rfl hg) c_
 case z2_5 => intro a' w' hE hK hg; exact ok_not (ksv (j := 4) (hK 9 rfl) rfl rfl hg)
 case z2_6 => intro a' w' hE hK hg; exact ok_pick (ksv (j := 2) (hK 7 rfl) rfl rfl rfl) (fun hb => ksv (j := 5) (hK 10 rfl) rfl rfl (act_g1 rfl rfl hb)) (fun _ => rfl)
 case z2_10 => intro a' w' hE hK hg; exact ok_lss (ksv (j := 8) (hK 13 rfl) rfl rfl hg) (ksv (j := 9) (hK 14 rfl) rfl rfl hg)
 case z2_11 => intro a' w' hE hK hg; exact ok_pick (ksv (j := 7) (hK 12 rfl) rfl rfl rfl) (fun _ => rfl) (fun hb => ksv (j := 10) (hK 15 rfl) rfl rfl (act_g1 rfl rfl hb))
 case zok2 | zgd2 => kernel_rfl
 intro a2 w2 hA hE HF
 have q4 := ksv (HF 4) rfl rfl rfl
 clear q0
 clear q1
 clear HF
 replace hB := Base.step hB hE hO; clear hE
 obtain ⟨x3, hx_, h⟩ := Comp.run_bind h; replace hx_ := Comp.run_pure hx_; rw [hx_] at q4; clear hx_
 refine li_nil (nx_then (wp_ret ?_))
 have h := Comp.run_pure h; subst h
 exact retPure Try.results83 hA q4 hB.ext rfl
theorem ok_slices_IsSorted_int_int {O : Tags} {w0 : World} (hO : OkO O w0) {v_0 : Value} {x_0 : List Int} (h_0 : (rSl (rInt .i64)).v O w0 v_0 x_0) {n : Nat} {y : Bool} (h : (slices_IsSorted_int_int x_0).run n = some y) : Pure Try.prog 75 #[v_0] w0 (SP.isv (.bool y)).holds := by
 unfold slices_IsSorted_int_int at h
 refine pure_of_wp Try.func75 rfl 21 Try.ntmps75 (by simp) fun a0 hA hs0 => ?_
 have q0 : a0.get 0 = v_0 := hs0 0 _ rfl
 clear hs0
 have hB : Base (Fr w0) O w0 O w0 := Base.start hO
 refine wp_seq ?_
 refine' region [_] mixed hA (.cons (fun _ _ hE hK hg => ok_assign rfl) .nil) ?zok1 ?zgd1 ?zk1
 case zok1 | zgd1 => kernel_rfl
 intro a1 w1 hA hE HF
 replace q0 := kn (HF 0) rfl q0
 clear HF
 replace h_0 := GR.v_ext _ h_0 hE
 replace hB := Base.step hB hE hO; clear hE
 refine li_nil (nx_then ?_)
 refine seq_join (fun a w => ∃ (O8 : Tags), a.fit 21 ∧ Base (Fr w0) O w0 O8 w ∧ (slices_IsSorted_int_int_j1 ).run n = some y) ?_ ?_
 ·
  refine wp_seq ?_
  refine' region [_, _, _, _] mixed hA (.cons (fun _ _ hE hK hg => ok_move (kn (hK 0 rfl) rfl q0)) (.cons (fun _ _ hE hK hg => okl_len (r := (rInt .i64)) ty23 (ksv (j := 0) (hK 4 rfl) rfl rfl rfl) (rd_of (GR.v_ext _ h_0 hE))) (.cons (fun _ _ hE hK hg => ok_sub (ksv (j := 1) (hK 5 rfl) rfl rfl rfl) rfl) (.cons (fun _ _ hE hK hg => ok_assign (ksv (j := 2) (hK 6 rfl) rfl rfl rfl)) .nil)))) ?zok2 ?zgd2 ?zk2
  case zok2 | zgd2 => kernel_rfl
  intro a2 w2 hA hE HF
  replace q0 := kn (HF 0) rfl q0
  have q3 := ksv (HF 3) rfl rfl rfl
  clear HF
  replace h_0 := GR.v_ext _ h_0 hE
  replace hB := Base.step hB hE hO; clear hE
  obtain ⟨x1, hx_, h⟩ := Comp.run_bind h; replace hx_ := Comp.run_pure hx_; rw [hx_] at q3; clear hx_
  refine li_nil (nx_then (wp_block ?_))
  obtain ⟨e2, he2, hk2⟩ := Comp.run_bind h; clear h
  refine loop_m (fun m a w => ∃ (O3 : Tags) (x2 : Int), a.fit 21 ∧ Base (Fr w0) O w0 O3 w ∧ a.get 0 = v_0 ∧ (rSl (rInt .i64)).v O3 w v_0 x_0 ∧ a.get 3 = .int .i64 x2 ∧ Comp.loopN (fun s => slices_IsSorted_int_int_l2 x_0 s) n m x2 = some e2) (m := n) ?st2 ?_
  case st2 =>
   exact ⟨_, _, hA, hB, q0, h_0, q3, Comp.run_loop he2⟩
  intro m_ a3 w3 hI
  clear hA hB he2 q0 q3 h_0
  obtain ⟨O3, x2, hA, hB, q0, h_0, q3, hl⟩ := hI
  obtain ⟨m2, hlt2, st2, h, hnext2, hdone2⟩ := Comp.loopN_succ hl; clear hl
  replace h : (slices_IsSorted_int_int_l2 x_0 x2).run n = some st2 := h
  unfold slices_IsSorted_int_int_l2 at h
  refine wp_seq (wp_seq ?_)
  refine' region [_, _] mixed hA (.cons (fun _ _ hE hK hg => ok_move (kn (hK 3 rfl) rfl q3)) (.cons (fun _ _ hE hK hg => ok_gtr (ksv (j := 0) (hK 7 rfl) rfl rfl rfl) rfl) .nil)) ?zok3 ?zgd3 ?zk3
  case zok3 | zgd3 => kernel_rfl
  intro a4 w4 hA hE HF
  replace q0 := kn (HF 0) rfl q0
  replace q3 := kn (HF 3) rfl q3
  have q8 := ksv (HF 8) rfl rfl rfl
  clear HF
  replace h_0 := GR.v_ext _ h_0 hE
  replace hB := Base.step hB hE hO; clear hE
  refine li_nil (nx_then ?_)
  refine wp_cond_b q8 (fun hc => ?_) (fun hc => ?_)
  ·
   replace h := Comp.run_b_t hc h; clear hc
   refine wp_skip (nx_then (wp_seq (wp_block (wp_seq ?_))))
   obtain ⟨x4, hx4, h⟩ := Comp.run_bind h
   obtain ⟨x5, hx5, h⟩ := Comp.run_bind h
   obtain ⟨x6, hx6, h⟩ := Comp.run_bind h
   refine' region [_, _, SP.ptr (rInt .i64) O3 x4, SP.isv (.int .i64 x4), _, _, _, SP.ptr (rInt .i64) O3 x5, SP.isv (.int .i64 x5), SP.isv (.bool x6)] mixed hA (.cons (fun _ _ hE hK hg => ok_move (kn (hK 0 rfl) rfl q0)) (.cons (fun _ _ hE hK hg => ok_move (kn (hK 3 rfl) rfl q3)) (.cons (fun _ _ hE hK hg => okl_idx (r := (rInt .i64)) (O := O3) ty23 ty3 rfl (ksv (j := 0) (hK 11 rfl) rfl rfl rfl) (rd_of (GR.v_ext _ h_0 hE)) (ksv (j := 1) (hK 12 rfl) rfl rfl rfl) hx4) (.cons (fun _ _ hE hK hg => okl_ldr (rInt .i64) (fun _ => rfl) ty3 rfl rfl rfl (kspS (φ := SP.ptr (rInt .i64) O3 x4) (j := 2) (hK 13 rfl) rfl rfl rfl) (fun _ _ _ h => rInt_v.1 h)) (.cons (fun _ _ hE hK hg => ok_move (kn (hK 0 rfl) rfl q0)) (.cons (fun _ _ hE hK hg => ok_move (kn (hK 3 rfl) rfl q3)) (.cons (fun _ _ hE hK hg => ok_sub (ksv (j := 5) (hK 16 rfl) rfl rfl rfl) rfl) (.cons (fun _ _ hE hK hg => okl_idx (r := (rInt .i64)) (O := O3) ty23 ty3 rfl (ksv (j := 4) (hK 15 rfl) rfl rfl rfl) (rd_of (GR.v_ext _ h_0 hE)) (ksv (j := 6) (hK 17 rfl) rfl rfl rfl) hx5) (.cons (fun _ _ hE hK hg => okl_ldr (rInt .i64) (fun _ => rfl) ty3 rfl rfl rfl (kspS (φ := SP.ptr (rInt .i64) O3 x5) (j := 7) (hK 18 rfl) rfl rfl rfl) (fun _ _ _ h => rInt_v.1 h)) (.cons ?z4_9 .nil)))))))))) ?zok4 ?zgd4 ?zk4
   case z4_9 => intro a' w' hE hK hg; have c_ := ok_cmp_Less_int (OkO.ext hB.ok hE)  hx6; exact ok_call2 fn83 (ksv (j := 3) (hK 14 rfl) rfl rfl rfl) (ksv (j := 8) (hK 19 rfl) rfl rfl rfl) c_
   case zok4 | zgd4 => kernel_rfl
   intro a5 w5 hA hE HF
   replace q0 := kn (HF 0) rfl q0
   replace q3 := kn (HF 3) rfl q3
   have q20 := ksv (HF 20) rfl rfl rfl
   clear q8
   clear HF
   replace h_0 := GR.v_ext _ h_0 hE
   replace hB := Base.step hB hE hO; clear hE
   refine li_nil (nx_then ?_)
   refine wp_cond_b q20 (fun hc => ?_) (fun hc => ?_)
   ·
    replace h := Comp.run_b_t hc h; clear hc
    refine wp_seq ?_
    refine' region [_] mixed hA (.cons (fun _ _ hE hK hg => ok_assign rfl) .nil) ?zok5 ?zgd5 ?zk5
    case zok5 | zgd5 => kernel_rfl
    intro a6 w6 hA hE HF
    have q2 := ksv (HF 2) rfl rfl rfl
    clear q0
    clear q3
    clear q20
    clear HF
    replace h_0 := GR.v_ext _ h_0 hE
    replace hB := Base.step hB hE hO; clear hE
    refine li_nil (nx_then (wp_ret (rt_blk (rt_then (rt_then (rt_blk (rt_then ?_)))))))
    have hd_ := hdone2 _ (Comp.run_pure h).symm; clear h
    subst hd_; have h := hk2; clear hk2; try dsimp only at h
    have h := Comp.run_pure h; subst h
    exact retPure Try.results75 hA q2 hB.ext rfl
   ·
    replace h := Comp.run_b_f hc h; clear hc
    refine wp_skip (nx_blk (nx_then ?_))
    refine' region [_, _, _] mixed hA (.cons (fun _ _ hE hK hg => ok_move (kn (hK 3 rfl) rfl q3)) (.cons (fun _ _ hE hK hg => ok_sub (ksv (j := 0) (hK 9 rfl) rfl rfl rfl) rfl) (.cons (fun _ _ hE hK hg => ok_assign (ksv (j := 1) (hK 10 rfl) rfl rfl rfl)) .nil))) ?zok6 ?zgd6 ?zk6
    case zok6 | zgd6 => kernel_rfl
    intro a7 w7 hA hE HF
    replace q0 := kn (HF 0) rfl q0
    have q3' := ksv (HF 3) rfl rfl rfl
    replace q3 := q3'; clear q3'
    clear q20
    clear HF
    replace h_0 := GR.v_ext _ h_0 hE
    replace hB := Base.step hB hE hO; clear hE
    refine li_nil (nx_then ?_)
    have h := hnext2 _ (Comp.run_pure h).symm
    refine ⟨m2, hlt2, ?_⟩
    exact ⟨_, _, hA, hB, q0, h_0, q3, h⟩
  ·
   replace h := Comp.run_b_f hc h; clear hc
   refine wp_exit (ex_then (ex_then (ex_same ?_)))
   have hd_ := hdone2 _ (Comp.run_pure h).symm; clear h
   subst hd_; have h := hk2; clear hk2; try dsimp only at h
   refine nx_then ?_
   exact ⟨_, hA, hB, h⟩
 intro a8 w8 hI
 clear hA hB h q0 h_0
 obtain ⟨O8, hA, hB, h⟩ := hI
 unfold slices_IsSorted_int_int_j1 at h
 refine wp_seq ?_
 refine' region [_] mixed hA (.cons (fun _ _ hE hK hg => ok_assign rfl) .nil) ?zok7 ?zgd7 ?zk7
 case zok7 | zgd7 => kernel_rfl
 intro a9 w9 hA hE HF
 have q2 := ksv (HF 2) rfl rfl rfl
 clear HF
 replace hB := Base.step hB hE hO; clear hE
 refine li_nil (nx_then (wp_ret ?_))
 have h := Comp.run_pure h; subst h
 exact retPure Try.results75 hA q2 hB.ext rfl
theorem ok_slices_Clone_int_int {O : Tags} {w0 : World} (hO : OkO O w0) {v_0 : Value} {x_0 : List Int} (h_0 : (rSl (rInt .i64)).v O w0 v_0 x_0) {n : Nat} {y : (List Int)} (h : (slices_Clone_int_int x_0).run n = some y) : Pure Try.prog 77 #[v_0] w0 (SP.ownr (rInt .i64) 3 (w0.heap.size) O y).holds := by
 unfold slices_Clone_int_int at h
 refine pure_of_wp Try.func77 rfl 8 Try.ntmps77 (by simp) fun a0 hA hs0 => ?_
 have q0 : a0.get 0 = v_0 := hs0 0 _ rfl
 clear hs0
 have hB : Base (Fr w0) O w0 O w0 := Base.start hO
 refine wp_seq ?_
 refine' region [_] mixed hA (.cons (fun _ _ hE hK hg => ok_assign rfl) .nil) ?zok1 ?zgd1 ?zk1
 case zok1 | zgd1 => kernel_rfl
 intro a1 w1 hA hE HF
 replace q0 := kn (HF 0) rfl q0
 clear HF
 replace h_0 := GR.v_ext _ h_0 hE
 replace hB := Base.step hB hE hO; clear hE
 refine li_nil (nx_then (wp_seq (wp_seq ?_)))
 refine' region [_, _] mixed hA (.cons (fun _ _ hE hK hg => ok_move (kn (hK 0 rfl) rfl q0)) (.cons (fun _ _ hE hK hg => okl_eqlNil ty23 (ksv (j := 0) (hK 3 rfl) rfl rfl rfl) (rd_of (GR.v_ext _ h_0 hE))) .nil)) ?zok2 ?zgd2 ?zk2
 case zok2 | zgd2 => kernel_rfl
 intro a2 w2 hA hE HF
 replace q0 := kn (HF 0) rfl q0
 have q4 := ksv (HF 4) rfl rfl rfl
 clear HF
 replace h_0 := GR.v_ext _ h_0 hE
 replace hB := Base.step hB hE hO; clear hE
 refine li_nil (nx_then ?_)
 refine wp_cond_b q4 (fun hc => ?_) (fun hc => ?_)
 ·
  have hnil := isNil_nil hc (rd_of h_0); subst hnil; replace h := clone_nil h
  refine wp_seq ?_
  refine' region [_] mixed hA (.cons (fun _ _ hE hK hg => ok_assign rfl) .nil) ?zok3 ?zgd3 ?zk3
  case zok3 | zgd3 => kernel_rfl
  intro a3 w3 hA hE HF
  have q2 := ksv (HF 2) rfl rfl rfl
  clear q0
  clear q4
  clear HF
  replace h_0 := GR.v_ext _ h_0 hE
  replace hB := Base.step hB hE hO; clear hE
  refine li_nil (nx_then (wp_ret (rt_then ?_)))
  have h := Comp.run_pure h; subst h
  exact retPure Try.results77 hA q2 hB.ext (OwnR.nil _ _ _ _ _)
 ·
  clear hc
  refine wp_skip (nx_then (wp_seq ?_))
  refine' regionT [] hA .nil ?zok4 ?zgd4 ?zk4
  case zok4 | zgd4 => kernel_rfl
  intro a4 w4 hA hE HF
  replace q0 := kn (HF 0) rfl q0
  clear q4
  clear HF
  replace h_0 := GR.v_ext _ h_0 hE
  replace hB := Base.step hB hE hO; clear hE
  refine l_ok (φ := SP.ownr (rInt .i64) 3 w4.heap.size O []) hO hB (by exact okl_buildSlice (r := (rInt .i64)) (fun _ => rfl) rfl hB.ok ty23 ty3 (Nat.le_refl _) parts_nil trivial rfl (by decide)) rfl fun u1 w5 hE hB' f2 => ?_
  clear hB'; obtain ⟨O3, hB', hX, f4⟩ := ownNew hO hB hE f2 rfl 1 (by decide)
  clear hB f2; have hB := hB'; clear hB'
  replace h_0 := GR.kx _ h_0 hX (by decide)
  clear hX hE
  refine put_cont hA (by decide) fun a6 hA q_ hfr => ?_
  replace q0 := (hfr 0 rfl).trans q0
  have q5 := q_; clear q_ hfr
  refine l_ok (φ := SP.isv (v_0)) hO hB (by exact ok_move q0) rfl fun u_ w7 hE hB' hv_ => ?_
  replace hv_ := Eq.symm hv_; subst hv_; clear hB; have hB := hB'; clear hB'
  replace h_0 := GR.v_ext _ h_0 hE
  replace f4 := f4.ext hE
  clear hE
  refine put_cont hA (by decide) fun a8 hA q_ hfr => ?_
  replace q0 := (hfr 0 rfl).trans q0
  replace q5 := (hfr 5 rfl).trans q5
  have q6 := q_; clear q_ hfr
  obtain ⟨x5, hx5, h⟩ := Comp.run_bind h
  refine l_append (r := (rInt .i64)) (fun _ => rfl) rfl ty23 ty3 rfl (by decide) hO hB (okB_fr hB) q5 f4 q6 (rd_of h_0) hx5 (by decide) fun u6 w9 O7 f8 hB' hX => ?_
  clear hB; have hB := hB'; clear hB'
  clear f4
  replace h_0 := GR.kx _ h_0 hX (by decide)
  clear hX
  refine put_cont hA (by decide) fun a10 hA q_ hfr => ?_
  replace q5 := (hfr 5 rfl).trans q5
  replace q6 := (hfr 6 rfl).trans q6
  have q7 := q_; clear q_ hfr
  refine l_ok (φ := SP.isv (u6)) hO hB (by exact ok_assign q7) rfl fun u_ w11 hE hB' hv_ => ?_
  replace hv_ := Eq.symm hv_; subst hv_; clear hB; have hB := hB'; clear hB'
  replace f8 := f8.ext hE
  clear hE
  refine put_cont hA (by decide) fun a12 hA q_ hfr => ?_
  replace q7 := (hfr 7 rfl).trans q7
  have q2 := q_; clear q_ hfr
  refine li_nil (nx_then (wp_ret ?_))
  have h := Comp.run_pure h; subst h
  exact retPure Try.results77 hA q2 hB.ext (OwnL.res f8 (by decide) hB.zero)
theorem ok_court_sorted {O : Tags} {w0 : World} (hO : OkO O w0) {v_0 : Value} {x_0 : List Int} (h_0 : (rSl (rInt .i64)).v O w0 v_0 x_0) {n : Nat} {y : Bool} (h : (court_sorted x_0).run n = some y) : Pure Try.prog 58 #[v_0] w0 (SP.isv (.bool y)).holds := by
 unfold court_sorted at h
 refine pure_of_wp Try.func58 rfl 14 Try.ntmps58 (by simp) fun a0 hA hs0 => ?_
 have q0 : a0.get 0 = v_0 := hs0 0 _ rfl
 clear hs0
 have hB : Base (Fr w0) O w0 O w0 := Base.start hO
 refine wp_seq ?_
 refine' region [_] mixed hA (.cons (fun _ _ hE hK hg => ok_assign rfl) .nil) ?zok1 ?zgd1 ?zk1
 case zok1 | zgd1 => kernel_rfl
 intro a1 w1 hA hE HF
 replace q0 := kn (HF 0) rfl q0
 clear HF
 replace h_0 := GR.v_ext _ h_0 hE
 replace hB := Base.step hB hE hO; clear hE
 refine li_nil (nx_then (wp_seq ?_))
 obtain ⟨x1, hx1, h⟩ := Comp.run_bind h
 obtain ⟨x2, hx2, h⟩ := Comp.run_bind h
 obtain ⟨x3, hx3, h⟩ := Comp.run_bind h
 obtain ⟨J_, eJ_⟩ : ∃ J_ : (Nat → Bool) → Act → World → Prop, J_ = (fun S_ a_ w_ => ∃ O_ : Tags, Base (Fr w0) O w0 O_ w_ ∧ Keep 0 O w1 O_ w_ ∧ (S_ 5 = true → (x1 == true) = true → (rSl (rInt .i64)).v O_ w_ (a_.get 8) x3) ∧ (S_ 4 = true → (x1 == true) = true → S_ 5 = false → OwnL 1 (rInt .i64) 3 (Fr w0) O_ w_ (a_.get 7) x2) ∧ (S_ 5 = true → (x1 == true) = true → OwnL 1 (rInt .i64) 3 (Fr w0) O_ w_ (.slice none 0 0) [])) := ⟨_, rfl⟩
 have T_ : ∀ {i_ : Nat} {d_ : Option Tmp} {v_ : Value} {S_ a' w' w2}, Nat.beq 4 i_ = false → Nat.beq 5 i_ = false → d_ ≠ some 7 → d_ ≠ some 8 → Ext w' w2 → J_ S_ a' w' → J_ (addS S_ i_) (a'.put d_ v_) w2 := by
  subst eJ_; intro i_ d_ v_ S_ a' w' w2 n4_ n5_ s7_ s8_ hE hJ_
  obtain ⟨O_, hB_, k0_, m5_, v0_0_, v0_1_⟩ := hJ_
  exact ⟨O_, (Base.step hB_ hE hO), (k0_.trans (KX.keep (KX.ext hE) (by decide))), fun h_ hG_ => put_other (d := d_) (t := 8) (φ := fun u_ => (rSl (rInt .i64)).v O_ w2 u_ x3) ((GR.v_mono _ (m5_ (addS_off n5_ h_) hG_) (KX.keep (KX.ext hE) (by decide)))) s8_, fun hp_ hG_ hq_ => put_other (d := d_) (t := 7) (φ := fun u_ => OwnL 1 (rInt .i64) 3 (Fr w0) O_ w2 (u_) x2) (OwnL.kx (v0_0_ (addS_off n4_ hp_) hG_ (addS_no hq_)) (KX.ext hE) (by decide) (by decide)) s7_, fun hp_ hG_ => OwnL.kx (v0_1_ (addS_off n5_ hp_) hG_) (KX.ext hE) (by decide) (by decide)⟩
 refine' regionX (draw := false) J_ [SP.isv (v_0), SP.isv (.bool x1), SP.isv (.bool x1), SP.isv (v_0), SP.tt, SP.tt, SP.isv (.int .i64 (x3.length : Int)), SP.isv (v_0), SP.isv (.int .i64 (x_0.length : Int)), SP.isv (.bool (decide ((x3.length : Int) = (x_0.length : Int)))), SP.isv (.bool (bif x1 then (decide ((x3.length : Int) = (x_0.length : Int))) else false)), SP.isv (.bool (bif x1 then (decide ((x3.length : Int) = (x_0.length : Int))) else false))] mixed hA (.cons (stE_isv _) (.cons (stE_isv _) (.cons (stE_isv _) (.cons (stE_isv _) (.cons (stE_tt _) (.cons (stE_tt _) (.cons (stE_isv _) (.cons (stE_isv _) (.cons (stE_isv _) (.cons (stE_isv _) (.cons (stE_isv _) (.cons (stE_isv _) .nil)))))))))))) (.cons ?z2_0 (.cons ?z2_1 (.cons ?z2_2 (.cons ?z2_3 (.cons ?z2_4 (.cons ?z2_5 (.cons ?z2_6 (.cons ?z2_7 (.cons ?z2_8 (.cons ?z2_9 (.cons ?z2_10 (.cons ?z2_11 .nil)))))))))))) ?zsk2 ?zst2 ?zok2 ?zgd2 ?zk2
 case z2_0 =>
  intro S_ a' w' hA_ hJ_ hS_ hafter_ hbef_ hK hg K_ Q_ hK_
  refine x_ok (φ := SP.isv (v_0)) (by exact ok_move (kn (hK 0 rfl) rfl q0)) fun v_ w2 hE hv_ => hK_ v_ w2 (T_ rfl rfl (by decide) (by decide) hE hJ_) hv_
 case z2_1 =>
  intro S_ a' w' hA_ hJ_ hS_ hafter_ hbef_ hK hg K_ Q_ hK_
  have hJ2_ := hJ_; rw [eJ_] at hJ2_; obtain ⟨O_, hB_, k0_, m5_, v0_0_, v0_1_⟩ := hJ2_
  refine x_ok (φ := SP.isv (.bool x1)) (by have c_ := ok_slices_IsSorted_int_int hB_.ok (GR.v_mono _ h_0 k0_) hx1; exact ok_call1 fn75 (ksv (j := 0) (hK 3 rfl) rfl rfl rfl) c_) fun v_ w2 hE hv_ => hK_ v_ w2 (T_ rfl rfl (by decide) (by decide) hE hJ_) hv_
 case z2_2 =>
  intro S_ a' w' hA_ hJ_ hS_ hafter_ hbef_ hK hg K_ Q_ hK_
  refine x_ok (φ := SP.isv (.bool x1)) (by exact ok_move (ksv (j := 1) (hK 4 rfl) rfl rfl rfl)) fun v_ w2 hE hv_ => hK_ v_ w2 (T_ rfl rfl (by decide) (by decide) hE hJ_) hv_
 case z2_3 =>
  intro S_ a' w' hA_ hJ_ hS_ hafter_ hbef_ hK hg K_ Q_ hK_
  refine x_ok (φ := SP.isv (v_0)) (by exact ok_move (kn (hK 0 rfl) rfl q0)) fun v_ w2 hE hv_ => hK_ v_ w2 (T_ rfl rfl (by decide) (by decide) hE hJ_) hv_
 case z2_4 =>
  intro S_ a' w' hA_ hJ_ hS_ hafter_ hbef_ hK hg K_ Q_ hK_
  subst eJ_
  obtain ⟨O_, hB_, k0_, m5_, v0_0_, v0_1_⟩ := hJ_
  refine x_ok (φ := SP.ownr (rInt .i64) 3 w'.heap.size O_ x2) (by have c_ := ok_slices_Clone_int_int hB_.ok (GR.v_mono _ h_0 k0_) (run_gdb hx2 hg); exact ok_weak (ok_call1 fn77 (ksv (j := 3) (hK 6 rfl) rfl rfl hg) c_) (fun _ _ _ h => h)) fun v_ w2 hE hv_ => ?_
  obtain ⟨O2_, hB2_, hX_, f_⟩ := ownNew hO hB_ hE hv_ rfl 1 (by decide)
  exact hK_ v_ w2 ⟨O2_, hB2_, (k0_.trans (KX.keep hX_ (by decide))), fun h_ hG_ => put_other (d := some 7) (t := 8) (φ := fun u_ => (rSl (rInt .i64)).v O2_ w2 u_ x3) ((GR.v_mono _ (m5_ (addS_off rfl h_) hG_) (KX.keep hX_ (by decide)))) (by decide), fun hp_ hG_ hq_ => put_me (φ := fun u_ => OwnL 1 (rInt .i64) 3 (Fr w0) O2_ w2 (u_) x2) hA_ (by decide) f_, fun hp_ hG_ => no_tf (addS_off rfl hp_) (hafter_ 5 (by kernel_rfl))⟩ trivial
 case z2_5 =>
  intro S_ a' w' hA_ hJ_ hS_ hafter_ hbef_ hK hg K_ Q_ hK_
  subst eJ_
  obtain ⟨O_, hB_, k0_, m5_, v0_0_, v0_1_⟩ := hJ_
  refine x_io (r := (rInt .i64)) (E := 3) (k := 1) hO hB_ (okB_fr hB_) fn76 (map1 rfl) (m_compact Try.slices_Compact_int Try.slices_Compact_int_empty hB_.ok (OwnL.arg (v0_0_ (addS_off rfl (hbef_ 4 (by kernel_rfl))) hg hS_) (by decide)) (run_gdb hx3 hg)) (v0_0_ (addS_off rfl (hbef_ 4 (by kernel_rfl))) hg hS_) (by decide) fun v_ u_ w2 O2_ f_ hB2_ hX_ hps_ => ?_
  replace hps_ : v_ = u_ := hps_; subst hps_
  obtain ⟨O3_, hB3_, hX3_, f3_⟩ := freezeL hO hB2_ f_ (by decide)
  have hX4_ := KX.trans_same hX_ hX3_
  exact hK_ v_ w2 ⟨O3_, hB3_, (k0_.trans (KX.keep hX4_ (by decide))), fun _ hG_ => put_me (φ := fun u_ => (rSl (rInt .i64)).v O3_ w2 u_ x3) hA_ (by decide) f3_, fun hp_ hG_ hq_ => addS_me hq_, fun hp_ hG_ => (OwnL.nil _ _ _ _ _ _)⟩ trivial
 case z2_6 =>
  intro S_ a' w' hA_ hJ_ hS_ hafter_ hbef_ hK hg K_ Q_ hK_
  have hJ2_ := hJ_; rw [eJ_] at hJ2_; obtain ⟨O_, hB_, k0_, m5_, v0_0_, v0_1_⟩ := hJ2_
  refine x_ok (φ := SP.isv (.int .i64 (x3.length : Int))) (by exact okl_len (r := (rInt .i64)) ty23 rfl (rd_of (m5_ (addS_off rfl (hbef_ 5 (by kernel_rfl))) hg))) fun v_ w2 hE hv_ => hK_ v_ w2 (T_ rfl rfl (by decide) (by decide) hE hJ_) hv_
 case z2_7 =>
  intro S_ a' w' hA_ hJ_ hS_ hafter_ hbef_ hK hg K_ Q_ hK_
  refine x_ok (φ := SP.isv (v_0)) (by exact ok_move (kn (hK 0 rfl) rfl q0)) fun v_ w2 hE hv_ => hK_ v_ w2 (T_ rfl rfl (by decide) (by decide) hE hJ_) hv_
 case z2_8 =>
  intro S_ a' w' hA_ hJ_ hS_ hafter_ hbef_ hK hg K_ Q_ hK_
  have hJ2_ := hJ_; rw [eJ_] at hJ2_; obtain ⟨O_, hB_, k0_, m5_, v0_0_, v0_1_⟩ := hJ2_
  refine x_ok (φ := SP.isv (.int .i64 (x_0.length : Int))) (by exact okl_len (r := (rInt .i64)) ty23 (ksv (j := 7) (hK 10 rfl) rfl rfl hg) (rd_of (GR.v_mono _ h_0 k0_))) fun v_ w2 hE hv_ => hK_ v_ w2 (T_ rfl rfl (by decide) (by decide) hE hJ_) hv_
 case z2_9 =>
  intro S_ a' w' hA_ hJ_ hS_ hafter_ hbef_ hK hg K_ Q_ hK_
  refine x_ok (φ := SP.isv (.bool (decide ((x3.length : Int) = (x_0.length : Int))))) (by exact ok_eqlI (ksv (j := 6) (hK 9 rfl) rfl rfl hg) (ksv (j := 8) (hK 11 rfl) rfl rfl hg)) fun v_ w2 hE hv_ => hK_ v_ w2 (T_ rfl rfl (by decide) (by decide) hE hJ_) hv_
 case z2_10 =>
  intro S_ a' w' hA_ hJ_ hS_ hafter_ hbef_ hK hg K_ Q_ hK_
  refine x_ok (φ := SP.isv (.bool (bif x1 then (decide ((x3.length : Int) = (x_0.length : Int))) else false))) (by exact ok_pick (ksv (j := 2) (hK 5 rfl) rfl rfl rfl) (fun hb => ksv (j := 9) (hK 12 rfl) rfl rfl (act_g1 rfl rfl hb)) (fun _ => rfl)) fun v_ w2 hE hv_ => hK_ v_ w2 (T_ rfl rfl (by decide) (by decide) hE hJ_) hv_
 case z2_11 =>
  intro S_ a' w' hA_ hJ_ hS_ hafter_ hbef_ hK hg K_ Q_ hK_
  refine x_ok (φ := SP.isv (.bool (bif x1 then (decide ((x3.length : Int) = (x_0.length : Int))) else false))) (by exact ok_assign (ksv (j := 10) (hK 13 rfl) rfl rfl rfl)) fun v_ w2 hE hv_ => hK_ v_ w2 (T_ rfl rfl (by decide) (by decide) hE hJ_) hv_
 case zsk2 =>
  subst eJ_
  intro i_ o_ S_ a_ w_ ho_ hact_ hA_ hS_ hbef_ hJ_
  obtain ⟨O_, hB_, k0_, m5_, v0_0_, v0_1_⟩ := hJ_
  exact ⟨O_, hB_, k0_, fun h_ hG_ => by obtain ⟨h1_, h2_⟩ := skip_off (j := 5) hact_ hG_ h_; exact put_other (t := 8) (φ := fun u_ => (rSl (rInt .i64)).v O_ w_ u_ x3) (m5_ h1_ hG_) (uniqDst_ne (j := 5) (by kernel_rfl) ho_ h2_), fun hp_ hG_ hq_ => by obtain ⟨h1_, h2_⟩ := skip_off (j := 4) hact_ hG_ hp_; exact put_other (t := 7) (φ := fun u_ => OwnL 1 (rInt .i64) 3 (Fr w0) O_ w_ (u_) x2) (v0_0_ h1_ hG_ (addS_no hq_)) (uniqDst_ne (j := 4) (by kernel_rfl) ho_ h2_), fun hp_ hG_ => by obtain ⟨h1_, h2_⟩ := skip_off (j := 5) hact_ hG_ hp_; exact (v0_1_ h1_ hG_)⟩
 case zst2 => subst eJ_; exact fun w1_ hE_ => ⟨O, (Base.step hB hE_ hO), (Keep.ext hE_), fun h_ => no_ft h_, fun hp_ => no_ft hp_, fun hp_ => no_ft hp_⟩
 case zok2 | zgd2 => kernel_rfl
 subst eJ_; clear T_
 intro a2 w2 hA HF hJ_
 obtain ⟨O4, hB_, k0_, m5_, v0_0_, v0_1_⟩ := hJ_
 have q2' := ksv (j := 11) (HF 2) rfl rfl rfl
 have q2 := q2'; clear q2'
 clear q0
 clear HF
 replace h_0 := GR.v_mono _ h_0 k0_
 clear hB; have hB := hB_; clear hB_
 clear k0_ m5_ v0_0_ v0_1_
 obtain ⟨x5, hx_, h⟩ := Comp.run_bind h; replace hx_ := Comp.run_pure hx_; rw [hx_] at q2; clear hx_
 refine nx_then (wp_ret ?_)
 have h := Comp.run_pure h; subst h
 exact retPure Try.results58 hA q2 hB.ext rfl
theorem ok_court_outside_f1 {O : Tags} {w0 : World} (hO : OkO O w0) {x_0 : Int} {v_1 : Value} {x_1 : Int} (h_1 : (rBox (rInt .i64)).v O w0 v_1 x_1) {n : Nat} {y : Bool} (h : (court_outside_f1 x_0 x_1).run n = some y) : Pure Try.prog 78 #[.int .i64 x_0, v_1] w0 (SP.isv (.bool y)).holds := by
 unfold court_outside_f1 at h
 refine pure_of_wp Try.func78 rfl 11 Try.ntmps78 (by simp) fun a0 hA hs0 => ?_
 have q0 : a0.get 0 = .int .i64 x_0 := hs0 0 _ rfl
 have q1 : a0.get 1 = v_1 := hs0 1 _ rfl
 clear hs0
 have hB : Base (Fr w0) O w0 O w0 := Base.start hO
 refine wp_seq ?_
 refine' region [_] mixed hA (.cons (fun _ _ hE hK hg => ok_assign rfl) .nil) ?zok1 ?zgd1 ?zk1
 case zok1 | zgd1 => kernel_rfl
 intro a1 w1 hA hE HF
 replace q0 := kn (HF 0) rfl q0
 replace q1 := kn (HF 1) rfl q1
 clear HF
 replace h_1 := GR.v_ext _ h_1 hE
 replace hB := Base.step hB hE hO; clear hE
 refine li_nil (nx_then (wp_seq ?_))
 refine' region [_, _, _, _, SP.isv (.int .i64 x_1), _, _, _] mixed hA (.cons (fun _ _ hE hK hg => ok_move (kn (hK 0 rfl) rfl q0)) (.cons (fun _ _ hE hK hg => ok_lss (ksv (j := 0) (hK 4 rfl) rfl rfl rfl) rfl) (.cons (fun _ _ hE hK hg => ok_move (ksv (j := 1) (hK 5 rfl) rfl rfl rfl)) (.cons (fun _ _ hE hK hg => ok_move (kn (hK 0 rfl) rfl q0)) (.cons (fun _ _ hE hK hg => okl_ldr (rInt .i64) (fun _ => rfl) ty3 rfl rfl (kn (hK 1 rfl) rfl q1) (ptr_of_box (fun _ => rfl) (GR.v_ext _ h_1 hE)) (fun _ _ _ h => rInt_v.1 h)) (.cons ?z2_5 (.cons ?z2_6 (.cons (fun _ _ hE hK hg => ok_assign (ksv (j := 6) (hK 10 rfl) rfl rfl rfl)) .nil)))))))) ?zok2 ?zgd2 ?zk2
 case z2_5 => intro a' w' hE hK hg; exact ok_geq (ksv (j := 3) (hK 7 rfl) rfl rfl hg) (ksv (j := 4) (hK 8 rfl) rfl rfl hg)
 case z2_6 => intro a' w' hE hK hg; exact ok_pick (ksv (j := 2) (hK 6 rfl) rfl rfl rfl) (fun _ => rfl) (fun hb => ksv (j := 5) (hK 9 rfl) rfl rfl (act_g1 rfl rfl hb))
 case zok2 | zgd2 => kernel_rfl
 intro a2 w2 hA hE HF
 have q3 := ksv (HF 3) rfl rfl rfl
 clear q0
 clear q1
 clear HF
 replace h_1 := GR.v_ext _ h_1 hE
 replace hB := Base.step hB hE hO; clear hE
 obtain ⟨x1, hx_, h⟩ := Comp.run_bind h; replace hx_ := Comp.run_pure hx_; rw [hx_] at q3; clear hx_
 refine li_nil (nx_then (wp_ret ?_))
 have h := Comp.run_pure h; subst h
 exact retPure Try.results78 hA q3 hB.ext rfl
theorem ok_slices_IndexFunc_int_int {O : Tags} {w0 : World} (hO : OkO O w0) {v_0 : Value} {x_0 : List Int} (h_0 : (rSl (rInt .i64)).v O w0 v_0 x_0) {v_1 : Value} {x_1 : Int → Comp Bool} (h_1 : (rF1 Try.prog (rInt .i64) (RS.c (fun x => .bool x))).v O w0 v_1 x_1) {n : Nat} {y : Int} (h : (slices_IndexFunc_int_int x_0 x_1).run n = some y) : Pure Try.prog 67 #[v_0, v_1] w0 (SP.isv (.int .i64 y)).holds := by
 unfold slices_IndexFunc_int_int at h
 refine pure_of_wp Try.func67 rfl 19 Try.ntmps67 (by simp) fun a0 hA hs0 => ?_
 have q0 : a0.get 0 = v_0 := hs0 0 _ rfl
 have q1 : a0.get 1 = v_1 := hs0 1 _ rfl
 clear hs0
 have hB : Base (Fr w0) O w0 O w0 := Base.start hO
 refine wp_seq ?_
 refine' region [_] mixed hA (.cons (fun _ _ hE hK hg => ok_assign rfl) .nil) ?zok1 ?zgd1 ?zk1
 case zok1 | zgd1 => kernel_rfl
 intro a1 w1 hA hE HF
 replace q0 := kn (HF 0) rfl q0
 replace q1 := kn (HF 1) rfl q1
 clear HF
 replace h_0 := GR.v_ext _ h_0 hE
 replace h_1 := GR.v_ext _ h_1 hE
 replace hB := Base.step hB hE hO; clear hE
 refine li_nil (nx_then ?_)
 refine seq_join (fun a w => ∃ (O6 : Tags), a.fit 19 ∧ Base (Fr w0) O w0 O6 w ∧ (slices_IndexFunc_int_int_j1 ).run n = some y) ?_ ?_
 ·
  refine wp_seq ?_
  refine' region [_, _, _] mixed hA (.cons (fun _ _ hE hK hg => ok_move (kn (hK 0 rfl) rfl q0)) (.cons (fun _ _ hE hK hg => okl_len (r := (rInt .i64)) ty23 (ksv (j := 0) (hK 6 rfl) rfl rfl rfl) (rd_of (GR.v_ext _ h_0 hE))) (.cons (fun _ _ hE hK hg => ok_move rfl) .nil))) ?zok2 ?zgd2 ?zk2
  case zok2 | zgd2 => kernel_rfl
  intro a2 w2 hA hE HF
  replace q0 := kn (HF 0) rfl q0
  replace q1 := kn (HF 1) rfl q1
  have q7 := ksv (HF 7) rfl rfl rfl
  have q8 := ksv (HF 8) rfl rfl rfl
  clear HF
  replace h_0 := GR.v_ext _ h_0 hE
  replace h_1 := GR.v_ext _ h_1 hE
  replace hB := Base.step hB hE hO; clear hE
  refine li_nil (nx_then (wp_block ?_))
  obtain ⟨e2, he2, hk2⟩ := Comp.run_bind h; clear h
  refine loop_m (fun m a w => ∃ (O2 : Tags) (x1 : Int), a.fit 19 ∧ Base (Fr w0) O w0 O2 w ∧ a.get 0 = v_0 ∧ (rSl (rInt .i64)).v O2 w v_0 x_0 ∧ a.get 1 = v_1 ∧ (rF1 Try.prog (rInt .i64) (RS.c (fun x => .bool x))).v O2 w v_1 x_1 ∧ a.get 7 = .int .i64 (x_0.length : Int) ∧ a.get 8 = .int .i64 x1 ∧ Comp.loopN (fun s => slices_IndexFunc_int_int_l2 x_0 x_1 s) n m x1 = some e2) (m := n) ?st2 ?_
  case st2 =>
   exact ⟨_, _, hA, hB, q0, h_0, q1, h_1, q7, q8, Comp.run_loop he2⟩
  intro m_ a3 w3 hI
  clear hA hB he2 q0 q1 q7 q8 h_0 h_1
  obtain ⟨O2, x1, hA, hB, q0, h_0, q1, h_1, q7, q8, hl⟩ := hI
  obtain ⟨m2, hlt2, st2, h, hnext2, hdone2⟩ := Comp.loopN_succ hl; clear hl
  replace h : (slices_IndexFunc_int_int_l2 x_0 x_1 x1).run n = some st2 := h
  unfold slices_IndexFunc_int_int_l2 at h
  refine wp_seq ?_
  refine' region [_] mixed hA (.cons (fun _ _ hE hK hg => ok_lss (kn (hK 8 rfl) rfl q8) (kn (hK 7 rfl) rfl q7)) .nil) ?zok3 ?zgd3 ?zk3
  case zok3 | zgd3 => kernel_rfl
  intro a4 w4 hA hE HF
  replace q0 := kn (HF 0) rfl q0
  replace q1 := kn (HF 1) rfl q1
  replace q7 := kn (HF 7) rfl q7
  replace q8 := kn (HF 8) rfl q8
  have q9 := ksv (HF 9) rfl rfl rfl
  clear HF
  replace h_0 := GR.v_ext _ h_0 hE
  replace h_1 := GR.v_ext _ h_1 hE
  replace hB := Base.step hB hE hO; clear hE
  refine li_nil (nx_then (wp_seq ?_))
  refine wp_cond_b q9 (fun hc => ?_) (fun hc => ?_)
  ·
   replace h := Comp.run_b_t hc h; clear hc
   refine wp_skip (nx_then (wp_seq (wp_block (wp_seq ?_))))
   refine' region [_, _] mixed hA (.cons (fun _ _ hE hK hg => ok_move (kn (hK 8 rfl) rfl q8)) (.cons (fun _ _ hE hK hg => ok_assign (ksv (j := 0) (hK 10 rfl) rfl rfl rfl)) .nil)) ?zok4 ?zgd4 ?zk4
   case zok4 | zgd4 => kernel_rfl
   intro a5 w5 hA hE HF
   replace q0 := kn (HF 0) rfl q0
   replace q1 := kn (HF 1) rfl q1
   have q5 := ksv (HF 5) rfl rfl rfl
   replace q7 := kn (HF 7) rfl q7
   replace q8 := kn (HF 8) rfl q8
   clear q9
   clear HF
   replace h_0 := GR.v_ext _ h_0 hE
   replace h_1 := GR.v_ext _ h_1 hE
   replace hB := Base.step hB hE hO; clear hE
   refine li_nil (nx_then (wp_seq ?_))
   obtain ⟨x3, hx3, h⟩ := Comp.run_bind h
   obtain ⟨x4, hx4, h⟩ := Comp.run_bind h
   refine' region [_, _, _, SP.ptr (rInt .i64) O2 x3, SP.isv (.int .i64 x3), SP.isv (.bool x4)] mixed hA (.cons (fun _ _ hE hK hg => ok_move (kn (hK 1 rfl) rfl q1)) (.cons (fun _ _ hE hK hg => ok_move (kn (hK 0 rfl) rfl q0)) (.cons (fun _ _ hE hK hg => ok_move (kn (hK 5 rfl) rfl q5)) (.cons (fun _ _ hE hK hg => okl_idx (r := (rInt .i64)) (O := O2) ty23 ty3 rfl (ksv (j := 1) (hK 12 rfl) rfl rfl rfl) (rd_of (GR.v_ext _ h_0 hE)) (ksv (j := 2) (hK 13 rfl) rfl rfl rfl) hx3) (.cons (fun _ _ hE hK hg => okl_ldr (rInt .i64) (fun _ => rfl) ty3 rfl rfl rfl (kspS (φ := SP.ptr (rInt .i64) O2 x3) (j := 3) (hK 14 rfl) rfl rfl rfl) (fun _ _ _ h => rInt_v.1 h)) (.cons (fun _ _ hE hK hg => okl_callv1 (R := (RS.c (fun x => .bool x))) (ksv (j := 0) (hK 11 rfl) rfl rfl rfl) (show ((rF1 Try.prog (rInt .i64) (RS.c (fun x => .bool x)))).v O2 _ _ _ from (GR.v_ext _ h_1 hE)) (OkO.ext hB.ok hE) (ksv (j := 4) (hK 15 rfl) rfl rfl rfl) (by exact rInt_v.2 rfl) hx4) .nil)))))) ?zok5 ?zgd5 ?zk5
   case zok5 | zgd5 => kernel_rfl
   intro a6 w6 hA hE HF
   replace q0 := kn (HF 0) rfl q0
   replace q1 := kn (HF 1) rfl q1
   replace q5 := kn (HF 5) rfl q5
   replace q7 := kn (HF 7) rfl q7
   replace q8 := kn (HF 8) rfl q8
   have q16 := ksv (HF 16) rfl rfl rfl
   clear HF
   replace h_0 := GR.v_ext _ h_0 hE
   replace h_1 := GR.v_ext _ h_1 hE
   replace hB := Base.step hB hE hO; clear hE
   refine li_nil (nx_then ?_)
   refine wp_cond_b q16 (fun hc => ?_) (fun hc => ?_)
   ·
    replace h := Comp.run_b_t hc h; clear hc
    refine wp_seq ?_
    refine' region [_, _] mixed hA (.cons (fun _ _ hE hK hg => ok_move (kn (hK 5 rfl) rfl q5)) (.cons (fun _ _ hE hK hg => ok_assign (ksv (j := 0) (hK 17 rfl) rfl rfl rfl)) .nil)) ?zok6 ?zgd6 ?zk6
    case zok6 | zgd6 => kernel_rfl
    intro a7 w7 hA hE HF
    have q4 := ksv (HF 4) rfl rfl rfl
    clear q0
    clear q1
    clear q5
    clear q7
    clear q8
    clear q16
    clear HF
    replace h_0 := GR.v_ext _ h_0 hE
    replace h_1 := GR.v_ext _ h_1 hE
    replace hB := Base.step hB hE hO; clear hE
    refine li_nil (nx_then (wp_ret (rt_blk (rt_then (rt_then (rt_blk (rt_then ?_)))))))
    have hd_ := hdone2 _ (Comp.run_pure h).symm; clear h
    subst hd_; have h := hk2; clear hk2; try dsimp only at h
    have h := Comp.run_pure h; subst h
    exact retPure Try.results67 hA q4 hB.ext rfl
   ·
    replace h := Comp.run_b_f hc h; clear hc
    refine wp_skip (nx_blk (nx_then ?_))
    refine' region [_, _] mixed hA (.cons (fun _ _ hE hK hg => ok_add (kn (hK 8 rfl) rfl q8) rfl) (.cons (fun _ _ hE hK hg => ok_move (ksv (j := 0) (hK 18 rfl) rfl rfl rfl)) .nil)) ?zok7 ?zgd7 ?zk7
    case zok7 | zgd7 => kernel_rfl
    intro a8 w8 hA hE HF
    replace q0 := kn (HF 0) rfl q0
    replace q1 := kn (HF 1) rfl q1
    replace q7 := kn (HF 7) rfl q7
    have q8' := ksv (HF 8) rfl rfl rfl
    replace q8 := q8'; clear q8'
    clear q5
    clear q16
    clear HF
    replace h_0 := GR.v_ext _ h_0 hE
    replace h_1 := GR.v_ext _ h_1 hE
    replace hB := Base.step hB hE hO; clear hE
    refine li_nil (nx_then ?_)
    have h := hnext2 _ (Comp.run_pure h).symm
    refine ⟨m2, hlt2, ?_⟩
    exact ⟨_, _, hA, hB, q0, h_0, q1, h_1, q7, q8, h⟩
  ·
   replace h := Comp.run_b_f hc h; clear hc
   refine wp_exit (ex_then (ex_then (ex_same ?_)))
   have hd_ := hdone2 _ (Comp.run_pure h).symm; clear h
   subst hd_; have h := hk2; clear hk2; try dsimp only at h
   refine nx_then ?_
   exact ⟨_, hA, hB, h⟩
 intro a9 w9 hI
 clear hA hB h q0 q1 h_0 h_1
 obtain ⟨O6, hA, hB, h⟩ := hI
 unfold slices_IndexFunc_int_int_j1 at h
 refine wp_seq ?_
 refine' region [_] mixed hA (.cons (fun _ _ hE hK hg => ok_assign rfl) .nil) ?zok8 ?zgd8 ?zk8
 case zok8 | zgd8 => kernel_rfl
 intro a10 w10 hA hE HF
 have q4 := ksv (HF 4) rfl rfl rfl
 clear HF
 replace hB := Base.step hB hE hO; clear hE
 refine li_nil (nx_then (wp_ret ?_))
 have h := Comp.run_pure h; subst h
 exact retPure Try.results67 hA q4 hB.ext rfl
theorem ok_slices_ContainsFunc_int_int {O : Tags} {w0 : World} (hO : OkO O w0) {v_0 : Value} {x_0 : List Int} (h_0 : (rSl (rInt .i64)).v O w0 v_0 x_0) {v_1 : Value} {x_1 : Int → Comp Bool} (h_1 : (rF1 Try.prog (rInt .i64) (RS.c (fun x => .bool x))).v O w0 v_1 x_1) {n : Nat} {y : Bool} (h : (slices_ContainsFunc_int_int x_0 x_1).run n = some y) : Pure Try.prog 48 #[v_0, v_1] w0 (SP.isv (.bool y)).holds := by
 unfold slices_ContainsFunc_int_int at h
 refine pure_of_wp Try.func48 rfl 9 Try.ntmps48 (by simp) fun a0 hA hs0 => ?_
 have q0 : a0.get 0 = v_0 := hs0 0 _ rfl
 have q1 : a0.get 1 = v_1 := hs0 1 _ rfl
 clear hs0
 have hB : Base (Fr w0) O w0 O w0 := Base.start hO
 refine wp_seq ?_
 refine' region [_] mixed hA (.cons (fun _ _ hE hK hg => ok_assign rfl) .nil) ?zok1 ?zgd1 ?zk1
 case zok1 | zgd1 => kernel_rfl
 intro a1 w1 hA hE HF
 replace q0 := kn (HF 0) rfl q0
 replace q1 := kn (HF 1) rfl q1
 clear HF
 replace h_0 := GR.v_ext _ h_0 hE
 replace h_1 := GR.v_ext _ h_1 hE
 replace hB := Base.step hB hE hO; clear hE
 refine li_nil (nx_then (wp_seq ?_))
 obtain ⟨x1, hx1, h⟩ := Comp.run_bind h
 refine' region [_, _, SP.isv (.int .i64 x1), _, _] mixed hA (.cons (fun _ _ hE hK hg => ok_move (kn (hK 0 rfl) rfl q0)) (.cons (fun _ _ hE hK hg => ok_move (kn (hK 1 rfl) rfl q1)) (.cons ?z2_2 (.cons (fun _ _ hE hK hg => ok_geq (ksv (j := 2) (hK 7 rfl) rfl rfl rfl) rfl) (.cons (fun _ _ hE hK hg => ok_assign (ksv (j := 3) (hK 8 rfl) rfl rfl rfl)) .nil))))) ?zok2 ?zgd2 ?zk2
 case z2_2 => intro a' w' hE hK hg; have c_ := ok_slices_IndexFunc_int_int (OkO.ext hB.ok hE) (GR.v_ext _ h_0 hE) (GR.v_ext _ h_1 hE) hx1; exact ok_call2 fn67 (ksv (j := 0) (hK 5 rfl) rfl rfl rfl) (ksv (j := 1) (hK 6 rfl) rfl rfl rfl) c_
 case zok2 | zgd2 => kernel_rfl
 intro a2 w2 hA hE HF
 have q4 := ksv (HF 4) rfl rfl rfl
 clear q0
 clear q1
 clear HF
 replace h_0 := GR.v_ext _ h_0 hE
 replace h_1 := GR.v_ext _ h_1 hE
 replace hB := Base.step hB hE hO; clear hE
 refine li_nil (nx_then (wp_ret ?_))
 have h := Comp.run_pure h; subst h
 exact retPure Try.results48 hA q4 hB.ext rfl
theorem ok_court_outside {O : Tags} {w0 : World} (hO : OkO O w0) {v_0 : Value} {x_0 : List Int} (h_0 : (rSl (rInt .i64)).v O w0 v_0 x_0) {x_1 : Int} {n : Nat} {y : Bool} (h : (court_outside x_0 x_1).run n = some y) : Pure Try.prog 59 #[v_0, .int .i64 x_1] w0 (SP.isv (.bool y)).holds := by
 unfold court_outside at h
 refine pure_of_wp Try.func59 rfl 8 Try.ntmps59 (by simp) fun a0 hA hs0 => ?_
 have q0 : a0.get 0 = v_0 := hs0 0 _ rfl
 have q1 : a0.get 1 = .int .i64 x_1 := hs0 1 _ rfl
 clear hs0
 have hB : Base (Fr w0) O w0 O w0 := Base.start hO
 refine wp_seq ?_
 refine' region [SP.vl (rBox (rInt .i64)) O x_1, _] mixed hA (.cons (fun _ _ hE hK hg => okl_boxV (r := (rInt .i64)) (fun _ => rfl) (OkO.ext hB.ok hE) (kn (hK 1 rfl) rfl q1) (by exact rInt_v.2 rfl)) (.cons (fun _ _ hE hK hg => ok_assign rfl) .nil)) ?zok1 ?zgd1 ?zk1
 case zok1 | zgd1 => kernel_rfl
 intro a1 w1 hA hE HF
 replace q0 := kn (HF 0) rfl q0
 have f2 := ksp (HF 3) rfl rfl rfl
 obtain ⟨u1, q3'⟩ : ∃ u, a1.get 3 = u := ⟨_, rfl⟩
 rw [q3'] at f2
 have q3 := q3'; clear q3'
 clear q1
 clear HF
 replace h_0 := GR.v_ext _ h_0 hE
 replace hB := Base.step hB hE hO; clear hE
 refine li_nil (nx_then (wp_seq ?_))
 obtain ⟨x3, hx3, h⟩ := Comp.run_bind h
 refine' region [_, SP.isv (.func (.func 78) #[] #[u1]), SP.isv (.bool x3), _] mixed hA (.cons (fun _ _ hE hK hg => ok_move (kn (hK 0 rfl) rfl q0)) (.cons (fun _ _ hE hK hg => ok_makeFunc map0 (map1 (kn (hK 3 rfl) rfl q3))) (.cons ?z2_2 (.cons (fun _ _ hE hK hg => ok_assign (ksv (j := 2) (hK 7 rfl) rfl rfl rfl)) .nil)))) ?zok2 ?zgd2 ?zk2
 case z2_2 => intro a' w' hE hK hg; have c_ := ok_slices_ContainsFunc_int_int (OkO.ext hB.ok hE) (GR.v_ext _ h_0 hE) (show (rF1 Try.prog (rInt .i64) (RS.c (fun x => .bool x))).v O _ (.func (.func 78) #[] #[u1]) (fun z0 => court_outside_f1 z0 x_1) from rF1_v.2 ⟨rfl, fun O' w' hO' hk v_0 x_0 hv_0 n_ y_ hy_ => by obtain rfl := rInt_v.1 hv_0; exact callV_func fn78 (ok_court_outside_f1 hO'  (GR.v_mono _ (GR.v_ext _ f2 hE) hk) hy_)⟩) hx3; exact ok_call2 fn48 (ksv (j := 0) (hK 5 rfl) rfl rfl rfl) (ksv (j := 1) (hK 6 rfl) rfl rfl rfl) c_
 case zok2 | zgd2 => kernel_rfl
 intro a2 w2 hA hE HF
 have q4 := ksv (HF 4) rfl rfl rfl
 clear q0
 clear q3
 clear HF
 replace h_0 := GR.v_ext _ h_0 hE
 replace f2 := GR.v_ext _ f2 hE
 replace hB := Base.step hB hE hO; clear hE
 refine li_nil (nx_then (wp_ret ?_))
 have h := Comp.run_pure h; subst h
 exact retPure Try.results59 hA q4 hB.ext rfl
theorem ok_court_check {O : Tags} {w0 : World} (hO : OkO O w0) {v_0 : Value} {x_0 : api_Claim} (h_0 : r_api_Claim.v O w0 v_0 x_0) {x_1 : Int} {n : Nat} {y : Int} (h : (court_check x_0 x_1).run n = some y) : Pure Try.prog 38 #[v_0, .int .i64 x_1] w0 (SP.isv (.int .i64 y)).holds := by
 unfold court_check at h
 refine pure_of_wp Try.func38 rfl 87 Try.ntmps38 (by simp) fun a0 hA hs0 => ?_
 have q0 : a0.get 0 = v_0 := hs0 0 _ rfl
 have q1 : a0.get 1 = .int .i64 x_1 := hs0 1 _ rfl
 clear hs0
 have hB : Base (Fr w0) O w0 O w0 := Base.start hO
 refine wp_seq ?_
 refine' region [SP.vl (rBox r_api_Claim) O x_0, _] mixed hA (.cons (fun _ _ hE hK hg => okl_boxV (r := r_api_Claim) fit_api_Claim (OkO.ext hB.ok hE) (kn (hK 0 rfl) rfl q0) (GR.v_ext _ h_0 hE)) (.cons (fun _ _ hE hK hg => ok_assign rfl) .nil)) ?zok1 ?zgd1 ?zk1
 case zok1 | zgd1 => kernel_rfl
 intro a1 w1 hA hE HF
 replace q1 := kn (HF 1) rfl q1
 have f2 := ksp (HF 2) rfl rfl rfl
 obtain ⟨u1, q2'⟩ : ∃ u, a1.get 2 = u := ⟨_, rfl⟩
 rw [q2'] at f2
 have q2 := q2'; clear q2'
 clear q0
 clear HF
 replace h_0 := GR.v_ext _ h_0 hE
 replace hB := Base.step hB hE hO; clear hE
 refine li_nil (nx_then (wp_seq ?_))
 refine' region [SP.isv (.func (.func 56) #[] #[u1]), _] mixed hA (.cons (fun _ _ hE hK hg => ok_makeFunc map0 (map1 (kn (hK 2 rfl) rfl q2))) (.cons (fun _ _ hE hK hg => ok_assign (ksv (j := 0) (hK 6 rfl) rfl rfl rfl)) .nil)) ?zok2 ?zgd2 ?zk2
 case zok2 | zgd2 => kernel_rfl
 intro a2 w2 hA hE HF
 replace q1 := kn (HF 1) rfl q1
 replace q2 := kn (HF 2) rfl q2
 have q5 := ksv (HF 5) rfl rfl rfl
 clear HF
 replace f2 := GR.v_ext _ f2 hE
 replace hB := Base.step hB hE hO; clear hE
 have f3 : (rF1 Try.prog (rInt .i64) (RS.c (fun x => .bool x))).v O w2 (.func (.func 56) #[] #[u1]) (fun z0 => court_check_f1 z0 x_0) := rF1_v.2 ⟨rfl, fun O' w' hO' hk v_0 x_0 hv_0 n_ y_ hy_ => by obtain rfl := rInt_v.1 hv_0; exact callV_func fn56 (ok_court_check_f1 hO'  (GR.v_mono _ f2 hk) hy_)⟩
 refine li_nil (nx_then (wp_seq (wp_block (wp_seq ?_))))
 refine' region [SP.ptr (rInt .i64) O x_0.Party, SP.isv (.int .i64 x_0.Party), _, _, SP.ptr (rInt .i64) O x_0.Party, SP.isv (.int .i64 x_0.Party), _, _, _] mixed hA (.cons (fun _ _ hE hK hg => okl_fldB (S := r_api_Claim) fit_api_Claim rfl (fun _ => rfl) sb_api_Claim_0 fl33_0 (kn (hK 2 rfl) rfl q2) (GR.v_ext _ f2 hE)) (.cons (fun _ _ hE hK hg => okl_ldr (rInt .i64) (fun _ => rfl) ty3 rfl rfl rfl (kspS (φ := SP.ptr (rInt .i64) O x_0.Party) (j := 0) (hK 8 rfl) rfl rfl rfl) (fun _ _ _ h => rInt_v.1 h)) (.cons (fun _ _ hE hK hg => ok_lss (ksv (j := 1) (hK 9 rfl) rfl rfl rfl) rfl) (.cons (fun _ _ hE hK hg => ok_move (ksv (j := 2) (hK 10 rfl) rfl rfl rfl)) (.cons (fun _ _ hE hK hg => okl_fldB (S := r_api_Claim) fit_api_Claim rfl (fun _ => rfl) sb_api_Claim_0 fl33_0 (kn (hK 2 rfl) rfl q2) (GR.v_ext _ f2 hE)) (.cons ?z3_5 (.cons ?z3_6 (.cons ?z3_7 (.cons (fun _ _ hE hK hg => ok_assign (ksv (j := 7) (hK 15 rfl) rfl rfl rfl)) .nil))))))))) ?zok3 ?zgd3 ?zk3
 case z3_5 => intro a' w' hE hK hg; exact okl_ldr (rInt .i64) (fun _ => rfl) ty3 rfl rfl rfl (kspS (φ := SP.ptr (rInt .i64) O x_0.Party) (j := 4) (hK 12 rfl) rfl rfl hg) (fun _ _ _ h => rInt_v.1 h)
 case z3_6 => intro a' w' hE hK hg; exact ok_geq (ksv (j := 5) (hK 13 rfl) rfl rfl hg) rfl
 case z3_7 => intro a' w' hE hK hg; exact ok_pick (ksv (j := 3) (hK 11 rfl) rfl rfl rfl) (fun _ => rfl) (fun hb => ksv (j := 6) (hK 14 rfl) rfl rfl (act_g1 rfl rfl hb))
 case zok3 | zgd3 => kernel_rfl
 intro a3 w3 hA hE HF
 replace q1 := kn (HF 1) rfl q1
 replace q2 := kn (HF 2) rfl q2
 replace q5 := kn (HF 5) rfl q5
 have q7 := ksv (HF 7) rfl rfl rfl
 clear HF
 replace f2 := GR.v_ext _ f2 hE
 replace f3 := GR.v_ext _ f3 hE
 replace hB := Base.step hB hE hO; clear hE
 obtain ⟨x4, hx_, h⟩ := Comp.run_bind h; replace hx_ := Comp.run_pure hx_; rw [hx_] at q7; clear hx_
 refine li_nil (nx_then ?_)
 refine wp_cond_b q7 (fun hc => ?_) (fun hc => ?_)
 ·
  replace h := Comp.run_b_t hc h; clear hc
  refine wp_seq ?_
  refine' region [_] mixed hA (.cons (fun _ _ hE hK hg => ok_assign rfl) .nil) ?zok4 ?zgd4 ?zk4
  case zok4 | zgd4 => kernel_rfl
  intro a4 w4 hA hE HF
  have q4 := ksv (HF 4) rfl rfl rfl
  clear q1
  clear q2
  clear q5
  clear q7
  clear HF
  replace f2 := GR.v_ext _ f2 hE
  replace f3 := GR.v_ext _ f3 hE
  replace hB := Base.step hB hE hO; clear hE
  refine li_nil (nx_then (wp_ret (rt_blk (rt_then ?_))))
  have h := Comp.run_pure h; subst h
  exact retPure Try.results38 hA q4 hB.ext rfl
 ·
  replace h := Comp.run_b_f hc h; clear hc
  refine wp_seq ?_
  refine' region [SP.ptr (rInt .i64) O x_0.Kind, SP.isv (.int .i64 x_0.Kind), _, _, SP.ptr (rInt .i64) O x_0.Kind, SP.isv (.int .i64 x_0.Kind), _, _, _] mixed hA (.cons (fun _ _ hE hK hg => okl_fldB (S := r_api_Claim) fit_api_Claim rfl (fun _ => rfl) sb_api_Claim_1 fl33_1 (kn (hK 2 rfl) rfl q2) (GR.v_ext _ f2 hE)) (.cons (fun _ _ hE hK hg => okl_ldr (rInt .i64) (fun _ => rfl) ty3 rfl rfl rfl (kspS (φ := SP.ptr (rInt .i64) O x_0.Kind) (j := 0) (hK 17 rfl) rfl rfl rfl) (fun _ _ _ h => rInt_v.1 h)) (.cons (fun _ _ hE hK hg => ok_lss (ksv (j := 1) (hK 18 rfl) rfl rfl rfl) rfl) (.cons (fun _ _ hE hK hg => ok_move (ksv (j := 2) (hK 19 rfl) rfl rfl rfl)) (.cons (fun _ _ hE hK hg => okl_fldB (S := r_api_Claim) fit_api_Claim rfl (fun _ => rfl) sb_api_Claim_1 fl33_1 (kn (hK 2 rfl) rfl q2) (GR.v_ext _ f2 hE)) (.cons ?z5_5 (.cons ?z5_6 (.cons ?z5_7 (.cons (fun _ _ hE hK hg => ok_assign (ksv (j := 7) (hK 24 rfl) rfl rfl rfl)) .nil))))))))) ?zok5 ?zgd5 ?zk5
  case z5_5 => intro a' w' hE hK hg; exact okl_ldr (rInt .i64) (fun _ => rfl) ty3 rfl rfl rfl (kspS (φ := SP.ptr (rInt .i64) O x_0.Kind) (j := 4) (hK 21 rfl) rfl rfl hg) (fun _ _ _ h => rInt_v.1 h)
  case z5_6 => intro a' w' hE hK hg; exact ok_gtr (ksv (j := 5) (hK 22 rfl) rfl rfl hg) rfl
  case z5_7 => intro a' w' hE hK hg; exact ok_pick (ksv (j := 3) (hK 20 rfl) rfl rfl rfl) (fun _ => rfl) (fun hb => ksv (j := 6) (hK 23 rfl) rfl rfl (act_g1 rfl rfl hb))
  case zok5 | zgd5 => kernel_rfl
  intro a5 w5 hA hE HF
  replace q1 := kn (HF 1) rfl q1
  replace q2 := kn (HF 2) rfl q2
  replace q5 := kn (HF 5) rfl q5
  have q16 := ksv (HF 16) rfl rfl rfl
  clear q7
  clear HF
  replace f2 := GR.v_ext _ f2 hE
  replace f3 := GR.v_ext _ f3 hE
  replace hB := Base.step hB hE hO; clear hE
  obtain ⟨x5, hx_, h⟩ := Comp.run_bind h; replace hx_ := Comp.run_pure hx_; rw [hx_] at q16; clear hx_
  refine li_nil (nx_then ?_)
  refine wp_cond_b q16 (fun hc => ?_) (fun hc => ?_)
  ·
   replace h := Comp.run_b_t hc h; clear hc
   refine wp_seq ?_
   refine' region [_] mixed hA (.cons (fun _ _ hE hK hg => ok_assign rfl) .nil) ?zok6 ?zgd6 ?zk6
   case zok6 | zgd6 => kernel_rfl
   intro a6 w6 hA hE HF
   have q4 := ksv (HF 4) rfl rfl rfl
   clear q1
   clear q2
   clear q5
   clear q16
   clear HF
   replace f2 := GR.v_ext _ f2 hE
   replace f3 := GR.v_ext _ f3 hE
   replace hB := Base.step hB hE hO; clear hE
   refine li_nil (nx_then (wp_ret (rt_blk (rt_then ?_))))
   have h := Comp.run_pure h; subst h
   exact retPure Try.results38 hA q4 hB.ext rfl
  ·
   replace h := Comp.run_b_f hc h; clear hc
   refine wp_seq ?_
   obtain ⟨x6, hx6, h⟩ := Comp.run_bind h
   obtain ⟨x7, hx7, h⟩ := Comp.run_bind h
   refine' region [SP.ptr (rSl (rInt .i64)) O x_0.Sure, SP.vl (rSl (rInt .i64)) O x_0.Sure, SP.isv (.bool x6), _, _, SP.ptr (rSl (rInt .i64)) O x_0.Touched, SP.vl (rSl (rInt .i64)) O x_0.Touched, SP.isv (.bool x7), _, _, _] mixed hA (.cons (fun _ _ hE hK hg => okl_fldB (S := r_api_Claim) fit_api_Claim rfl (fun _ => rfl) sb_api_Claim_3 fl33_3 (kn (hK 2 rfl) rfl q2) (GR.v_ext _ f2 hE)) (.cons (fun _ _ hE hK hg => okl_ld (r := (rSl (rInt .i64))) (fun _ => rfl) ty23 rfl rfl rfl (kspS (φ := SP.ptr (rSl (rInt .i64)) O x_0.Sure) (j := 0) (hK 26 rfl) rfl rfl rfl)) (.cons ?z7_2 (.cons (fun _ _ hE hK hg => ok_not (ksv (j := 2) (hK 28 rfl) rfl rfl rfl)) (.cons (fun _ _ hE hK hg => ok_move (ksv (j := 3) (hK 29 rfl) rfl rfl rfl)) (.cons (fun _ _ hE hK hg => okl_fldB (S := r_api_Claim) fit_api_Claim rfl (fun _ => rfl) sb_api_Claim_4 fl33_4 (kn (hK 2 rfl) rfl q2) (GR.v_ext _ f2 hE)) (.cons ?z7_6 (.cons ?z7_7 (.cons ?z7_8 (.cons ?z7_9 (.cons (fun _ _ hE hK hg => ok_assign (ksv (j := 9) (hK 35 rfl) rfl rfl rfl)) .nil))))))))))) ?zok7 ?zgd7 ?zk7
   case z7_2 => intro a' w' hE hK hg; have c_ := ok_court_sorted (OkO.ext hB.ok hE) (kspS (φ := SP.vl (rSl (rInt .i64)) O x_0.Sure) (j := 1) (hK 27 rfl) rfl rfl rfl) hx6; exact ok_call1 fn58 rfl c_
   case z7_6 => intro a' w' hE hK hg; exact okl_ld (r := (rSl (rInt .i64))) (fun _ => rfl) ty23 rfl rfl rfl (kspS (φ := SP.ptr (rSl (rInt .i64)) O x_0.Touched) (j := 5) (hK 31 rfl) rfl rfl hg)
   case z7_7 => intro a' w' hE hK hg; have c_ := ok_court_sorted (OkO.ext hB.ok hE) (kspS (φ := SP.vl (rSl (rInt .i64)) O x_0.Touched) (j := 6) (hK 32 rfl) rfl rfl hg) (run_gdb hx7 hg); exact ok_call1 fn58 rfl c_
   case z7_8 => intro a' w' hE hK hg; exact ok_not (ksv (j := 7) (hK 33 rfl) rfl rfl hg)
   case z7_9 => intro a' w' hE hK hg; exact ok_pick (ksv (j := 4) (hK 30 rfl) rfl rfl rfl) (fun _ => rfl) (fun hb => ksv (j := 8) (hK 34 rfl) rfl rfl (act_g1 rfl rfl hb))
   case zok7 | zgd7 => kernel_rfl
   intro a7 w7 hA hE HF
   replace q1 := kn (HF 1) rfl q1
   replace q2 := kn (HF 2) rfl q2
   replace q5 := kn (HF 5) rfl q5
   have q25 := ksv (HF 25) rfl rfl rfl
   clear q16
   clear HF
   replace f2 := GR.v_ext _ f2 hE
   replace f3 := GR.v_ext _ f3 hE
   replace hB := Base.step hB hE hO; clear hE
   refine li_nil (nx_then ?_)
   refine wp_cond_b q25 (fun hc => ?_) (fun hc => ?_)
   ·
    replace h := Comp.run_b_t hc h; clear hc
    refine wp_seq ?_
    refine' region [_] mixed hA (.cons (fun _ _ hE hK hg => ok_assign rfl) .nil) ?zok8 ?zgd8 ?zk8
    case zok8 | zgd8 => kernel_rfl
    intro a8 w8 hA hE HF
    have q4 := ksv (HF 4) rfl rfl rfl
    clear q1
    clear q2
    clear q5
    clear q25
    clear HF
    replace f2 := GR.v_ext _ f2 hE
    replace f3 := GR.v_ext _ f3 hE
    replace hB := Base.step hB hE hO; clear hE
    refine li_nil (nx_then (wp_ret (rt_blk (rt_then ?_))))
    have h := Comp.run_pure h; subst h
    exact retPure Try.results38 hA q4 hB.ext rfl
   ·
    replace h := Comp.run_b_f hc h; clear hc
    refine wp_seq ?_
    obtain ⟨x8, hx8, h⟩ := Comp.run_bind h
    obtain ⟨x9, hx9, h⟩ := Comp.run_bind h
    refine' region [SP.ptr (rSl (rInt .i64)) O x_0.Sure, SP.vl (rSl (rInt .i64)) O x_0.Sure, _, SP.isv (.bool x8), _, SP.ptr (rSl (rInt .i64)) O x_0.Touched, SP.vl (rSl (rInt .i64)) O x_0.Touched, _, SP.isv (.bool x9), _, _] mixed hA (.cons (fun _ _ hE hK hg => okl_fldB (S := r_api_Claim) fit_api_Claim rfl (fun _ => rfl) sb_api_Claim_3 fl33_3 (kn (hK 2 rfl) rfl q2) (GR.v_ext _ f2 hE)) (.cons (fun _ _ hE hK hg => okl_ld (r := (rSl (rInt .i64))) (fun _ => rfl) ty23 rfl rfl rfl (kspS (φ := SP.ptr (rSl (rInt .i64)) O x_0.Sure) (j := 0) (hK 37 rfl) rfl rfl rfl)) (.cons (fun _ _ hE hK hg => ok_move (kn (hK 1 rfl) rfl q1)) (.cons ?z9_3 (.cons (fun _ _ hE hK hg => ok_move (ksv (j := 3) (hK 40 rfl) rfl rfl rfl)) (.cons (fun _ _ hE hK hg => okl_fldB (S := r_api_Claim) fit_api_Claim rfl (fun _ => rfl) sb_api_Claim_4 fl33_4 (kn (hK 2 rfl) rfl q2) (GR.v_ext _ f2 hE)) (.cons ?z9_6 (.cons (fun _ _ hE hK hg => ok_move (kn (hK 1 rfl) rfl q1)) (.cons ?z9_8 (.cons ?z9_9 (.cons (fun _ _ hE hK hg => ok_assign (ksv (j := 9) (hK 46 rfl) rfl rfl rfl)) .nil))))))))))) ?zok9 ?zgd9 ?zk9
    case z9_3 => intro a' w' hE hK hg; have c_ := ok_court_outside (OkO.ext hB.ok hE) (kspS (φ := SP.vl (rSl (rInt .i64)) O x_0.Sure) (j := 1) (hK 38 rfl) rfl rfl rfl) hx8; exact ok_call2 fn59 rfl (ksv (j := 2) (hK 39 rfl) rfl rfl rfl) c_
    case z9_6 => intro a' w' hE hK hg; exact okl_ld (r := (rSl (rInt .i64))) (fun _ => rfl) ty23 rfl rfl rfl (kspS (φ := SP.ptr (rSl (rInt .i64)) O x_0.Touched) (j := 5) (hK 42 rfl) rfl rfl hg)
    case z9_8 => intro a' w' hE hK hg; have c_ := ok_court_outside (OkO.ext hB.ok hE) (kspS (φ := SP.vl (rSl (rInt .i64)) O x_0.Touched) (j := 6) (hK 43 rfl) rfl rfl hg) (run_gdb hx9 hg); exact ok_call2 fn59 rfl (ksv (j := 7) (hK 44 rfl) rfl rfl hg) c_
    case z9_9 => intro a' w' hE hK hg; exact ok_pick (ksv (j := 4) (hK 41 rfl) rfl rfl rfl) (fun _ => rfl) (fun hb => ksv (j := 8) (hK 45 rfl) rfl rfl (act_g1 rfl rfl hb))
    case zok9 | zgd9 => kernel_rfl
    intro a9 w9 hA hE HF
    replace q2 := kn (HF 2) rfl q2
    replace q5 := kn (HF 5) rfl q5
    have q36 := ksv (HF 36) rfl rfl rfl
    clear q1
    clear q25
    clear HF
    replace f2 := GR.v_ext _ f2 hE
    replace f3 := GR.v_ext _ f3 hE
    replace hB := Base.step hB hE hO; clear hE
    refine li_nil (nx_then ?_)
    refine wp_cond_b q36 (fun hc => ?_) (fun hc => ?_)
    ·
     replace h := Comp.run_b_t hc h; clear hc
     refine wp_seq ?_
     refine' region [_] mixed hA (.cons (fun _ _ hE hK hg => ok_assign rfl) .nil) ?zok10 ?zgd10 ?zk10
     case zok10 | zgd10 => kernel_rfl
     intro a10 w10 hA hE HF
     have q4 := ksv (HF 4) rfl rfl rfl
     clear q2
     clear q5
     clear q36
     clear HF
     replace f2 := GR.v_ext _ f2 hE
     replace f3 := GR.v_ext _ f3 hE
     replace hB := Base.step hB hE hO; clear hE
     refine li_nil (nx_then (wp_ret (rt_blk (rt_then ?_))))
     have h := Comp.run_pure h; subst h
     exact retPure Try.results38 hA q4 hB.ext rfl
    ·
     replace h := Comp.run_b_f hc h; clear hc
     refine seq_join (fun a w => ∃ (O15 : Tags) (x11 : Bool), a.fit 87 ∧ Base (Fr w0) O w0 O15 w ∧ a.get 2 = u1 ∧ (rBox r_api_Claim).v O15 w u1 x_0 ∧ a.get 47 = .bool x11 ∧ (court_check_j1 x_0 x11).run n = some y) ?_ ?_
     ·
      refine wp_seq ?_
      refine' region [SP.ptr (rInt .i64) O x_0.Kind, SP.isv (.int .i64 x_0.Kind), _, _, SP.ptr (rInt .i64) O x_0.Gauge, SP.isv (.int .i64 x_0.Gauge), _, _, _] mixed hA (.cons (fun _ _ hE hK hg => okl_fldB (S := r_api_Claim) fit_api_Claim rfl (fun _ => rfl) sb_api_Claim_1 fl33_1 (kn (hK 2 rfl) rfl q2) (GR.v_ext _ f2 hE)) (.cons (fun _ _ hE hK hg => okl_ldr (rInt .i64) (fun _ => rfl) ty3 rfl rfl rfl (kspS (φ := SP.ptr (rInt .i64) O x_0.Kind) (j := 0) (hK 48 rfl) rfl rfl rfl) (fun _ _ _ h => rInt_v.1 h)) (.cons (fun _ _ hE hK hg => ok_neqI (ksv (j := 1) (hK 49 rfl) rfl rfl rfl) rfl) (.cons (fun _ _ hE hK hg => ok_move (ksv (j := 2) (hK 50 rfl) rfl rfl rfl)) (.cons (fun _ _ hE hK hg => okl_fldB (S := r_api_Claim) fit_api_Claim rfl (fun _ => rfl) sb_api_Claim_2 fl33_2 (kn (hK 2 rfl) rfl q2) (GR.v_ext _ f2 hE)) (.cons ?z11_5 (.cons ?z11_6 (.cons ?z11_7 (.cons (fun _ _ hE hK hg => ok_assign (ksv (j := 7) (hK 55 rfl) rfl rfl rfl)) .nil))))))))) ?zok11 ?zgd11 ?zk11
      case z11_5 => intro a' w' hE hK hg; exact okl_ldr (rInt .i64) (fun _ => rfl) ty3 rfl rfl rfl (kspS (φ := SP.ptr (rInt .i64) O x_0.Gauge) (j := 4) (hK 52 rfl) rfl rfl hg) (fun _ _ _ h => rInt_v.1 h)
      case z11_6 => intro a' w' hE hK hg; exact ok_neqI (ksv (j := 5) (hK 53 rfl) rfl rfl hg) rfl
      case z11_7 => intro a' w' hE hK hg; exact ok_pick (ksv (j := 3) (hK 51 rfl) rfl rfl rfl) (fun hb => ksv (j := 6) (hK 54 rfl) rfl rfl (act_g1 rfl rfl hb)) (fun _ => rfl)
      case zok11 | zgd11 => kernel_rfl
      intro a11 w11 hA hE HF
      replace q2 := kn (HF 2) rfl q2
      replace q5 := kn (HF 5) rfl q5
      have q47 := ksv (HF 47) rfl rfl rfl
      clear q36
      clear HF
      replace f2 := GR.v_ext _ f2 hE
      replace f3 := GR.v_ext _ f3 hE
      replace hB := Base.step hB hE hO; clear hE
      obtain ⟨x10, hx_, h⟩ := Comp.run_bind h; replace hx_ := Comp.run_pure hx_; rw [hx_] at q47; clear hx_
      refine li_nil (nx_then ?_)
      refine wp_cond_b q47 (fun hc => ?_) (fun hc => ?_)
      ·
       replace h := Comp.run_b_t hc h; clear hc
       refine wp_skip (nx_then ?_)
       exact ⟨_, _, hA, hB, q2, f2, q47, h⟩
      ·
       replace h := Comp.run_b_f hc h; clear hc
       refine wp_seq ?_
       refine' region [SP.ptr (rInt .i64) O x_0.Kind, SP.isv (.int .i64 x_0.Kind), _, _, SP.ptr (rSl (rInt .i64)) O x_0.Sure, SP.vl (rSl (rInt .i64)) O x_0.Sure, _, _, _, _] mixed hA (.cons (fun _ _ hE hK hg => okl_fldB (S := r_api_Claim) fit_api_Claim rfl (fun _ => rfl) sb_api_Claim_1 fl33_1 (kn (hK 2 rfl) rfl q2) (GR.v_ext _ f2 hE)) (.cons (fun _ _ hE hK hg => okl_ldr (rInt .i64) (fun _ => rfl) ty3 rfl rfl rfl (kspS (φ := SP.ptr (rInt .i64) O x_0.Kind) (j := 0) (hK 56 rfl) rfl rfl rfl) (fun _ _ _ h => rInt_v.1 h)) (.cons (fun _ _ hE hK hg => ok_neqI (ksv (j := 1) (hK 57 rfl) rfl rfl rfl) rfl) (.cons (fun _ _ hE hK hg => ok_move (ksv (j := 2) (hK 58 rfl) rfl rfl rfl)) (.cons (fun _ _ hE hK hg => okl_fldB (S := r_api_Claim) fit_api_Claim rfl (fun _ => rfl) sb_api_Claim_3 fl33_3 (kn (hK 2 rfl) rfl q2) (GR.v_ext _ f2 hE)) (.cons ?z12_5 (.cons ?z12_6 (.cons ?z12_7 (.cons ?z12_8 (.cons (fun _ _ hE hK hg => ok_assign (ksv (j := 8) (hK 64 rfl) rfl rfl rfl)) .nil)))))))))) ?zok12 ?zgd12 ?zk12
       case z12_5 => intro a' w' hE hK hg; exact okl_ld (r := (rSl (rInt .i64))) (fun _ => rfl) ty23 rfl rfl rfl (kspS (φ := SP.ptr (rSl (rInt .i64)) O x_0.Sure) (j := 4) (hK 60 rfl) rfl rfl hg)
       case z12_6 => intro a' w' hE hK hg; exact okl_len (r := (rInt .i64)) ty23 rfl (rd_of (kspS (φ := SP.vl (rSl (rInt .i64)) O x_0.Sure) (j := 5) (hK 61 rfl) rfl rfl hg))
       case z12_7 => intro a' w' hE hK hg; exact ok_gtr (ksv (j := 6) (hK 62 rfl) rfl rfl hg) rfl
       case z12_8 => intro a' w' hE hK hg; exact ok_pick (ksv (j := 3) (hK 59 rfl) rfl rfl rfl) (fun hb => ksv (j := 7) (hK 63 rfl) rfl rfl (act_g1 rfl rfl hb)) (fun _ => rfl)
       case zok12 | zgd12 => kernel_rfl
       intro a12 w12 hA hE HF
       replace q2 := kn (HF 2) rfl q2
       replace q5 := kn (HF 5) rfl q5
       have q47' := ksv (HF 47) rfl rfl rfl
       replace q47 := q47'; clear q47'
       clear HF
       replace f2 := GR.v_ext _ f2 hE
       replace f3 := GR.v_ext _ f3 hE
       replace hB := Base.step hB hE hO; clear hE
       obtain ⟨x12, hx_, h⟩ := Comp.run_bind h; replace hx_ := Comp.run_pure hx_; rw [hx_] at q47; clear hx_
       refine li_nil (nx_then ?_)
       refine wp_cond_b q47 (fun hc => ?_) (fun hc => ?_)
       ·
        replace h := Comp.run_b_t hc h; clear hc
        refine wp_skip (nx_then ?_)
        exact ⟨_, _, hA, hB, q2, f2, q47, h⟩
       ·
        replace h := Comp.run_b_f hc h; clear hc
        refine wp_seq ?_
        refine' region [SP.ptr (rInt .i64) O x_0.Kind, SP.isv (.int .i64 x_0.Kind), _, _, SP.ptr (rSl (rInt .i64)) O x_0.Touched, SP.vl (rSl (rInt .i64)) O x_0.Touched, _, _, _, _] mixed hA (.cons (fun _ _ hE hK hg => okl_fldB (S := r_api_Claim) fit_api_Claim rfl (fun _ => rfl) sb_api_Claim_1 fl33_1 (kn (hK 2 rfl) rfl q2) (GR.v_ext _ f2 hE)) (.cons (fun _ _ hE hK hg => okl_ldr (rInt .i64) (fun _ => rfl) ty3 rfl rfl rfl (kspS (φ := SP.ptr (rInt .i64) O x_0.Kind) (j := 0) (hK 65 rfl) rfl rfl rfl) (fun _ _ _ h => rInt_v.1 h)) (.cons (fun _ _ hE hK hg => ok_eqlI (ksv (j := 1) (hK 66 rfl) rfl rfl rfl) rfl) (.cons (fun _ _ hE hK hg => ok_move (ksv (j := 2) (hK 67 rfl) rfl rfl rfl)) (.cons (fun _ _ hE hK hg => okl_fldB (S := r_api_Claim) fit_api_Claim rfl (fun _ => rfl) sb_api_Claim_4 fl33_4 (kn (hK 2 rfl) rfl q2) (GR.v_ext _ f2 hE)) (.cons ?z13_5 (.cons ?z13_6 (.cons ?z13_7 (.cons ?z13_8 (.cons (fun _ _ hE hK hg => ok_assign (ksv (j := 8) (hK 73 rfl) rfl rfl rfl)) .nil)))))))))) ?zok13 ?zgd13 ?zk13
        case z13_5 => intro a' w' hE hK hg; exact okl_ld (r := (rSl (rInt .i64))) (fun _ => rfl) ty23 rfl rfl rfl (kspS (φ := SP.ptr (rSl (rInt .i64)) O x_0.Touched) (j := 4) (hK 69 rfl) rfl rfl hg)
        case z13_6 => intro a' w' hE hK hg; exact okl_len (r := (rInt .i64)) ty23 rfl (rd_of (kspS (φ := SP.vl (rSl (rInt .i64)) O x_0.Touched) (j := 5) (hK 70 rfl) rfl rfl hg))
        case z13_7 => intro a' w' hE hK hg; exact ok_gtr (ksv (j := 6) (hK 71 rfl) rfl rfl hg) rfl
        case z13_8 => intro a' w' hE hK hg; exact ok_pick (ksv (j := 3) (hK 68 rfl) rfl rfl rfl) (fun hb => ksv (j := 7) (hK 72 rfl) rfl rfl (act_g1 rfl rfl hb)) (fun _ => rfl)
        case zok13 | zgd13 => kernel_rfl
        intro a13 w13 hA hE HF
        replace q2 := kn (HF 2) rfl q2
        replace q5 := kn (HF 5) rfl q5
        have q47' := ksv (HF 47) rfl rfl rfl
        replace q47 := q47'; clear q47'
        clear HF
        replace f2 := GR.v_ext _ f2 hE
        replace f3 := GR.v_ext _ f3 hE
        replace hB := Base.step hB hE hO; clear hE
        obtain ⟨x13, hx_, h⟩ := Comp.run_bind h; replace hx_ := Comp.run_pure hx_; rw [hx_] at q47; clear hx_
        refine li_nil (nx_then ?_)
        refine wp_cond_b q47 (fun hc => ?_) (fun hc => ?_)
        ·
         replace h := Comp.run_b_t hc h; clear hc
         refine wp_skip (nx_then ?_)
         exact ⟨_, _, hA, hB, q2, f2, q47, h⟩
        ·
         replace h := Comp.run_b_f hc h; clear hc
         obtain ⟨x14, hx14, h⟩ := Comp.run_bind h
         refine' region [SP.ptr (rSl (rInt .i64)) O x_0.Sure, SP.vl (rSl (rInt .i64)) O x_0.Sure, _, SP.isv (.bool x14), _] mixed hA (.cons (fun _ _ hE hK hg => okl_fldB (S := r_api_Claim) fit_api_Claim rfl (fun _ => rfl) sb_api_Claim_3 fl33_3 (kn (hK 2 rfl) rfl q2) (GR.v_ext _ f2 hE)) (.cons (fun _ _ hE hK hg => okl_ld (r := (rSl (rInt .i64))) (fun _ => rfl) ty23 rfl rfl rfl (kspS (φ := SP.ptr (rSl (rInt .i64)) O x_0.Sure) (j := 0) (hK 74 rfl) rfl rfl rfl)) (.cons (fun _ _ hE hK hg => ok_move (kn (hK 5 rfl) rfl q5)) (.cons ?z14_3 (.cons (fun _ _ hE hK hg => ok_assign (ksv (j := 3) (hK 77 rfl) rfl rfl rfl)) .nil))))) ?zok14 ?zgd14 ?zk14
         case z14_3 => intro a' w' hE hK hg; have c_ := ok_slices_ContainsFunc_int_int (OkO.ext hB.ok hE) (kspS (φ := SP.vl (rSl (rInt .i64)) O x_0.Sure) (j := 1) (hK 75 rfl) rfl rfl rfl) (GR.v_ext _ f3 hE) hx14; exact ok_call2 fn48 rfl (ksv (j := 2) (hK 76 rfl) rfl rfl rfl) c_
         case zok14 | zgd14 => kernel_rfl
         intro a14 w14 hA hE HF
         replace q2 := kn (HF 2) rfl q2
         have q47' := ksv (HF 47) rfl rfl rfl
         replace q47 := q47'; clear q47'
         clear q5
         clear HF
         replace f2 := GR.v_ext _ f2 hE
         replace f3 := GR.v_ext _ f3 hE
         replace hB := Base.step hB hE hO; clear hE
         refine li_nil (nx_then ?_)
         exact ⟨_, _, hA, hB, q2, f2, q47, h⟩
     intro a15 w15 hI
     clear hA hB h q2 q5 q36 f2 f3
     obtain ⟨O15, x11, hA, hB, q2, f2, q47, h⟩ := hI
     unfold court_check_j1 at h
     refine wp_cond_b q47 (fun hc => ?_) (fun hc => ?_)
     ·
      replace h := Comp.run_b_t hc h; clear hc
      refine wp_seq ?_
      refine' region [_] mixed hA (.cons (fun _ _ hE hK hg => ok_assign rfl) .nil) ?zok15 ?zgd15 ?zk15
      case zok15 | zgd15 => kernel_rfl
      intro a16 w16 hA hE HF
      have q4 := ksv (HF 4) rfl rfl rfl
      clear q2
      clear q47
      clear HF
      replace f2 := GR.v_ext _ f2 hE
      replace hB := Base.step hB hE hO; clear hE
      refine li_nil (nx_then (wp_ret (rt_blk (rt_then ?_))))
      have h := Comp.run_pure h; subst h
      exact retPure Try.results38 hA q4 hB.ext rfl
     ·
      replace h := Comp.run_b_f hc h; clear hc
      refine wp_seq ?_
      refine' region [SP.ptr (rInt .i64) O15 x_0.Gauge, SP.isv (.int .i64 x_0.Gauge), _, _, SP.ptr (rInt .i64) O15 x_0.Gauge, SP.isv (.int .i64 x_0.Gauge), _, _, _] mixed hA (.cons (fun _ _ hE hK hg => okl_fldB (S := r_api_Claim) fit_api_Claim rfl (fun _ => rfl) sb_api_Claim_2 fl33_2 (kn (hK 2 rfl) rfl q2) (GR.v_ext _ f2 hE)) (.cons (fun _ _ hE hK hg => okl_ldr (rInt .i64) (fun _ => rfl) ty3 rfl rfl rfl (kspS (φ := SP.ptr (rInt .i64) O15 x_0.Gauge) (j := 0) (hK 79 rfl) rfl rfl rfl) (fun _ _ _ h => rInt_v.1 h)) (.cons (fun _ _ hE hK hg => ok_lss (ksv (j := 1) (hK 80 rfl) rfl rfl rfl) rfl) (.cons (fun _ _ hE hK hg => ok_move (ksv (j := 2) (hK 81 rfl) rfl rfl rfl)) (.cons (fun _ _ hE hK hg => okl_fldB (S := r_api_Claim) fit_api_Claim rfl (fun _ => rfl) sb_api_Claim_2 fl33_2 (kn (hK 2 rfl) rfl q2) (GR.v_ext _ f2 hE)) (.cons ?z16_5 (.cons ?z16_6 (.cons ?z16_7 (.cons (fun _ _ hE hK hg => ok_assign (ksv (j := 7) (hK 86 rfl) rfl rfl rfl)) .nil))))))))) ?zok16 ?zgd16 ?zk16
      case z16_5 => intro a' w' hE hK hg; exact okl_ldr (rInt .i64) (fun _ => rfl) ty3 rfl rfl rfl (kspS (φ := SP.ptr (rInt .i64) O15 x_0.Gauge) (j := 4) (hK 83 rfl) rfl rfl hg) (fun _ _ _ h => rInt_v.1 h)
      case z16_6 => intro a' w' hE hK hg; exact ok_geq (ksv (j := 5) (hK 84 rfl) rfl rfl hg) rfl
      case z16_7 => intro a' w' hE hK hg; exact ok_pick (ksv (j := 3) (hK 82 rfl) rfl rfl rfl) (fun _ => rfl) (fun hb => ksv (j := 6) (hK 85 rfl) rfl rfl (act_g1 rfl rfl hb))
      case zok16 | zgd16 => kernel_rfl
      intro a17 w17 hA hE HF
      have q78 := ksv (HF 78) rfl rfl rfl
      clear q2
      clear q47
      clear HF
      replace f2 := GR.v_ext _ f2 hE
      replace hB := Base.step hB hE hO; clear hE
      obtain ⟨x16, hx_, h⟩ := Comp.run_bind h; replace hx_ := Comp.run_pure hx_; rw [hx_] at q78; clear hx_
      refine li_nil (nx_then ?_)
      refine wp_cond_b q78 (fun hc => ?_) (fun hc => ?_)
      ·
       replace h := Comp.run_b_t hc h; clear hc
       refine wp_seq ?_
       refine' region [_] mixed hA (.cons (fun _ _ hE hK hg => ok_assign rfl) .nil) ?zok17 ?zgd17 ?zk17
       case zok17 | zgd17 => kernel_rfl
       intro a18 w18 hA hE HF
       have q4 := ksv (HF 4) rfl rfl rfl
       clear q78
       clear HF
       replace hB := Base.step hB hE hO; clear hE
       refine li_nil (nx_then (wp_ret (rt_blk (rt_then ?_))))
       have h := Comp.run_pure h; subst h
       exact retPure Try.results38 hA q4 hB.ext rfl
      ·
       replace h := Comp.run_b_f hc h; clear hc
       refine wp_skip (nx_blk (nx_then (wp_seq ?_)))
       refine' region [_] mixed hA (.cons (fun _ _ hE hK hg => ok_assign rfl) .nil) ?zok18 ?zgd18 ?zk18
       case zok18 | zgd18 => kernel_rfl
       intro a19 w19 hA hE HF
       have q4 := ksv (HF 4) rfl rfl rfl
       clear q78
       clear HF
       replace hB := Base.step hB hE hO; clear hE
       refine li_nil (nx_then (wp_ret ?_))
       have h := Comp.run_pure h; subst h
       exact retPure Try.results38 hA q4 hB.ext rfl
set_option maxHeartbeats 4000000 in
theorem ok_court_Check {O : Tags} {w0 : World} (hO : OkO O w0) {v_0 : Value} {x_0 : List api_Claim} (h_0 : (rSl r_api_Claim).v O w0 v_0 x_0) {v_1 : Value} {x_1 : List api_Sight} (h_1 : (rSl r_api_Sight).v O w0 v_1 x_1) {x_2 : Int} {n : Nat} {y : Int} (h : (court_Check x_0 x_1 x_2).run n = some y) : Pure Try.prog 13 #[v_0, v_1, .int .i64 x_2] w0 (SP.isv (.int .i64 y)).holds := by
 unfold court_Check at h
 refine pure_of_wp Try.func13 rfl 83 Try.ntmps13 (by simp) fun a0 hA hs0 => ?_
 have q0 : a0.get 0 = v_0 := hs0 0 _ rfl
 have q1 : a0.get 1 = v_1 := hs0 1 _ rfl
 have q2 : a0.get 2 = .int .i64 x_2 := hs0 2 _ rfl
 clear hs0
 have hB : Base (Fr w0) O w0 O w0 := Base.start hO
 refine wp_seq ?_
 refine' region [_] mixed hA (.cons (fun _ _ hE hK hg => ok_assign rfl) .nil) ?zok1 ?zgd1 ?zk1
 case zok1 | zgd1 => kernel_rfl
 intro a1 w1 hA hE HF
 replace q0 := kn (HF 0) rfl q0
 replace q1 := kn (HF 1) rfl q1
 replace q2 := kn (HF 2) rfl q2
 clear HF
 replace h_0 := GR.v_ext _ h_0 hE
 replace h_1 := GR.v_ext _ h_1 hE
 replace hB := Base.step hB hE hO; clear hE
 refine li_nil (nx_then (wp_seq (wp_block (wp_seq ?_))))
 refine' region [_, _, _, _, _, _, _] mixed hA (.cons (fun _ _ hE hK hg => ok_move (kn (hK 2 rfl) rfl q2)) (.cons (fun _ _ hE hK hg => ok_lss (ksv (j := 0) (hK 15 rfl) rfl rfl rfl) rfl) (.cons (fun _ _ hE hK hg => ok_move (ksv (j := 1) (hK 16 rfl) rfl rfl rfl)) (.cons (fun _ _ hE hK hg => ok_move (kn (hK 2 rfl) rfl q2)) (.cons ?z2_4 (.cons ?z2_5 (.cons (fun _ _ hE hK hg => ok_assign (ksv (j := 5) (hK 20 rfl) rfl rfl rfl)) .nil))))))) ?zok2 ?zgd2 ?zk2
 case z2_4 => intro a' w' hE hK hg; exact ok_gtr (ksv (j := 3) (hK 18 rfl) rfl rfl hg) rfl
 case z2_5 => intro a' w' hE hK hg; exact ok_pick (ksv (j := 2) (hK 17 rfl) rfl rfl rfl) (fun _ => rfl) (fun hb => ksv (j := 4) (hK 19 rfl) rfl rfl (act_g1 rfl rfl hb))
 case zok2 | zgd2 => kernel_rfl
 intro a2 w2 hA hE HF
 replace q0 := kn (HF 0) rfl q0
 replace q1 := kn (HF 1) rfl q1
 replace q2 := kn (HF 2) rfl q2
 have q14 := ksv (HF 14) rfl rfl rfl
 clear HF
 replace h_0 := GR.v_ext _ h_0 hE
 replace h_1 := GR.v_ext _ h_1 hE
 replace hB := Base.step hB hE hO; clear hE
 obtain ⟨x1, hx_, h⟩ := Comp.run_bind h; replace hx_ := Comp.run_pure hx_; rw [hx_] at q14; clear hx_
 refine li_nil (nx_then ?_)
 refine wp_cond_b q14 (fun hc => ?_) (fun hc => ?_)
 ·
  replace h := Comp.run_b_t hc h; clear hc
  refine wp_seq ?_
  refine' region [_] mixed hA (.cons (fun _ _ hE hK hg => ok_assign rfl) .nil) ?zok3 ?zgd3 ?zk3
  case zok3 | zgd3 => kernel_rfl
  intro a3 w3 hA hE HF
  have q6 := ksv (HF 6) rfl rfl rfl
  clear q0
  clear q1
  clear q2
  clear q14
  clear HF
  replace h_0 := GR.v_ext _ h_0 hE
  replace h_1 := GR.v_ext _ h_1 hE
  replace hB := Base.step hB hE hO; clear hE
  refine li_nil (nx_then (wp_ret (rt_blk (rt_then ?_))))
  have h := Comp.run_pure h; subst h
  exact retPure Try.results13 hA q6 hB.ext rfl
 ·
  replace h := Comp.run_b_f hc h; clear hc
  refine wp_seq ?_
  refine' region [_, _, _, _, _, _, _, _, _] mixed hA (.cons (fun _ _ hE hK hg => ok_move (kn (hK 0 rfl) rfl q0)) (.cons (fun _ _ hE hK hg => okl_len (r := r_api_Claim) ty27 (ksv (j := 0) (hK 22 rfl) rfl rfl rfl) (rd_of (GR.v_ext _ h_0 hE))) (.cons (fun _ _ hE hK hg => ok_gtr (ksv (j := 1) (hK 23 rfl) rfl rfl rfl) rfl) (.cons (fun _ _ hE hK hg => ok_move (ksv (j := 2) (hK 24 rfl) rfl rfl rfl)) (.cons (fun _ _ hE hK hg => ok_move (kn (hK 1 rfl) rfl q1)) (.cons ?z4_5 (.cons ?z4_6 (.cons ?z4_7 (.cons (fun _ _ hE hK hg => ok_assign (ksv (j := 7) (hK 29 rfl) rfl rfl rfl)) .nil))))))))) ?zok4 ?zgd4 ?zk4
  case z4_5 => intro a' w' hE hK hg; exact okl_len (r := r_api_Sight) ty28 (ksv (j := 4) (hK 26 rfl) rfl rfl hg) (rd_of (GR.v_ext _ h_1 hE))
  case z4_6 => intro a' w' hE hK hg; exact ok_gtr (ksv (j := 5) (hK 27 rfl) rfl rfl hg) rfl
  case z4_7 => intro a' w' hE hK hg; exact ok_pick (ksv (j := 3) (hK 25 rfl) rfl rfl rfl) (fun _ => rfl) (fun hb => ksv (j := 6) (hK 28 rfl) rfl rfl (act_g1 rfl rfl hb))
  case zok4 | zgd4 => kernel_rfl
  intro a4 w4 hA hE HF
  replace q0 := kn (HF 0) rfl q0
  replace q1 := kn (HF 1) rfl q1
  replace q2 := kn (HF 2) rfl q2
  have q21 := ksv (HF 21) rfl rfl rfl
  clear q14
  clear HF
  replace h_0 := GR.v_ext _ h_0 hE
  replace h_1 := GR.v_ext _ h_1 hE
  replace hB := Base.step hB hE hO; clear hE
  obtain ⟨x2, hx_, h⟩ := Comp.run_bind h; replace hx_ := Comp.run_pure hx_; rw [hx_] at q21; clear hx_
  refine li_nil (nx_then ?_)
  refine wp_cond_b q21 (fun hc => ?_) (fun hc => ?_)
  ·
   replace h := Comp.run_b_t hc h; clear hc
   refine wp_seq ?_
   refine' region [_] mixed hA (.cons (fun _ _ hE hK hg => ok_assign rfl) .nil) ?zok5 ?zgd5 ?zk5
   case zok5 | zgd5 => kernel_rfl
   intro a5 w5 hA hE HF
   have q6 := ksv (HF 6) rfl rfl rfl
   clear q0
   clear q1
   clear q2
   clear q21
   clear HF
   replace h_0 := GR.v_ext _ h_0 hE
   replace h_1 := GR.v_ext _ h_1 hE
   replace hB := Base.step hB hE hO; clear hE
   refine li_nil (nx_then (wp_ret (rt_blk (rt_then ?_))))
   have h := Comp.run_pure h; subst h
   exact retPure Try.results13 hA q6 hB.ext rfl
  ·
   replace h := Comp.run_b_f hc h; clear hc
   refine wp_skip (nx_blk (nx_then (wp_seq ?_)))
   refine' regionT [] hA .nil ?zok6 ?zgd6 ?zk6
   case zok6 | zgd6 => kernel_rfl
   intro a6 w6 hA hE HF
   replace q0 := kn (HF 0) rfl q0
   replace q1 := kn (HF 1) rfl q1
   replace q2 := kn (HF 2) rfl q2
   clear q21
   clear HF
   replace h_0 := GR.v_ext _ h_0 hE
   replace h_1 := GR.v_ext _ h_1 hE
   replace hB := Base.step hB hE hO; clear hE
   refine l_ok (φ := SP.map0 w6.heap.size) hO hB (by exact ok_makeMap (Nat.le_refl _)) rfl fun u3 w7 hE hB' f4 => ?_
   clear hB'; obtain ⟨O5, hB', hX, f6⟩ := mapNew hO hB hE f4 1 (by decide) (fun x : Vector Int 2 => .agg (cellsA (fun x => [.int .i64 x]) x).toArray) (fun x : Bool => .bool x)
   clear hB f4; have hB := hB'; clear hB'
   replace h_0 := GR.kx _ h_0 hX (by decide)
   replace h_1 := GR.kx _ h_1 hX (by decide)
   clear hX hE
   refine put_cont hA (by decide) fun a8 hA q_ hfr => ?_
   replace q0 := (hfr 0 rfl).trans q0
   replace q1 := (hfr 1 rfl).trans q1
   replace q2 := (hfr 2 rfl).trans q2
   have q30 := q_; clear q_ hfr
   refine l_ok (φ := SP.isv (u3)) hO hB (by exact ok_assign q30) rfl fun u_ w9 hE hB' hv_ => ?_
   replace hv_ := Eq.symm hv_; subst hv_; clear hB; have hB := hB'; clear hB'
   replace h_0 := GR.v_ext _ h_0 hE
   replace h_1 := GR.v_ext _ h_1 hE
   replace f6 := f6.ext hE
   clear hE
   refine put_cont hA (by decide) fun a10 hA q_ hfr => ?_
   replace q0 := (hfr 0 rfl).trans q0
   replace q1 := (hfr 1 rfl).trans q1
   replace q2 := (hfr 2 rfl).trans q2
   replace q30 := (hfr 30 rfl).trans q30
   have q7 := q_; clear q_ hfr
   refine li_nil (nx_then ?_)
   refine seq_join (fun a w => ∃ (O40 : Tags), a.fit 83 ∧ Base (Fr w0) O w0 O40 w ∧ a.get 1 = v_1 ∧ (rSl r_api_Sight).v O40 w v_1 x_1 ∧ a.get 2 = .int .i64 x_2 ∧ (court_Check_j1 x_1 x_2 ).run n = some y) ?_ ?_
   ·
    refine wp_seq ?_
    refine' region [_, _, _] mixed hA (.cons (fun _ _ hE hK hg => ok_move (kn (hK 0 rfl) rfl q0)) (.cons (fun _ _ hE hK hg => okl_len (r := r_api_Claim) ty27 (ksv (j := 0) (hK 31 rfl) rfl rfl rfl) (rd_of (GR.v_ext _ h_0 hE))) (.cons (fun _ _ hE hK hg => ok_move rfl) .nil))) ?zok7 ?zgd7 ?zk7
    case zok7 | zgd7 => kernel_rfl
    intro a11 w11 hA hE HF
    replace q1 := kn (HF 1) rfl q1
    replace q2 := kn (HF 2) rfl q2
    replace q7 := kn (HF 7) rfl q7
    have q31 := ksv (HF 31) rfl rfl rfl
    have q32 := ksv (HF 32) rfl rfl rfl
    have q33 := ksv (HF 33) rfl rfl rfl
    clear q0
    clear HF
    replace h_0 := GR.v_ext _ h_0 hE
    replace h_1 := GR.v_ext _ h_1 hE
    replace f6 := f6.ext hE
    replace hB := Base.step hB hE hO; clear hE
    refine li_nil (nx_then (wp_block ?_))
    obtain ⟨e2, he2, hk2⟩ := Comp.run_bind h; clear h
    refine loop_m (fun m a w => ∃ (O11 : Tags) (x7 : List ((Vector Int 2) × Bool)) (x10 : Int) (u8 : Value), a.fit 83 ∧ Base (Fr w0) O w0 O11 w ∧ a.get 1 = v_1 ∧ (rSl r_api_Sight).v O11 w v_1 x_1 ∧ a.get 2 = .int .i64 x_2 ∧ a.get 7 = u8 ∧ OwnM 1 (fun x : Vector Int 2 => .agg (cellsA (fun x => [.int .i64 x]) x).toArray) (fun x : Bool => .bool x) (Fr w0) O11 w u8 x7 ∧ a.get 31 = v_0 ∧ (rSl r_api_Claim).v O11 w v_0 x_0 ∧ a.get 32 = .int .i64 (x_0.length : Int) ∧ a.get 33 = .int .i64 x10 ∧ Comp.loopN (fun s => court_Check_l2 x_0 x_2 s.1 s.2) n m (x7, x10) = some e2) (m := n) ?st2 ?_
    case st2 =>
     exact ⟨_, _, _, _, hA, hB, q1, h_1, q2, q7, f6, q31, h_0, q32, q33, Comp.run_loop he2⟩
    intro m_ a12 w12 hI
    clear hA hB he2 q1 q2 q7 q31 q32 q33 f6 h_0 h_1
    obtain ⟨O11, x7, x10, u8, hA, hB, q1, h_1, q2, q7, f9, q31, h_0, q32, q33, hl⟩ := hI
    obtain ⟨m2, hlt2, st2, h, hnext2, hdone2⟩ := Comp.loopN_succ hl; clear hl
    replace h : (court_Check_l2 x_0 x_2 x7 x10).run n = some st2 := h
    unfold court_Check_l2 at h
    refine wp_seq ?_
    refine' region [_] mixed hA (.cons (fun _ _ hE hK hg => ok_lss (kn (hK 33 rfl) rfl q33) (kn (hK 32 rfl) rfl q32)) .nil) ?zok8 ?zgd8 ?zk8
    case zok8 | zgd8 => kernel_rfl
    intro a13 w13 hA hE HF
    replace q1 := kn (HF 1) rfl q1
    replace q2 := kn (HF 2) rfl q2
    replace q7 := kn (HF 7) rfl q7
    replace q31 := kn (HF 31) rfl q31
    replace q32 := kn (HF 32) rfl q32
    replace q33 := kn (HF 33) rfl q33
    have q34 := ksv (HF 34) rfl rfl rfl
    clear HF
    replace h_1 := GR.v_ext _ h_1 hE
    replace f9 := f9.ext hE
    replace h_0 := GR.v_ext _ h_0 hE
    replace hB := Base.step hB hE hO; clear hE
    refine li_nil (nx_then (wp_seq ?_))
    refine wp_cond_b q34 (fun hc => ?_) (fun hc => ?_)
    ·
     replace h := Comp.run_b_t hc h; clear hc
     refine wp_skip (nx_then ?_)
     refine seq_join (fun a w => ∃ (O39 : Tags) (x36 : List ((Vector Int 2) × Bool)) (u37 : Value), a.fit 83 ∧ Base (Fr w0) O w0 O39 w ∧ a.get 1 = v_1 ∧ (rSl r_api_Sight).v O39 w v_1 x_1 ∧ a.get 2 = .int .i64 x_2 ∧ a.get 7 = u37 ∧ OwnM 1 (fun x : Vector Int 2 => .agg (cellsA (fun x => [.int .i64 x]) x).toArray) (fun x : Bool => .bool x) (Fr w0) O39 w u37 x36 ∧ a.get 31 = v_0 ∧ (rSl r_api_Claim).v O39 w v_0 x_0 ∧ a.get 32 = .int .i64 (x_0.length : Int) ∧ a.get 33 = .int .i64 x10 ∧ (court_Check_j3 x10 x36).run n = some st2) ?_ ?_
     ·
      refine wp_block (wp_seq ?_)
      obtain ⟨x12, hx12, h⟩ := Comp.run_bind h
      refine' regionT [SP.ptr r_api_Claim O11 x12, SP.vl r_api_Claim O11 x12] hA (.cons (fun _ _ hE hK hg => okl_idx (r := r_api_Claim) (O := O11) ty27 ty33 rfl (kn (hK 31 rfl) rfl q31) (rd_of (GR.v_ext _ h_0 hE)) (kn (hK 33 rfl) rfl q33) hx12) (.cons (fun _ _ hE hK hg => okl_ld (r := r_api_Claim) fit_api_Claim ty33 rfl rfl rfl (kspS (φ := SP.ptr r_api_Claim O11 x12) (j := 0) (hK 35 rfl) rfl rfl rfl)) .nil)) ?zok9 ?zgd9 ?zk9
      case zok9 | zgd9 => kernel_rfl
      intro a14 w14 hA hE HF
      replace q1 := kn (HF 1) rfl q1
      replace q2 := kn (HF 2) rfl q2
      replace q7 := kn (HF 7) rfl q7
      replace q31 := kn (HF 31) rfl q31
      replace q32 := kn (HF 32) rfl q32
      replace q33 := kn (HF 33) rfl q33
      have f14 := ksp (HF 36) rfl rfl rfl
      obtain ⟨u13, q36'⟩ : ∃ u, a14.get 36 = u := ⟨_, rfl⟩
      rw [q36'] at f14
      have q36 := q36'; clear q36'
      clear q34
      clear HF
      replace h_1 := GR.v_ext _ h_1 hE
      replace f9 := f9.ext hE
      replace h_0 := GR.v_ext _ h_0 hE
      replace hB := Base.step hB hE hO; clear hE
      refine l_ok (φ := SP.box w14.heap.size #[.int .i64 0, .int .i64 0, .int .i64 0, .slice none 0 0, .slice none 0 0] 33) hO hB (by exact ok_alloc (Nat.le_refl _) ty33) rfl fun u15 w15 hE hB' f16 => ?_
      clear hB'; obtain ⟨O17, b19, hB', hX, e_, f18⟩ := boxNew hO hB hE f16 2 (by decide)
      subst e_; clear hB f16; have hB := hB'; clear hB'
      replace h_1 := GR.kx _ h_1 hX (by decide)
      replace f9 := f9.kx hX (by decide)
      replace h_0 := GR.kx _ h_0 hX (by decide)
      replace f14 := GR.kx _ f14 hX (by decide)
      clear hX hE
      refine put_cont hA (by decide) fun a16 hA q_ hfr => ?_
      replace q1 := (hfr 1 rfl).trans q1
      replace q2 := (hfr 2 rfl).trans q2
      replace q7 := (hfr 7 rfl).trans q7
      replace q31 := (hfr 31 rfl).trans q31
      replace q32 := (hfr 32 rfl).trans q32
      replace q33 := (hfr 33 rfl).trans q33
      replace q36 := (hfr 36 rfl).trans q36
      have q9 := q_; clear q_ hfr
      obtain ⟨u20, u22, e_, f21, f23⟩ := openV_api_Claim f14; subst e_
      refine l_storeSub (vs := [.int .i64 x12.Party, .int .i64 x12.Kind, .int .i64 x12.Gauge, u20, u22]) (cs' := #[.int .i64 x12.Party, .int .i64 x12.Kind, .int .i64 x12.Gauge, u20, u22]) hO hB (okB_fr hB) ty33 q9 q36 rfl (by intro c_ hc_; simp only [List.mem_cons, List.not_mem_nil, or_false] at hc_; rcases hc_ with rfl | rfl | rfl | rfl | rfl <;> first | rfl | assumption | exact sl_one f21 rfl rfl | exact sl_one f23 rfl rfl) f18 (by simp) rfl fun w17 f24 hB' hX => ?_
      clear hB f18; have hB := hB'; clear hB'
      replace h_1 := GR.kx _ h_1 hX (by decide)
      replace f9 := f9.kx hX (by decide)
      replace h_0 := GR.kx _ h_0 hX (by decide)
      replace f21 := GR.kx _ f21 hX (by decide)
      replace f23 := GR.kx _ f23 hX (by decide)
      clear hX
      refine li_nil (nx_then (wp_seq (wp_seq ?_)))
      obtain ⟨x25, hx25, h⟩ := Comp.run_bind h
      refine' region [SP.isv (.agg #[.int .i64 x12.Party, .int .i64 x12.Kind, .int .i64 x12.Gauge, u20, u22]), _, SP.isv (.int .i64 x25), _] mixed hA (.cons (fun _ _ hE hK hg => ok_loadOwnAgg ty33 rfl (kn (hK 9 rfl) rfl q9) (OwnB.ext f24 hE).own rfl) (.cons (fun _ _ hE hK hg => ok_move (kn (hK 2 rfl) rfl q2)) (.cons ?z10_2 (.cons (fun _ _ hE hK hg => ok_assign (ksv (j := 2) (hK 39 rfl) rfl rfl rfl)) .nil)))) ?zok10 ?zgd10 ?zk10
      case z10_2 => intro a' w' hE hK hg; have c_ := ok_court_check (OkO.ext hB.ok hE) ⟨_, ⟨_, _, rfl, rfl, ⟨_, _, rfl, rfl, ⟨_, _, rfl, rfl, ⟨_, _, rfl, (rel_ofF (r := (rSl (rInt .i64))) (GR.v_ext _ f21 hE) rfl rfl), ⟨_, _, rfl, (rel_ofF (r := (rSl (rInt .i64))) (GR.v_ext _ f23 hE) rfl rfl), rfl⟩⟩⟩⟩⟩, rfl⟩ hx25; exact ok_call2 fn38 (ksv (j := 0) (hK 37 rfl) rfl rfl rfl) (ksv (j := 1) (hK 38 rfl) rfl rfl rfl) c_
      case zok10 | zgd10 => kernel_rfl
      intro a18 w18 hA hE HF
      replace q1 := kn (HF 1) rfl q1
      replace q2 := kn (HF 2) rfl q2
      replace q7 := kn (HF 7) rfl q7
      replace q9 := kn (HF 9) rfl q9
      have q10 := ksv (HF 10) rfl rfl rfl
      replace q31 := kn (HF 31) rfl q31
      replace q32 := kn (HF 32) rfl q32
      replace q33 := kn (HF 33) rfl q33
      clear HF
      replace h_1 := GR.v_ext _ h_1 hE
      replace f9 := f9.ext hE
      replace h_0 := GR.v_ext _ h_0 hE
      replace f24 := f24.ext hE
      replace f21 := GR.v_ext _ f21 hE
      replace f23 := GR.v_ext _ f23 hE
      replace hB := Base.step hB hE hO; clear hE
      refine li_nil (nx_then (wp_seq ?_))
      refine' region [_, _] mixed hA (.cons (fun _ _ hE hK hg => ok_move (kn (hK 10 rfl) rfl q10)) (.cons (fun _ _ hE hK hg => ok_neqI (ksv (j := 0) (hK 40 rfl) rfl rfl rfl) rfl) .nil)) ?zok11 ?zgd11 ?zk11
      case zok11 | zgd11 => kernel_rfl
      intro a19 w19 hA hE HF
      replace q1 := kn (HF 1) rfl q1
      replace q2 := kn (HF 2) rfl q2
      replace q7 := kn (HF 7) rfl q7
      replace q9 := kn (HF 9) rfl q9
      replace q10 := kn (HF 10) rfl q10
      replace q31 := kn (HF 31) rfl q31
      replace q32 := kn (HF 32) rfl q32
      replace q33 := kn (HF 33) rfl q33
      have q41 := ksv (HF 41) rfl rfl rfl
      clear HF
      replace h_1 := GR.v_ext _ h_1 hE
      replace f9 := f9.ext hE
      replace h_0 := GR.v_ext _ h_0 hE
      replace f24 := f24.ext hE
      replace f21 := GR.v_ext _ f21 hE
      replace f23 := GR.v_ext _ f23 hE
      replace hB := Base.step hB hE hO; clear hE
      refine li_nil (nx_then ?_)
      refine wp_cond_b q41 (fun hc => ?_) (fun hc => ?_)
      ·
       replace h := Comp.run_b_t hc h; clear hc
       refine wp_seq ?_
       refine' region [_, _] mixed hA (.cons (fun _ _ hE hK hg => ok_move (kn (hK 10 rfl) rfl q10)) (.cons (fun _ _ hE hK hg => ok_assign (ksv (j := 0) (hK 42 rfl) rfl rfl rfl)) .nil)) ?zok12 ?zgd12 ?zk12
       case zok12 | zgd12 => kernel_rfl
       intro a20 w20 hA hE HF
       have q6 := ksv (HF 6) rfl rfl rfl
       clear q1
       clear q2
       clear q7
       clear q9
       clear q10
       clear q31
       clear q32
       clear q33
       clear q41
       clear HF
       replace h_1 := GR.v_ext _ h_1 hE
       replace f9 := f9.ext hE
       replace h_0 := GR.v_ext _ h_0 hE
       replace f24 := f24.ext hE
       replace f21 := GR.v_ext _ f21 hE
       replace f23 := GR.v_ext _ f23 hE
       replace hB := Base.step hB hE hO; clear hE
       refine li_nil (nx_then (wp_ret (rt_then (rt_blk (rt_then (rt_then (rt_blk (rt_then ?_))))))))
       have hd_ := hdone2 _ (Comp.run_pure h).symm; clear h
       subst hd_; have h := hk2; clear hk2; try dsimp only at h
       have h := Comp.run_pure h; subst h
       exact retPure Try.results13 hA q6 hB.ext rfl
      ·
       replace h := Comp.run_b_f hc h; clear hc
       refine wp_skip (nx_then (wp_seq ?_))
       refine' regionT [SP.isv (.pointer (some ⟨b19, 1, none⟩)), SP.isv (.int .i64 x12.Kind), SP.isv (.pointer (some ⟨b19, 2, none⟩)), SP.isv (.int .i64 x12.Gauge), SP.isv (.agg (cellsA (fun x => [.int .i64 x]) (#v[x12.Kind, x12.Gauge] : Vector Int 2)).toArray), SP.box w19.heap.size (cellsA (fun x => [.int .i64 x]) (Vector.replicate 2 0)).toArray 73] hA (.cons (fun _ _ hE hK hg => ok_fieldAddr fl33_1 (kn (hK 9 rfl) rfl q9)) (.cons (fun _ _ hE hK hg => ok_loadOwn ty3 rfl (ksv (j := 0) (hK 43 rfl) rfl rfl rfl) (OwnB.ext f24 hE).own rfl) (.cons (fun _ _ hE hK hg => ok_fieldAddr fl33_2 (kn (hK 9 rfl) rfl q9)) (.cons (fun _ _ hE hK hg => ok_loadOwn ty3 rfl (ksv (j := 2) (hK 45 rfl) rfl rfl rfl) (OwnB.ext f24 hE).own rfl) (.cons ?z13_4 (.cons (fun _ _ hE hK hg => ok_alloc hE.size ty73) .nil)))))) ?zok13 ?zgd13 ?zk13
       case z13_4 => intro a' w' hE hK hg; refine okl_buildArr (vals := [(0, .int .i64 x12.Kind), (1, .int .i64 x12.Gauge)]) (out := [.int .i64 x12.Kind, .int .i64 x12.Gauge]) ty73 ty3 ?_ rfl ?_ rfl; exact (pk_cons (v := .int .i64 x12.Kind) (ksv (j := 1) (hK 44 rfl) rfl rfl rfl) (pk_cons (v := .int .i64 x12.Gauge) (ksv (j := 3) (hK 46 rfl) rfl rfl rfl) pk_nil)); exact (.cons rfl rfl rfl (leb rfl) (.cons rfl rfl rfl (leb rfl) .nil))
       case zok13 | zgd13 => kernel_rfl
       intro a21 w21 hA hE HF
       replace q1 := kn (HF 1) rfl q1
       replace q2 := kn (HF 2) rfl q2
       replace q7 := kn (HF 7) rfl q7
       replace q9 := kn (HF 9) rfl q9
       have f28 := ksp (HF 11) rfl rfl rfl
       obtain ⟨u27, q11'⟩ : ∃ u, a21.get 11 = u := ⟨_, rfl⟩
       rw [q11'] at f28
       have q11 := q11'; clear q11'
       replace q31 := kn (HF 31) rfl q31
       replace q32 := kn (HF 32) rfl q32
       replace q33 := kn (HF 33) rfl q33
       have q47 := ksv (HF 47) rfl rfl rfl
       clear q10
       clear q41
       clear HF
       obtain ⟨O29, b30, hB', hX, e_, f31⟩ := boxNew hO hB hE f28 3 (by decide)
       subst e_
       clear hB f28; have hB := hB'; clear hB'
       replace h_1 := GR.kx _ h_1 hX (by decide)
       replace f9 := f9.kx hX (by decide)
       replace h_0 := GR.kx _ h_0 hX (by decide)
       replace f24 := f24.kx hX (by decide)
       replace f21 := GR.kx _ f21 hX (by decide)
       replace f23 := GR.kx _ f23 hX (by decide)
       clear hX hE
       refine l_storeSub (vs := (cellsA (fun x => [.int .i64 x]) (#v[x12.Kind, x12.Gauge] : Vector Int 2))) (cs' := (cellsA (fun x => [.int .i64 x]) (#v[x12.Kind, x12.Gauge] : Vector Int 2)).toArray) hO hB (okB_fr hB) (ty73.szr (by simp [cellsA_len (f := (fun x => [.int .i64 x])) (k := 1) (fun _ => rfl)])) q11 q47 rfl ((show ∀ x_ : Vector Int 2, ∀ c_ ∈ (cellsA (fun x => [.int .i64 x]) x_), c_.oneCell' = true from (fun _ => (cellsA_one (fun _ => by simp [Value.oneCell']) _))) (#v[x12.Kind, x12.Gauge] : Vector Int 2)) f31 (by simp [cellsA_len (f := (fun x => [.int .i64 x])) (k := 1) (fun _ => rfl)]) (splice_all (by simp [cellsA_len (f := (fun x => [.int .i64 x])) (k := 1) (fun _ => rfl)])) fun w22 f32 hB' hX => ?_
       clear hB f31; have hB := hB'; clear hB'
       replace h_1 := GR.kx _ h_1 hX (by decide)
       replace f9 := f9.kx hX (by decide)
       replace h_0 := GR.kx _ h_0 hX (by decide)
       replace f24 := f24.kx hX (by decide)
       replace f21 := GR.kx _ f21 hX (by decide)
       replace f23 := GR.kx _ f23 hX (by decide)
       clear hX
       refine li_nil (nx_then (wp_seq ?_))
       refine' region [SP.isv (.pointer (some ⟨b19, 1, none⟩)), SP.isv (.int .i64 x12.Kind), _] mixed hA (.cons (fun _ _ hE hK hg => ok_fieldAddr fl33_1 (kn (hK 9 rfl) rfl q9)) (.cons (fun _ _ hE hK hg => ok_loadOwn ty3 rfl (ksv (j := 0) (hK 48 rfl) rfl rfl rfl) (OwnB.ext f24 hE).own rfl) (.cons (fun _ _ hE hK hg => ok_neqI (ksv (j := 1) (hK 49 rfl) rfl rfl rfl) rfl) .nil))) ?zok14 ?zgd14 ?zk14
       case zok14 | zgd14 => kernel_rfl
       intro a23 w23 hA hE HF
       replace q1 := kn (HF 1) rfl q1
       replace q2 := kn (HF 2) rfl q2
       replace q7 := kn (HF 7) rfl q7
       replace q11 := kn (HF 11) rfl q11
       replace q31 := kn (HF 31) rfl q31
       replace q32 := kn (HF 32) rfl q32
       replace q33 := kn (HF 33) rfl q33
       have q50 := ksv (HF 50) rfl rfl rfl
       clear q9
       clear HF
       replace h_1 := GR.v_ext _ h_1 hE
       replace f9 := f9.ext hE
       replace h_0 := GR.v_ext _ h_0 hE
       replace f24 := f24.ext hE
       replace f21 := GR.v_ext _ f21 hE
       replace f23 := GR.v_ext _ f23 hE
       replace f32 := f32.ext hE
       replace hB := Base.step hB hE hO; clear hE
       refine li_nil (nx_then ?_)
       refine wp_cond_b q50 (fun hc => ?_) (fun hc => ?_)
       ·
        replace h := Comp.run_b_t hc h; clear hc
        refine wp_seq (wp_seq ?_)
        refine' region [_, SP.isv (.agg (cellsA (fun x => [.int .i64 x]) (#v[x12.Kind, x12.Gauge] : Vector Int 2)).toArray), SP.isv (.bool ((mget x7 (#v[x12.Kind, x12.Gauge] : Vector Int 2)).getD false))] mixed hA (.cons (fun _ _ hE hK hg => ok_move (kn (hK 7 rfl) rfl q7)) (.cons (fun _ _ hE hK hg => ok_loadOwnAgg ty73 rfl (kn (hK 11 rfl) rfl q11) (OwnB.ext f32 hE).own (by simp [cellsA_len (f := (fun x => [.int .i64 x])) (k := 1) (fun _ => rfl)])) (.cons (fun _ _ hE hK hg => okl_lookup (y := (#v[x12.Kind, x12.Gauge] : Vector Int 2)) (z0 := false) ty71 ty4 rfl key73 (ksv (j := 0) (hK 51 rfl) rfl rfl rfl) (OwnM.ext f9 hE) (ksv (j := 1) (hK 52 rfl) rfl rfl rfl)) .nil))) ?zok15 ?zgd15 ?zk15
        case zok15 | zgd15 => kernel_rfl
        intro a24 w24 hA hE HF
        replace q1 := kn (HF 1) rfl q1
        replace q2 := kn (HF 2) rfl q2
        replace q7 := kn (HF 7) rfl q7
        replace q11 := kn (HF 11) rfl q11
        replace q31 := kn (HF 31) rfl q31
        replace q32 := kn (HF 32) rfl q32
        replace q33 := kn (HF 33) rfl q33
        have q53 := ksv (HF 53) rfl rfl rfl
        clear q50
        clear HF
        replace h_1 := GR.v_ext _ h_1 hE
        replace f9 := f9.ext hE
        replace h_0 := GR.v_ext _ h_0 hE
        replace f32 := f32.ext hE
        replace hB := Base.step hB hE hO; clear hE
        obtain ⟨x33, hx_, h⟩ := Comp.run_bind h; replace hx_ := Comp.run_pure hx_; rw [hx_] at q53; clear hx_
        refine li_nil (nx_then ?_)
        refine wp_cond_b q53 (fun hc => ?_) (fun hc => ?_)
        ·
         replace h := Comp.run_b_t hc h; clear hc
         refine wp_seq ?_
         refine' region [_] mixed hA (.cons (fun _ _ hE hK hg => ok_assign rfl) .nil) ?zok16 ?zgd16 ?zk16
         case zok16 | zgd16 => kernel_rfl
         intro a25 w25 hA hE HF
         have q6 := ksv (HF 6) rfl rfl rfl
         clear q1
         clear q2
         clear q7
         clear q11
         clear q31
         clear q32
         clear q33
         clear q53
         clear HF
         replace h_1 := GR.v_ext _ h_1 hE
         replace f9 := f9.ext hE
         replace h_0 := GR.v_ext _ h_0 hE
         replace f32 := f32.ext hE
         replace hB := Base.step hB hE hO; clear hE
         refine li_nil (nx_then (wp_ret (rt_then (rt_blk (rt_then (rt_then (rt_blk (rt_then ?_))))))))
         have hd_ := hdone2 _ (Comp.run_pure h).symm; clear h
         subst hd_; have h := hk2; clear hk2; try dsimp only at h
         have h := Comp.run_pure h; subst h
         exact retPure Try.results13 hA q6 hB.ext rfl
        ·
         replace h := Comp.run_b_f hc h; clear hc
         refine wp_skip (nx_then ?_)
         refine' regionT [_, SP.isv (.agg (cellsA (fun x => [.int .i64 x]) (#v[x12.Kind, x12.Gauge] : Vector Int 2)).toArray)] hA (.cons (fun _ _ hE hK hg => ok_move (kn (hK 7 rfl) rfl q7)) (.cons (fun _ _ hE hK hg => ok_loadOwnAgg ty73 rfl (kn (hK 11 rfl) rfl q11) (OwnB.ext f32 hE).own (by simp [cellsA_len (f := (fun x => [.int .i64 x])) (k := 1) (fun _ => rfl)])) .nil)) ?zok17 ?zgd17 ?zk17
         case zok17 | zgd17 => kernel_rfl
         intro a26 w26 hA hE HF
         replace q1 := kn (HF 1) rfl q1
         replace q2 := kn (HF 2) rfl q2
         replace q7 := kn (HF 7) rfl q7
         replace q31 := kn (HF 31) rfl q31
         replace q32 := kn (HF 32) rfl q32
         replace q33 := kn (HF 33) rfl q33
         have q54 := ksv (HF 54) rfl rfl rfl
         have q55 := ksv (HF 55) rfl rfl rfl
         clear q11
         clear q53
         clear HF
         replace h_1 := GR.v_ext _ h_1 hE
         replace f9 := f9.ext hE
         replace h_0 := GR.v_ext _ h_0 hE
         replace f32 := f32.ext hE
         replace hB := Base.step hB hE hO; clear hE
         refine l_mapUpdate (y := (#v[x12.Kind, x12.Gauge] : Vector Int 2)) (z := true) hO hB (okB_fr hB) ty71 key73 q54 f9 q55 rfl fun w27 f35 hB' hX => ?_
         clear hB f9; have hB := hB'; clear hB'
         replace h_1 := GR.kx _ h_1 hX (by decide)
         replace h_0 := GR.kx _ h_0 hX (by decide)
         clear hX
         refine li_nil (nx_blk (nx_then ?_))
         exact ⟨_, _, _, hA, hB, q1, h_1, q2, q7, f35, q31, h_0, q32, q33, h⟩
       ·
        replace h := Comp.run_b_f hc h; clear hc
        refine wp_skip (nx_blk (nx_then ?_))
        exact ⟨_, _, _, hA, hB, q1, h_1, q2, q7, f9, q31, h_0, q32, q33, h⟩
     intro a28 w28 hI
     clear hA hB h q1 q2 q7 q31 q32 q33 q34 f9 h_0 h_1
     obtain ⟨O39, x36, u37, hA, hB, q1, h_1, q2, q7, f38, q31, h_0, q32, q33, h⟩ := hI
     unfold court_Check_j3 at h
     refine' region [_, _] mixed hA (.cons (fun _ _ hE hK hg => ok_add (kn (hK 33 rfl) rfl q33) rfl) (.cons (fun _ _ hE hK hg => ok_move (ksv (j := 0) (hK 56 rfl) rfl rfl rfl)) .nil)) ?zok18 ?zgd18 ?zk18
     case zok18 | zgd18 => kernel_rfl
     intro a29 w29 hA hE HF
     replace q1 := kn (HF 1) rfl q1
     replace q2 := kn (HF 2) rfl q2
     replace q7 := kn (HF 7) rfl q7
     replace q31 := kn (HF 31) rfl q31
     replace q32 := kn (HF 32) rfl q32
     have q33' := ksv (HF 33) rfl rfl rfl
     replace q33 := q33'; clear q33'
     clear HF
     replace h_1 := GR.v_ext _ h_1 hE
     replace f38 := f38.ext hE
     replace h_0 := GR.v_ext _ h_0 hE
     replace hB := Base.step hB hE hO; clear hE
     refine li_nil (nx_then ?_)
     have h := hnext2 _ (Comp.run_pure h).symm
     refine ⟨m2, hlt2, ?_⟩
     exact ⟨_, _, _, _, hA, hB, q1, h_1, q2, q7, f38, q31, h_0, q32, q33, h⟩
    ·
     replace h := Comp.run_b_f hc h; clear hc
     refine wp_exit (ex_then (ex_then (ex_same ?_)))
     have hd_ := hdone2 _ (Comp.run_pure h).symm; clear h
     subst hd_; have h := hk2; clear hk2; try dsimp only at h
     refine nx_then ?_
     exact ⟨_, hA, hB, q1, h_1, q2, h⟩
   intro a30 w30 hI
   clear hA hB h q0 q1 q2 q7 f6 h_0 h_1
   obtain ⟨O40, hA, hB, q1, h_1, q2, h⟩ := hI
   unfold court_Check_j1 at h
   refine seq_join (fun a w => ∃ (O52 : Tags), a.fit 83 ∧ Base (Fr w0) O w0 O52 w ∧ (court_Check_j4 ).run n = some y) ?_ ?_
   ·
    refine wp_seq ?_
    refine' region [_, _, _] mixed hA (.cons (fun _ _ hE hK hg => ok_move (kn (hK 1 rfl) rfl q1)) (.cons (fun _ _ hE hK hg => okl_len (r := r_api_Sight) ty28 (ksv (j := 0) (hK 57 rfl) rfl rfl rfl) (rd_of (GR.v_ext _ h_1 hE))) (.cons (fun _ _ hE hK hg => ok_move rfl) .nil))) ?zok19 ?zgd19 ?zk19
    case zok19 | zgd19 => kernel_rfl
    intro a31 w31 hA hE HF
    replace q2 := kn (HF 2) rfl q2
    have q57 := ksv (HF 57) rfl rfl rfl
    have q58 := ksv (HF 58) rfl rfl rfl
    have q59 := ksv (HF 59) rfl rfl rfl
    clear q1
    clear HF
    replace h_1 := GR.v_ext _ h_1 hE
    replace hB := Base.step hB hE hO; clear hE
    refine li_nil (nx_then (wp_block ?_))
    obtain ⟨e5, he5, hk5⟩ := Comp.run_bind h; clear h
    refine loop_m (fun m a w => ∃ (O42 : Tags) (x41 : Int), a.fit 83 ∧ Base (Fr w0) O w0 O42 w ∧ a.get 2 = .int .i64 x_2 ∧ a.get 57 = v_1 ∧ (rSl r_api_Sight).v O42 w v_1 x_1 ∧ a.get 58 = .int .i64 (x_1.length : Int) ∧ a.get 59 = .int .i64 x41 ∧ Comp.loopN (fun s => court_Check_l5 x_1 x_2 s) n m x41 = some e5) (m := n) ?st5 ?_
    case st5 =>
     exact ⟨_, _, hA, hB, q2, q57, h_1, q58, q59, Comp.run_loop he5⟩
    intro m_ a32 w32 hI
    clear hA hB he5 q2 q57 q58 q59 h_1
    obtain ⟨O42, x41, hA, hB, q2, q57, h_1, q58, q59, hl⟩ := hI
    obtain ⟨m5, hlt5, st5, h, hnext5, hdone5⟩ := Comp.loopN_succ hl; clear hl
    replace h : (court_Check_l5 x_1 x_2 x41).run n = some st5 := h
    unfold court_Check_l5 at h
    refine wp_seq ?_
    refine' region [_] mixed hA (.cons (fun _ _ hE hK hg => ok_lss (kn (hK 59 rfl) rfl q59) (kn (hK 58 rfl) rfl q58)) .nil) ?zok20 ?zgd20 ?zk20
    case zok20 | zgd20 => kernel_rfl
    intro a33 w33 hA hE HF
    replace q2 := kn (HF 2) rfl q2
    replace q57 := kn (HF 57) rfl q57
    replace q58 := kn (HF 58) rfl q58
    replace q59 := kn (HF 59) rfl q59
    have q60 := ksv (HF 60) rfl rfl rfl
    clear HF
    replace h_1 := GR.v_ext _ h_1 hE
    replace hB := Base.step hB hE hO; clear hE
    refine li_nil (nx_then (wp_seq ?_))
    refine wp_cond_b q60 (fun hc => ?_) (fun hc => ?_)
    ·
     replace h := Comp.run_b_t hc h; clear hc
     refine wp_skip (nx_then (wp_seq (wp_block (wp_seq ?_))))
     obtain ⟨x43, hx43, h⟩ := Comp.run_bind h
     refine' regionT [SP.ptr r_api_Sight O42 x43, SP.isv (.agg #[.int .i64 x43.Gauge, .int .i64 x43.Cell, .bool x43.There]), SP.box w33.heap.size #[.int .i64 0, .int .i64 0, .bool false] 64] hA (.cons (fun _ _ hE hK hg => okl_idx (r := r_api_Sight) (O := O42) ty28 ty64 rfl (kn (hK 57 rfl) rfl q57) (rd_of (GR.v_ext _ h_1 hE)) (kn (hK 59 rfl) rfl q59) hx43) (.cons (fun _ _ hE hK hg => okl_ldr r_api_Sight fit_api_Sight ty64 rfl rfl rfl (kspS (φ := SP.ptr r_api_Sight O42 x43) (j := 0) (hK 61 rfl) rfl rfl rfl) (fun _ _ _ h => rC_v.1 h)) (.cons (fun _ _ hE hK hg => ok_alloc hE.size ty64) .nil))) ?zok21 ?zgd21 ?zk21
     case zok21 | zgd21 => kernel_rfl
     intro a34 w34 hA hE HF
     replace q2 := kn (HF 2) rfl q2
     have f45 := ksp (HF 13) rfl rfl rfl
     obtain ⟨u44, q13'⟩ : ∃ u, a34.get 13 = u := ⟨_, rfl⟩
     rw [q13'] at f45
     have q13 := q13'; clear q13'
     replace q57 := kn (HF 57) rfl q57
     replace q58 := kn (HF 58) rfl q58
     replace q59 := kn (HF 59) rfl q59
     have q62 := ksv (HF 62) rfl rfl rfl
     clear q60
     clear HF
     obtain ⟨O46, b47, hB', hX, e_, f48⟩ := boxNew hO hB hE f45 4 (by decide)
     subst e_
     clear hB f45; have hB := hB'; clear hB'
     replace h_1 := GR.kx _ h_1 hX (by decide)
     clear hX hE
     refine l_storeSub (vs := [.int .i64 x43.Gauge, .int .i64 x43.Cell, .bool x43.There]) (cs' := #[.int .i64 x43.Gauge, .int .i64 x43.Cell, .bool x43.There]) hO hB (okB_fr hB) ty64 q13 q62 rfl (by simp [Value.oneCell']) f48 (by simp) rfl fun w35 f49 hB' hX => ?_
     clear hB f48; have hB := hB'; clear hB'
     replace h_1 := GR.kx _ h_1 hX (by decide)
     clear hX
     refine li_nil (nx_then (wp_seq ?_))
     refine' region [SP.isv (.pointer (some ⟨b47, 0, none⟩)), SP.isv (.int .i64 x43.Gauge), _, _, SP.isv (.pointer (some ⟨b47, 0, none⟩)), SP.isv (.int .i64 x43.Gauge), _, _, _, SP.isv (.pointer (some ⟨b47, 1, none⟩)), SP.isv (.int .i64 x43.Cell), _, _, _, SP.isv (.pointer (some ⟨b47, 1, none⟩)), SP.isv (.int .i64 x43.Cell), _, _, _] mixed hA (.cons (fun _ _ hE hK hg => ok_fieldAddr fl64_0 (kn (hK 13 rfl) rfl q13)) (.cons (fun _ _ hE hK hg => ok_loadOwn ty3 rfl (ksv (j := 0) (hK 63 rfl) rfl rfl rfl) (OwnB.ext f49 hE).own rfl) (.cons (fun _ _ hE hK hg => ok_lss (ksv (j := 1) (hK 64 rfl) rfl rfl rfl) rfl) (.cons (fun _ _ hE hK hg => ok_move (ksv (j := 2) (hK 65 rfl) rfl rfl rfl)) (.cons (fun _ _ hE hK hg => ok_fieldAddr fl64_0 (kn (hK 13 rfl) rfl q13)) (.cons ?z22_5 (.cons ?z22_6 (.cons ?z22_7 (.cons (fun _ _ hE hK hg => ok_move (ksv (j := 7) (hK 70 rfl) rfl rfl rfl)) (.cons (fun _ _ hE hK hg => ok_fieldAddr fl64_1 (kn (hK 13 rfl) rfl q13)) (.cons ?z22_10 (.cons ?z22_11 (.cons ?z22_12 (.cons (fun _ _ hE hK hg => ok_move (ksv (j := 12) (hK 75 rfl) rfl rfl rfl)) (.cons (fun _ _ hE hK hg => ok_fieldAddr fl64_1 (kn (hK 13 rfl) rfl q13)) (.cons ?z22_15 (.cons (fun _ _ hE hK hg => ok_move (kn (hK 2 rfl) rfl q2)) (.cons ?z22_17 (.cons ?z22_18 .nil))))))))))))))))))) ?zok22 ?zgd22 ?zk22
     case z22_5 => intro a' w' hE hK hg; exact ok_loadOwn ty3 rfl (ksv (j := 4) (hK 67 rfl) rfl rfl hg) (OwnB.ext f49 hE).own rfl
     case z22_6 => intro a' w' hE hK hg; exact ok_geq (ksv (j := 5) (hK 68 rfl) rfl rfl hg) rfl
     case z22_7 => intro a' w' hE hK hg; exact ok_pick (ksv (j := 3) (hK 66 rfl) rfl rfl rfl) (fun _ => rfl) (fun hb => ksv (j := 6) (hK 69 rfl) rfl rfl (act_g1 rfl rfl hb))
     case z22_10 => intro a' w' hE hK hg; exact ok_loadOwn ty3 rfl (ksv (j := 9) (hK 72 rfl) rfl rfl hg) (OwnB.ext f49 hE).own rfl
     case z22_11 => intro a' w' hE hK hg; exact ok_lss (ksv (j := 10) (hK 73 rfl) rfl rfl hg) rfl
     case z22_12 => intro a' w' hE hK hg; exact ok_pick (ksv (j := 8) (hK 71 rfl) rfl rfl rfl) (fun _ => rfl) (fun hb => ksv (j := 11) (hK 74 rfl) rfl rfl (act_g1 rfl rfl hb))
     case z22_15 => intro a' w' hE hK hg; exact ok_loadOwn ty3 rfl (ksv (j := 14) (hK 77 rfl) rfl rfl hg) (OwnB.ext f49 hE).own rfl
     case z22_17 => intro a' w' hE hK hg; exact ok_geq (ksv (j := 15) (hK 78 rfl) rfl rfl hg) (ksv (j := 16) (hK 79 rfl) rfl rfl hg)
     case z22_18 => intro a' w' hE hK hg; exact ok_pick (ksv (j := 13) (hK 76 rfl) rfl rfl rfl) (fun _ => rfl) (fun hb => ksv (j := 17) (hK 80 rfl) rfl rfl (act_g1 rfl rfl hb))
     case zok22 | zgd22 => kernel_rfl
     intro a36 w36 hA hE HF
     replace q2 := kn (HF 2) rfl q2
     replace q57 := kn (HF 57) rfl q57
     replace q58 := kn (HF 58) rfl q58
     replace q59 := kn (HF 59) rfl q59
     have q81 := ksv (HF 81) rfl rfl rfl
     clear q13
     clear HF
     replace h_1 := GR.v_ext _ h_1 hE
     replace f49 := f49.ext hE
     replace hB := Base.step hB hE hO; clear hE
     obtain ⟨x50, hx_, h⟩ := Comp.run_bind h; replace hx_ := Comp.run_pure hx_; rw [hx_] at q81; clear hx_
     refine li_nil (nx_then ?_)
     refine wp_cond_b q81 (fun hc => ?_) (fun hc => ?_)
     ·
      replace h := Comp.run_b_t hc h; clear hc
      refine wp_seq ?_
      refine' region [_] mixed hA (.cons (fun _ _ hE hK hg => ok_assign rfl) .nil) ?zok23 ?zgd23 ?zk23
      case zok23 | zgd23 => kernel_rfl
      intro a37 w37 hA hE HF
      have q6 := ksv (HF 6) rfl rfl rfl
      clear q2
      clear q57
      clear q58
      clear q59
      clear q81
      clear HF
      replace h_1 := GR.v_ext _ h_1 hE
      replace hB := Base.step hB hE hO; clear hE
      refine li_nil (nx_then (wp_ret (rt_blk (rt_then (rt_then (rt_blk (rt_then ?_)))))))
      have hd_ := hdone5 _ (Comp.run_pure h).symm; clear h
      subst hd_; have h := hk5; clear hk5; try dsimp only at h
      have h := Comp.run_pure h; subst h
      exact retPure Try.results13 hA q6 hB.ext rfl
     ·
      replace h := Comp.run_b_f hc h; clear hc
      refine wp_skip (nx_blk (nx_then ?_))
      refine' region [_, _] mixed hA (.cons (fun _ _ hE hK hg => ok_add (kn (hK 59 rfl) rfl q59) rfl) (.cons (fun _ _ hE hK hg => ok_move (ksv (j := 0) (hK 82 rfl) rfl rfl rfl)) .nil)) ?zok24 ?zgd24 ?zk24
      case zok24 | zgd24 => kernel_rfl
      intro a38 w38 hA hE HF
      replace q2 := kn (HF 2) rfl q2
      replace q57 := kn (HF 57) rfl q57
      replace q58 := kn (HF 58) rfl q58
      have q59' := ksv (HF 59) rfl rfl rfl
      replace q59 := q59'; clear q59'
      clear q81
      clear HF
      replace h_1 := GR.v_ext _ h_1 hE
      replace hB := Base.step hB hE hO; clear hE
      refine li_nil (nx_then ?_)
      have h := hnext5 _ (Comp.run_pure h).symm
      refine ⟨m5, hlt5, ?_⟩
      exact ⟨_, _, hA, hB, q2, q57, h_1, q58, q59, h⟩
    ·
     replace h := Comp.run_b_f hc h; clear hc
     refine wp_exit (ex_then (ex_then (ex_same ?_)))
     have hd_ := hdone5 _ (Comp.run_pure h).symm; clear h
     subst hd_; have h := hk5; clear hk5; try dsimp only at h
     refine nx_then ?_
     exact ⟨_, hA, hB, h⟩
   intro a39 w39 hI
   clear hA hB h q1 q2 h_1
   obtain ⟨O52, hA, hB, h⟩ := hI
   unfold court_Check_j4 at h
   refine wp_seq ?_
   refine' region [_] mixed hA (.cons (fun _ _ hE hK hg => ok_assign rfl) .nil) ?zok25 ?zgd25 ?zk25
   case zok25 | zgd25 => kernel_rfl
   intro a40 w40 hA hE HF
   have q6 := ksv (HF 6) rfl rfl rfl
   clear HF
   replace hB := Base.step hB hE hO; clear hE
   refine li_nil (nx_then (wp_ret ?_))
   have h := Comp.run_pure h; subst h
   exact retPure Try.results13 hA q6 hB.ext rfl
set_option maxHeartbeats 4000000 in
theorem ok_court_voices {O : Tags} {w0 : World} (hO : OkO O w0) {v_0 : Value} {x_0 : List api_Claim} (h_0 : (rSl r_api_Claim).v O w0 v_0 x_0) {v_1 : Value} {x_1 : List api_Sight} (h_1 : (rSl r_api_Sight).v O w0 v_1 x_1) {n : Nat} {y : (List court_voice)} (h : (court_voices x_0 x_1).run n = some y) : Pure Try.prog 41 #[v_0, v_1] w0 (SP.ownr r_court_voice 94 (w0.heap.size) O y).holds := by
 unfold court_voices at h
 refine pure_of_wp Try.func41 rfl 62 Try.ntmps41 (by simp) fun a0 hA hs0 => ?_
 have q0 : a0.get 0 = v_0 := hs0 0 _ rfl
 have q1 : a0.get 1 = v_1 := hs0 1 _ rfl
 clear hs0
 have hB : Base (Fr w0) O w0 O w0 := Base.start hO
 refine wp_seq ?_
 refine' region [_] mixed hA (.cons (fun _ _ hE hK hg => ok_assign rfl) .nil) ?zok1 ?zgd1 ?zk1
 case zok1 | zgd1 => kernel_rfl
 intro a1 w1 hA hE HF
 replace q0 := kn (HF 0) rfl q0
 replace q1 := kn (HF 1) rfl q1
 clear HF
 replace h_0 := GR.v_ext _ h_0 hE
 replace h_1 := GR.v_ext _ h_1 hE
 replace hB := Base.step hB hE hO; clear hE
 refine li_nil (nx_then (wp_seq ?_))
 refine' region [_] mixed hA (.cons (fun _ _ hE hK hg => ok_assign rfl) .nil) ?zok2 ?zgd2 ?zk2
 case zok2 | zgd2 => kernel_rfl
 intro a2 w2 hA hE HF
 replace q0 := kn (HF 0) rfl q0
 replace q1 := kn (HF 1) rfl q1
 have q5 := ksv (HF 5) rfl rfl rfl
 clear HF
 replace h_0 := GR.v_ext _ h_0 hE
 replace h_1 := GR.v_ext _ h_1 hE
 replace hB := Base.step hB hE hO; clear hE
 refine li_nil (nx_then ?_)
 refine seq_join (fun a w => ∃ (O76 : Tags) (x73 : List court_voice) (u74 : Value), a.fit 62 ∧ Base (Fr w0) O w0 O76 w ∧ a.get 5 = u74 ∧ OwnL 1 r_court_voice 94 (Fr w0) O76 w u74 x73 ∧ (court_voices_j1 x73).run n = some y) ?_ ?_
 ·
  refine wp_seq ?_
  refine' region [_, _, _] mixed hA (.cons (fun _ _ hE hK hg => ok_move (kn (hK 0 rfl) rfl q0)) (.cons (fun _ _ hE hK hg => okl_len (r := r_api_Claim) ty27 (ksv (j := 0) (hK 11 rfl) rfl rfl rfl) (rd_of (GR.v_ext _ h_0 hE))) (.cons (fun _ _ hE hK hg => ok_move rfl) .nil))) ?zok3 ?zgd3 ?zk3
  case zok3 | zgd3 => kernel_rfl
  intro a3 w3 hA hE HF
  replace q1 := kn (HF 1) rfl q1
  replace q5 := kn (HF 5) rfl q5
  have q11 := ksv (HF 11) rfl rfl rfl
  have q12 := ksv (HF 12) rfl rfl rfl
  have q13 := ksv (HF 13) rfl rfl rfl
  clear q0
  clear HF
  replace h_0 := GR.v_ext _ h_0 hE
  replace h_1 := GR.v_ext _ h_1 hE
  replace hB := Base.step hB hE hO; clear hE
  refine li_nil (nx_then (wp_block ?_))
  obtain ⟨e2, he2, hk2⟩ := Comp.run_bind h; clear h
  refine loop_m (fun m a w => ∃ (O5 : Tags) (x1 : List court_voice) (x4 : Int) (u2 : Value), a.fit 62 ∧ Base (Fr w0) O w0 O5 w ∧ a.get 1 = v_1 ∧ (rSl r_api_Sight).v O5 w v_1 x_1 ∧ a.get 5 = u2 ∧ OwnL 1 r_court_voice 94 (Fr w0) O5 w u2 x1 ∧ a.get 11 = v_0 ∧ (rSl r_api_Claim).v O5 w v_0 x_0 ∧ a.get 12 = .int .i64 (x_0.length : Int) ∧ a.get 13 = .int .i64 x4 ∧ Comp.loopN (fun s => court_voices_l2 x_0 x_1 s.1 s.2) n m (x1, x4) = some e2) (m := n) ?st2 ?_
  case st2 =>
   exact ⟨_, _, _, _, hA, hB, q1, h_1, q5, (OwnL.nil _ _ _ _ _ _), q11, h_0, q12, q13, Comp.run_loop he2⟩
  intro m_ a4 w4 hI
  clear hA hB he2 q1 q5 q11 q12 q13 h_0 h_1
  obtain ⟨O5, x1, x4, u2, hA, hB, q1, h_1, q5, f3, q11, h_0, q12, q13, hl⟩ := hI
  obtain ⟨m2, hlt2, st2, h, hnext2, hdone2⟩ := Comp.loopN_succ hl; clear hl
  replace h : (court_voices_l2 x_0 x_1 x1 x4).run n = some st2 := h
  unfold court_voices_l2 at h
  refine wp_seq ?_
  refine' region [_] mixed hA (.cons (fun _ _ hE hK hg => ok_lss (kn (hK 13 rfl) rfl q13) (kn (hK 12 rfl) rfl q12)) .nil) ?zok4 ?zgd4 ?zk4
  case zok4 | zgd4 => kernel_rfl
  intro a5 w5 hA hE HF
  replace q1 := kn (HF 1) rfl q1
  replace q5 := kn (HF 5) rfl q5
  replace q11 := kn (HF 11) rfl q11
  replace q12 := kn (HF 12) rfl q12
  replace q13 := kn (HF 13) rfl q13
  have q14 := ksv (HF 14) rfl rfl rfl
  clear HF
  replace h_1 := GR.v_ext _ h_1 hE
  replace f3 := f3.ext hE
  replace h_0 := GR.v_ext _ h_0 hE
  replace hB := Base.step hB hE hO; clear hE
  refine li_nil (nx_then (wp_seq ?_))
  refine wp_cond_b q14 (fun hc => ?_) (fun hc => ?_)
  ·
   replace h := Comp.run_b_t hc h; clear hc
   refine wp_skip (nx_then ?_)
   refine seq_join (fun a w => ∃ (O70 : Tags) (x25 : List court_voice) (u26 : Value), a.fit 62 ∧ Base (Fr w0) O w0 O70 w ∧ a.get 1 = v_1 ∧ (rSl r_api_Sight).v O70 w v_1 x_1 ∧ a.get 5 = u26 ∧ OwnL 1 r_court_voice 94 (Fr w0) O70 w u26 x25 ∧ a.get 11 = v_0 ∧ (rSl r_api_Claim).v O70 w v_0 x_0 ∧ a.get 12 = .int .i64 (x_0.length : Int) ∧ a.get 13 = .int .i64 x4 ∧ (court_voices_j3 x4 x25).run n = some st2) ?_ ?_
   ·
    refine wp_block (wp_seq ?_)
    obtain ⟨x6, hx6, h⟩ := Comp.run_bind h
    refine' regionT [SP.ptr r_api_Claim O5 x6, SP.vl r_api_Claim O5 x6] hA (.cons (fun _ _ hE hK hg => okl_idx (r := r_api_Claim) (O := O5) ty27 ty33 rfl (kn (hK 11 rfl) rfl q11) (rd_of (GR.v_ext _ h_0 hE)) (kn (hK 13 rfl) rfl q13) hx6) (.cons (fun _ _ hE hK hg => okl_ld (r := r_api_Claim) fit_api_Claim ty33 rfl rfl rfl (kspS (φ := SP.ptr r_api_Claim O5 x6) (j := 0) (hK 15 rfl) rfl rfl rfl)) .nil)) ?zok5 ?zgd5 ?zk5
    case zok5 | zgd5 => kernel_rfl
    intro a6 w6 hA hE HF
    replace q1 := kn (HF 1) rfl q1
    replace q5 := kn (HF 5) rfl q5
    replace q11 := kn (HF 11) rfl q11
    replace q12 := kn (HF 12) rfl q12
    replace q13 := kn (HF 13) rfl q13
    have f8 := ksp (HF 16) rfl rfl rfl
    obtain ⟨u7, q16'⟩ : ∃ u, a6.get 16 = u := ⟨_, rfl⟩
    rw [q16'] at f8
    have q16 := q16'; clear q16'
    clear q14
    clear HF
    replace h_1 := GR.v_ext _ h_1 hE
    replace f3 := f3.ext hE
    replace h_0 := GR.v_ext _ h_0 hE
    replace hB := Base.step hB hE hO; clear hE
    refine l_ok (φ := SP.box w6.heap.size #[.int .i64 0, .int .i64 0, .int .i64 0, .slice none 0 0, .slice none 0 0] 33) hO hB (by exact ok_alloc (Nat.le_refl _) ty33) rfl fun u9 w7 hE hB' f10 => ?_
    clear hB'; obtain ⟨O11, b13, hB', hX, e_, f12⟩ := boxNew hO hB hE f10 2 (by decide)
    subst e_; clear hB f10; have hB := hB'; clear hB'
    replace h_1 := GR.kx _ h_1 hX (by decide)
    replace f3 := f3.kx hX (by decide) (by decide)
    replace h_0 := GR.kx _ h_0 hX (by decide)
    replace f8 := GR.kx _ f8 hX (by decide)
    clear hX hE
    refine put_cont hA (by decide) fun a8 hA q_ hfr => ?_
    replace q1 := (hfr 1 rfl).trans q1
    replace q5 := (hfr 5 rfl).trans q5
    replace q11 := (hfr 11 rfl).trans q11
    replace q12 := (hfr 12 rfl).trans q12
    replace q13 := (hfr 13 rfl).trans q13
    replace q16 := (hfr 16 rfl).trans q16
    have q7 := q_; clear q_ hfr
    obtain ⟨u14, u16, e_, f15, f17⟩ := openV_api_Claim f8; subst e_
    refine l_storeSub (vs := [.int .i64 x6.Party, .int .i64 x6.Kind, .int .i64 x6.Gauge, u14, u16]) (cs' := #[.int .i64 x6.Party, .int .i64 x6.Kind, .int .i64 x6.Gauge, u14, u16]) hO hB (okB_fr hB) ty33 q7 q16 rfl (by intro c_ hc_; simp only [List.mem_cons, List.not_mem_nil, or_false] at hc_; rcases hc_ with rfl | rfl | rfl | rfl | rfl <;> first | rfl | assumption | exact sl_one f15 rfl rfl | exact sl_one f17 rfl rfl) f12 (by simp) rfl fun w9 f18 hB' hX => ?_
    clear hB f12; have hB := hB'; clear hB'
    replace h_1 := GR.kx _ h_1 hX (by decide)
    replace f3 := f3.kx hX (by decide) (by decide)
    replace h_0 := GR.kx _ h_0 hX (by decide)
    replace f15 := GR.kx _ f15 hX (by decide)
    replace f17 := GR.kx _ f17 hX (by decide)
    clear hX
    refine li_nil (nx_then (wp_seq ?_))
    refine' region [SP.isv (.pointer (some ⟨b13, 1, none⟩)), SP.isv (.int .i64 x6.Kind)] mixed hA (.cons (fun _ _ hE hK hg => ok_fieldAddr fl33_1 (kn (hK 7 rfl) rfl q7)) (.cons (fun _ _ hE hK hg => ok_loadOwn ty3 rfl (ksv (j := 0) (hK 17 rfl) rfl rfl rfl) (OwnB.ext f18 hE).own rfl) .nil)) ?zok6 ?zgd6 ?zk6
    case zok6 | zgd6 => kernel_rfl
    intro a10 w10 hA hE HF
    replace q1 := kn (HF 1) rfl q1
    replace q5 := kn (HF 5) rfl q5
    replace q7 := kn (HF 7) rfl q7
    replace q11 := kn (HF 11) rfl q11
    replace q12 := kn (HF 12) rfl q12
    replace q13 := kn (HF 13) rfl q13
    have q18 := ksv (HF 18) rfl rfl rfl
    clear HF
    replace h_1 := GR.v_ext _ h_1 hE
    replace f3 := f3.ext hE
    replace h_0 := GR.v_ext _ h_0 hE
    replace f18 := f18.ext hE
    replace f15 := GR.v_ext _ f15 hE
    replace f17 := GR.v_ext _ f17 hE
    replace hB := Base.step hB hE hO; clear hE
    refine li_nil (nx_then (wp_block (wp_seq ?_)))
    refine' region [_, _] mixed hA (.cons (fun _ _ hE hK hg => ok_eqlI (kn (hK 18 rfl) rfl q18) rfl) (.cons (fun _ _ hE hK hg => ok_assign (ksv (j := 0) (hK 41 rfl) rfl rfl rfl)) .nil)) ?zok7 ?zgd7 ?zk7
    case zok7 | zgd7 => kernel_rfl
    intro a11 w11 hA hE HF
    replace q1 := kn (HF 1) rfl q1
    replace q5 := kn (HF 5) rfl q5
    replace q7 := kn (HF 7) rfl q7
    replace q11 := kn (HF 11) rfl q11
    replace q12 := kn (HF 12) rfl q12
    replace q13 := kn (HF 13) rfl q13
    replace q18 := kn (HF 18) rfl q18
    have q40 := ksv (HF 40) rfl rfl rfl
    clear HF
    replace h_1 := GR.v_ext _ h_1 hE
    replace f3 := f3.ext hE
    replace h_0 := GR.v_ext _ h_0 hE
    replace f18 := f18.ext hE
    replace f15 := GR.v_ext _ f15 hE
    replace f17 := GR.v_ext _ f17 hE
    replace hB := Base.step hB hE hO; clear hE
    refine li_nil (nx_then ?_)
    refine wp_cond_b q40 (fun hc => ?_) (fun hc => ?_)
    ·
     replace h := Comp.run_b_t hc h; clear hc
     refine' regionT [_, SP.isv (.pointer (some ⟨b13, 4, none⟩)), SP.isv (u16), SP.isv (.agg #[u16]), SP.vl r_court_voice O11 (court_voice.c101 (court_blank.mk x6.Touched)), SP.vl (rSl r_court_voice) O11 [(court_voice.c101 (court_blank.mk x6.Touched))]] hA (.cons (fun _ _ hE hK hg => ok_move (kn (hK 5 rfl) rfl q5)) (.cons (fun _ _ hE hK hg => ok_fieldAddr fl33_4 (kn (hK 7 rfl) rfl q7)) (.cons (fun _ _ hE hK hg => ok_loadOwn ty23 rfl (ksv (j := 1) (hK 43 rfl) rfl rfl rfl) (OwnB.ext f18 hE).own rfl) (.cons (fun _ _ hE hK hg => okl_build plc101 ty101 (pk_cons (v := u16) (ksv (j := 2) (hK 44 rfl) rfl rfl rfl) pk_nil) rfl (.cons rfl (sl_cells (GR.v_ext _ f17 hE) rfl rfl) rfl (leb rfl) .nil) rfl) (.cons ?z8_4 (.cons (fun _ _ hE hK hg => okl_buildSliceV (r := r_court_voice) (fun _ => rfl) rfl (OkO.ext hB.ok hE) ty75 ty94 (parts_cons rfl parts_nil) ⟨(kspS (φ := SP.vl r_court_voice O11 (court_voice.c101 (court_blank.mk x6.Touched))) (j := 4) (hK 46 rfl) rfl rfl rfl), trivial⟩ rfl (by decide)) .nil)))))) ?zok8 ?zgd8 ?zk8
     case z8_4 => intro a' w' hE hK hg; refine ok_weak (okl_mkIface ty101 rfl (ksv (j := 3) (hK 45 rfl) rfl rfl rfl)) ?_; exact fun w_ v_ hE2_ h_ => by { replace h_ : v_ = _ := h_; subst h_; exact rIf_v.2 ⟨_, rfl, ⟨_, ⟨_, _, rfl, (rel_ofF (r := (rSl (rInt .i64))) (GR.v_ext _ (GR.v_ext _ f17 hE) hE2_) rfl rfl), rfl⟩, rfl⟩⟩ }
     case zok8 | zgd8 => kernel_rfl
     intro a12 w12 hA hE HF
     replace q1 := kn (HF 1) rfl q1
     replace q5 := kn (HF 5) rfl q5
     replace q11 := kn (HF 11) rfl q11
     replace q12 := kn (HF 12) rfl q12
     replace q13 := kn (HF 13) rfl q13
     have q42 := ksv (HF 42) rfl rfl rfl
     have f20 := ksp (HF 47) rfl rfl rfl
     obtain ⟨u19, q47'⟩ : ∃ u, a12.get 47 = u := ⟨_, rfl⟩
     rw [q47'] at f20
     have q47 := q47'; clear q47'
     clear q7
     clear q18
     clear q40
     clear HF
     replace h_1 := GR.v_ext _ h_1 hE
     replace f3 := f3.ext hE
     replace h_0 := GR.v_ext _ h_0 hE
     replace f18 := f18.ext hE
     replace f15 := GR.v_ext _ f15 hE
     replace f17 := GR.v_ext _ f17 hE
     replace hB := Base.step hB hE hO; clear hE
     obtain ⟨x21, hx21, h⟩ := Comp.run_bind h
     refine l_append (r := r_court_voice) (fun _ => rfl) rfl ty75 ty94 rfl (by decide) hO hB (okB_fr hB) q42 f3 q47 (rd_of f20) hx21 (by decide) fun u22 w13 O23 f24 hB' hX => ?_
     clear hB; have hB := hB'; clear hB'
     clear f3
     replace h_1 := GR.kx _ h_1 hX (by decide)
     replace h_0 := GR.kx _ h_0 hX (by decide)
     replace f20 := GR.kx _ f20 hX (by decide)
     clear hX
     refine put_cont hA (by decide) fun a14 hA q_ hfr => ?_
     replace q1 := (hfr 1 rfl).trans q1
     replace q5 := (hfr 5 rfl).trans q5
     replace q11 := (hfr 11 rfl).trans q11
     replace q12 := (hfr 12 rfl).trans q12
     replace q13 := (hfr 13 rfl).trans q13
     replace q42 := (hfr 42 rfl).trans q42
     replace q47 := (hfr 47 rfl).trans q47
     have q48 := q_; clear q_ hfr
     refine l_ok (φ := SP.isv (u22)) hO hB (by exact ok_assign q48) rfl fun u_ w15 hE hB' hv_ => ?_
     replace hv_ := Eq.symm hv_; subst hv_; clear hB; have hB := hB'; clear hB'
     replace h_1 := GR.v_ext _ h_1 hE
     replace h_0 := GR.v_ext _ h_0 hE
     replace f24 := f24.ext hE
     clear hE
     refine put_cont hA (by decide) fun a16 hA q_ hfr => ?_
     replace q1 := (hfr 1 rfl).trans q1
     replace q11 := (hfr 11 rfl).trans q11
     replace q12 := (hfr 12 rfl).trans q12
     replace q13 := (hfr 13 rfl).trans q13
     replace q48 := (hfr 48 rfl).trans q48
     clear q5
     have q5 := q_; clear q_ hfr
     refine li_nil (nx_blk (nx_blk (nx_then ?_)))
     exact ⟨_, _, _, hA, hB, q1, h_1, q5, f24, q11, h_0, q12, q13, h⟩
    ·
     replace h := Comp.run_b_f hc h; clear hc
     refine wp_seq ?_
     refine' region [_, _] mixed hA (.cons (fun _ _ hE hK hg => ok_eqlI (kn (hK 18 rfl) rfl q18) rfl) (.cons (fun _ _ hE hK hg => ok_assign (ksv (j := 0) (hK 50 rfl) rfl rfl rfl)) .nil)) ?zok9 ?zgd9 ?zk9
     case zok9 | zgd9 => kernel_rfl
     intro a17 w17 hA hE HF
     replace q1 := kn (HF 1) rfl q1
     replace q5 := kn (HF 5) rfl q5
     replace q7 := kn (HF 7) rfl q7
     replace q11 := kn (HF 11) rfl q11
     replace q12 := kn (HF 12) rfl q12
     replace q13 := kn (HF 13) rfl q13
     have q49 := ksv (HF 49) rfl rfl rfl
     clear q18
     clear q40
     clear HF
     replace h_1 := GR.v_ext _ h_1 hE
     replace f3 := f3.ext hE
     replace h_0 := GR.v_ext _ h_0 hE
     replace f18 := f18.ext hE
     replace f15 := GR.v_ext _ f15 hE
     replace f17 := GR.v_ext _ f17 hE
     replace hB := Base.step hB hE hO; clear hE
     refine li_nil (nx_then ?_)
     refine wp_cond_b q49 (fun hc => ?_) (fun hc => ?_)
     ·
      replace h := Comp.run_b_t hc h; clear hc
      refine' regionT [_, SP.isv (.pointer (some ⟨b13, 3, none⟩)), SP.isv (u14), SP.isv (.pointer (some ⟨b13, 4, none⟩)), SP.isv (u16), SP.isv (.agg #[u14, u16]), SP.vl r_court_voice O11 (court_voice.c96 (court_cut.mk x6.Sure x6.Touched)), SP.vl (rSl r_court_voice) O11 [(court_voice.c96 (court_cut.mk x6.Sure x6.Touched))]] hA (.cons (fun _ _ hE hK hg => ok_move (kn (hK 5 rfl) rfl q5)) (.cons (fun _ _ hE hK hg => ok_fieldAddr fl33_3 (kn (hK 7 rfl) rfl q7)) (.cons (fun _ _ hE hK hg => ok_loadOwn ty23 rfl (ksv (j := 1) (hK 52 rfl) rfl rfl rfl) (OwnB.ext f18 hE).own rfl) (.cons (fun _ _ hE hK hg => ok_fieldAddr fl33_4 (kn (hK 7 rfl) rfl q7)) (.cons (fun _ _ hE hK hg => ok_loadOwn ty23 rfl (ksv (j := 3) (hK 54 rfl) rfl rfl rfl) (OwnB.ext f18 hE).own rfl) (.cons (fun _ _ hE hK hg => okl_build plc96 ty96 (pk_cons (v := u14) (ksv (j := 2) (hK 53 rfl) rfl rfl rfl) (pk_cons (v := u16) (ksv (j := 4) (hK 55 rfl) rfl rfl rfl) pk_nil)) rfl (.cons rfl (sl_cells (GR.v_ext _ f15 hE) rfl rfl) rfl (leb rfl) (.cons rfl (sl_cells (GR.v_ext _ f17 hE) rfl rfl) rfl (leb rfl) .nil)) rfl) (.cons ?z10_6 (.cons (fun _ _ hE hK hg => okl_buildSliceV (r := r_court_voice) (fun _ => rfl) rfl (OkO.ext hB.ok hE) ty75 ty94 (parts_cons rfl parts_nil) ⟨(kspS (φ := SP.vl r_court_voice O11 (court_voice.c96 (court_cut.mk x6.Sure x6.Touched))) (j := 6) (hK 57 rfl) rfl rfl rfl), trivial⟩ rfl (by decide)) .nil)))))))) ?zok10 ?zgd10 ?zk10
      case z10_6 => intro a' w' hE hK hg; refine ok_weak (okl_mkIface ty96 rfl (ksv (j := 5) (hK 56 rfl) rfl rfl rfl)) ?_; exact fun w_ v_ hE2_ h_ => by { replace h_ : v_ = _ := h_; subst h_; exact rIf_v.2 ⟨_, rfl, ⟨_, ⟨_, _, rfl, (rel_ofF (r := (rSl (rInt .i64))) (GR.v_ext _ (GR.v_ext _ f15 hE) hE2_) rfl rfl), ⟨_, _, rfl, (rel_ofF (r := (rSl (rInt .i64))) (GR.v_ext _ (GR.v_ext _ f17 hE) hE2_) rfl rfl), rfl⟩⟩, rfl⟩⟩ }
      case zok10 | zgd10 => kernel_rfl
      intro a18 w18 hA hE HF
      replace q1 := kn (HF 1) rfl q1
      replace q5 := kn (HF 5) rfl q5
      replace q11 := kn (HF 11) rfl q11
      replace q12 := kn (HF 12) rfl q12
      replace q13 := kn (HF 13) rfl q13
      have q51 := ksv (HF 51) rfl rfl rfl
      have f29 := ksp (HF 58) rfl rfl rfl
      obtain ⟨u28, q58'⟩ : ∃ u, a18.get 58 = u := ⟨_, rfl⟩
      rw [q58'] at f29
      have q58 := q58'; clear q58'
      clear q7
      clear q49
      clear HF
      replace h_1 := GR.v_ext _ h_1 hE
      replace f3 := f3.ext hE
      replace h_0 := GR.v_ext _ h_0 hE
      replace f18 := f18.ext hE
      replace f15 := GR.v_ext _ f15 hE
      replace f17 := GR.v_ext _ f17 hE
      replace hB := Base.step hB hE hO; clear hE
      obtain ⟨x30, hx30, h⟩ := Comp.run_bind h
      refine l_append (r := r_court_voice) (fun _ => rfl) rfl ty75 ty94 rfl (by decide) hO hB (okB_fr hB) q51 f3 q58 (rd_of f29) hx30 (by decide) fun u31 w19 O32 f33 hB' hX => ?_
      clear hB; have hB := hB'; clear hB'
      clear f3
      replace h_1 := GR.kx _ h_1 hX (by decide)
      replace h_0 := GR.kx _ h_0 hX (by decide)
      replace f29 := GR.kx _ f29 hX (by decide)
      clear hX
      refine put_cont hA (by decide) fun a20 hA q_ hfr => ?_
      replace q1 := (hfr 1 rfl).trans q1
      replace q5 := (hfr 5 rfl).trans q5
      replace q11 := (hfr 11 rfl).trans q11
      replace q12 := (hfr 12 rfl).trans q12
      replace q13 := (hfr 13 rfl).trans q13
      replace q51 := (hfr 51 rfl).trans q51
      replace q58 := (hfr 58 rfl).trans q58
      have q59 := q_; clear q_ hfr
      refine l_ok (φ := SP.isv (u31)) hO hB (by exact ok_assign q59) rfl fun u_ w21 hE hB' hv_ => ?_
      replace hv_ := Eq.symm hv_; subst hv_; clear hB; have hB := hB'; clear hB'
      replace h_1 := GR.v_ext _ h_1 hE
      replace h_0 := GR.v_ext _ h_0 hE
      replace f33 := f33.ext hE
      clear hE
      refine put_cont hA (by decide) fun a22 hA q_ hfr => ?_
      replace q1 := (hfr 1 rfl).trans q1
      replace q11 := (hfr 11 rfl).trans q11
      replace q12 := (hfr 12 rfl).trans q12
      replace q13 := (hfr 13 rfl).trans q13
      replace q59 := (hfr 59 rfl).trans q59
      clear q5
      have q5 := q_; clear q_ hfr
      refine li_nil (nx_blk (nx_blk (nx_then ?_)))
      exact ⟨_, _, _, hA, hB, q1, h_1, q5, f33, q11, h_0, q12, q13, h⟩
     ·
      replace h := Comp.run_b_f hc h; clear hc
      refine wp_seq ?_
      refine' region [_] mixed hA (.cons (fun _ _ hE hK hg => ok_assign rfl) .nil) ?zok11 ?zgd11 ?zk11
      case zok11 | zgd11 => kernel_rfl
      intro a23 w23 hA hE HF
      replace q1 := kn (HF 1) rfl q1
      replace q5 := kn (HF 5) rfl q5
      replace q7 := kn (HF 7) rfl q7
      have q8 := ksv (HF 8) rfl rfl rfl
      replace q11 := kn (HF 11) rfl q11
      replace q12 := kn (HF 12) rfl q12
      replace q13 := kn (HF 13) rfl q13
      clear q49
      clear HF
      replace h_1 := GR.v_ext _ h_1 hE
      replace f3 := f3.ext hE
      replace h_0 := GR.v_ext _ h_0 hE
      replace f18 := f18.ext hE
      replace f15 := GR.v_ext _ f15 hE
      replace f17 := GR.v_ext _ f17 hE
      replace hB := Base.step hB hE hO; clear hE
      refine li_nil (nx_then ?_)
      refine seq_join (fun a w => ∃ (O63 : Tags) (x58 : List api_Sight) (u59 : Value), a.fit 62 ∧ Base (Fr w0) O w0 O63 w ∧ a.get 1 = v_1 ∧ (rSl r_api_Sight).v O63 w v_1 x_1 ∧ a.get 5 = u2 ∧ OwnL 1 r_court_voice 94 (Fr w0) O63 w u2 x1 ∧ a.get 8 = u59 ∧ (rSl r_api_Sight).v O63 w u59 x58 ∧ a.get 11 = v_0 ∧ (rSl r_api_Claim).v O63 w v_0 x_0 ∧ a.get 12 = .int .i64 (x_0.length : Int) ∧ a.get 13 = .int .i64 x4 ∧ (court_voices_j4 x1 x4 x58).run n = some st2) ?_ ?_
      ·
       refine wp_seq ?_
       refine' region [_, _, _] mixed hA (.cons (fun _ _ hE hK hg => ok_move (kn (hK 1 rfl) rfl q1)) (.cons (fun _ _ hE hK hg => okl_len (r := r_api_Sight) ty28 (ksv (j := 0) (hK 19 rfl) rfl rfl rfl) (rd_of (GR.v_ext _ h_1 hE))) (.cons (fun _ _ hE hK hg => ok_move rfl) .nil))) ?zok12 ?zgd12 ?zk12
       case zok12 | zgd12 => kernel_rfl
       intro a24 w24 hA hE HF
       replace q1 := kn (HF 1) rfl q1
       replace q5 := kn (HF 5) rfl q5
       replace q7 := kn (HF 7) rfl q7
       replace q8 := kn (HF 8) rfl q8
       replace q11 := kn (HF 11) rfl q11
       replace q12 := kn (HF 12) rfl q12
       replace q13 := kn (HF 13) rfl q13
       have q19 := ksv (HF 19) rfl rfl rfl
       have q20 := ksv (HF 20) rfl rfl rfl
       have q21 := ksv (HF 21) rfl rfl rfl
       clear HF
       replace h_1 := GR.v_ext _ h_1 hE
       replace f3 := f3.ext hE
       replace h_0 := GR.v_ext _ h_0 hE
       replace f18 := f18.ext hE
       replace f15 := GR.v_ext _ f15 hE
       replace f17 := GR.v_ext _ f17 hE
       replace hB := Base.step hB hE hO; clear hE
       refine li_nil (nx_then (wp_block ?_))
       obtain ⟨e5, he5, hk5⟩ := Comp.run_bind h; clear h
       refine loop_m (fun m a w => ∃ (O38 : Tags) (x34 : List api_Sight) (x37 : Int) (u35 : Value), a.fit 62 ∧ Base (Fr w0) O w0 O38 w ∧ a.get 1 = v_1 ∧ (rSl r_api_Sight).v O38 w v_1 x_1 ∧ a.get 5 = u2 ∧ OwnL 1 r_court_voice 94 (Fr w0) O38 w u2 x1 ∧ a.get 7 = .pointer (some ⟨b13, 0, none⟩) ∧ a.get 8 = u35 ∧ OwnL 3 r_api_Sight 64 (Fr w0) O38 w u35 x34 ∧ a.get 11 = v_0 ∧ (rSl r_api_Claim).v O38 w v_0 x_0 ∧ a.get 12 = .int .i64 (x_0.length : Int) ∧ a.get 13 = .int .i64 x4 ∧ a.get 19 = v_1 ∧ a.get 20 = .int .i64 (x_1.length : Int) ∧ a.get 21 = .int .i64 x37 ∧ OwnB 2 (Fr w0) O38 w b13 #[.int .i64 x6.Party, .int .i64 x6.Kind, .int .i64 x6.Gauge, u14, u16] 33 ∧ (rSl (rInt .i64)).v O38 w u14 x6.Sure ∧ (rSl (rInt .i64)).v O38 w u16 x6.Touched ∧ Comp.loopN (fun s => court_voices_l5 x_1 x6 s.1 s.2) n m (x34, x37) = some e5) (m := n) ?st5 ?_
       case st5 =>
        exact ⟨_, _, _, _, hA, hB, q1, h_1, q5, f3, q7, q8, (OwnL.nil _ _ _ _ _ _), q11, h_0, q12, q13, q19, q20, q21, f18, f15, f17, Comp.run_loop he5⟩
       intro m_ a25 w25 hI
       clear hA hB he5 q1 q5 q7 q8 q11 q12 q13 q19 q20 q21 f15 f17 f18 f3 h_0 h_1
       obtain ⟨O38, x34, x37, u35, hA, hB, q1, h_1, q5, f3, q7, q8, f36, q11, h_0, q12, q13, q19, q20, q21, f18, f15, f17, hl⟩ := hI
       obtain ⟨m5, hlt5, st5, h, hnext5, hdone5⟩ := Comp.loopN_succ hl; clear hl
       replace h : (court_voices_l5 x_1 x6 x34 x37).run n = some st5 := h
       unfold court_voices_l5 at h
       refine wp_seq ?_
       refine' region [_] mixed hA (.cons (fun _ _ hE hK hg => ok_lss (kn (hK 21 rfl) rfl q21) (kn (hK 20 rfl) rfl q20)) .nil) ?zok13 ?zgd13 ?zk13
       case zok13 | zgd13 => kernel_rfl
       intro a26 w26 hA hE HF
       replace q1 := kn (HF 1) rfl q1
       replace q5 := kn (HF 5) rfl q5
       replace q7 := kn (HF 7) rfl q7
       replace q8 := kn (HF 8) rfl q8
       replace q11 := kn (HF 11) rfl q11
       replace q12 := kn (HF 12) rfl q12
       replace q13 := kn (HF 13) rfl q13
       replace q19 := kn (HF 19) rfl q19
       replace q20 := kn (HF 20) rfl q20
       replace q21 := kn (HF 21) rfl q21
       have q22 := ksv (HF 22) rfl rfl rfl
       clear HF
       replace h_1 := GR.v_ext _ h_1 hE
       replace f3 := f3.ext hE
       replace f36 := f36.ext hE
       replace h_0 := GR.v_ext _ h_0 hE
       replace f18 := f18.ext hE
       replace f15 := GR.v_ext _ f15 hE
       replace f17 := GR.v_ext _ f17 hE
       replace hB := Base.step hB hE hO; clear hE
       refine li_nil (nx_then (wp_seq ?_))
       refine wp_cond_b q22 (fun hc => ?_) (fun hc => ?_)
       ·
        replace h := Comp.run_b_t hc h; clear hc
        refine wp_skip (nx_then ?_)
        refine seq_join (fun a w => ∃ (O55 : Tags) (x52 : List api_Sight) (u53 : Value), a.fit 62 ∧ Base (Fr w0) O w0 O55 w ∧ a.get 1 = v_1 ∧ (rSl r_api_Sight).v O55 w v_1 x_1 ∧ a.get 5 = u2 ∧ OwnL 1 r_court_voice 94 (Fr w0) O55 w u2 x1 ∧ a.get 7 = .pointer (some ⟨b13, 0, none⟩) ∧ a.get 8 = u53 ∧ OwnL 3 r_api_Sight 64 (Fr w0) O55 w u53 x52 ∧ a.get 11 = v_0 ∧ (rSl r_api_Claim).v O55 w v_0 x_0 ∧ a.get 12 = .int .i64 (x_0.length : Int) ∧ a.get 13 = .int .i64 x4 ∧ a.get 19 = v_1 ∧ a.get 20 = .int .i64 (x_1.length : Int) ∧ a.get 21 = .int .i64 x37 ∧ OwnB 2 (Fr w0) O55 w b13 #[.int .i64 x6.Party, .int .i64 x6.Kind, .int .i64 x6.Gauge, u14, u16] 33 ∧ (rSl (rInt .i64)).v O55 w u14 x6.Sure ∧ (rSl (rInt .i64)).v O55 w u16 x6.Touched ∧ (court_voices_j6 x37 x52).run n = some st5) ?_ ?_
        ·
         refine wp_block (wp_seq ?_)
         obtain ⟨x39, hx39, h⟩ := Comp.run_bind h
         refine' regionT [SP.ptr r_api_Sight O38 x39, SP.isv (.agg #[.int .i64 x39.Gauge, .int .i64 x39.Cell, .bool x39.There]), SP.box w26.heap.size #[.int .i64 0, .int .i64 0, .bool false] 64] hA (.cons (fun _ _ hE hK hg => okl_idx (r := r_api_Sight) (O := O38) ty28 ty64 rfl (kn (hK 19 rfl) rfl q19) (rd_of (GR.v_ext _ h_1 hE)) (kn (hK 21 rfl) rfl q21) hx39) (.cons (fun _ _ hE hK hg => okl_ldr r_api_Sight fit_api_Sight ty64 rfl rfl rfl (kspS (φ := SP.ptr r_api_Sight O38 x39) (j := 0) (hK 23 rfl) rfl rfl rfl) (fun _ _ _ h => rC_v.1 h)) (.cons (fun _ _ hE hK hg => ok_alloc hE.size ty64) .nil))) ?zok14 ?zgd14 ?zk14
         case zok14 | zgd14 => kernel_rfl
         intro a27 w27 hA hE HF
         replace q1 := kn (HF 1) rfl q1
         replace q5 := kn (HF 5) rfl q5
         replace q7 := kn (HF 7) rfl q7
         replace q8 := kn (HF 8) rfl q8
         have f41 := ksp (HF 10) rfl rfl rfl
         obtain ⟨u40, q10'⟩ : ∃ u, a27.get 10 = u := ⟨_, rfl⟩
         rw [q10'] at f41
         have q10 := q10'; clear q10'
         replace q11 := kn (HF 11) rfl q11
         replace q12 := kn (HF 12) rfl q12
         replace q13 := kn (HF 13) rfl q13
         replace q19 := kn (HF 19) rfl q19
         replace q20 := kn (HF 20) rfl q20
         replace q21 := kn (HF 21) rfl q21
         have q24 := ksv (HF 24) rfl rfl rfl
         clear q22
         clear HF
         obtain ⟨O42, b43, hB', hX, e_, f44⟩ := boxNew hO hB hE f41 4 (by decide)
         subst e_
         clear hB f41; have hB := hB'; clear hB'
         replace h_1 := GR.kx _ h_1 hX (by decide)
         replace f3 := f3.kx hX (by decide) (by decide)
         replace f36 := f36.kx hX (by decide) (by decide)
         replace h_0 := GR.kx _ h_0 hX (by decide)
         replace f18 := f18.kx hX (by decide)
         replace f15 := GR.kx _ f15 hX (by decide)
         replace f17 := GR.kx _ f17 hX (by decide)
         clear hX hE
         refine l_storeSub (vs := [.int .i64 x39.Gauge, .int .i64 x39.Cell, .bool x39.There]) (cs' := #[.int .i64 x39.Gauge, .int .i64 x39.Cell, .bool x39.There]) hO hB (okB_fr hB) ty64 q10 q24 rfl (by simp [Value.oneCell']) f44 (by simp) rfl fun w28 f45 hB' hX => ?_
         clear hB f44; have hB := hB'; clear hB'
         replace h_1 := GR.kx _ h_1 hX (by decide)
         replace f3 := f3.kx hX (by decide) (by decide)
         replace f36 := f36.kx hX (by decide) (by decide)
         replace h_0 := GR.kx _ h_0 hX (by decide)
         replace f18 := f18.kx hX (by decide)
         replace f15 := GR.kx _ f15 hX (by decide)
         replace f17 := GR.kx _ f17 hX (by decide)
         clear hX
         refine li_nil (nx_then (wp_seq ?_))
         refine' region [SP.isv (.pointer (some ⟨b43, 0, none⟩)), SP.isv (.int .i64 x39.Gauge), SP.isv (.pointer (some ⟨b13, 2, none⟩)), SP.isv (.int .i64 x6.Gauge), _] mixed hA (.cons (fun _ _ hE hK hg => ok_fieldAddr fl64_0 (kn (hK 10 rfl) rfl q10)) (.cons (fun _ _ hE hK hg => ok_loadOwn ty3 rfl (ksv (j := 0) (hK 25 rfl) rfl rfl rfl) (OwnB.ext f45 hE).own rfl) (.cons (fun _ _ hE hK hg => ok_fieldAddr fl33_2 (kn (hK 7 rfl) rfl q7)) (.cons (fun _ _ hE hK hg => ok_loadOwn ty3 rfl (ksv (j := 2) (hK 27 rfl) rfl rfl rfl) (OwnB.ext f18 hE).own rfl) (.cons (fun _ _ hE hK hg => ok_eqlI (ksv (j := 1) (hK 26 rfl) rfl rfl rfl) (ksv (j := 3) (hK 28 rfl) rfl rfl rfl)) .nil))))) ?zok15 ?zgd15 ?zk15
         case zok15 | zgd15 => kernel_rfl
         intro a29 w29 hA hE HF
         replace q1 := kn (HF 1) rfl q1
         replace q5 := kn (HF 5) rfl q5
         replace q7 := kn (HF 7) rfl q7
         replace q8 := kn (HF 8) rfl q8
         replace q10 := kn (HF 10) rfl q10
         replace q11 := kn (HF 11) rfl q11
         replace q12 := kn (HF 12) rfl q12
         replace q13 := kn (HF 13) rfl q13
         replace q19 := kn (HF 19) rfl q19
         replace q20 := kn (HF 20) rfl q20
         replace q21 := kn (HF 21) rfl q21
         have q29 := ksv (HF 29) rfl rfl rfl
         clear HF
         replace h_1 := GR.v_ext _ h_1 hE
         replace f3 := f3.ext hE
         replace f36 := f36.ext hE
         replace h_0 := GR.v_ext _ h_0 hE
         replace f18 := f18.ext hE
         replace f15 := GR.v_ext _ f15 hE
         replace f17 := GR.v_ext _ f17 hE
         replace f45 := f45.ext hE
         replace hB := Base.step hB hE hO; clear hE
         refine li_nil (nx_then ?_)
         refine wp_cond_b q29 (fun hc => ?_) (fun hc => ?_)
         ·
          replace h := Comp.run_b_t hc h; clear hc
          refine' regionT [_, SP.isv (.agg #[.int .i64 x39.Gauge, .int .i64 x39.Cell, .bool x39.There]), SP.vl (rSl r_api_Sight) O42 [x39]] hA (.cons (fun _ _ hE hK hg => ok_move (kn (hK 8 rfl) rfl q8)) (.cons (fun _ _ hE hK hg => ok_loadOwnAgg ty64 rfl (kn (hK 10 rfl) rfl q10) (OwnB.ext f45 hE).own rfl) (.cons ?z16_2 .nil))) ?zok16 ?zgd16 ?zk16
          case z16_2 => intro a' w' hE hK hg; exact okl_buildSliceV (r := r_api_Sight) fit_api_Sight rfl (OkO.ext hB.ok hE) ty102 ty64 (parts_cons (ksv (j := 1) (hK 31 rfl) rfl rfl rfl) parts_nil) ⟨(by first | exact (rC_v (x := x39)).2 rfl | exact ⟨_, rfl, rfl⟩), trivial⟩ rfl (by decide)
          case zok16 | zgd16 => kernel_rfl
          intro a30 w30 hA hE HF
          replace q1 := kn (HF 1) rfl q1
          replace q5 := kn (HF 5) rfl q5
          replace q7 := kn (HF 7) rfl q7
          replace q8 := kn (HF 8) rfl q8
          replace q11 := kn (HF 11) rfl q11
          replace q12 := kn (HF 12) rfl q12
          replace q13 := kn (HF 13) rfl q13
          replace q19 := kn (HF 19) rfl q19
          replace q20 := kn (HF 20) rfl q20
          replace q21 := kn (HF 21) rfl q21
          have q30 := ksv (HF 30) rfl rfl rfl
          have f47 := ksp (HF 32) rfl rfl rfl
          obtain ⟨u46, q32'⟩ : ∃ u, a30.get 32 = u := ⟨_, rfl⟩
          rw [q32'] at f47
          have q32 := q32'; clear q32'
          clear q10
          clear q29
          clear HF
          replace h_1 := GR.v_ext _ h_1 hE
          replace f3 := f3.ext hE
          replace f36 := f36.ext hE
          replace h_0 := GR.v_ext _ h_0 hE
          replace f18 := f18.ext hE
          replace f15 := GR.v_ext _ f15 hE
          replace f17 := GR.v_ext _ f17 hE
          replace f45 := f45.ext hE
          replace hB := Base.step hB hE hO; clear hE
          obtain ⟨x48, hx48, h⟩ := Comp.run_bind h
          refine l_append (r := r_api_Sight) fit_api_Sight rfl ty102 ty64 rfl (by decide) hO hB (okB_fr hB) q30 f36 q32 (rd_of f47) hx48 (by decide) fun u49 w31 O50 f51 hB' hX => ?_
          clear hB; have hB := hB'; clear hB'
          clear f36
          replace h_1 := GR.kx _ h_1 hX (by decide)
          replace f3 := f3.kx hX (by decide) (by decide)
          replace h_0 := GR.kx _ h_0 hX (by decide)
          replace f47 := GR.kx _ f47 hX (by decide)
          replace f18 := f18.kx hX (by decide)
          replace f15 := GR.kx _ f15 hX (by decide)
          replace f17 := GR.kx _ f17 hX (by decide)
          clear hX
          refine put_cont hA (by decide) fun a32 hA q_ hfr => ?_
          replace q1 := (hfr 1 rfl).trans q1
          replace q5 := (hfr 5 rfl).trans q5
          replace q7 := (hfr 7 rfl).trans q7
          replace q8 := (hfr 8 rfl).trans q8
          replace q11 := (hfr 11 rfl).trans q11
          replace q12 := (hfr 12 rfl).trans q12
          replace q13 := (hfr 13 rfl).trans q13
          replace q19 := (hfr 19 rfl).trans q19
          replace q20 := (hfr 20 rfl).trans q20
          replace q21 := (hfr 21 rfl).trans q21
          replace q30 := (hfr 30 rfl).trans q30
          replace q32 := (hfr 32 rfl).trans q32
          have q33 := q_; clear q_ hfr
          refine l_ok (φ := SP.isv (u49)) hO hB (by exact ok_assign q33) rfl fun u_ w33 hE hB' hv_ => ?_
          replace hv_ := Eq.symm hv_; subst hv_; clear hB; have hB := hB'; clear hB'
          replace h_1 := GR.v_ext _ h_1 hE
          replace f3 := f3.ext hE
          replace h_0 := GR.v_ext _ h_0 hE
          replace f51 := f51.ext hE
          replace f18 := f18.ext hE
          replace f15 := GR.v_ext _ f15 hE
          replace f17 := GR.v_ext _ f17 hE
          clear hE
          refine put_cont hA (by decide) fun a34 hA q_ hfr => ?_
          replace q1 := (hfr 1 rfl).trans q1
          replace q5 := (hfr 5 rfl).trans q5
          replace q7 := (hfr 7 rfl).trans q7
          replace q11 := (hfr 11 rfl).trans q11
          replace q12 := (hfr 12 rfl).trans q12
          replace q13 := (hfr 13 rfl).trans q13
          replace q19 := (hfr 19 rfl).trans q19
          replace q20 := (hfr 20 rfl).trans q20
          replace q21 := (hfr 21 rfl).trans q21
          replace q33 := (hfr 33 rfl).trans q33
          clear q8
          have q8 := q_; clear q_ hfr
          refine li_nil (nx_blk (nx_then ?_))
          exact ⟨_, _, _, hA, hB, q1, h_1, q5, f3, q7, q8, f51, q11, h_0, q12, q13, q19, q20, q21, f18, f15, f17, h⟩
         ·
          replace h := Comp.run_b_f hc h; clear hc
          refine wp_skip (nx_blk (nx_then ?_))
          exact ⟨_, _, _, hA, hB, q1, h_1, q5, f3, q7, q8, f36, q11, h_0, q12, q13, q19, q20, q21, f18, f15, f17, h⟩
        intro a35 w35 hI
        clear hA hB h q1 q5 q7 q8 q11 q12 q13 q19 q20 q21 q22 f15 f17 f18 f3 f36 h_0 h_1
        obtain ⟨O55, x52, u53, hA, hB, q1, h_1, q5, f3, q7, q8, f54, q11, h_0, q12, q13, q19, q20, q21, f18, f15, f17, h⟩ := hI
        unfold court_voices_j6 at h
        refine' region [_, _] mixed hA (.cons (fun _ _ hE hK hg => ok_add (kn (hK 21 rfl) rfl q21) rfl) (.cons (fun _ _ hE hK hg => ok_move (ksv (j := 0) (hK 34 rfl) rfl rfl rfl)) .nil)) ?zok17 ?zgd17 ?zk17
        case zok17 | zgd17 => kernel_rfl
        intro a36 w36 hA hE HF
        replace q1 := kn (HF 1) rfl q1
        replace q5 := kn (HF 5) rfl q5
        replace q7 := kn (HF 7) rfl q7
        replace q8 := kn (HF 8) rfl q8
        replace q11 := kn (HF 11) rfl q11
        replace q12 := kn (HF 12) rfl q12
        replace q13 := kn (HF 13) rfl q13
        replace q19 := kn (HF 19) rfl q19
        replace q20 := kn (HF 20) rfl q20
        have q21' := ksv (HF 21) rfl rfl rfl
        replace q21 := q21'; clear q21'
        clear HF
        replace h_1 := GR.v_ext _ h_1 hE
        replace f3 := f3.ext hE
        replace f54 := f54.ext hE
        replace h_0 := GR.v_ext _ h_0 hE
        replace f18 := f18.ext hE
        replace f15 := GR.v_ext _ f15 hE
        replace f17 := GR.v_ext _ f17 hE
        replace hB := Base.step hB hE hO; clear hE
        refine li_nil (nx_then ?_)
        have h := hnext5 _ (Comp.run_pure h).symm
        refine ⟨m5, hlt5, ?_⟩
        exact ⟨_, _, _, _, hA, hB, q1, h_1, q5, f3, q7, q8, f54, q11, h_0, q12, q13, q19, q20, q21, f18, f15, f17, h⟩
       ·
        replace h := Comp.run_b_f hc h; clear hc
        refine wp_exit (ex_then (ex_then (ex_same ?_)))
        have hd_ := hdone5 _ (Comp.run_pure h).symm; clear h
        subst hd_; have h := hk5; clear hk5; try dsimp only at h
        refine nx_then ?_
        obtain ⟨O61, hB', hX, f62⟩ := freezeL hO hB f36 (by decide)
        clear f36 hB; have hB := hB'; clear hB'
        replace h_1 := GR.kx _ h_1 hX (by decide)
        replace f3 := f3.kx hX (by decide) (by decide)
        replace h_0 := GR.kx _ h_0 hX (by decide)
        replace f18 := f18.kx hX (by decide)
        replace f15 := GR.kx _ f15 hX (by decide)
        replace f17 := GR.kx _ f17 hX (by decide)
        clear hX
        exact ⟨_, _, _, hA, hB, q1, h_1, q5, f3, q8, f62, q11, h_0, q12, q13, h⟩
      intro a37 w37 hI
      clear hA hB h q1 q5 q7 q8 q11 q12 q13 f15 f17 f18 f3 h_0 h_1
      obtain ⟨O63, x58, u59, hA, hB, q1, h_1, q5, f3, q8, f60, q11, h_0, q12, q13, h⟩ := hI
      unfold court_voices_j4 at h
      refine' regionT [_, _, SP.vl r_court_voice O63 (court_voice.c102 x58), SP.vl (rSl r_court_voice) O63 [(court_voice.c102 x58)]] hA (.cons (fun _ _ hE hK hg => ok_move (kn (hK 5 rfl) rfl q5)) (.cons (fun _ _ hE hK hg => ok_move (kn (hK 8 rfl) rfl q8)) (.cons ?z18_2 (.cons (fun _ _ hE hK hg => okl_buildSliceV (r := r_court_voice) (fun _ => rfl) rfl (OkO.ext hB.ok hE) ty75 ty94 (parts_cons rfl parts_nil) ⟨(kspS (φ := SP.vl r_court_voice O63 (court_voice.c102 x58)) (j := 2) (hK 37 rfl) rfl rfl rfl), trivial⟩ rfl (by decide)) .nil)))) ?zok18 ?zgd18 ?zk18
      case z18_2 => intro a' w' hE hK hg; refine ok_weak (okl_mkIface ty102 rfl (ksv (j := 1) (hK 36 rfl) rfl rfl rfl)) ?_; exact fun w_ v_ hE2_ h_ => by { replace h_ : v_ = _ := h_; subst h_; exact rIf_v.2 ⟨_, rfl, (GR.v_ext _ (GR.v_ext _ f60 hE) hE2_)⟩ }
      case zok18 | zgd18 => kernel_rfl
      intro a38 w38 hA hE HF
      replace q1 := kn (HF 1) rfl q1
      replace q5 := kn (HF 5) rfl q5
      replace q11 := kn (HF 11) rfl q11
      replace q12 := kn (HF 12) rfl q12
      replace q13 := kn (HF 13) rfl q13
      have q35 := ksv (HF 35) rfl rfl rfl
      have f65 := ksp (HF 38) rfl rfl rfl
      obtain ⟨u64, q38'⟩ : ∃ u, a38.get 38 = u := ⟨_, rfl⟩
      rw [q38'] at f65
      have q38 := q38'; clear q38'
      clear q8
      clear HF
      replace h_1 := GR.v_ext _ h_1 hE
      replace f3 := f3.ext hE
      replace f60 := GR.v_ext _ f60 hE
      replace h_0 := GR.v_ext _ h_0 hE
      replace hB := Base.step hB hE hO; clear hE
      obtain ⟨x66, hx66, h⟩ := Comp.run_bind h
      refine l_append (r := r_court_voice) (fun _ => rfl) rfl ty75 ty94 rfl (by decide) hO hB (okB_fr hB) q35 f3 q38 (rd_of f65) hx66 (by decide) fun u67 w39 O68 f69 hB' hX => ?_
      clear hB; have hB := hB'; clear hB'
      clear f3
      replace h_1 := GR.kx _ h_1 hX (by decide)
      replace h_0 := GR.kx _ h_0 hX (by decide)
      replace f65 := GR.kx _ f65 hX (by decide)
      clear hX
      refine put_cont hA (by decide) fun a40 hA q_ hfr => ?_
      replace q1 := (hfr 1 rfl).trans q1
      replace q5 := (hfr 5 rfl).trans q5
      replace q11 := (hfr 11 rfl).trans q11
      replace q12 := (hfr 12 rfl).trans q12
      replace q13 := (hfr 13 rfl).trans q13
      replace q35 := (hfr 35 rfl).trans q35
      replace q38 := (hfr 38 rfl).trans q38
      have q39 := q_; clear q_ hfr
      refine l_ok (φ := SP.isv (u67)) hO hB (by exact ok_assign q39) rfl fun u_ w41 hE hB' hv_ => ?_
      replace hv_ := Eq.symm hv_; subst hv_; clear hB; have hB := hB'; clear hB'
      replace h_1 := GR.v_ext _ h_1 hE
      replace h_0 := GR.v_ext _ h_0 hE
      replace f69 := f69.ext hE
      clear hE
      refine put_cont hA (by decide) fun a42 hA q_ hfr => ?_
      replace q1 := (hfr 1 rfl).trans q1
      replace q11 := (hfr 11 rfl).trans q11
      replace q12 := (hfr 12 rfl).trans q12
      replace q13 := (hfr 13 rfl).trans q13
      replace q39 := (hfr 39 rfl).trans q39
      clear q5
      have q5 := q_; clear q_ hfr
      refine li_nil (nx_blk (nx_blk (nx_then ?_)))
      exact ⟨_, _, _, hA, hB, q1, h_1, q5, f69, q11, h_0, q12, q13, h⟩
   intro a43 w43 hI
   clear hA hB h q1 q5 q11 q12 q13 q14 f3 h_0 h_1
   obtain ⟨O70, x25, u26, hA, hB, q1, h_1, q5, f27, q11, h_0, q12, q13, h⟩ := hI
   unfold court_voices_j3 at h
   refine' region [_, _] mixed hA (.cons (fun _ _ hE hK hg => ok_add (kn (hK 13 rfl) rfl q13) rfl) (.cons (fun _ _ hE hK hg => ok_move (ksv (j := 0) (hK 60 rfl) rfl rfl rfl)) .nil)) ?zok19 ?zgd19 ?zk19
   case zok19 | zgd19 => kernel_rfl
   intro a44 w44 hA hE HF
   replace q1 := kn (HF 1) rfl q1
   replace q5 := kn (HF 5) rfl q5
   replace q11 := kn (HF 11) rfl q11
   replace q12 := kn (HF 12) rfl q12
   have q13' := ksv (HF 13) rfl rfl rfl
   replace q13 := q13'; clear q13'
   clear HF
   replace h_1 := GR.v_ext _ h_1 hE
   replace f27 := f27.ext hE
   replace h_0 := GR.v_ext _ h_0 hE
   replace hB := Base.step hB hE hO; clear hE
   refine li_nil (nx_then ?_)
   have h := hnext2 _ (Comp.run_pure h).symm
   refine ⟨m2, hlt2, ?_⟩
   exact ⟨_, _, _, _, hA, hB, q1, h_1, q5, f27, q11, h_0, q12, q13, h⟩
  ·
   replace h := Comp.run_b_f hc h; clear hc
   refine wp_exit (ex_then (ex_then (ex_same ?_)))
   have hd_ := hdone2 _ (Comp.run_pure h).symm; clear h
   subst hd_; have h := hk2; clear hk2; try dsimp only at h
   refine nx_then ?_
   exact ⟨_, _, _, hA, hB, q5, f3, h⟩
 intro a45 w45 hI
 clear hA hB h q0 q1 q5 h_0 h_1
 obtain ⟨O76, x73, u74, hA, hB, q5, f75, h⟩ := hI
 unfold court_voices_j1 at h
 refine wp_seq ?_
 refine' region [_, _] mixed hA (.cons (fun _ _ hE hK hg => ok_move (kn (hK 5 rfl) rfl q5)) (.cons (fun _ _ hE hK hg => ok_assign (ksv (j := 0) (hK 61 rfl) rfl rfl rfl)) .nil)) ?zok20 ?zgd20 ?zk20
 case zok20 | zgd20 => kernel_rfl
 intro a46 w46 hA hE HF
 have q4 := ksv (HF 4) rfl rfl rfl
 clear q5
 clear HF
 replace f75 := f75.ext hE
 replace hB := Base.step hB hE hO; clear hE
 refine li_nil (nx_then (wp_ret ?_))
 have h := Comp.run_pure h; subst h
 exact retPure Try.results41 hA q4 hB.ext (OwnL.res f75 (by decide) hB.zero)
theorem ok_court_cut_speak {O : Tags} {w0 : World} (hO : OkO O w0) {v_0 : Value} {x_0 : court_cut} (h_0 : r_court_cut.v O w0 v_0 x_0) {x_1 : Int} {b_2 : Nat} {x_2 : court_fate} (h_2 : BoxA r_court_fate 92 O w0 b_2 x_2) {n : Nat} {y : court_fate} (h : (court_cut_speak x_0 x_1 x_2).run n = some y) : Calls Try.prog 115 #[v_0, .int .i64 x_1, .pointer (some ⟨b_2, 0, none⟩)] w0 (BioPost r_court_fate 92 O w0 b_2 y (SP.unit)) := by
 unfold court_cut_speak at h
 refine bio_of_wp Try.func115 rfl 32 Try.ntmps115 (by simp) fun a0 hA hs0 => ?_
 have q0 : a0.get 0 = v_0 := hs0 0 _ rfl
 have q1 : a0.get 1 = .int .i64 x_1 := hs0 1 _ rfl
 have q2 : a0.get 2 = .pointer (some ⟨b_2, 0, none⟩) := hs0 2 _ rfl
 clear hs0
 obtain ⟨Oi_, cs_, hB, hb_, hr_, hk_⟩ := bioStart hO h_2
 replace h_0 := GR.v_mono _ h_0 hk_
 clear hk_ h_2
 replace hr_ : cs_ = [.bool x_2.solid_, .bool x_2.empty_, .bool x_2.taken_, .bool x_2.loose_, .bool x_2.there_, .bool x_2.gone_] := hr_; subst hr_
 refine wp_seq ?_
 refine' region [SP.vl (rBox r_court_cut) Oi_ x_0] mixed hA (.cons (fun _ _ hE hK hg => okl_boxV (r := r_court_cut) fit_court_cut (OkO.ext hB.ok hE) (kn (hK 0 rfl) rfl q0) (GR.v_ext _ h_0 hE)) .nil) ?zok1 ?zgd1 ?zk1
 case zok1 | zgd1 => kernel_rfl
 intro a1 w1 hA hE HF
 replace q1 := kn (HF 1) rfl q1
 replace q2 := kn (HF 2) rfl q2
 have f2 := ksp (HF 3) rfl rfl rfl
 obtain ⟨u1, q3'⟩ : ∃ u, a1.get 3 = u := ⟨_, rfl⟩
 rw [q3'] at f2
 have q3 := q3'; clear q3'
 clear q0
 clear HF
 replace h_0 := GR.v_ext _ h_0 hE
 replace hb_ := hb_.ext hE
 replace hB := Base.step hB hE hO; clear hE
 refine li_nil (nx_then (wp_seq ?_))
 obtain ⟨x3, hx3, h⟩ := Comp.run_bind h
 refine' regionT [_, _, SP.isv (.pointer (some ⟨b_2, 0, none⟩)), SP.isv (.pointer (some ⟨b_2, 2, none⟩)), SP.isv (.bool x_2.taken_), _, SP.ptr (rSl (rInt .i64)) Oi_ x_0.sure_, SP.vl (rSl (rInt .i64)) Oi_ x_0.sure_, _, SP.isv (.bool x3), _, SP.isv (.pointer (some ⟨b_2, 0, none⟩)), SP.isv (.pointer (some ⟨b_2, 2, none⟩))] hA (.cons (fun _ _ hE hK hg => ok_move (kn (hK 2 rfl) rfl q2)) (.cons (fun _ _ hE hK hg => ok_move (kn (hK 2 rfl) rfl q2)) (.cons (fun _ _ hE hK hg => ok_nilChk (ksv (j := 1) (hK 7 rfl) rfl rfl rfl)) (.cons (fun _ _ hE hK hg => ok_fieldAddr fl92_2 (ksv (j := 2) (hK 8 rfl) rfl rfl rfl)) (.cons (fun _ _ hE hK hg => ok_loadOwn ty4 rfl (ksv (j := 3) (hK 9 rfl) rfl rfl rfl) (OwnB.ext hb_ hE).own rfl) (.cons (fun _ _ hE hK hg => ok_move (ksv (j := 4) (hK 10 rfl) rfl rfl rfl)) (.cons (fun _ _ hE hK hg => okl_fldB (S := r_court_cut) fit_court_cut rfl (fun _ => rfl) sb_court_cut_0 fl96_0 (kn (hK 3 rfl) rfl q3) (GR.v_ext _ f2 hE)) (.cons ?z2_7 (.cons (fun _ _ hE hK hg => ok_move (kn (hK 1 rfl) rfl q1)) (.cons ?z2_9 (.cons ?z2_10 (.cons (fun _ _ hE hK hg => ok_nilChk (ksv (j := 0) (hK 6 rfl) rfl rfl rfl)) (.cons (fun _ _ hE hK hg => ok_fieldAddr fl92_2 (ksv (j := 11) (hK 17 rfl) rfl rfl rfl)) .nil))))))))))))) ?zok2 ?zgd2 ?zk2
 case z2_7 => intro a' w' hE hK hg; exact okl_ld (r := (rSl (rInt .i64))) (fun _ => rfl) ty23 rfl rfl rfl (kspS (φ := SP.ptr (rSl (rInt .i64)) Oi_ x_0.sure_) (j := 6) (hK 12 rfl) rfl rfl hg)
 case z2_9 => intro a' w' hE hK hg; have c_ := ok_slices_Contains_int_int (OkO.ext hB.ok hE) (kspS (φ := SP.vl (rSl (rInt .i64)) Oi_ x_0.sure_) (j := 7) (hK 13 rfl) rfl rfl hg) (run_gdb hx3 hg); exact ok_call2 fn57 rfl (ksv (j := 8) (hK 14 rfl) rfl rfl hg) c_
 case z2_10 => intro a' w' hE hK hg; exact ok_pick (ksv (j := 5) (hK 11 rfl) rfl rfl rfl) (fun _ => rfl) (fun hb => ksv (j := 9) (hK 15 rfl) rfl rfl (act_g1 rfl rfl hb))
 case zok2 | zgd2 => kernel_rfl
 intro a2 w2 hA hE HF
 replace q1 := kn (HF 1) rfl q1
 replace q2 := kn (HF 2) rfl q2
 replace q3 := kn (HF 3) rfl q3
 have q16 := ksv (HF 16) rfl rfl rfl
 have q18 := ksv (HF 18) rfl rfl rfl
 clear HF
 replace f2 := GR.v_ext _ f2 hE
 replace hb_ := hb_.ext hE
 replace hB := Base.step hB hE hO; clear hE
 refine l_store1 (cs' := #[.bool x_2.solid_, .bool x_2.empty_, .bool (bif x_2.taken_ then true else x3), .bool x_2.loose_, .bool x_2.there_, .bool x_2.gone_]) hO hB (okB_self hB) ty4 q18 q16 rfl rfl hb_ (by simp) rfl fun w3 f4 hB' hX => ?_
 clear hB hb_; have hB := hB'; clear hB'
 replace f2 := GR.kx _ f2 hX (by decide)
 clear hX
 refine li_nil (nx_then ?_)
 obtain ⟨x5, hx5, h⟩ := Comp.run_bind h
 refine' regionT [_, _, SP.isv (.pointer (some ⟨b_2, 0, none⟩)), SP.isv (.pointer (some ⟨b_2, 3, none⟩)), SP.isv (.bool x_2.loose_), _, SP.ptr (rSl (rInt .i64)) Oi_ x_0.touched_, SP.vl (rSl (rInt .i64)) Oi_ x_0.touched_, _, SP.isv (.bool x5), _, SP.isv (.pointer (some ⟨b_2, 0, none⟩)), SP.isv (.pointer (some ⟨b_2, 3, none⟩))] hA (.cons (fun _ _ hE hK hg => ok_move (kn (hK 2 rfl) rfl q2)) (.cons (fun _ _ hE hK hg => ok_move (kn (hK 2 rfl) rfl q2)) (.cons (fun _ _ hE hK hg => ok_nilChk (ksv (j := 1) (hK 20 rfl) rfl rfl rfl)) (.cons (fun _ _ hE hK hg => ok_fieldAddr fl92_3 (ksv (j := 2) (hK 21 rfl) rfl rfl rfl)) (.cons (fun _ _ hE hK hg => ok_loadOwn ty4 rfl (ksv (j := 3) (hK 22 rfl) rfl rfl rfl) (OwnB.ext f4 hE).own rfl) (.cons (fun _ _ hE hK hg => ok_move (ksv (j := 4) (hK 23 rfl) rfl rfl rfl)) (.cons (fun _ _ hE hK hg => okl_fldB (S := r_court_cut) fit_court_cut rfl (fun _ => rfl) sb_court_cut_1 fl96_1 (kn (hK 3 rfl) rfl q3) (GR.v_ext _ f2 hE)) (.cons ?z3_7 (.cons (fun _ _ hE hK hg => ok_move (kn (hK 1 rfl) rfl q1)) (.cons ?z3_9 (.cons ?z3_10 (.cons (fun _ _ hE hK hg => ok_nilChk (ksv (j := 0) (hK 19 rfl) rfl rfl rfl)) (.cons (fun _ _ hE hK hg => ok_fieldAddr fl92_3 (ksv (j := 11) (hK 30 rfl) rfl rfl rfl)) .nil))))))))))))) ?zok3 ?zgd3 ?zk3
 case z3_7 => intro a' w' hE hK hg; exact okl_ld (r := (rSl (rInt .i64))) (fun _ => rfl) ty23 rfl rfl rfl (kspS (φ := SP.ptr (rSl (rInt .i64)) Oi_ x_0.touched_) (j := 6) (hK 25 rfl) rfl rfl hg)
 case z3_9 => intro a' w' hE hK hg; have c_ := ok_slices_Contains_int_int (OkO.ext hB.ok hE) (kspS (φ := SP.vl (rSl (rInt .i64)) Oi_ x_0.touched_) (j := 7) (hK 26 rfl) rfl rfl hg) (run_gdb hx5 hg); exact ok_call2 fn57 rfl (ksv (j := 8) (hK 27 rfl) rfl rfl hg) c_
 case z3_10 => intro a' w' hE hK hg; exact ok_pick (ksv (j := 5) (hK 24 rfl) rfl rfl rfl) (fun _ => rfl) (fun hb => ksv (j := 9) (hK 28 rfl) rfl rfl (act_g1 rfl rfl hb))
 case zok3 | zgd3 => kernel_rfl
 intro a4 w4 hA hE HF
 have q29 := ksv (HF 29) rfl rfl rfl
 have q31 := ksv (HF 31) rfl rfl rfl
 clear q1
 clear q2
 clear q3
 clear HF
 replace f2 := GR.v_ext _ f2 hE
 replace f4 := f4.ext hE
 replace hB := Base.step hB hE hO; clear hE
 refine l_store1 (cs' := #[.bool x_2.solid_, .bool x_2.empty_, .bool (bif x_2.taken_ then true else x3), .bool (bif x_2.loose_ then true else x5), .bool x_2.there_, .bool x_2.gone_]) hO hB (okB_self hB) ty4 q31 q29 rfl rfl f4 (by simp) rfl fun w5 f6 hB' hX => ?_
 clear hB f4; have hB := hB'; clear hB'
 clear hX
 refine li_nil ?_
 have h := Comp.run_pure h; subst h
 exact retG0n Try.results115 hA  (bioEnd hB f6 rfl trivial)
theorem ok_court_blank_speak {O : Tags} {w0 : World} (hO : OkO O w0) {v_0 : Value} {x_0 : court_blank} (h_0 : r_court_blank.v O w0 v_0 x_0) {x_1 : Int} {b_2 : Nat} {x_2 : court_fate} (h_2 : BoxA r_court_fate 92 O w0 b_2 x_2) {n : Nat} {y : court_fate} (h : (court_blank_speak x_0 x_1 x_2).run n = some y) : Calls Try.prog 116 #[v_0, .int .i64 x_1, .pointer (some ⟨b_2, 0, none⟩)] w0 (BioPost r_court_fate 92 O w0 b_2 y (SP.unit)) := by
 unfold court_blank_speak at h
 refine bio_of_wp Try.func116 rfl 16 Try.ntmps116 (by simp) fun a0 hA hs0 => ?_
 have q0 : a0.get 0 = v_0 := hs0 0 _ rfl
 have q1 : a0.get 1 = .int .i64 x_1 := hs0 1 _ rfl
 have q2 : a0.get 2 = .pointer (some ⟨b_2, 0, none⟩) := hs0 2 _ rfl
 clear hs0
 obtain ⟨Oi_, cs_, hB, hb_, hr_, hk_⟩ := bioStart hO h_2
 replace h_0 := GR.v_mono _ h_0 hk_
 clear hk_ h_2
 replace hr_ : cs_ = [.bool x_2.solid_, .bool x_2.empty_, .bool x_2.taken_, .bool x_2.loose_, .bool x_2.there_, .bool x_2.gone_] := hr_; subst hr_
 refine wp_seq ?_
 refine' region [SP.vl (rBox r_court_blank) Oi_ x_0] mixed hA (.cons (fun _ _ hE hK hg => okl_boxV (r := r_court_blank) fit_court_blank (OkO.ext hB.ok hE) (kn (hK 0 rfl) rfl q0) (GR.v_ext _ h_0 hE)) .nil) ?zok1 ?zgd1 ?zk1
 case zok1 | zgd1 => kernel_rfl
 intro a1 w1 hA hE HF
 replace q1 := kn (HF 1) rfl q1
 replace q2 := kn (HF 2) rfl q2
 have f2 := ksp (HF 3) rfl rfl rfl
 obtain ⟨u1, q3'⟩ : ∃ u, a1.get 3 = u := ⟨_, rfl⟩
 rw [q3'] at f2
 have q3 := q3'; clear q3'
 clear q0
 clear HF
 replace h_0 := GR.v_ext _ h_0 hE
 replace hb_ := hb_.ext hE
 replace hB := Base.step hB hE hO; clear hE
 refine li_nil (nx_then (wp_seq ?_))
 obtain ⟨x3, hx3, h⟩ := Comp.run_bind h
 refine' region [SP.ptr (rSl (rInt .i64)) Oi_ x_0.cells_, SP.vl (rSl (rInt .i64)) Oi_ x_0.cells_, _, SP.isv (.bool x3)] mixed hA (.cons (fun _ _ hE hK hg => okl_fldB (S := r_court_blank) fit_court_blank rfl (fun _ => rfl) sb_court_blank_0 fl101_0 (kn (hK 3 rfl) rfl q3) (GR.v_ext _ f2 hE)) (.cons (fun _ _ hE hK hg => okl_ld (r := (rSl (rInt .i64))) (fun _ => rfl) ty23 rfl rfl rfl (kspS (φ := SP.ptr (rSl (rInt .i64)) Oi_ x_0.cells_) (j := 0) (hK 6 rfl) rfl rfl rfl)) (.cons (fun _ _ hE hK hg => ok_move (kn (hK 1 rfl) rfl q1)) (.cons ?z2_3 .nil)))) ?zok2 ?zgd2 ?zk2
 case z2_3 => intro a' w' hE hK hg; have c_ := ok_slices_Contains_int_int (OkO.ext hB.ok hE) (kspS (φ := SP.vl (rSl (rInt .i64)) Oi_ x_0.cells_) (j := 1) (hK 7 rfl) rfl rfl rfl) hx3; exact ok_call2 fn57 rfl (ksv (j := 2) (hK 8 rfl) rfl rfl rfl) c_
 case zok2 | zgd2 => kernel_rfl
 intro a2 w2 hA hE HF
 replace q2 := kn (HF 2) rfl q2
 have q9 := ksv (HF 9) rfl rfl rfl
 clear q1
 clear q3
 clear HF
 replace f2 := GR.v_ext _ f2 hE
 replace hb_ := hb_.ext hE
 replace hB := Base.step hB hE hO; clear hE
 refine li_nil (nx_then ?_)
 refine wp_cond_b q9 (fun hc => ?_) (fun hc => ?_)
 ·
  replace h := Comp.run_b_t hc h; clear hc
  refine' regionT [_, SP.isv (.pointer (some ⟨b_2, 0, none⟩)), SP.isv (.pointer (some ⟨b_2, 1, none⟩))] hA (.cons (fun _ _ hE hK hg => ok_move (kn (hK 2 rfl) rfl q2)) (.cons (fun _ _ hE hK hg => ok_nilChk (ksv (j := 0) (hK 10 rfl) rfl rfl rfl)) (.cons (fun _ _ hE hK hg => ok_fieldAddr fl92_1 (ksv (j := 1) (hK 11 rfl) rfl rfl rfl)) .nil))) ?zok3 ?zgd3 ?zk3
  case zok3 | zgd3 => kernel_rfl
  intro a3 w3 hA hE HF
  have q12 := ksv (HF 12) rfl rfl rfl
  clear q2
  clear q9
  clear HF
  replace hb_ := hb_.ext hE
  replace hB := Base.step hB hE hO; clear hE
  refine l_store1 (cs' := #[.bool x_2.solid_, .bool false, .bool x_2.taken_, .bool x_2.loose_, .bool x_2.there_, .bool x_2.gone_]) hO hB (okB_self hB) ty4 q12 rfl rfl rfl hb_ (by simp) rfl fun w4 f4 hB' hX => ?_
  clear hB hb_; have hB := hB'; clear hB'
  clear hX
  refine li_nil ?_
  have h := Comp.run_pure h; subst h
  exact retG0n Try.results116 hA  (bioEnd hB f4 rfl trivial)
 ·
  replace h := Comp.run_b_f hc h; clear hc
  refine' regionT [_, SP.isv (.pointer (some ⟨b_2, 0, none⟩)), SP.isv (.pointer (some ⟨b_2, 0, none⟩))] hA (.cons (fun _ _ hE hK hg => ok_move (kn (hK 2 rfl) rfl q2)) (.cons (fun _ _ hE hK hg => ok_nilChk (ksv (j := 0) (hK 13 rfl) rfl rfl rfl)) (.cons (fun _ _ hE hK hg => ok_fieldAddr fl92_0 (ksv (j := 1) (hK 14 rfl) rfl rfl rfl)) .nil))) ?zok4 ?zgd4 ?zk4
  case zok4 | zgd4 => kernel_rfl
  intro a5 w5 hA hE HF
  have q15 := ksv (HF 15) rfl rfl rfl
  clear q2
  clear q9
  clear HF
  replace hb_ := hb_.ext hE
  replace hB := Base.step hB hE hO; clear hE
  refine l_store1 (cs' := #[.bool false, .bool x_2.empty_, .bool x_2.taken_, .bool x_2.loose_, .bool x_2.there_, .bool x_2.gone_]) hO hB (okB_self hB) ty4 q15 rfl rfl rfl hb_ (by simp) rfl fun w6 f5 hB' hX => ?_
  clear hB hb_; have hB := hB'; clear hB'
  clear hX
  refine li_nil ?_
  have h := Comp.run_pure h; subst h
  exact retG0n Try.results116 hA  (bioEnd hB f5 rfl trivial)
end Go.Proofs.Ytebmpjdegajhgaa
end
