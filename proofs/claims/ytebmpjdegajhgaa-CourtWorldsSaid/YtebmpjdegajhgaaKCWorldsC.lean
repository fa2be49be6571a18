/- Lemmas behind a claim of this seat. No statement of the program stands here. -/
import Derived.Test.YtebmpjdegajhgaaKCWorldsB
set_option linter.unusedSimpArgs false
set_option linter.unusedVariables false
section
namespace Go.Proofs.Ytebmpjdegajhgaa
open Go Go.RowKit Go.Eng Go.Lift Go.F
set_option linter.unusedVariables false
set_option linter.unusedSimpArgs false
set_option maxRecDepth 100000
theorem ok_court_gauge_speak {O : Tags} {w0 : World} (hO : OkO O w0) {v_0 : Value} {x_0 : List api_Sight} (h_0 : (rSl r_api_Sight).v O w0 v_0 x_0) {x_1 : Int} {b_2 : Nat} {x_2 : court_fate} (h_2 : BoxA r_court_fate 92 O w0 b_2 x_2) {n : Nat} {y : court_fate} (h : (court_gauge_speak x_0 x_1 x_2).run n = some y) : Calls Try.prog 117 #[v_0, .int .i64 x_1, .pointer (some ⟨b_2, 0, none⟩)] w0 (BioPost r_court_fate 92 O w0 b_2 y (SP.unit)) := by
 unfold court_gauge_speak at h
 refine bio_of_wp Try.func117 rfl 42 Try.ntmps117 (by simp) fun a0 hA hs0 => ?_
 have q0 : a0.get 0 = v_0 := hs0 0 _ rfl
 have q1 : a0.get 1 = .int .i64 x_1 := hs0 1 _ rfl
 have q2 : a0.get 2 = .pointer (some ⟨b_2, 0, none⟩) := hs0 2 _ rfl
 clear hs0
 obtain ⟨Oi_, cs_, hB, hb_, hr_, hk_⟩ := bioStart hO h_2
 replace h_0 := GR.v_mono _ h_0 hk_
 clear hk_ h_2
 replace hr_ : cs_ = [.bool x_2.solid_, .bool x_2.empty_, .bool x_2.taken_, .bool x_2.loose_, .bool x_2.there_, .bool x_2.gone_] := hr_; subst hr_
 refine wp_seq ?_
 refine' region [_, _, _] mixed hA (.cons (fun _ _ hE hK hg => ok_move (kn (hK 0 rfl) rfl q0)) (.cons (fun _ _ hE hK hg => okl_len (r := r_api_Sight) ty102 (ksv (j := 0) (hK 8 rfl) rfl rfl rfl) (rd_of (GR.v_ext _ h_0 hE))) (.cons (fun _ _ hE hK hg => ok_move rfl) .nil))) ?zok1 ?zgd1 ?zk1
 case zok1 | zgd1 => kernel_rfl
 intro a1 w1 hA hE HF
 replace q1 := kn (HF 1) rfl q1
 replace q2 := kn (HF 2) rfl q2
 have q8 := ksv (HF 8) rfl rfl rfl
 have q9 := ksv (HF 9) rfl rfl rfl
 have q10 := ksv (HF 10) rfl rfl rfl
 clear q0
 clear HF
 replace h_0 := GR.v_ext _ h_0 hE
 replace hb_ := hb_.ext hE
 replace hB := Base.step hB hE hO; clear hE
 refine li_nil (nx_then (wp_block ?_))
 obtain ⟨e1, he1, hk1⟩ := Comp.run_bind h; clear h
 refine loop_m (fun m a w => ∃ (O3 : Tags) (x1 : Int) (x2 : court_fate), a.fit 42 ∧ Base (FrB w0 b_2) O w0 O3 w ∧ a.get 1 = .int .i64 x_1 ∧ a.get 2 = .pointer (some ⟨b_2, 0, none⟩) ∧ a.get 8 = v_0 ∧ (rSl r_api_Sight).v O3 w v_0 x_0 ∧ a.get 9 = .int .i64 (x_0.length : Int) ∧ a.get 10 = .int .i64 x1 ∧ OwnB 1 (FrB w0 b_2) O3 w b_2 #[.bool x2.solid_, .bool x2.empty_, .bool x2.taken_, .bool x2.loose_, .bool x2.there_, .bool x2.gone_] 92 ∧ Comp.loopN (fun s => court_gauge_speak_l1 x_0 x_1 s.1 s.2) n m (x1, x2) = some e1) (m := n) ?st1 ?_
 case st1 =>
  exact ⟨_, _, _, hA, hB, q1, q2, q8, h_0, q9, q10, hb_, Comp.run_loop he1⟩
 intro m_ a2 w2 hI
 clear hA hB he1 q1 q2 q8 q9 q10 h_0 hb_
 obtain ⟨O3, x1, x2, hA, hB, q1, q2, q8, h_0, q9, q10, hb_, hl⟩ := hI
 obtain ⟨m1, hlt1, st1, h, hnext1, hdone1⟩ := Comp.loopN_succ hl; clear hl
 replace h : (court_gauge_speak_l1 x_0 x_1 x1 x2).run n = some st1 := h
 unfold court_gauge_speak_l1 at h
 refine wp_seq ?_
 refine' region [_] mixed hA (.cons (fun _ _ hE hK hg => ok_lss (kn (hK 10 rfl) rfl q10) (kn (hK 9 rfl) rfl q9)) .nil) ?zok2 ?zgd2 ?zk2
 case zok2 | zgd2 => kernel_rfl
 intro a3 w3 hA hE HF
 replace q1 := kn (HF 1) rfl q1
 replace q2 := kn (HF 2) rfl q2
 replace q8 := kn (HF 8) rfl q8
 replace q9 := kn (HF 9) rfl q9
 replace q10 := kn (HF 10) rfl q10
 have q11 := ksv (HF 11) rfl rfl rfl
 clear HF
 replace h_0 := GR.v_ext _ h_0 hE
 replace hb_ := hb_.ext hE
 replace hB := Base.step hB hE hO; clear hE
 refine li_nil (nx_then (wp_seq ?_))
 refine wp_cond_b q11 (fun hc => ?_) (fun hc => ?_)
 ·
  replace h := Comp.run_b_t hc h; clear hc
  refine wp_skip (nx_then ?_)
  refine seq_join (fun a w => ∃ (O19 : Tags) (x13 : Bool) (x14 : Bool) (x15 : Bool) (x16 : Bool) (x17 : Bool) (x18 : Bool), a.fit 42 ∧ Base (FrB w0 b_2) O w0 O19 w ∧ a.get 1 = .int .i64 x_1 ∧ a.get 2 = .pointer (some ⟨b_2, 0, none⟩) ∧ a.get 8 = v_0 ∧ (rSl r_api_Sight).v O19 w v_0 x_0 ∧ a.get 9 = .int .i64 (x_0.length : Int) ∧ a.get 10 = .int .i64 x1 ∧ OwnB 1 (FrB w0 b_2) O19 w b_2 #[.bool x13, .bool x14, .bool x15, .bool x16, .bool x17, .bool x18] 92 ∧ (court_gauge_speak_j2 x1 x13 x14 x15 x16 x17 x18).run n = some st1) ?_ ?_
  ·
   refine wp_block (wp_seq ?_)
   obtain ⟨x4, hx4, h⟩ := Comp.run_bind h
   refine' regionT [SP.ptr r_api_Sight O3 x4, SP.isv (.agg #[.int .i64 x4.Gauge, .int .i64 x4.Cell, .bool x4.There]), SP.box w3.heap.size #[.int .i64 0, .int .i64 0, .bool false] 64] hA (.cons (fun _ _ hE hK hg => okl_idx (r := r_api_Sight) (O := O3) ty102 ty64 rfl (kn (hK 8 rfl) rfl q8) (rd_of (GR.v_ext _ h_0 hE)) (kn (hK 10 rfl) rfl q10) hx4) (.cons (fun _ _ hE hK hg => okl_ldr r_api_Sight fit_api_Sight ty64 rfl rfl rfl (kspS (φ := SP.ptr r_api_Sight O3 x4) (j := 0) (hK 12 rfl) rfl rfl rfl) (fun _ _ _ h => rC_v.1 h)) (.cons (fun _ _ hE hK hg => ok_alloc hE.size ty64) .nil))) ?zok3 ?zgd3 ?zk3
   case zok3 | zgd3 => kernel_rfl
   intro a4 w4 hA hE HF
   replace q1 := kn (HF 1) rfl q1
   replace q2 := kn (HF 2) rfl q2
   have f6 := ksp (HF 7) rfl rfl rfl
   obtain ⟨u5, q7'⟩ : ∃ u, a4.get 7 = u := ⟨_, rfl⟩
   rw [q7'] at f6
   have q7 := q7'; clear q7'
   replace q8 := kn (HF 8) rfl q8
   replace q9 := kn (HF 9) rfl q9
   replace q10 := kn (HF 10) rfl q10
   have q13 := ksv (HF 13) rfl rfl rfl
   clear q11
   clear HF
   obtain ⟨O7, b8, hB', hX, e_, f9⟩ := boxNew hO hB hE f6 2 (by decide)
   subst e_
   clear hB f6; have hB := hB'; clear hB'
   replace h_0 := GR.kx _ h_0 hX (by decide)
   replace hb_ := hb_.kx hX (by decide)
   clear hX hE
   refine l_storeSub (vs := [.int .i64 x4.Gauge, .int .i64 x4.Cell, .bool x4.There]) (cs' := #[.int .i64 x4.Gauge, .int .i64 x4.Cell, .bool x4.There]) hO hB (okB_fr hB) ty64 q7 q13 rfl (by simp [Value.oneCell']) f9 (by simp) rfl fun w5 f10 hB' hX => ?_
   clear hB f9; have hB := hB'; clear hB'
   replace h_0 := GR.kx _ h_0 hX (by decide)
   replace hb_ := hb_.kx hX (by decide)
   clear hX
   refine li_nil (nx_then (wp_seq ?_))
   refine' region [SP.isv (.pointer (some ⟨b8, 1, none⟩)), SP.isv (.int .i64 x4.Cell), _, _] mixed hA (.cons (fun _ _ hE hK hg => ok_fieldAddr fl64_1 (kn (hK 7 rfl) rfl q7)) (.cons (fun _ _ hE hK hg => ok_loadOwn ty3 rfl (ksv (j := 0) (hK 14 rfl) rfl rfl rfl) (OwnB.ext f10 hE).own rfl) (.cons (fun _ _ hE hK hg => ok_move (kn (hK 1 rfl) rfl q1)) (.cons (fun _ _ hE hK hg => ok_eqlI (ksv (j := 1) (hK 15 rfl) rfl rfl rfl) (ksv (j := 2) (hK 16 rfl) rfl rfl rfl)) .nil)))) ?zok4 ?zgd4 ?zk4
   case zok4 | zgd4 => kernel_rfl
   intro a6 w6 hA hE HF
   replace q1 := kn (HF 1) rfl q1
   replace q2 := kn (HF 2) rfl q2
   replace q7 := kn (HF 7) rfl q7
   replace q8 := kn (HF 8) rfl q8
   replace q9 := kn (HF 9) rfl q9
   replace q10 := kn (HF 10) rfl q10
   have q17 := ksv (HF 17) rfl rfl rfl
   clear HF
   replace h_0 := GR.v_ext _ h_0 hE
   replace hb_ := hb_.ext hE
   replace f10 := f10.ext hE
   replace hB := Base.step hB hE hO; clear hE
   refine li_nil (nx_then ?_)
   refine wp_cond_b q17 (fun hc => ?_) (fun hc => ?_)
   ·
    replace h := Comp.run_b_t hc h; clear hc
    obtain ⟨J_, eJ_⟩ : ∃ J_ : (Nat → Bool) → Act → World → Prop, J_ = (fun S_ a_ w_ => ∃ O_ : Tags, Base (FrB w0 b_2) O w0 O_ w_ ∧ Keep 0 O7 w6 O_ w_ ∧ Keep 2 O7 w6 O_ w_ ∧ (S_ 21 = false → OwnB 1 (FrB w0 b_2) O_ w_ b_2 #[.bool x2.solid_, .bool x2.empty_, .bool x2.taken_, .bool x2.loose_, .bool x2.there_, .bool x2.gone_] 92) ∧ (S_ 21 = true → S_ 24 = false → OwnB 1 (FrB w0 b_2) O_ w_ b_2 #[.bool x2.solid_, .bool x2.empty_, .bool x2.taken_, .bool x2.loose_, .bool (bif x2.there_ then true else x4.There), .bool x2.gone_] 92) ∧ (S_ 24 = true → OwnB 1 (FrB w0 b_2) O_ w_ b_2 #[.bool x2.solid_, .bool x2.empty_, .bool x2.taken_, .bool x2.loose_, .bool (bif x2.there_ then true else x4.There), .bool (bif x2.gone_ then true else (!x4.There))] 92)) := ⟨_, rfl⟩
    have T_ : ∀ {i_ : Nat} {d_ : Option Tmp} {v_ : Value} {S_ a' w' w2}, Nat.beq 21 i_ = false → Nat.beq 24 i_ = false → Ext w' w2 → J_ S_ a' w' → J_ (addS S_ i_) (a'.put d_ v_) w2 := by
     subst eJ_; intro i_ d_ v_ S_ a' w' w2 n21_ n24_ hE hJ_
     obtain ⟨O_, hB_, k0_, kk1_, v0_0_, v0_1_, v0_2_⟩ := hJ_
     exact ⟨O_, (Base.step hB_ hE hO), (k0_.trans (KX.keep (KX.ext hE) (by decide))), (kk1_.trans (KX.keep (KX.ext hE) (by decide))), fun hq_ => OwnB.kx (v0_0_ (addS_no hq_)) (KX.ext hE) (by decide), fun hp_ hq_ => OwnB.kx (v0_1_ (addS_off n21_ hp_) (addS_no hq_)) (KX.ext hE) (by decide), fun hp_ => OwnB.kx (v0_2_ (addS_off n24_ hp_)) (KX.ext hE) (by decide)⟩
    refine' regionX (draw := true) J_ [SP.isv (.pointer (some ⟨b_2, 0, none⟩)), SP.isv (.pointer (some ⟨b_2, 0, none⟩)), SP.isv (.pointer (some ⟨b_2, 0, none⟩)), SP.isv (.pointer (some ⟨b_2, 0, none⟩)), SP.isv (.pointer (some ⟨b_2, 4, none⟩)), SP.isv (.bool x2.there_), SP.isv (.bool x2.there_), SP.isv (.pointer (some ⟨b8, 2, none⟩)), SP.isv (.bool x4.There), SP.isv (.bool (bif x2.there_ then true else x4.There)), SP.isv (.pointer (some ⟨b_2, 0, none⟩)), SP.isv (.pointer (some ⟨b_2, 0, none⟩)), SP.isv (.pointer (some ⟨b_2, 5, none⟩)), SP.isv (.bool x2.gone_), SP.isv (.bool x2.gone_), SP.isv (.pointer (some ⟨b8, 2, none⟩)), SP.isv (.bool x4.There), SP.isv (.bool (!x4.There)), SP.isv (.bool (bif x2.gone_ then true else (!x4.There))), SP.isv (.pointer (some ⟨b_2, 0, none⟩)), SP.isv (.pointer (some ⟨b_2, 4, none⟩)), SP.tt, SP.isv (.pointer (some ⟨b_2, 0, none⟩)), SP.isv (.pointer (some ⟨b_2, 5, none⟩)), SP.tt] mixed hA (.cons (stE_isv _) (.cons (stE_isv _) (.cons (stE_isv _) (.cons (stE_isv _) (.cons (stE_isv _) (.cons (stE_isv _) (.cons (stE_isv _) (.cons (stE_isv _) (.cons (stE_isv _) (.cons (stE_isv _) (.cons (stE_isv _) (.cons (stE_isv _) (.cons (stE_isv _) (.cons (stE_isv _) (.cons (stE_isv _) (.cons (stE_isv _) (.cons (stE_isv _) (.cons (stE_isv _) (.cons (stE_isv _) (.cons (stE_isv _) (.cons (stE_isv _) (.cons (stE_tt _) (.cons (stE_isv _) (.cons (stE_isv _) (.cons (stE_tt _) .nil))))))))))))))))))))))))) (.cons ?z5_0 (.cons ?z5_1 (.cons ?z5_2 (.cons ?z5_3 (.cons ?z5_4 (.cons ?z5_5 (.cons ?z5_6 (.cons ?z5_7 (.cons ?z5_8 (.cons ?z5_9 (.cons ?z5_10 (.cons ?z5_11 (.cons ?z5_12 (.cons ?z5_13 (.cons ?z5_14 (.cons ?z5_15 (.cons ?z5_16 (.cons ?z5_17 (.cons ?z5_18 (.cons ?z5_19 (.cons ?z5_20 (.cons ?z5_21 (.cons ?z5_22 (.cons ?z5_23 (.cons ?z5_24 .nil))))))))))))))))))))))))) ?zsk5 ?zst5 ?zok5 ?zgd5 ?zk5
    case z5_0 =>
     intro S_ a' w' hA_ hJ_ hS_ hafter_ hbef_ hK hg K_ Q_ hK_
     refine x_ok (φ := SP.isv (.pointer (some ⟨b_2, 0, none⟩))) (by exact ok_move (kn (hK 2 rfl) rfl q2)) fun v_ w2 hE hv_ => hK_ v_ w2 (T_ rfl rfl hE hJ_) hv_
    case z5_1 =>
     intro S_ a' w' hA_ hJ_ hS_ hafter_ hbef_ hK hg K_ Q_ hK_
     refine x_ok (φ := SP.isv (.pointer (some ⟨b_2, 0, none⟩))) (by exact ok_move (kn (hK 2 rfl) rfl q2)) fun v_ w2 hE hv_ => hK_ v_ w2 (T_ rfl rfl hE hJ_) hv_
    case z5_2 =>
     intro S_ a' w' hA_ hJ_ hS_ hafter_ hbef_ hK hg K_ Q_ hK_
     refine x_ok (φ := SP.isv (.pointer (some ⟨b_2, 0, none⟩))) (by exact ok_move (kn (hK 2 rfl) rfl q2)) fun v_ w2 hE hv_ => hK_ v_ w2 (T_ rfl rfl hE hJ_) hv_
    case z5_3 =>
     intro S_ a' w' hA_ hJ_ hS_ hafter_ hbef_ hK hg K_ Q_ hK_
     refine x_ok (φ := SP.isv (.pointer (some ⟨b_2, 0, none⟩))) (by exact ok_nilChk (ksv (j := 2) (hK 20 rfl) rfl rfl rfl)) fun v_ w2 hE hv_ => hK_ v_ w2 (T_ rfl rfl hE hJ_) hv_
    case z5_4 =>
     intro S_ a' w' hA_ hJ_ hS_ hafter_ hbef_ hK hg K_ Q_ hK_
     refine x_ok (φ := SP.isv (.pointer (some ⟨b_2, 4, none⟩))) (by exact ok_fieldAddr fl92_4 (ksv (j := 3) (hK 21 rfl) rfl rfl rfl)) fun v_ w2 hE hv_ => hK_ v_ w2 (T_ rfl rfl hE hJ_) hv_
    case z5_5 =>
     intro S_ a' w' hA_ hJ_ hS_ hafter_ hbef_ hK hg K_ Q_ hK_
     have hJ2_ := hJ_; rw [eJ_] at hJ2_; obtain ⟨O_, hB_, k0_, kk1_, v0_0_, v0_1_, v0_2_⟩ := hJ2_
     refine x_ok (φ := SP.isv (.bool x2.there_)) (by exact ok_loadOwn ty4 rfl (ksv (j := 4) (hK 22 rfl) rfl rfl rfl) (v0_0_ (hafter_ 21 (by kernel_rfl))).own rfl) fun v_ w2 hE hv_ => hK_ v_ w2 (T_ rfl rfl hE hJ_) hv_
    case z5_6 =>
     intro S_ a' w' hA_ hJ_ hS_ hafter_ hbef_ hK hg K_ Q_ hK_
     refine x_ok (φ := SP.isv (.bool x2.there_)) (by exact ok_move (ksv (j := 5) (hK 23 rfl) rfl rfl rfl)) fun v_ w2 hE hv_ => hK_ v_ w2 (T_ rfl rfl hE hJ_) hv_
    case z5_7 =>
     intro S_ a' w' hA_ hJ_ hS_ hafter_ hbef_ hK hg K_ Q_ hK_
     refine x_ok (φ := SP.isv (.pointer (some ⟨b8, 2, none⟩))) (by exact ok_fieldAddr fl64_2 (kn (hK 7 rfl) rfl q7)) fun v_ w2 hE hv_ => hK_ v_ w2 (T_ rfl rfl hE hJ_) hv_
    case z5_8 =>
     intro S_ a' w' hA_ hJ_ hS_ hafter_ hbef_ hK hg K_ Q_ hK_
     have hJ2_ := hJ_; rw [eJ_] at hJ2_; obtain ⟨O_, hB_, k0_, kk1_, v0_0_, v0_1_, v0_2_⟩ := hJ2_
     refine x_ok (φ := SP.isv (.bool x4.There)) (by exact ok_loadOwn ty4 rfl (ksv (j := 7) (hK 25 rfl) rfl rfl hg) (OwnB.keep f10 kk1_).own rfl) fun v_ w2 hE hv_ => hK_ v_ w2 (T_ rfl rfl hE hJ_) hv_
    case z5_9 =>
     intro S_ a' w' hA_ hJ_ hS_ hafter_ hbef_ hK hg K_ Q_ hK_
     refine x_ok (φ := SP.isv (.bool (bif x2.there_ then true else x4.There))) (by exact ok_pick (ksv (j := 6) (hK 24 rfl) rfl rfl rfl) (fun _ => rfl) (fun hb => ksv (j := 8) (hK 26 rfl) rfl rfl (act_g1 rfl rfl hb))) fun v_ w2 hE hv_ => hK_ v_ w2 (T_ rfl rfl hE hJ_) hv_
    case z5_10 =>
     intro S_ a' w' hA_ hJ_ hS_ hafter_ hbef_ hK hg K_ Q_ hK_
     refine x_ok (φ := SP.isv (.pointer (some ⟨b_2, 0, none⟩))) (by exact ok_move (kn (hK 2 rfl) rfl q2)) fun v_ w2 hE hv_ => hK_ v_ w2 (T_ rfl rfl hE hJ_) hv_
    case z5_11 =>
     intro S_ a' w' hA_ hJ_ hS_ hafter_ hbef_ hK hg K_ Q_ hK_
     refine x_ok (φ := SP.isv (.pointer (some ⟨b_2, 0, none⟩))) (by exact ok_nilChk (ksv (j := 10) (hK 28 rfl) rfl rfl rfl)) fun v_ w2 hE hv_ => hK_ v_ w2 (T_ rfl rfl hE hJ_) hv_
    case z5_12 =>
     intro S_ a' w' hA_ hJ_ hS_ hafter_ hbef_ hK hg K_ Q_ hK_
     refine x_ok (φ := SP.isv (.pointer (some ⟨b_2, 5, none⟩))) (by exact ok_fieldAddr fl92_5 (ksv (j := 11) (hK 29 rfl) rfl rfl rfl)) fun v_ w2 hE hv_ => hK_ v_ w2 (T_ rfl rfl hE hJ_) hv_
    case z5_13 =>
     intro S_ a' w' hA_ hJ_ hS_ hafter_ hbef_ hK hg K_ Q_ hK_
     have hJ2_ := hJ_; rw [eJ_] at hJ2_; obtain ⟨O_, hB_, k0_, kk1_, v0_0_, v0_1_, v0_2_⟩ := hJ2_
     refine x_ok (φ := SP.isv (.bool x2.gone_)) (by exact ok_loadOwn ty4 rfl (ksv (j := 12) (hK 30 rfl) rfl rfl rfl) (v0_0_ (hafter_ 21 (by kernel_rfl))).own rfl) fun v_ w2 hE hv_ => hK_ v_ w2 (T_ rfl rfl hE hJ_) hv_
    case z5_14 =>
     intro S_ a' w' hA_ hJ_ hS_ hafter_ hbef_ hK hg K_ Q_ hK_
     refine x_ok (φ := SP.isv (.bool x2.gone_)) (by exact ok_move (ksv (j := 13) (hK 31 rfl) rfl rfl rfl)) fun v_ w2 hE hv_ => hK_ v_ w2 (T_ rfl rfl hE hJ_) hv_
    case z5_15 =>
     intro S_ a' w' hA_ hJ_ hS_ hafter_ hbef_ hK hg K_ Q_ hK_
     refine x_ok (φ := SP.isv (.pointer (some ⟨b8, 2, none⟩))) (by exact ok_fieldAddr fl64_2 (kn (hK 7 rfl) rfl q7)) fun v_ w2 hE hv_ => hK_ v_ w2 (T_ rfl rfl hE hJ_) hv_
    case z5_16 =>
     intro S_ a' w' hA_ hJ_ hS_ hafter_ hbef_ hK hg K_ Q_ hK_
     have hJ2_ := hJ_; rw [eJ_] at hJ2_; obtain ⟨O_, hB_, k0_, kk1_, v0_0_, v0_1_, v0_2_⟩ := hJ2_
     refine x_ok (φ := SP.isv (.bool x4.There)) (by exact ok_loadOwn ty4 rfl (ksv (j := 15) (hK 33 rfl) rfl rfl hg) (OwnB.keep f10 kk1_).own rfl) fun v_ w2 hE hv_ => hK_ v_ w2 (T_ rfl rfl hE hJ_) hv_
    case z5_17 =>
     intro S_ a' w' hA_ hJ_ hS_ hafter_ hbef_ hK hg K_ Q_ hK_
     refine x_ok (φ := SP.isv (.bool (!x4.There))) (by exact ok_not (ksv (j := 16) (hK 34 rfl) rfl rfl hg)) fun v_ w2 hE hv_ => hK_ v_ w2 (T_ rfl rfl hE hJ_) hv_
    case z5_18 =>
     intro S_ a' w' hA_ hJ_ hS_ hafter_ hbef_ hK hg K_ Q_ hK_
     refine x_ok (φ := SP.isv (.bool (bif x2.gone_ then true else (!x4.There)))) (by exact ok_pick (ksv (j := 14) (hK 32 rfl) rfl rfl rfl) (fun _ => rfl) (fun hb => ksv (j := 17) (hK 35 rfl) rfl rfl (act_g1 rfl rfl hb))) fun v_ w2 hE hv_ => hK_ v_ w2 (T_ rfl rfl hE hJ_) hv_
    case z5_19 =>
     intro S_ a' w' hA_ hJ_ hS_ hafter_ hbef_ hK hg K_ Q_ hK_
     refine x_ok (φ := SP.isv (.pointer (some ⟨b_2, 0, none⟩))) (by exact ok_nilChk (ksv (j := 0) (hK 18 rfl) rfl rfl rfl)) fun v_ w2 hE hv_ => hK_ v_ w2 (T_ rfl rfl hE hJ_) hv_
    case z5_20 =>
     intro S_ a' w' hA_ hJ_ hS_ hafter_ hbef_ hK hg K_ Q_ hK_
     refine x_ok (φ := SP.isv (.pointer (some ⟨b_2, 4, none⟩))) (by exact ok_fieldAddr fl92_4 (ksv (j := 19) (hK 37 rfl) rfl rfl rfl)) fun v_ w2 hE hv_ => hK_ v_ w2 (T_ rfl rfl hE hJ_) hv_
    case z5_21 =>
     intro S_ a' w' hA_ hJ_ hS_ hafter_ hbef_ hK hg K_ Q_ hK_
     subst eJ_
     obtain ⟨O_, hB_, k0_, kk1_, v0_0_, v0_1_, v0_2_⟩ := hJ_
     refine x_store1 (cs' := #[.bool x2.solid_, .bool x2.empty_, .bool x2.taken_, .bool x2.loose_, .bool (bif x2.there_ then true else x4.There), .bool x2.gone_]) hO hB_ (okB_self hB_) ty4 (ksv (j := 20) (hK 38 rfl) rfl rfl rfl) (ksv (j := 9) (hK 27 rfl) rfl rfl rfl) rfl rfl (v0_0_ hS_) (by simp) rfl fun w2 f_ hB2_ hX_ => ?_
     exact hK_ undef w2 ⟨O_, hB2_, (k0_.trans (KX.keep hX_ (by decide))), (kk1_.trans (KX.keep hX_ (by decide))), fun hq_ => addS_me hq_, fun hp_ hq_ => f_, fun hp_ => no_tf (addS_off rfl hp_) (hafter_ 24 (by kernel_rfl))⟩ trivial
    case z5_22 =>
     intro S_ a' w' hA_ hJ_ hS_ hafter_ hbef_ hK hg K_ Q_ hK_
     refine x_ok (φ := SP.isv (.pointer (some ⟨b_2, 0, none⟩))) (by exact ok_nilChk (ksv (j := 1) (hK 19 rfl) rfl rfl rfl)) fun v_ w2 hE hv_ => hK_ v_ w2 (T_ rfl rfl hE hJ_) hv_
    case z5_23 =>
     intro S_ a' w' hA_ hJ_ hS_ hafter_ hbef_ hK hg K_ Q_ hK_
     refine x_ok (φ := SP.isv (.pointer (some ⟨b_2, 5, none⟩))) (by exact ok_fieldAddr fl92_5 (ksv (j := 22) (hK 39 rfl) rfl rfl rfl)) fun v_ w2 hE hv_ => hK_ v_ w2 (T_ rfl rfl hE hJ_) hv_
    case z5_24 =>
     intro S_ a' w' hA_ hJ_ hS_ hafter_ hbef_ hK hg K_ Q_ hK_
     subst eJ_
     obtain ⟨O_, hB_, k0_, kk1_, v0_0_, v0_1_, v0_2_⟩ := hJ_
     refine x_store1 (cs' := #[.bool x2.solid_, .bool x2.empty_, .bool x2.taken_, .bool x2.loose_, .bool (bif x2.there_ then true else x4.There), .bool (bif x2.gone_ then true else (!x4.There))]) hO hB_ (okB_self hB_) ty4 (ksv (j := 23) (hK 40 rfl) rfl rfl rfl) (ksv (j := 18) (hK 36 rfl) rfl rfl rfl) rfl rfl (v0_1_ (addS_off rfl (hbef_ 21 (by kernel_rfl))) hS_) (by simp) rfl fun w2 f_ hB2_ hX_ => ?_
     exact hK_ undef w2 ⟨O_, hB2_, (k0_.trans (KX.keep hX_ (by decide))), (kk1_.trans (KX.keep hX_ (by decide))), fun hq_ => no_tf (hbef_ 21 (by kernel_rfl)) hq_, fun hp_ hq_ => addS_me hq_, fun hp_ => f_⟩ trivial
    case zsk5 =>
     subst eJ_
     intro i_ o_ S_ a_ w_ ho_ hact_ hA_ hS_ hbef_ hJ_
     obtain ⟨O_, hB_, k0_, kk1_, v0_0_, v0_1_, v0_2_⟩ := hJ_
     exact ⟨O_, hB_, k0_, kk1_, fun hq_ => (v0_0_ (addS_no hq_)), fun hp_ hq_ => by obtain ⟨h1_, h2_⟩ := skip_off (j := 21) hact_ rfl hp_; exact (v0_1_ h1_ (addS_no hq_)), fun hp_ => by obtain ⟨h1_, h2_⟩ := skip_off (j := 24) hact_ rfl hp_; exact (v0_2_ h1_)⟩
    case zst5 => subst eJ_; exact fun w1_ hE_ => ⟨O7, (Base.step hB hE_ hO), (Keep.ext hE_), (Keep.ext hE_), fun _ => OwnB.ext hb_ hE_, fun hp_ => no_ft hp_, fun hp_ => no_ft hp_⟩
    case zok5 | zgd5 => kernel_rfl
    subst eJ_; clear T_
    intro a7 w7 hA HF hJ_
    obtain ⟨O11, hB_, k0_, kk1_, v0_0_, v0_1_, v0_2_⟩ := hJ_
    replace q1 := kn (HF 1) rfl q1
    replace q2 := kn (HF 2) rfl q2
    replace q8 := kn (HF 8) rfl q8
    replace q9 := kn (HF 9) rfl q9
    replace q10 := kn (HF 10) rfl q10
    clear q7
    clear q17
    clear HF
    replace h_0 := GR.v_mono _ h_0 k0_
    replace f10 := OwnB.keep f10 kk1_
    have f12 := (v0_2_ rfl)
    clear hb_
    clear hB; have hB := hB_; clear hB_
    clear k0_ kk1_ v0_0_ v0_1_ v0_2_
    refine nx_blk (nx_then ?_)
    exact ⟨_, _, _, _, _, _, _, hA, hB, q1, q2, q8, h_0, q9, q10, f12, h⟩
   ·
    replace h := Comp.run_b_f hc h; clear hc
    refine wp_skip (nx_blk (nx_then ?_))
    exact ⟨_, _, _, _, _, _, _, hA, hB, q1, q2, q8, h_0, q9, q10, hb_, h⟩
  intro a8 w8 hI
  clear hA hB h q1 q2 q8 q9 q10 q11 h_0 hb_
  obtain ⟨O19, x13, x14, x15, x16, x17, x18, hA, hB, q1, q2, q8, h_0, q9, q10, f12, h⟩ := hI
  unfold court_gauge_speak_j2 at h
  refine' region [_, _] mixed hA (.cons (fun _ _ hE hK hg => ok_add (kn (hK 10 rfl) rfl q10) rfl) (.cons (fun _ _ hE hK hg => ok_move (ksv (j := 0) (hK 41 rfl) rfl rfl rfl)) .nil)) ?zok6 ?zgd6 ?zk6
  case zok6 | zgd6 => kernel_rfl
  intro a9 w9 hA hE HF
  replace q1 := kn (HF 1) rfl q1
  replace q2 := kn (HF 2) rfl q2
  replace q8 := kn (HF 8) rfl q8
  replace q9 := kn (HF 9) rfl q9
  have q10' := ksv (HF 10) rfl rfl rfl
  replace q10 := q10'; clear q10'
  clear HF
  replace h_0 := GR.v_ext _ h_0 hE
  replace f12 := f12.ext hE
  replace hB := Base.step hB hE hO; clear hE
  refine li_nil (nx_then ?_)
  have h := hnext1 _ (Comp.run_pure h).symm
  refine ⟨m1, hlt1, ?_⟩
  exact ⟨_, _, _, hA, hB, q1, q2, q8, h_0, q9, q10, f12, h⟩
 ·
  replace h := Comp.run_b_f hc h; clear hc
  refine wp_exit (ex_then (ex_then (ex_same ?_)))
  have hd_ := hdone1 _ (Comp.run_pure h).symm; clear h
  subst hd_; have h := hk1; clear hk1; try dsimp only at h
  have h := Comp.run_pure h; subst h
  exact retG0n Try.results117 hA  (bioEnd hB hb_ rfl trivial)
def fn_court_voice_speak : court_voice → Nat
 | .c96 _ => 115
 | .c101 _ => 116
 | .c102 _ => 117
theorem meth115 (v : Value) (w : World) : (method (Try.prog.types.size + Made.depth) 96 v "collet/court.speak").run Try.prog w = .ok (115, v) w := by kernel_rfl
theorem meth116 (v : Value) (w : World) : (method (Try.prog.types.size + Made.depth) 101 v "collet/court.speak").run Try.prog w = .ok (116, v) w := by kernel_rfl
theorem meth117 (v : Value) (w : World) : (method (Try.prog.types.size + Made.depth) 102 v "collet/court.speak").run Try.prog w = .ok (117, v) w := by kernel_rfl
theorem meth_court_voice_speak (x : court_voice) : Meth Try.prog (tag_court_voice x) "collet/court.speak" (fn_court_voice_speak x) := by
 cases x with
 | c96 _ => exact ⟨meth115⟩
 | c101 _ => exact ⟨meth116⟩
 | c102 _ => exact ⟨meth117⟩
theorem fnok_court_voice_speak (x : court_voice) : FnOk Try.prog (fn_court_voice_speak x) := by cases x <;> first | exact fn115 | exact fn116 | exact fn117
theorem ok_court_voice_speak {O : Tags} {w0 : World} (hO : OkO O w0) {v : Value} {x_0 : court_voice} (h_0 : sub_court_voice x_0 O w0 v) {x_1 : Int} {b_2 : Nat} {x_2 : court_fate} (h_2 : BoxA r_court_fate 92 O w0 b_2 x_2) {n : Nat} {y : court_fate} (h : (court_voice_speak x_0 x_1 x_2).run n = some y) : Calls Try.prog (fn_court_voice_speak x_0) #[v, .int .i64 x_1, .pointer (some ⟨b_2, 0, none⟩)] w0 (BioPost r_court_fate 92 O w0 b_2 y SP.unit) := by
 cases x_0 with
 | c96 x => exact ok_court_cut_speak hO h_0 h_2 h
 | c101 x => exact ok_court_blank_speak hO h_0 h_2 h
 | c102 x => exact ok_court_gauge_speak hO h_0 h_2 h
theorem ok_court_agrees {O : Tags} {w0 : World} (hO : OkO O w0) {v_0 : Value} {x_0 : List court_voice} (h_0 : (rSl r_court_voice).v O w0 v_0 x_0) {x_1 : Int} {x_2 : Int} {n : Nat} {y : Bool} (h : (court_agrees x_0 x_1 x_2).run n = some y) : Pure Try.prog 40 #[v_0, .int .i64 x_1, .int .i64 x_2] w0 (SP.isv (.bool y)).holds := by
 unfold court_agrees at h
 refine pure_of_wp Try.func40 rfl 75 Try.ntmps40 (by simp) fun a0 hA hs0 => ?_
 have q0 : a0.get 0 = v_0 := hs0 0 _ rfl
 have q1 : a0.get 1 = .int .i64 x_1 := hs0 1 _ rfl
 have q2 : a0.get 2 = .int .i64 x_2 := hs0 2 _ rfl
 clear hs0
 have hB : Base (Fr w0) O w0 O w0 := Base.start hO
 refine wp_seq ?_
 refine' region [_] mixed hA (.cons (fun _ _ hE hK hg => ok_assign rfl) .nil) ?zok1 ?zgd1 ?zk1
 case zok1 | zgd1 => kernel_rfl
 intro a1 w1 hA hE HF
 replace q0 := kn (HF 0) rfl q0
 replace q1 := kn (HF 1) rfl q1
 replace q2 := kn (HF 2) rfl q2
 clear HF
 replace h_0 := GR.v_ext _ h_0 hE
 replace hB := Base.step hB hE hO; clear hE
 refine li_nil (nx_then (wp_scope_straight (wp_seq ?_)))
 refine' region [_] mixed hA (.cons (fun _ _ hE hK hg => ok_assign rfl) .nil) ?zok2 ?zgd2 ?zk2
 case zok2 | zgd2 => kernel_rfl
 intro a2 w2 hA hE HF
 replace q0 := kn (HF 0) rfl q0
 replace q1 := kn (HF 1) rfl q1
 replace q2 := kn (HF 2) rfl q2
 have q7 := ksv (HF 7) rfl rfl rfl
 clear HF
 replace h_0 := GR.v_ext _ h_0 hE
 replace hB := Base.step hB hE hO; clear hE
 refine li_nil (nx_then (wp_seq (wp_label (nx_then ?_))))
 refine seq_join (fun a w => ∃ (O45 : Tags) (x44 : Bool), a.fit 75 ∧ Base (Fr w0) O w0 O45 w ∧ a.get 7 = .bool x44 ∧ (court_agrees_j1 x44).run n = some y) ?_ ?_
 ·
  refine wp_seq ?_
  refine' region [_, _] mixed hA (.cons (fun _ _ hE hK hg => ok_move (kn (hK 1 rfl) rfl q1)) (.cons (fun _ _ hE hK hg => ok_move rfl) .nil)) ?zok3 ?zgd3 ?zk3
  case zok3 | zgd3 => kernel_rfl
  intro a3 w3 hA hE HF
  replace q0 := kn (HF 0) rfl q0
  replace q2 := kn (HF 2) rfl q2
  replace q7 := kn (HF 7) rfl q7
  have q14 := ksv (HF 14) rfl rfl rfl
  have q15 := ksv (HF 15) rfl rfl rfl
  clear q1
  clear HF
  replace h_0 := GR.v_ext _ h_0 hE
  replace hB := Base.step hB hE hO; clear hE
  refine li_nil (nx_then (wp_block ?_))
  obtain ⟨e2, he2, hk2⟩ := Comp.run_bind h; clear h
  refine loop_m (fun m a w => ∃ (O3 : Tags) (x1 : Bool) (x2 : Int), a.fit 75 ∧ Base (Fr w0) O w0 O3 w ∧ a.get 0 = v_0 ∧ (rSl r_court_voice).v O3 w v_0 x_0 ∧ a.get 2 = .int .i64 x_2 ∧ a.get 7 = .bool x1 ∧ a.get 14 = .int .i64 x_1 ∧ a.get 15 = .int .i64 x2 ∧ Comp.loopN (fun s => court_agrees_l2 x_1 x_0 x_2 s.1 s.2) n m (x1, x2) = some e2) (m := n) ?st2 ?_
  case st2 =>
   exact ⟨_, _, _, hA, hB, q0, h_0, q2, q7, q14, q15, Comp.run_loop he2⟩
  intro m_ a4 w4 hI
  clear hA hB he2 q0 q2 q7 q14 q15 h_0
  obtain ⟨O3, x1, x2, hA, hB, q0, h_0, q2, q7, q14, q15, hl⟩ := hI
  obtain ⟨m2, hlt2, st2, h, hnext2, hdone2⟩ := Comp.loopN_succ hl; clear hl
  replace h : (court_agrees_l2 x_1 x_0 x_2 x1 x2).run n = some st2 := h
  unfold court_agrees_l2 at h
  refine wp_seq ?_
  refine' region [_] mixed hA (.cons (fun _ _ hE hK hg => ok_lss (kn (hK 15 rfl) rfl q15) (kn (hK 14 rfl) rfl q14)) .nil) ?zok4 ?zgd4 ?zk4
  case zok4 | zgd4 => kernel_rfl
  intro a5 w5 hA hE HF
  replace q0 := kn (HF 0) rfl q0
  replace q2 := kn (HF 2) rfl q2
  replace q7 := kn (HF 7) rfl q7
  replace q14 := kn (HF 14) rfl q14
  replace q15 := kn (HF 15) rfl q15
  have q16 := ksv (HF 16) rfl rfl rfl
  clear HF
  replace h_0 := GR.v_ext _ h_0 hE
  replace hB := Base.step hB hE hO; clear hE
  refine li_nil (nx_then (wp_seq ?_))
  refine wp_cond_b q16 (fun hc => ?_) (fun hc => ?_)
  ·
   replace h := Comp.run_b_t hc h; clear hc
   refine wp_skip (nx_then (wp_seq (wp_block (wp_seq ?_))))
   refine' region [_, _] mixed hA (.cons (fun _ _ hE hK hg => ok_move (kn (hK 15 rfl) rfl q15)) (.cons (fun _ _ hE hK hg => ok_assign (ksv (j := 0) (hK 17 rfl) rfl rfl rfl)) .nil)) ?zok5 ?zgd5 ?zk5
   case zok5 | zgd5 => kernel_rfl
   intro a6 w6 hA hE HF
   replace q0 := kn (HF 0) rfl q0
   replace q2 := kn (HF 2) rfl q2
   replace q7 := kn (HF 7) rfl q7
   have q8 := ksv (HF 8) rfl rfl rfl
   replace q14 := kn (HF 14) rfl q14
   replace q15 := kn (HF 15) rfl q15
   clear q16
   clear HF
   replace h_0 := GR.v_ext _ h_0 hE
   replace hB := Base.step hB hE hO; clear hE
   refine li_nil (nx_then (wp_seq ?_))
   refine' regionT [SP.isv (.agg #[.bool true, .bool true, .bool false, .bool false, .bool false, .bool false]), SP.box w6.heap.size #[.bool false, .bool false, .bool false, .bool false, .bool false, .bool false] 92] hA (.cons (fun _ _ hE hK hg => okl_build plc92 ty92 (pk_cons (v := .bool true) rfl (pk_cons (v := .bool true) rfl pk_nil)) rfl (.cons rfl rfl rfl (leb rfl) (.cons rfl rfl rfl (leb rfl) .nil)) rfl) (.cons (fun _ _ hE hK hg => ok_alloc hE.size ty92) .nil)) ?zok6 ?zgd6 ?zk6
   case zok6 | zgd6 => kernel_rfl
   intro a7 w7 hA hE HF
   replace q0 := kn (HF 0) rfl q0
   replace q2 := kn (HF 2) rfl q2
   replace q7 := kn (HF 7) rfl q7
   replace q8 := kn (HF 8) rfl q8
   have f5 := ksp (HF 9) rfl rfl rfl
   obtain ⟨u4, q9'⟩ : ∃ u, a7.get 9 = u := ⟨_, rfl⟩
   rw [q9'] at f5
   have q9 := q9'; clear q9'
   replace q14 := kn (HF 14) rfl q14
   replace q15 := kn (HF 15) rfl q15
   have q18 := ksv (HF 18) rfl rfl rfl
   clear HF
   obtain ⟨O6, b7, hB', hX, e_, f8⟩ := boxNew hO hB hE f5 1 (by decide)
   subst e_
   clear hB f5; have hB := hB'; clear hB'
   replace h_0 := GR.kx _ h_0 hX (by decide)
   clear hX hE
   refine l_storeSub (vs := [.bool true, .bool true, .bool false, .bool false, .bool false, .bool false]) (cs' := #[.bool true, .bool true, .bool false, .bool false, .bool false, .bool false]) hO hB (okB_fr hB) ty92 q9 q18 rfl (by simp [Value.oneCell']) f8 (by simp) rfl fun w8 f9 hB' hX => ?_
   clear hB f8; have hB := hB'; clear hB'
   replace h_0 := GR.kx _ h_0 hX (by decide)
   clear hX
   refine li_nil (nx_then ?_)
   refine seq_join (fun a w => ∃ (O40 : Tags) (x39 : court_fate), a.fit 75 ∧ Base (Fr w0) O w0 O40 w ∧ a.get 0 = v_0 ∧ (rSl r_court_voice).v O40 w v_0 x_0 ∧ a.get 2 = .int .i64 x_2 ∧ a.get 7 = .bool x1 ∧ a.get 9 = .pointer (some ⟨b7, 0, none⟩) ∧ a.get 14 = .int .i64 x_1 ∧ a.get 15 = .int .i64 x2 ∧ OwnB 1 (Fr w0) O40 w b7 #[.bool x39.solid_, .bool x39.empty_, .bool x39.taken_, .bool x39.loose_, .bool x39.there_, .bool x39.gone_] 92 ∧ (court_agrees_j3 x1 x2 x39).run n = some st2) ?_ ?_
   ·
    refine wp_seq ?_
    refine' region [_, _, _] mixed hA (.cons (fun _ _ hE hK hg => ok_move (kn (hK 0 rfl) rfl q0)) (.cons (fun _ _ hE hK hg => okl_len (r := r_court_voice) ty75 (ksv (j := 0) (hK 19 rfl) rfl rfl rfl) (rd_of (GR.v_ext _ h_0 hE))) (.cons (fun _ _ hE hK hg => ok_move rfl) .nil))) ?zok7 ?zgd7 ?zk7
    case zok7 | zgd7 => kernel_rfl
    intro a9 w9 hA hE HF
    replace q0 := kn (HF 0) rfl q0
    replace q2 := kn (HF 2) rfl q2
    replace q7 := kn (HF 7) rfl q7
    replace q8 := kn (HF 8) rfl q8
    replace q9 := kn (HF 9) rfl q9
    replace q14 := kn (HF 14) rfl q14
    replace q15 := kn (HF 15) rfl q15
    have q19 := ksv (HF 19) rfl rfl rfl
    have q20 := ksv (HF 20) rfl rfl rfl
    have q21 := ksv (HF 21) rfl rfl rfl
    clear HF
    replace h_0 := GR.v_ext _ h_0 hE
    replace f9 := f9.ext hE
    replace hB := Base.step hB hE hO; clear hE
    refine li_nil (nx_then (wp_block ?_))
    obtain ⟨e4, he4, hk4⟩ := Comp.run_bind h; clear h
    refine loop_m (fun m a w => ∃ (O12 : Tags) (x10 : Int) (x11 : court_fate), a.fit 75 ∧ Base (Fr w0) O w0 O12 w ∧ a.get 0 = v_0 ∧ (rSl r_court_voice).v O12 w v_0 x_0 ∧ a.get 2 = .int .i64 x_2 ∧ a.get 7 = .bool x1 ∧ a.get 8 = .int .i64 x2 ∧ a.get 9 = .pointer (some ⟨b7, 0, none⟩) ∧ a.get 14 = .int .i64 x_1 ∧ a.get 15 = .int .i64 x2 ∧ a.get 19 = v_0 ∧ a.get 20 = .int .i64 (x_0.length : Int) ∧ a.get 21 = .int .i64 x10 ∧ OwnB 1 (Fr w0) O12 w b7 #[.bool x11.solid_, .bool x11.empty_, .bool x11.taken_, .bool x11.loose_, .bool x11.there_, .bool x11.gone_] 92 ∧ Comp.loopN (fun s => court_agrees_l4 x_0 x_2 x2 s.1 s.2) n m (x10, x11) = some e4) (m := n) ?st4 ?_
    case st4 =>
     exact ⟨_, _, _, hA, hB, q0, h_0, q2, q7, q8, q9, q14, q15, q19, q20, q21, f9, Comp.run_loop he4⟩
    intro m_ a10 w10 hI
    clear hA hB he4 q0 q2 q7 q8 q9 q14 q15 q19 q20 q21 f9 h_0
    obtain ⟨O12, x10, x11, hA, hB, q0, h_0, q2, q7, q8, q9, q14, q15, q19, q20, q21, f9, hl⟩ := hI
    obtain ⟨m4, hlt4, st4, h, hnext4, hdone4⟩ := Comp.loopN_succ hl; clear hl
    replace h : (court_agrees_l4 x_0 x_2 x2 x10 x11).run n = some st4 := h
    unfold court_agrees_l4 at h
    refine wp_seq ?_
    refine' region [_] mixed hA (.cons (fun _ _ hE hK hg => ok_lss (kn (hK 21 rfl) rfl q21) (kn (hK 20 rfl) rfl q20)) .nil) ?zok8 ?zgd8 ?zk8
    case zok8 | zgd8 => kernel_rfl
    intro a11 w11 hA hE HF
    replace q0 := kn (HF 0) rfl q0
    replace q2 := kn (HF 2) rfl q2
    replace q7 := kn (HF 7) rfl q7
    replace q8 := kn (HF 8) rfl q8
    replace q9 := kn (HF 9) rfl q9
    replace q14 := kn (HF 14) rfl q14
    replace q15 := kn (HF 15) rfl q15
    replace q19 := kn (HF 19) rfl q19
    replace q20 := kn (HF 20) rfl q20
    replace q21 := kn (HF 21) rfl q21
    have q22 := ksv (HF 22) rfl rfl rfl
    clear HF
    replace h_0 := GR.v_ext _ h_0 hE
    replace f9 := f9.ext hE
    replace hB := Base.step hB hE hO; clear hE
    refine li_nil (nx_then (wp_seq ?_))
    refine wp_cond_b q22 (fun hc => ?_) (fun hc => ?_)
    ·
     replace h := Comp.run_b_t hc h; clear hc
     refine wp_skip (nx_then ?_)
     refine seq_join (fun a w => ∃ (O37 : Tags) (x35 : court_fate), a.fit 75 ∧ Base (Fr w0) O w0 O37 w ∧ a.get 0 = v_0 ∧ (rSl r_court_voice).v O37 w v_0 x_0 ∧ a.get 2 = .int .i64 x_2 ∧ a.get 7 = .bool x1 ∧ a.get 8 = .int .i64 x2 ∧ a.get 9 = .pointer (some ⟨b7, 0, none⟩) ∧ a.get 14 = .int .i64 x_1 ∧ a.get 15 = .int .i64 x2 ∧ a.get 19 = v_0 ∧ a.get 20 = .int .i64 (x_0.length : Int) ∧ a.get 21 = .int .i64 x10 ∧ OwnB 1 (Fr w0) O37 w b7 #[.bool x35.solid_, .bool x35.empty_, .bool x35.taken_, .bool x35.loose_, .bool x35.there_, .bool x35.gone_] 92 ∧ (court_agrees_j5 x10 x35).run n = some st4) ?_ ?_
     ·
      refine wp_block (wp_seq ?_)
      obtain ⟨x13, hx13, h⟩ := Comp.run_bind h
      refine' region [_, SP.ptr r_court_voice O12 x13, SP.vl r_court_voice O12 x13, _, SP.vl r_court_voice O12 x13] mixed hA (.cons (fun _ _ hE hK hg => ok_move (kn (hK 21 rfl) rfl q21)) (.cons (fun _ _ hE hK hg => okl_idx (r := r_court_voice) (O := O12) ty75 ty94 rfl (kn (hK 19 rfl) rfl q19) (rd_of (GR.v_ext _ h_0 hE)) (kn (hK 21 rfl) rfl q21) hx13) (.cons (fun _ _ hE hK hg => okl_ld (r := r_court_voice) (fun _ => rfl) ty94 rfl rfl rfl (kspS (φ := SP.ptr r_court_voice O12 x13) (j := 1) (hK 24 rfl) rfl rfl rfl)) (.cons (fun _ _ hE hK hg => ok_assign (ksv (j := 0) (hK 23 rfl) rfl rfl rfl)) (.cons (fun _ _ hE hK hg => ok_assign_pr (φ := SP.vl r_court_voice O12 x13) (kspS (j := 2) (hK 25 rfl) rfl rfl rfl)) .nil))))) ?zok9 ?zgd9 ?zk9
      case zok9 | zgd9 => kernel_rfl
      intro a12 w12 hA hE HF
      replace q0 := kn (HF 0) rfl q0
      replace q2 := kn (HF 2) rfl q2
      replace q7 := kn (HF 7) rfl q7
      replace q8 := kn (HF 8) rfl q8
      replace q9 := kn (HF 9) rfl q9
      have q10 := ksv (HF 10) rfl rfl rfl
      have f15 := ksp (HF 11) rfl rfl rfl
      obtain ⟨u14, q11'⟩ : ∃ u, a12.get 11 = u := ⟨_, rfl⟩
      rw [q11'] at f15
      have q11 := q11'; clear q11'
      replace q14 := kn (HF 14) rfl q14
      replace q15 := kn (HF 15) rfl q15
      replace q19 := kn (HF 19) rfl q19
      replace q20 := kn (HF 20) rfl q20
      replace q21 := kn (HF 21) rfl q21
      clear q22
      clear HF
      replace h_0 := GR.v_ext _ h_0 hE
      replace f9 := f9.ext hE
      replace hB := Base.step hB hE hO; clear hE
      refine li_nil (nx_then (wp_seq ?_))
      refine' regionT [_, SP.tup2 (SP.vl r_court_cut O12 (court_voice.as96 x13).1) (SP.isv (.bool (court_voice.as96 x13).2)), SP.tup2 (SP.vl r_court_cut O12 (court_voice.as96 x13).1) (SP.isv (.bool (court_voice.as96 x13).2)), SP.vl r_court_cut O12 (court_voice.as96 x13).1, SP.isv (.bool ((court_voice.as96 x13).2))] hA (.cons (fun _ _ hE hK hg => ok_move (kn (hK 11 rfl) rfl q11)) (.cons (fun _ _ hE hK hg => as_court_voice_96 (ksv (j := 0) (hK 27 rfl) rfl rfl rfl) (GR.v_ext _ f15 hE)) (.cons (fun _ _ hE hK hg => ok_move_pr (φ := SP.tup2 (SP.vl r_court_cut O12 (court_voice.as96 x13).1) (SP.isv (.bool (court_voice.as96 x13).2))) (kspS (j := 1) (hK 28 rfl) rfl rfl rfl)) (.cons (fun _ _ hE hK hg => okl_ext0 (kspS (φ := SP.tup2 (SP.vl r_court_cut O12 (court_voice.as96 x13).1) (SP.isv (.bool (court_voice.as96 x13).2))) (j := 2) (hK 26 rfl) rfl rfl rfl)) (.cons (fun _ _ hE hK hg => okl_ext1 (kspS (φ := SP.tup2 (SP.vl r_court_cut O12 (court_voice.as96 x13).1) (SP.isv (.bool (court_voice.as96 x13).2))) (j := 2) (hK 26 rfl) rfl rfl rfl)) .nil))))) ?zok10 ?zgd10 ?zk10
      case zok10 | zgd10 => kernel_rfl
      intro a13 w13 hA hE HF
      replace q0 := kn (HF 0) rfl q0
      replace q2 := kn (HF 2) rfl q2
      replace q7 := kn (HF 7) rfl q7
      replace q8 := kn (HF 8) rfl q8
      replace q9 := kn (HF 9) rfl q9
      replace q10 := kn (HF 10) rfl q10
      replace q11 := kn (HF 11) rfl q11
      replace q14 := kn (HF 14) rfl q14
      replace q15 := kn (HF 15) rfl q15
      replace q19 := kn (HF 19) rfl q19
      replace q20 := kn (HF 20) rfl q20
      replace q21 := kn (HF 21) rfl q21
      have f17 := ksp (HF 29) rfl rfl rfl
      obtain ⟨u16, q29'⟩ : ∃ u, a13.get 29 = u := ⟨_, rfl⟩
      rw [q29'] at f17
      have q29 := q29'; clear q29'
      have q30 := ksv (HF 30) rfl rfl rfl
      clear HF
      replace h_0 := GR.v_ext _ h_0 hE
      replace f15 := GR.v_ext _ f15 hE
      replace f9 := f9.ext hE
      replace hB := Base.step hB hE hO; clear hE
      refine l_ok (φ := SP.box w13.heap.size #[.slice none 0 0, .slice none 0 0] 96) hO hB (by exact ok_alloc (Nat.le_refl _) ty96) rfl fun u18 w14 hE hB' f19 => ?_
      clear hB'; obtain ⟨O20, b22, hB', hX, e_, f21⟩ := boxNew hO hB hE f19 2 (by decide)
      subst e_; clear hB f19; have hB := hB'; clear hB'
      replace h_0 := GR.kx _ h_0 hX (by decide)
      replace f15 := GR.kx _ f15 hX (by decide)
      replace f17 := GR.kx _ f17 hX (by decide)
      replace f9 := f9.kx hX (by decide)
      clear hX hE
      refine put_cont hA (by decide) fun a15 hA q_ hfr => ?_
      replace q0 := (hfr 0 rfl).trans q0
      replace q2 := (hfr 2 rfl).trans q2
      replace q7 := (hfr 7 rfl).trans q7
      replace q8 := (hfr 8 rfl).trans q8
      replace q9 := (hfr 9 rfl).trans q9
      replace q10 := (hfr 10 rfl).trans q10
      replace q11 := (hfr 11 rfl).trans q11
      replace q14 := (hfr 14 rfl).trans q14
      replace q15 := (hfr 15 rfl).trans q15
      replace q19 := (hfr 19 rfl).trans q19
      replace q20 := (hfr 20 rfl).trans q20
      replace q21 := (hfr 21 rfl).trans q21
      replace q29 := (hfr 29 rfl).trans q29
      replace q30 := (hfr 30 rfl).trans q30
      have q12 := q_; clear q_ hfr
      obtain ⟨u23, u25, e_, f24, f26⟩ := openV_court_cut f17; subst e_
      refine l_storeSub (vs := [u23, u25]) (cs' := #[u23, u25]) hO hB (okB_fr hB) ty96 q12 q29 rfl (by intro c_ hc_; simp only [List.mem_cons, List.not_mem_nil, or_false] at hc_; rcases hc_ with rfl | rfl <;> first | rfl | assumption | exact sl_one f24 rfl rfl | exact sl_one f26 rfl rfl) f21 (by simp) rfl fun w16 f27 hB' hX => ?_
      clear hB f21; have hB := hB'; clear hB'
      replace h_0 := GR.kx _ h_0 hX (by decide)
      replace f15 := GR.kx _ f15 hX (by decide)
      replace f24 := GR.kx _ f24 hX (by decide)
      replace f26 := GR.kx _ f26 hX (by decide)
      replace f9 := f9.kx hX (by decide)
      clear hX
      refine l_ok (φ := SP.isv (.bool ((court_voice.as96 x13).2))) hO hB (by exact ok_assign q30) rfl fun u_ w17 hE hB' hv_ => ?_
      replace hv_ := Eq.symm hv_; subst hv_; clear hB; have hB := hB'; clear hB'
      replace h_0 := GR.v_ext _ h_0 hE
      replace f15 := GR.v_ext _ f15 hE
      replace f9 := f9.ext hE
      clear hE
      refine put_cont hA (by decide) fun a18 hA q_ hfr => ?_
      replace q0 := (hfr 0 rfl).trans q0
      replace q2 := (hfr 2 rfl).trans q2
      replace q7 := (hfr 7 rfl).trans q7
      replace q8 := (hfr 8 rfl).trans q8
      replace q9 := (hfr 9 rfl).trans q9
      replace q10 := (hfr 10 rfl).trans q10
      replace q11 := (hfr 11 rfl).trans q11
      replace q14 := (hfr 14 rfl).trans q14
      replace q15 := (hfr 15 rfl).trans q15
      replace q19 := (hfr 19 rfl).trans q19
      replace q20 := (hfr 20 rfl).trans q20
      replace q21 := (hfr 21 rfl).trans q21
      replace q30 := (hfr 30 rfl).trans q30
      have q13 := q_; clear q_ hfr
      refine li_nil (nx_then (wp_block (wp_seq ?_)))
      obtain ⟨x28, hx28, h⟩ := Comp.run_bind h
      refine' region [_, _, _, _, _, _] mixed hA (.cons (fun _ _ hE hK hg => ok_move (kn (hK 2 rfl) rfl q2)) (.cons (fun _ _ hE hK hg => ok_move (kn (hK 10 rfl) rfl q10)) (.cons (fun _ _ hE hK hg => okl_shr (ksv (j := 0) (hK 32 rfl) rfl rfl rfl) (ksv (j := 1) (hK 33 rfl) rfl rfl rfl) (run_nonneg hx28)) (.cons (fun _ _ hE hK hg => okb_and (ksv (j := 2) (hK 34 rfl) rfl rfl rfl) rfl) (.cons (fun _ _ hE hK hg => ok_eqlI (ksv (j := 3) (hK 35 rfl) rfl rfl rfl) rfl) (.cons (fun _ _ hE hK hg => ok_assign (ksv (j := 4) (hK 36 rfl) rfl rfl rfl)) .nil)))))) ?zok11 ?zgd11 ?zk11
      case zok11 | zgd11 => kernel_rfl
      intro a19 w19 hA hE HF
      replace q0 := kn (HF 0) rfl q0
      replace q2 := kn (HF 2) rfl q2
      replace q7 := kn (HF 7) rfl q7
      replace q8 := kn (HF 8) rfl q8
      replace q9 := kn (HF 9) rfl q9
      replace q11 := kn (HF 11) rfl q11
      replace q13 := kn (HF 13) rfl q13
      replace q14 := kn (HF 14) rfl q14
      replace q15 := kn (HF 15) rfl q15
      replace q19 := kn (HF 19) rfl q19
      replace q20 := kn (HF 20) rfl q20
      replace q21 := kn (HF 21) rfl q21
      have q31 := ksv (HF 31) rfl rfl rfl
      clear q10
      clear HF
      replace h_0 := GR.v_ext _ h_0 hE
      replace f15 := GR.v_ext _ f15 hE
      replace f9 := f9.ext hE
      replace hB := Base.step hB hE hO; clear hE
      obtain ⟨x29, hx_, h⟩ := Comp.run_bind h; replace hx_ := Comp.run_pure hx_; rw [hx_] at q31; clear hx_
      refine li_nil (nx_then ?_)
      refine wp_cond_b q31 (fun hc => ?_) (fun hc => ?_)
      ·
       replace h := Comp.run_b_t hc h; clear hc
       refine' regionT [_, _] hA (.cons (fun _ _ hE hK hg => ok_move (kn (hK 11 rfl) rfl q11)) (.cons (fun _ _ hE hK hg => ok_move (kn (hK 8 rfl) rfl q8)) .nil)) ?zok12 ?zgd12 ?zk12
       case zok12 | zgd12 => kernel_rfl
       intro a20 w20 hA hE HF
       replace q0 := kn (HF 0) rfl q0
       replace q2 := kn (HF 2) rfl q2
       replace q7 := kn (HF 7) rfl q7
       replace q8 := kn (HF 8) rfl q8
       replace q9 := kn (HF 9) rfl q9
       replace q14 := kn (HF 14) rfl q14
       replace q15 := kn (HF 15) rfl q15
       replace q19 := kn (HF 19) rfl q19
       replace q20 := kn (HF 20) rfl q20
       replace q21 := kn (HF 21) rfl q21
       have q37 := ksv (HF 37) rfl rfl rfl
       have q38 := ksv (HF 38) rfl rfl rfl
       clear q11
       clear q13
       clear q31
       clear HF
       replace h_0 := GR.v_ext _ h_0 hE
       replace f15 := GR.v_ext _ f15 hE
       replace f9 := f9.ext hE
       replace hB := Base.step hB hE hO; clear hE
       obtain ⟨v_, hu_, hs_⟩ := rIf_v.1 f15
       obtain ⟨x30, hx30, h⟩ := Comp.run_bind h
       refine l_pioI (r := r_court_fate) (x := x11) hO hB (okB_fr hB) (meth_court_voice_speak x13) (fnok_court_voice_speak x13) (Eq.trans q37 hu_) (map2 q38 q9) (ok_court_voice_speak hB.ok hs_ (BoxO.arg (show BoxO 1 (Fr w0) O20 w20 b7 92 r_court_fate x11 from ⟨_, f9, rfl⟩) (by decide)) hx30) ⟨_, f9, rfl⟩ fun u31 w21 f33 hB' hX f32 => ?_
       clear hB f9; have hB := hB'; clear hB'
       replace h_0 := GR.kx _ h_0 hX (by decide)
       replace f15 := GR.kx _ f15 hX (by decide)
       clear hX
       have hz_ := f33; clear f33; obtain ⟨cs_, f34, hr_⟩ := hz_
       replace hr_ : cs_ = [.bool x30.solid_, .bool x30.empty_, .bool x30.taken_, .bool x30.loose_, .bool x30.there_, .bool x30.gone_] := hr_; subst hr_
       clear f32
       refine put_cont hA (by decide) fun a22 hA q_ hfr => ?_
       replace q0 := (hfr 0 rfl).trans q0
       replace q2 := (hfr 2 rfl).trans q2
       replace q7 := (hfr 7 rfl).trans q7
       replace q8 := (hfr 8 rfl).trans q8
       replace q9 := (hfr 9 rfl).trans q9
       replace q14 := (hfr 14 rfl).trans q14
       replace q15 := (hfr 15 rfl).trans q15
       replace q19 := (hfr 19 rfl).trans q19
       replace q20 := (hfr 20 rfl).trans q20
       replace q21 := (hfr 21 rfl).trans q21
       replace q37 := (hfr 37 rfl).trans q37
       replace q38 := (hfr 38 rfl).trans q38
       have q39 := q_; clear q_ hfr
       refine li_nil (nx_blk (nx_blk (nx_then ?_)))
       exact ⟨_, _, hA, hB, q0, h_0, q2, q7, q8, q9, q14, q15, q19, q20, q21, f34, h⟩
      ·
       replace h := Comp.run_b_f hc h; clear hc
       refine wp_seq ?_
       refine' region [_, _] mixed hA (.cons (fun _ _ hE hK hg => ok_move (kn (hK 13 rfl) rfl q13)) (.cons (fun _ _ hE hK hg => ok_assign (ksv (j := 0) (hK 41 rfl) rfl rfl rfl)) .nil)) ?zok13 ?zgd13 ?zk13
       case zok13 | zgd13 => kernel_rfl
       intro a23 w23 hA hE HF
       replace q0 := kn (HF 0) rfl q0
       replace q2 := kn (HF 2) rfl q2
       replace q7 := kn (HF 7) rfl q7
       replace q8 := kn (HF 8) rfl q8
       replace q9 := kn (HF 9) rfl q9
       replace q14 := kn (HF 14) rfl q14
       replace q15 := kn (HF 15) rfl q15
       replace q19 := kn (HF 19) rfl q19
       replace q20 := kn (HF 20) rfl q20
       replace q21 := kn (HF 21) rfl q21
       have q40 := ksv (HF 40) rfl rfl rfl
       clear q11
       clear q13
       clear q31
       clear HF
       replace h_0 := GR.v_ext _ h_0 hE
       replace f15 := GR.v_ext _ f15 hE
       replace f9 := f9.ext hE
       replace hB := Base.step hB hE hO; clear hE
       refine li_nil (nx_then ?_)
       refine wp_cond_b q40 (fun hc => ?_) (fun hc => ?_)
       ·
        replace h := Comp.run_b_t hc h; clear hc
        refine' regionT [SP.isv (.pointer (some ⟨b7, 3, none⟩))] hA (.cons (fun _ _ hE hK hg => ok_fieldAddr fl92_3 (kn (hK 9 rfl) rfl q9)) .nil) ?zok14 ?zgd14 ?zk14
        case zok14 | zgd14 => kernel_rfl
        intro a24 w24 hA hE HF
        replace q0 := kn (HF 0) rfl q0
        replace q2 := kn (HF 2) rfl q2
        replace q7 := kn (HF 7) rfl q7
        replace q8 := kn (HF 8) rfl q8
        replace q9 := kn (HF 9) rfl q9
        replace q14 := kn (HF 14) rfl q14
        replace q15 := kn (HF 15) rfl q15
        replace q19 := kn (HF 19) rfl q19
        replace q20 := kn (HF 20) rfl q20
        replace q21 := kn (HF 21) rfl q21
        have q42 := ksv (HF 42) rfl rfl rfl
        clear q40
        clear HF
        replace h_0 := GR.v_ext _ h_0 hE
        replace f9 := f9.ext hE
        replace hB := Base.step hB hE hO; clear hE
        refine l_store1 (cs' := #[.bool x11.solid_, .bool x11.empty_, .bool x11.taken_, .bool true, .bool x11.there_, .bool x11.gone_]) hO hB (okB_fr hB) ty4 q42 rfl rfl rfl f9 (by simp) rfl fun w25 f36 hB' hX => ?_
        clear hB f9; have hB := hB'; clear hB'
        replace h_0 := GR.kx _ h_0 hX (by decide)
        clear hX
        refine li_nil (nx_blk (nx_blk (nx_then ?_)))
        exact ⟨_, _, hA, hB, q0, h_0, q2, q7, q8, q9, q14, q15, q19, q20, q21, f36, h⟩
       ·
        replace h := Comp.run_b_f hc h; clear hc
        refine wp_skip (nx_blk (nx_blk (nx_then ?_)))
        exact ⟨_, _, hA, hB, q0, h_0, q2, q7, q8, q9, q14, q15, q19, q20, q21, f9, h⟩
     intro a26 w26 hI
     clear hA hB h q0 q2 q7 q8 q9 q14 q15 q19 q20 q21 q22 f9 h_0
     obtain ⟨O37, x35, hA, hB, q0, h_0, q2, q7, q8, q9, q14, q15, q19, q20, q21, f34, h⟩ := hI
     unfold court_agrees_j5 at h
     refine' region [_, _] mixed hA (.cons (fun _ _ hE hK hg => ok_add (kn (hK 21 rfl) rfl q21) rfl) (.cons (fun _ _ hE hK hg => ok_move (ksv (j := 0) (hK 43 rfl) rfl rfl rfl)) .nil)) ?zok15 ?zgd15 ?zk15
     case zok15 | zgd15 => kernel_rfl
     intro a27 w27 hA hE HF
     replace q0 := kn (HF 0) rfl q0
     replace q2 := kn (HF 2) rfl q2
     replace q7 := kn (HF 7) rfl q7
     replace q8 := kn (HF 8) rfl q8
     replace q9 := kn (HF 9) rfl q9
     replace q14 := kn (HF 14) rfl q14
     replace q15 := kn (HF 15) rfl q15
     replace q19 := kn (HF 19) rfl q19
     replace q20 := kn (HF 20) rfl q20
     have q21' := ksv (HF 21) rfl rfl rfl
     replace q21 := q21'; clear q21'
     clear HF
     replace h_0 := GR.v_ext _ h_0 hE
     replace f34 := f34.ext hE
     replace hB := Base.step hB hE hO; clear hE
     refine li_nil (nx_then ?_)
     have h := hnext4 _ (Comp.run_pure h).symm
     refine ⟨m4, hlt4, ?_⟩
     exact ⟨_, _, _, hA, hB, q0, h_0, q2, q7, q8, q9, q14, q15, q19, q20, q21, f34, h⟩
    ·
     replace h := Comp.run_b_f hc h; clear hc
     refine wp_exit (ex_then (ex_then (ex_same ?_)))
     have hd_ := hdone4 _ (Comp.run_pure h).symm; clear h
     subst hd_; have h := hk4; clear hk4; try dsimp only at h
     refine nx_then ?_
     exact ⟨_, _, hA, hB, q0, h_0, q2, q7, q9, q14, q15, f9, h⟩
   intro a28 w28 hI
   clear hA hB h q0 q2 q7 q8 q9 q14 q15 f9 h_0
   obtain ⟨O40, x39, hA, hB, q0, h_0, q2, q7, q9, q14, q15, f9, h⟩ := hI
   unfold court_agrees_j3 at h
   refine wp_seq ?_
   refine' region [SP.isv (.pointer (some ⟨b7, 4, none⟩)), SP.isv (.bool x39.there_), _, SP.isv (.pointer (some ⟨b7, 5, none⟩)), SP.isv (.bool x39.gone_), _, SP.isv (.pointer (some ⟨b7, 0, none⟩)), SP.isv (.bool x39.solid_), _, _, _, SP.isv (.pointer (some ⟨b7, 2, none⟩)), SP.isv (.bool x39.taken_), _, _, _, SP.isv (.pointer (some ⟨b7, 5, none⟩)), SP.isv (.bool x39.gone_), _, SP.isv (.pointer (some ⟨b7, 1, none⟩)), SP.isv (.bool x39.empty_), _, _, _, SP.isv (.pointer (some ⟨b7, 3, none⟩)), SP.isv (.bool x39.loose_), _, _, _] mixed hA (.cons (fun _ _ hE hK hg => ok_fieldAddr fl92_4 (kn (hK 9 rfl) rfl q9)) (.cons (fun _ _ hE hK hg => ok_loadOwn ty4 rfl (ksv (j := 0) (hK 44 rfl) rfl rfl rfl) (OwnB.ext f9 hE).own rfl) (.cons (fun _ _ hE hK hg => ok_move (ksv (j := 1) (hK 45 rfl) rfl rfl rfl)) (.cons (fun _ _ hE hK hg => ok_fieldAddr fl92_5 (kn (hK 9 rfl) rfl q9)) (.cons ?z16_4 (.cons ?z16_5 (.cons (fun _ _ hE hK hg => ok_fieldAddr fl92_0 (kn (hK 9 rfl) rfl q9)) (.cons ?z16_7 (.cons ?z16_8 (.cons ?z16_9 (.cons ?z16_10 (.cons (fun _ _ hE hK hg => ok_fieldAddr fl92_2 (kn (hK 9 rfl) rfl q9)) (.cons ?z16_12 (.cons ?z16_13 (.cons ?z16_14 (.cons (fun _ _ hE hK hg => ok_move (ksv (j := 14) (hK 58 rfl) rfl rfl rfl)) (.cons (fun _ _ hE hK hg => ok_fieldAddr fl92_5 (kn (hK 9 rfl) rfl q9)) (.cons ?z16_17 (.cons ?z16_18 (.cons (fun _ _ hE hK hg => ok_fieldAddr fl92_1 (kn (hK 9 rfl) rfl q9)) (.cons ?z16_20 (.cons ?z16_21 (.cons ?z16_22 (.cons ?z16_23 (.cons (fun _ _ hE hK hg => ok_fieldAddr fl92_3 (kn (hK 9 rfl) rfl q9)) (.cons ?z16_25 (.cons ?z16_26 (.cons ?z16_27 (.cons ?z16_28 .nil))))))))))))))))))))))))))))) ?zok16 ?zgd16 ?zk16
   case z16_4 => intro a' w' hE hK hg; exact ok_loadOwn ty4 rfl (ksv (j := 3) (hK 47 rfl) rfl rfl hg) (OwnB.ext f9 hE).own rfl
   case z16_5 => intro a' w' hE hK hg; exact ok_move (ksv (j := 4) (hK 48 rfl) rfl rfl hg)
   case z16_7 => intro a' w' hE hK hg; exact ok_loadOwn ty4 rfl (ksv (j := 6) (hK 50 rfl) rfl rfl hg) (OwnB.ext f9 hE).own rfl
   case z16_8 => intro a' w' hE hK hg; exact ok_not (ksv (j := 7) (hK 51 rfl) rfl rfl hg)
   case z16_9 => intro a' w' hE hK hg; exact ok_pick (ksv (j := 5) (hK 49 rfl) rfl rfl hg) (fun _ => rfl) (fun hb => ksv (j := 8) (hK 52 rfl) rfl rfl (act_g1 rfl hg hb))
   case z16_10 => intro a' w' hE hK hg; exact ok_move (ksv (j := 9) (hK 53 rfl) rfl rfl hg)
   case z16_12 => intro a' w' hE hK hg; exact ok_loadOwn ty4 rfl (ksv (j := 11) (hK 55 rfl) rfl rfl hg) (OwnB.ext f9 hE).own rfl
   case z16_13 => intro a' w' hE hK hg; exact ok_pick (ksv (j := 10) (hK 54 rfl) rfl rfl hg) (fun _ => rfl) (fun hb => ksv (j := 12) (hK 56 rfl) rfl rfl (act_g1 rfl hg hb))
   case z16_14 => intro a' w' hE hK hg; exact ok_pick (ksv (j := 2) (hK 46 rfl) rfl rfl rfl) (fun hb => ksv (j := 13) (hK 57 rfl) rfl rfl (act_g1 rfl rfl hb)) (fun _ => rfl)
   case z16_17 => intro a' w' hE hK hg; exact ok_loadOwn ty4 rfl (ksv (j := 16) (hK 60 rfl) rfl rfl hg) (OwnB.ext f9 hE).own rfl
   case z16_18 => intro a' w' hE hK hg; exact ok_move (ksv (j := 17) (hK 61 rfl) rfl rfl hg)
   case z16_20 => intro a' w' hE hK hg; exact ok_loadOwn ty4 rfl (ksv (j := 19) (hK 63 rfl) rfl rfl hg) (OwnB.ext f9 hE).own rfl
   case z16_21 => intro a' w' hE hK hg; exact ok_not (ksv (j := 20) (hK 64 rfl) rfl rfl hg)
   case z16_22 => intro a' w' hE hK hg; exact ok_pick (ksv (j := 18) (hK 62 rfl) rfl rfl hg) (fun hb => ksv (j := 21) (hK 65 rfl) rfl rfl (act_g1 rfl hg hb)) (fun _ => rfl)
   case z16_23 => intro a' w' hE hK hg; exact ok_move (ksv (j := 22) (hK 66 rfl) rfl rfl hg)
   case z16_25 => intro a' w' hE hK hg; exact ok_loadOwn ty4 rfl (ksv (j := 24) (hK 68 rfl) rfl rfl hg) (OwnB.ext f9 hE).own rfl
   case z16_26 => intro a' w' hE hK hg; exact ok_not (ksv (j := 25) (hK 69 rfl) rfl rfl hg)
   case z16_27 => intro a' w' hE hK hg; exact ok_pick (ksv (j := 23) (hK 67 rfl) rfl rfl hg) (fun hb => ksv (j := 26) (hK 70 rfl) rfl rfl (act_g1 rfl hg hb)) (fun _ => rfl)
   case z16_28 => intro a' w' hE hK hg; exact ok_pick (ksv (j := 15) (hK 59 rfl) rfl rfl rfl) (fun _ => rfl) (fun hb => ksv (j := 27) (hK 71 rfl) rfl rfl (act_g1 rfl rfl hb))
   case zok16 | zgd16 => kernel_rfl
   intro a29 w29 hA hE HF
   replace q0 := kn (HF 0) rfl q0
   replace q2 := kn (HF 2) rfl q2
   replace q7 := kn (HF 7) rfl q7
   replace q14 := kn (HF 14) rfl q14
   replace q15 := kn (HF 15) rfl q15
   have q72 := ksv (HF 72) rfl rfl rfl
   clear q9
   clear HF
   replace h_0 := GR.v_ext _ h_0 hE
   replace f9 := f9.ext hE
   replace hB := Base.step hB hE hO; clear hE
   obtain ⟨x41, hx_, h⟩ := Comp.run_bind h; replace hx_ := Comp.run_pure hx_; rw [hx_] at q72; clear hx_
   refine li_nil (nx_then ?_)
   refine wp_cond_b q72 (fun hc => ?_) (fun hc => ?_)
   ·
    replace h := Comp.run_b_t hc h; clear hc
    refine wp_seq ?_
    refine' region [_] mixed hA (.cons (fun _ _ hE hK hg => ok_assign rfl) .nil) ?zok17 ?zgd17 ?zk17
    case zok17 | zgd17 => kernel_rfl
    intro a30 w30 hA hE HF
    have q7' := ksv (HF 7) rfl rfl rfl
    replace q7 := q7'; clear q7'
    clear q0
    clear q2
    clear q14
    clear q15
    clear q72
    clear HF
    replace h_0 := GR.v_ext _ h_0 hE
    replace hB := Base.step hB hE hO; clear hE
    refine li_nil (nx_then (wp_exit ?_))
    refine (ex_other rfl (ex_then (ex_then (ex_same ?_))))
    have hd_ := hdone2 _ (Comp.run_pure h).symm; clear h
    subst hd_; have h := hk2; clear hk2; try dsimp only at h
    refine nx_then ?_
    exact ⟨_, _, hA, hB, q7, h⟩
   ·
    replace h := Comp.run_b_f hc h; clear hc
    refine wp_skip (nx_blk (nx_then ?_))
    refine' region [_, _] mixed hA (.cons (fun _ _ hE hK hg => ok_add (kn (hK 15 rfl) rfl q15) rfl) (.cons (fun _ _ hE hK hg => ok_move (ksv (j := 0) (hK 73 rfl) rfl rfl rfl)) .nil)) ?zok18 ?zgd18 ?zk18
    case zok18 | zgd18 => kernel_rfl
    intro a31 w31 hA hE HF
    replace q0 := kn (HF 0) rfl q0
    replace q2 := kn (HF 2) rfl q2
    replace q7 := kn (HF 7) rfl q7
    replace q14 := kn (HF 14) rfl q14
    have q15' := ksv (HF 15) rfl rfl rfl
    replace q15 := q15'; clear q15'
    clear q72
    clear HF
    replace h_0 := GR.v_ext _ h_0 hE
    replace hB := Base.step hB hE hO; clear hE
    refine li_nil (nx_then ?_)
    have h := hnext2 _ (Comp.run_pure h).symm
    refine ⟨m2, hlt2, ?_⟩
    exact ⟨_, _, _, hA, hB, q0, h_0, q2, q7, q14, q15, h⟩
  ·
   replace h := Comp.run_b_f hc h; clear hc
   refine wp_exit (ex_then (ex_then (ex_same ?_)))
   have hd_ := hdone2 _ (Comp.run_pure h).symm; clear h
   subst hd_; have h := hk2; clear hk2; try dsimp only at h
   refine nx_then ?_
   exact ⟨_, _, hA, hB, q7, h⟩
 intro a32 w32 hI
 clear hA hB h q0 q1 q2 q7 h_0
 obtain ⟨O45, x44, hA, hB, q7, h⟩ := hI
 unfold court_agrees_j1 at h
 refine wp_seq ?_
 refine' region [_, _] mixed hA (.cons (fun _ _ hE hK hg => ok_move (kn (hK 7 rfl) rfl q7)) (.cons (fun _ _ hE hK hg => ok_assign (ksv (j := 0) (hK 74 rfl) rfl rfl rfl)) .nil)) ?zok19 ?zgd19 ?zk19
 case zok19 | zgd19 => kernel_rfl
 intro a33 w33 hA hE HF
 have q6 := ksv (HF 6) rfl rfl rfl
 clear q7
 clear HF
 replace hB := Base.step hB hE hO; clear hE
 refine li_nil (nx_then (wp_ret (rt_sc ?_)))
 have h := Comp.run_pure h; subst h
 exact retPure Try.results40 hA q6 hB.ext rfl
theorem ok_court_Agrees {O : Tags} {w0 : World} (hO : OkO O w0) {v_0 : Value} {x_0 : List api_Claim} (h_0 : (rSl r_api_Claim).v O w0 v_0 x_0) {v_1 : Value} {x_1 : List api_Sight} (h_1 : (rSl r_api_Sight).v O w0 v_1 x_1) {x_2 : Int} {x_3 : Int} {n : Nat} {y : Bool} (h : (court_Agrees x_0 x_1 x_2 x_3).run n = some y) : Pure Try.prog 15 #[v_0, v_1, .int .i64 x_2, .int .i64 x_3] w0 (SP.isv (.bool y)).holds := by
 unfold court_Agrees at h
 refine pure_of_wp Try.func15 rfl 33 Try.ntmps15 (by simp) fun a0 hA hs0 => ?_
 have q0 : a0.get 0 = v_0 := hs0 0 _ rfl
 have q1 : a0.get 1 = v_1 := hs0 1 _ rfl
 have q2 : a0.get 2 = .int .i64 x_2 := hs0 2 _ rfl
 have q3 : a0.get 3 = .int .i64 x_3 := hs0 3 _ rfl
 clear hs0
 have hB : Base (Fr w0) O w0 O w0 := Base.start hO
 refine wp_seq ?_
 refine' region [_] mixed hA (.cons (fun _ _ hE hK hg => ok_assign rfl) .nil) ?zok1 ?zgd1 ?zk1
 case zok1 | zgd1 => kernel_rfl
 intro a1 w1 hA hE HF
 replace q0 := kn (HF 0) rfl q0
 replace q1 := kn (HF 1) rfl q1
 replace q2 := kn (HF 2) rfl q2
 replace q3 := kn (HF 3) rfl q3
 clear HF
 replace h_0 := GR.v_ext _ h_0 hE
 replace h_1 := GR.v_ext _ h_1 hE
 replace hB := Base.step hB hE hO; clear hE
 refine li_nil (nx_then (wp_seq ?_))
 obtain ⟨x1, hx1, h⟩ := Comp.run_bind h
 obtain ⟨x2, hx2, h⟩ := Comp.run_bind h
 obtain ⟨x3, hx3, h⟩ := Comp.run_bind h
 obtain ⟨x4, hx4, h⟩ := Comp.run_bind h
 refine' region [_, _, _, SP.isv (.int .i64 x1), _, _, _, _, _, _, _, _, _, _, _, _, _, _, _, SP.vl (rSl r_court_voice) O x3, _, _, SP.isv (.bool x4), _, _] mixed hA (.cons (fun _ _ hE hK hg => ok_move (kn (hK 0 rfl) rfl q0)) (.cons (fun _ _ hE hK hg => ok_move (kn (hK 1 rfl) rfl q1)) (.cons (fun _ _ hE hK hg => ok_move (kn (hK 2 rfl) rfl q2)) (.cons ?z2_3 (.cons (fun _ _ hE hK hg => ok_eqlI (ksv (j := 3) (hK 12 rfl) rfl rfl rfl) rfl) (.cons (fun _ _ hE hK hg => ok_move (ksv (j := 4) (hK 13 rfl) rfl rfl rfl)) (.cons (fun _ _ hE hK hg => ok_move (kn (hK 3 rfl) rfl q3)) (.cons ?z2_7 (.cons ?z2_8 (.cons (fun _ _ hE hK hg => ok_move (ksv (j := 8) (hK 17 rfl) rfl rfl rfl)) (.cons (fun _ _ hE hK hg => ok_move (kn (hK 3 rfl) rfl q3)) (.cons (fun _ _ hE hK hg => ok_move (kn (hK 0 rfl) rfl q0)) (.cons ?z2_12 (.cons ?z2_13 (.cons ?z2_14 (.cons ?z2_15 (.cons (fun _ _ hE hK hg => ok_move (ksv (j := 15) (hK 24 rfl) rfl rfl rfl)) (.cons (fun _ _ hE hK hg => ok_move (kn (hK 0 rfl) rfl q0)) (.cons (fun _ _ hE hK hg => ok_move (kn (hK 1 rfl) rfl q1)) (.cons ?z2_19 (.cons (fun _ _ hE hK hg => ok_move (kn (hK 2 rfl) rfl q2)) (.cons (fun _ _ hE hK hg => ok_move (kn (hK 3 rfl) rfl q3)) (.cons ?z2_22 (.cons ?z2_23 (.cons (fun _ _ hE hK hg => ok_assign (ksv (j := 23) (hK 32 rfl) rfl rfl rfl)) .nil))))))))))))))))))))))))) ?zok2 ?zgd2 ?zk2
 case z2_3 => intro a' w' hE hK hg; have c_ := ok_court_Check (OkO.ext hB.ok hE) (GR.v_ext _ h_0 hE) (GR.v_ext _ h_1 hE) hx1; exact ok_call3 fn13 (ksv (j := 0) (hK 9 rfl) rfl rfl rfl) (ksv (j := 1) (hK 10 rfl) rfl rfl rfl) (ksv (j := 2) (hK 11 rfl) rfl rfl rfl) c_
 case z2_7 => intro a' w' hE hK hg; exact ok_geq (ksv (j := 6) (hK 15 rfl) rfl rfl hg) rfl
 case z2_8 => intro a' w' hE hK hg; exact ok_pick (ksv (j := 5) (hK 14 rfl) rfl rfl rfl) (fun hb => ksv (j := 7) (hK 16 rfl) rfl rfl (act_g1 rfl rfl hb)) (fun _ => rfl)
 case z2_12 => intro a' w' hE hK hg; exact okl_len (r := r_api_Claim) ty27 (ksv (j := 11) (hK 20 rfl) rfl rfl hg) (rd_of (GR.v_ext _ h_0 hE))
 case z2_13 => intro a' w' hE hK hg; exact okl_shl rfl (ksv (j := 12) (hK 21 rfl) rfl rfl hg) (run_nonneg (run_gdb hx2 hg))
 case z2_14 => intro a' w' hE hK hg; exact ok_lss (ksv (j := 10) (hK 19 rfl) rfl rfl hg) (ksv (j := 13) (hK 22 rfl) rfl rfl hg)
 case z2_15 => intro a' w' hE hK hg; exact ok_pick (ksv (j := 9) (hK 18 rfl) rfl rfl rfl) (fun hb => ksv (j := 14) (hK 23 rfl) rfl rfl (act_g1 rfl rfl hb)) (fun _ => rfl)
 case z2_19 => intro a' w' hE hK hg; have c_ := ok_court_voices (OkO.ext hB.ok hE) (GR.v_ext _ h_0 hE) (GR.v_ext _ h_1 hE) (run_gdb hx3 hg); exact ok_weak (ok_call2 fn41 (ksv (j := 17) (hK 26 rfl) rfl rfl hg) (ksv (j := 18) (hK 27 rfl) rfl rfl hg) c_) (fun _ _ _ h => (OwnR.val h (fun g hg => (OkO.ext hB.ok hE) g (OwnR.ge h g hg).1)))
 case z2_22 => intro a' w' hE hK hg; have c_ := ok_court_agrees (OkO.ext hB.ok hE) (kspS (φ := SP.vl (rSl r_court_voice) O x3) (j := 19) (hK 28 rfl) rfl rfl hg) (run_gdb hx4 hg); exact ok_call3 fn40 rfl (ksv (j := 20) (hK 29 rfl) rfl rfl hg) (ksv (j := 21) (hK 30 rfl) rfl rfl hg) c_
 case z2_23 => intro a' w' hE hK hg; exact ok_pick (ksv (j := 16) (hK 25 rfl) rfl rfl rfl) (fun hb => ksv (j := 22) (hK 31 rfl) rfl rfl (act_g1 rfl rfl hb)) (fun _ => rfl)
 case zok2 | zgd2 => kernel_rfl
 intro a2 w2 hA hE HF
 have q8 := ksv (HF 8) rfl rfl rfl
 clear q0
 clear q1
 clear q2
 clear q3
 clear HF
 replace h_0 := GR.v_ext _ h_0 hE
 replace h_1 := GR.v_ext _ h_1 hE
 replace hB := Base.step hB hE hO; clear hE
 obtain ⟨x5, hx_, h⟩ := Comp.run_bind h; replace hx_ := Comp.run_pure hx_; rw [hx_] at q8; clear hx_
 refine li_nil (nx_then (wp_ret ?_))
 have h := Comp.run_pure h; subst h
 exact retPure Try.results15 hA q8 hB.ext rfl
theorem ok_math_bits_Len64 {O : Tags} {w0 : World} (hO : OkO O w0) {x_0 : Int} {n : Nat} {y : Int} (h : (math_bits_Len64 x_0).run n = some y) : Pure Try.prog 82 #[.int .u64 x_0] w0 (SP.isv (.int .i64 y)).holds := by
 unfold math_bits_Len64 at h
 refine pure_of_wp Try.func82 rfl 25 Try.ntmps82 (by simp) fun a0 hA hs0 => ?_
 have q0 : a0.get 0 = .int .u64 x_0 := hs0 0 _ rfl
 clear hs0
 have hB : Base (Fr w0) O w0 O w0 := Base.start hO
 refine wp_seq ?_
 refine' region [_] mixed hA (.cons (fun _ _ hE hK hg => ok_assign rfl) .nil) ?zok1 ?zgd1 ?zk1
 case zok1 | zgd1 => kernel_rfl
 intro a1 w1 hA hE HF
 replace q0 := kn (HF 0) rfl q0
 have q2 := ksv (HF 2) rfl rfl rfl
 clear HF
 replace hB := Base.step hB hE hO; clear hE
 refine li_nil (nx_then ?_)
 refine seq_join (fun a w => ∃ (O3 : Tags) (x1 : Int) (x2 : Int), a.fit 25 ∧ Base (Fr w0) O w0 O3 w ∧ a.get 0 = .int .u64 x1 ∧ a.get 2 = .int .i64 x2 ∧ (math_bits_Len64_j1 x1 x2).run n = some y) ?_ ?_
 ·
  refine wp_seq ?_
  refine' region [_, _] mixed hA (.cons (fun _ _ hE hK hg => ok_move (kn (hK 0 rfl) rfl q0)) (.cons (fun _ _ hE hK hg => ok_geq (ksv (j := 0) (hK 3 rfl) rfl rfl rfl) rfl) .nil)) ?zok2 ?zgd2 ?zk2
  case zok2 | zgd2 => kernel_rfl
  intro a2 w2 hA hE HF
  replace q0 := kn (HF 0) rfl q0
  replace q2 := kn (HF 2) rfl q2
  have q4 := ksv (HF 4) rfl rfl rfl
  clear HF
  replace hB := Base.step hB hE hO; clear hE
  refine li_nil (nx_then ?_)
  refine wp_cond_b q4 (fun hc => ?_) (fun hc => ?_)
  ·
   replace h := Comp.run_b_t hc h; clear hc
   refine wp_seq ?_
   refine' region [_, _, _] mixed hA (.cons (fun _ _ hE hK hg => ok_move (kn (hK 0 rfl) rfl q0)) (.cons (fun _ _ hE hK hg => okl_shr (ksv (j := 0) (hK 5 rfl) rfl rfl rfl) rfl (by decide)) (.cons (fun _ _ hE hK hg => ok_assign (ksv (j := 1) (hK 6 rfl) rfl rfl rfl)) .nil))) ?zok3 ?zgd3 ?zk3
   case zok3 | zgd3 => kernel_rfl
   intro a3 w3 hA hE HF
   have q0' := ksv (HF 0) rfl rfl rfl
   replace q0 := q0'; clear q0'
   clear q2
   clear q4
   clear HF
   replace hB := Base.step hB hE hO; clear hE
   refine li_nil (nx_then ?_)
   refine' region [_] mixed hA (.cons (fun _ _ hE hK hg => ok_assign rfl) .nil) ?zok4 ?zgd4 ?zk4
   case zok4 | zgd4 => kernel_rfl
   intro a4 w4 hA hE HF
   replace q0 := kn (HF 0) rfl q0
   have q2 := ksv (HF 2) rfl rfl rfl
   clear HF
   replace hB := Base.step hB hE hO; clear hE
   refine li_nil (nx_then ?_)
   exact ⟨_, _, _, hA, hB, q0, q2, h⟩
  ·
   replace h := Comp.run_b_f hc h; clear hc
   refine wp_skip (nx_then ?_)
   exact ⟨_, _, _, hA, hB, q0, q2, h⟩
 intro a5 w5 hI
 clear hA hB h q0 q2
 obtain ⟨O3, x1, x2, hA, hB, q0, q2, h⟩ := hI
 unfold math_bits_Len64_j1 at h
 refine seq_join (fun a w => ∃ (O6 : Tags) (x4 : Int) (x5 : Int), a.fit 25 ∧ Base (Fr w0) O w0 O6 w ∧ a.get 0 = .int .u64 x4 ∧ a.get 2 = .int .i64 x5 ∧ (math_bits_Len64_j2 x4 x5).run n = some y) ?_ ?_
 ·
  refine wp_seq ?_
  refine' region [_, _] mixed hA (.cons (fun _ _ hE hK hg => ok_move (kn (hK 0 rfl) rfl q0)) (.cons (fun _ _ hE hK hg => ok_geq (ksv (j := 0) (hK 7 rfl) rfl rfl rfl) rfl) .nil)) ?zok5 ?zgd5 ?zk5
  case zok5 | zgd5 => kernel_rfl
  intro a6 w6 hA hE HF
  replace q0 := kn (HF 0) rfl q0
  replace q2 := kn (HF 2) rfl q2
  have q8 := ksv (HF 8) rfl rfl rfl
  clear HF
  replace hB := Base.step hB hE hO; clear hE
  refine li_nil (nx_then ?_)
  refine wp_cond_b q8 (fun hc => ?_) (fun hc => ?_)
  ·
   replace h := Comp.run_b_t hc h; clear hc
   refine wp_seq ?_
   refine' region [_, _, _] mixed hA (.cons (fun _ _ hE hK hg => ok_move (kn (hK 0 rfl) rfl q0)) (.cons (fun _ _ hE hK hg => okl_shr (ksv (j := 0) (hK 9 rfl) rfl rfl rfl) rfl (by decide)) (.cons (fun _ _ hE hK hg => ok_assign (ksv (j := 1) (hK 10 rfl) rfl rfl rfl)) .nil))) ?zok6 ?zgd6 ?zk6
   case zok6 | zgd6 => kernel_rfl
   intro a7 w7 hA hE HF
   have q0' := ksv (HF 0) rfl rfl rfl
   replace q0 := q0'; clear q0'
   replace q2 := kn (HF 2) rfl q2
   clear q8
   clear HF
   replace hB := Base.step hB hE hO; clear hE
   refine li_nil (nx_then ?_)
   refine' region [_, _, _] mixed hA (.cons (fun _ _ hE hK hg => ok_move (kn (hK 2 rfl) rfl q2)) (.cons (fun _ _ hE hK hg => ok_add (ksv (j := 0) (hK 11 rfl) rfl rfl rfl) rfl) (.cons (fun _ _ hE hK hg => ok_assign (ksv (j := 1) (hK 12 rfl) rfl rfl rfl)) .nil))) ?zok7 ?zgd7 ?zk7
   case zok7 | zgd7 => kernel_rfl
   intro a8 w8 hA hE HF
   replace q0 := kn (HF 0) rfl q0
   have q2' := ksv (HF 2) rfl rfl rfl
   replace q2 := q2'; clear q2'
   clear HF
   replace hB := Base.step hB hE hO; clear hE
   refine li_nil (nx_then ?_)
   exact ⟨_, _, _, hA, hB, q0, q2, h⟩
  ·
   replace h := Comp.run_b_f hc h; clear hc
   refine wp_skip (nx_then ?_)
   exact ⟨_, _, _, hA, hB, q0, q2, h⟩
 intro a9 w9 hI
 clear hA hB h q0 q2
 obtain ⟨O6, x4, x5, hA, hB, q0, q2, h⟩ := hI
 unfold math_bits_Len64_j2 at h
 refine seq_join (fun a w => ∃ (O9 : Tags) (x7 : Int) (x8 : Int), a.fit 25 ∧ Base (Fr w0) O w0 O9 w ∧ a.get 0 = .int .u64 x7 ∧ a.get 2 = .int .i64 x8 ∧ (math_bits_Len64_j3 x7 x8).run n = some y) ?_ ?_
 ·
  refine wp_seq ?_
  refine' region [_, _] mixed hA (.cons (fun _ _ hE hK hg => ok_move (kn (hK 0 rfl) rfl q0)) (.cons (fun _ _ hE hK hg => ok_geq (ksv (j := 0) (hK 13 rfl) rfl rfl rfl) rfl) .nil)) ?zok8 ?zgd8 ?zk8
  case zok8 | zgd8 => kernel_rfl
  intro a10 w10 hA hE HF
  replace q0 := kn (HF 0) rfl q0
  replace q2 := kn (HF 2) rfl q2
  have q14 := ksv (HF 14) rfl rfl rfl
  clear HF
  replace hB := Base.step hB hE hO; clear hE
  refine li_nil (nx_then ?_)
  refine wp_cond_b q14 (fun hc => ?_) (fun hc => ?_)
  ·
   replace h := Comp.run_b_t hc h; clear hc
   refine wp_seq ?_
   refine' region [_, _, _] mixed hA (.cons (fun _ _ hE hK hg => ok_move (kn (hK 0 rfl) rfl q0)) (.cons (fun _ _ hE hK hg => okl_shr (ksv (j := 0) (hK 15 rfl) rfl rfl rfl) rfl (by decide)) (.cons (fun _ _ hE hK hg => ok_assign (ksv (j := 1) (hK 16 rfl) rfl rfl rfl)) .nil))) ?zok9 ?zgd9 ?zk9
   case zok9 | zgd9 => kernel_rfl
   intro a11 w11 hA hE HF
   have q0' := ksv (HF 0) rfl rfl rfl
   replace q0 := q0'; clear q0'
   replace q2 := kn (HF 2) rfl q2
   clear q14
   clear HF
   replace hB := Base.step hB hE hO; clear hE
   refine li_nil (nx_then ?_)
   refine' region [_, _, _] mixed hA (.cons (fun _ _ hE hK hg => ok_move (kn (hK 2 rfl) rfl q2)) (.cons (fun _ _ hE hK hg => ok_add (ksv (j := 0) (hK 17 rfl) rfl rfl rfl) rfl) (.cons (fun _ _ hE hK hg => ok_assign (ksv (j := 1) (hK 18 rfl) rfl rfl rfl)) .nil))) ?zok10 ?zgd10 ?zk10
   case zok10 | zgd10 => kernel_rfl
   intro a12 w12 hA hE HF
   replace q0 := kn (HF 0) rfl q0
   have q2' := ksv (HF 2) rfl rfl rfl
   replace q2 := q2'; clear q2'
   clear HF
   replace hB := Base.step hB hE hO; clear hE
   refine li_nil (nx_then ?_)
   exact ⟨_, _, _, hA, hB, q0, q2, h⟩
  ·
   replace h := Comp.run_b_f hc h; clear hc
   refine wp_skip (nx_then ?_)
   exact ⟨_, _, _, hA, hB, q0, q2, h⟩
 intro a13 w13 hI
 clear hA hB h q0 q2
 obtain ⟨O9, x7, x8, hA, hB, q0, q2, h⟩ := hI
 unfold math_bits_Len64_j3 at h
 refine wp_seq ?_
 obtain ⟨x10, hx10, h⟩ := Comp.run_bind h
 refine' region [_, _, _, SP.isv (.int .u8 x10), _, _, _] mixed hA (.cons (fun _ _ hE hK hg => ok_move (kn (hK 2 rfl) rfl q2)) (.cons (fun _ _ hE hK hg => ok_move (kn (hK 0 rfl) rfl q0)) (.cons (fun _ _ hE hK hg => ok_convI ty115 ty5 (ksv (j := 1) (hK 20 rfl) rfl rfl rfl)) (.cons (fun _ _ hE hK hg => okl_indexS ty9 rfl (ksv (j := 2) (hK 21 rfl) rfl rfl rfl) hx10) (.cons (fun _ _ hE hK hg => ok_convI ty5 ty3 (ksv (j := 3) (hK 22 rfl) rfl rfl rfl)) (.cons (fun _ _ hE hK hg => ok_add (ksv (j := 0) (hK 19 rfl) rfl rfl rfl) (ksv (j := 4) (hK 23 rfl) rfl rfl rfl)) (.cons (fun _ _ hE hK hg => ok_assign (ksv (j := 5) (hK 24 rfl) rfl rfl rfl)) .nil))))))) ?zok11 ?zgd11 ?zk11
 case zok11 | zgd11 => kernel_rfl
 intro a14 w14 hA hE HF
 have q2' := ksv (HF 2) rfl rfl rfl
 replace q2 := q2'; clear q2'
 clear q0
 clear HF
 replace hB := Base.step hB hE hO; clear hE
 obtain ⟨x11, hx_, h⟩ := Comp.run_bind h; replace hx_ := Comp.run_pure hx_; rw [hx_] at q2; clear hx_
 refine li_nil (nx_then (wp_ret ?_))
 have h := Comp.run_pure h; subst h
 exact retPure Try.results82 hA q2 hB.ext rfl
theorem ok_math_bits_Len {O : Tags} {w0 : World} (hO : OkO O w0) {x_0 : Int} {n : Nat} {y : Int} (h : (math_bits_Len x_0).run n = some y) : Pure Try.prog 69 #[.int .u64 x_0] w0 (SP.isv (.int .i64 y)).holds := by
 unfold math_bits_Len at h
 refine pure_of_wp Try.func69 rfl 8 Try.ntmps69 (by simp) fun a0 hA hs0 => ?_
 have q0 : a0.get 0 = .int .u64 x_0 := hs0 0 _ rfl
 clear hs0
 have hB : Base (Fr w0) O w0 O w0 := Base.start hO
 refine wp_seq ?_
 refine' region [_] mixed hA (.cons (fun _ _ hE hK hg => ok_assign rfl) .nil) ?zok1 ?zgd1 ?zk1
 case zok1 | zgd1 => kernel_rfl
 intro a1 w1 hA hE HF
 replace q0 := kn (HF 0) rfl q0
 clear HF
 replace hB := Base.step hB hE hO; clear hE
 refine li_nil (nx_then (wp_seq ?_))
 refine wp_cond_false rfl ?_
 refine wp_skip (nx_then (wp_seq ?_))
 obtain ⟨x1, hx1, h⟩ := Comp.run_bind h
 refine' region [_, SP.isv (.int .i64 x1), _] mixed hA (.cons (fun _ _ hE hK hg => ok_move (kn (hK 0 rfl) rfl q0)) (.cons ?z2_1 (.cons (fun _ _ hE hK hg => ok_assign (ksv (j := 1) (hK 7 rfl) rfl rfl rfl)) .nil))) ?zok2 ?zgd2 ?zk2
 case z2_1 => intro a' w' hE hK hg; have c_ := ok_math_bits_Len64 (OkO.ext hB.ok hE)  hx1; exact ok_call1 fn82 (ksv (j := 0) (hK 6 rfl) rfl rfl rfl) c_
 case zok2 | zgd2 => kernel_rfl
 intro a2 w2 hA hE HF
 have q2 := ksv (HF 2) rfl rfl rfl
 clear q0
 clear HF
 replace hB := Base.step hB hE hO; clear hE
 refine li_nil (nx_then (wp_ret ?_))
 have h := Comp.run_pure h; subst h
 exact retPure Try.results69 hA q2 hB.ext rfl
theorem ok_core_Conflicts_f1 {O : Tags} {w0 : World} (hO : OkO O w0) {x_0 : Int} {v_1 : Value} {x_1 : Int} (h_1 : (rBox (rInt .i64)).v O w0 v_1 x_1) {v_2 : Value} {x_2 : List Bool} (h_2 : (rBox (rSl rBool)).v O w0 v_2 x_2) {n : Nat} {y : Bool} (h : (core_Conflicts_f1 x_0 x_1 x_2).run n = some y) : Pure Try.prog 70 #[.int .i64 x_0, v_1, v_2] w0 (SP.isv (.bool y)).holds := by
 unfold core_Conflicts_f1 at h
 refine pure_of_wp Try.func70 rfl 26 Try.ntmps70 (by simp) fun a0 hA hs0 => ?_
 have q0 : a0.get 0 = .int .i64 x_0 := hs0 0 _ rfl
 have q1 : a0.get 1 = v_1 := hs0 1 _ rfl
 have q2 : a0.get 2 = v_2 := hs0 2 _ rfl
 clear hs0
 have hB : Base (Fr w0) O w0 O w0 := Base.start hO
 refine wp_seq ?_
 refine' region [_] mixed hA (.cons (fun _ _ hE hK hg => ok_assign rfl) .nil) ?zok1 ?zgd1 ?zk1
 case zok1 | zgd1 => kernel_rfl
 intro a1 w1 hA hE HF
 replace q0 := kn (HF 0) rfl q0
 replace q1 := kn (HF 1) rfl q1
 replace q2 := kn (HF 2) rfl q2
 clear HF
 replace h_1 := GR.v_ext _ h_1 hE
 replace h_2 := GR.v_ext _ h_2 hE
 replace hB := Base.step hB hE hO; clear hE
 refine li_nil (nx_then ?_)
 refine seq_join (fun a w => ∃ (O8 : Tags), a.fit 26 ∧ Base (Fr w0) O w0 O8 w ∧ (core_Conflicts_f1_j1 ).run n = some y) ?_ ?_
 ·
  refine wp_seq ?_
  refine' region [SP.isv (.int .i64 x_1), _] mixed hA (.cons (fun _ _ hE hK hg => okl_ldr (rInt .i64) (fun _ => rfl) ty3 rfl rfl (kn (hK 1 rfl) rfl q1) (ptr_of_box (fun _ => rfl) (GR.v_ext _ h_1 hE)) (fun _ _ _ h => rInt_v.1 h)) (.cons (fun _ _ hE hK hg => ok_move rfl) .nil)) ?zok2 ?zgd2 ?zk2
  case zok2 | zgd2 => kernel_rfl
  intro a2 w2 hA hE HF
  replace q0 := kn (HF 0) rfl q0
  replace q2 := kn (HF 2) rfl q2
  have q6 := ksv (HF 6) rfl rfl rfl
  have q7 := ksv (HF 7) rfl rfl rfl
  clear q1
  clear HF
  replace h_1 := GR.v_ext _ h_1 hE
  replace h_2 := GR.v_ext _ h_2 hE
  replace hB := Base.step hB hE hO; clear hE
  refine li_nil (nx_then (wp_block ?_))
  obtain ⟨e2, he2, hk2⟩ := Comp.run_bind h; clear h
  refine loop_m (fun m a w => ∃ (O2 : Tags) (x1 : Int), a.fit 26 ∧ Base (Fr w0) O w0 O2 w ∧ a.get 0 = .int .i64 x_0 ∧ a.get 2 = v_2 ∧ (rBox (rSl rBool)).v O2 w v_2 x_2 ∧ a.get 6 = .int .i64 x_1 ∧ a.get 7 = .int .i64 x1 ∧ Comp.loopN (fun s => core_Conflicts_f1_l2 x_1 x_0 x_2 s) n m x1 = some e2) (m := n) ?st2 ?_
  case st2 =>
   exact ⟨_, _, hA, hB, q0, q2, h_2, q6, q7, Comp.run_loop he2⟩
  intro m_ a3 w3 hI
  clear hA hB he2 q0 q2 q6 q7 h_2
  obtain ⟨O2, x1, hA, hB, q0, q2, h_2, q6, q7, hl⟩ := hI
  obtain ⟨m2, hlt2, st2, h, hnext2, hdone2⟩ := Comp.loopN_succ hl; clear hl
  replace h : (core_Conflicts_f1_l2 x_1 x_0 x_2 x1).run n = some st2 := h
  unfold core_Conflicts_f1_l2 at h
  refine wp_seq ?_
  refine' region [_] mixed hA (.cons (fun _ _ hE hK hg => ok_lss (kn (hK 7 rfl) rfl q7) (kn (hK 6 rfl) rfl q6)) .nil) ?zok3 ?zgd3 ?zk3
  case zok3 | zgd3 => kernel_rfl
  intro a4 w4 hA hE HF
  replace q0 := kn (HF 0) rfl q0
  replace q2 := kn (HF 2) rfl q2
  replace q6 := kn (HF 6) rfl q6
  replace q7 := kn (HF 7) rfl q7
  have q8 := ksv (HF 8) rfl rfl rfl
  clear HF
  replace h_2 := GR.v_ext _ h_2 hE
  replace hB := Base.step hB hE hO; clear hE
  refine li_nil (nx_then (wp_seq ?_))
  refine wp_cond_b q8 (fun hc => ?_) (fun hc => ?_)
  ·
   replace h := Comp.run_b_t hc h; clear hc
   refine wp_skip (nx_then (wp_seq (wp_block (wp_seq ?_))))
   refine' region [_, _] mixed hA (.cons (fun _ _ hE hK hg => ok_move (kn (hK 7 rfl) rfl q7)) (.cons (fun _ _ hE hK hg => ok_assign (ksv (j := 0) (hK 9 rfl) rfl rfl rfl)) .nil)) ?zok4 ?zgd4 ?zk4
   case zok4 | zgd4 => kernel_rfl
   intro a5 w5 hA hE HF
   replace q0 := kn (HF 0) rfl q0
   replace q2 := kn (HF 2) rfl q2
   have q5 := ksv (HF 5) rfl rfl rfl
   replace q6 := kn (HF 6) rfl q6
   replace q7 := kn (HF 7) rfl q7
   clear q8
   clear HF
   replace h_2 := GR.v_ext _ h_2 hE
   replace hB := Base.step hB hE hO; clear hE
   refine li_nil (nx_then (wp_seq ?_))
   obtain ⟨x3, hx3, h⟩ := Comp.run_bind h
   obtain ⟨x4, hx4, h⟩ := Comp.run_bind h
   obtain ⟨x5, hx5, h⟩ := Comp.run_bind h
   refine' region [_, _, _, _, _, _, SP.vl (rSl rBool) O2 x_2, _, _, _, _, SP.ptr rBool O2 x5, SP.isv (.bool x5), _, _] mixed hA (.cons (fun _ _ hE hK hg => ok_move (kn (hK 0 rfl) rfl q0)) (.cons (fun _ _ hE hK hg => ok_move (kn (hK 5 rfl) rfl q5)) (.cons (fun _ _ hE hK hg => okl_shr (ksv (j := 0) (hK 10 rfl) rfl rfl rfl) (ksv (j := 1) (hK 11 rfl) rfl rfl rfl) (run_nonneg hx3)) (.cons (fun _ _ hE hK hg => okb_and (ksv (j := 2) (hK 12 rfl) rfl rfl rfl) rfl) (.cons (fun _ _ hE hK hg => ok_eqlI (ksv (j := 3) (hK 13 rfl) rfl rfl rfl) rfl) (.cons (fun _ _ hE hK hg => ok_move (ksv (j := 4) (hK 14 rfl) rfl rfl rfl)) (.cons (fun _ _ hE hK hg => okl_ld (r := (rSl rBool)) (fun _ => rfl) ty47 rfl rfl (kn (hK 2 rfl) rfl q2) (ptr_of_box (fun _ => rfl) (GR.v_ext _ h_2 hE))) (.cons (fun _ _ hE hK hg => ok_move (kn (hK 0 rfl) rfl q0)) (.cons (fun _ _ hE hK hg => ok_move (kn (hK 5 rfl) rfl q5)) (.cons ?z5_9 (.cons ?z5_10 (.cons ?z5_11 (.cons ?z5_12 (.cons ?z5_13 (.cons ?z5_14 .nil))))))))))))))) ?zok5 ?zgd5 ?zk5
   case z5_9 => intro a' w' hE hK hg; exact okl_shl rfl (ksv (j := 8) (hK 18 rfl) rfl rfl hg) (run_nonneg (run_gdb hx4 hg))
   case z5_10 => intro a' w' hE hK hg; exact okb_andNot (ksv (j := 7) (hK 17 rfl) rfl rfl hg) (ksv (j := 9) (hK 19 rfl) rfl rfl hg)
   case z5_11 => intro a' w' hE hK hg; exact okl_idx (r := rBool) (O := O2) ty47 ty4 rfl rfl (rd_of (kspS (φ := SP.vl (rSl rBool) O2 x_2) (j := 6) (hK 16 rfl) rfl rfl hg)) (ksv (j := 10) (hK 20 rfl) rfl rfl hg) (run_gdb hx5 hg)
   case z5_12 => intro a' w' hE hK hg; exact okl_ldr rBool (fun _ => rfl) ty4 rfl rfl rfl (kspS (φ := SP.ptr rBool O2 x5) (j := 11) (hK 21 rfl) rfl rfl hg) (fun _ _ _ h => rBool_v.1 h)
   case z5_13 => intro a' w' hE hK hg; exact ok_not (ksv (j := 12) (hK 22 rfl) rfl rfl hg)
   case z5_14 => intro a' w' hE hK hg; exact ok_pick (ksv (j := 5) (hK 15 rfl) rfl rfl rfl) (fun hb => ksv (j := 13) (hK 23 rfl) rfl rfl (act_g1 rfl rfl hb)) (fun _ => rfl)
   case zok5 | zgd5 => kernel_rfl
   intro a6 w6 hA hE HF
   replace q0 := kn (HF 0) rfl q0
   replace q2 := kn (HF 2) rfl q2
   replace q6 := kn (HF 6) rfl q6
   replace q7 := kn (HF 7) rfl q7
   have q24 := ksv (HF 24) rfl rfl rfl
   clear q5
   clear HF
   replace h_2 := GR.v_ext _ h_2 hE
   replace hB := Base.step hB hE hO; clear hE
   obtain ⟨x6, hx_, h⟩ := Comp.run_bind h; replace hx_ := Comp.run_pure hx_; rw [hx_] at q24; clear hx_
   refine li_nil (nx_then ?_)
   refine wp_cond_b q24 (fun hc => ?_) (fun hc => ?_)
   ·
    replace h := Comp.run_b_t hc h; clear hc
    refine wp_seq ?_
    refine' region [_] mixed hA (.cons (fun _ _ hE hK hg => ok_assign rfl) .nil) ?zok6 ?zgd6 ?zk6
    case zok6 | zgd6 => kernel_rfl
    intro a7 w7 hA hE HF
    have q4 := ksv (HF 4) rfl rfl rfl
    clear q0
    clear q2
    clear q6
    clear q7
    clear q24
    clear HF
    replace h_2 := GR.v_ext _ h_2 hE
    replace hB := Base.step hB hE hO; clear hE
    refine li_nil (nx_then (wp_ret (rt_blk (rt_then (rt_then (rt_blk (rt_then ?_)))))))
    have hd_ := hdone2 _ (Comp.run_pure h).symm; clear h
    subst hd_; have h := hk2; clear hk2; try dsimp only at h
    have h := Comp.run_pure h; subst h
    exact retPure Try.results70 hA q4 hB.ext rfl
   ·
    replace h := Comp.run_b_f hc h; clear hc
    refine wp_skip (nx_blk (nx_then ?_))
    refine' region [_, _] mixed hA (.cons (fun _ _ hE hK hg => ok_add (kn (hK 7 rfl) rfl q7) rfl) (.cons (fun _ _ hE hK hg => ok_move (ksv (j := 0) (hK 25 rfl) rfl rfl rfl)) .nil)) ?zok7 ?zgd7 ?zk7
    case zok7 | zgd7 => kernel_rfl
    intro a8 w8 hA hE HF
    replace q0 := kn (HF 0) rfl q0
    replace q2 := kn (HF 2) rfl q2
    replace q6 := kn (HF 6) rfl q6
    have q7' := ksv (HF 7) rfl rfl rfl
    replace q7 := q7'; clear q7'
    clear q24
    clear HF
    replace h_2 := GR.v_ext _ h_2 hE
    replace hB := Base.step hB hE hO; clear hE
    refine li_nil (nx_then ?_)
    have h := hnext2 _ (Comp.run_pure h).symm
    refine ⟨m2, hlt2, ?_⟩
    exact ⟨_, _, hA, hB, q0, q2, h_2, q6, q7, h⟩
  ·
   replace h := Comp.run_b_f hc h; clear hc
   refine wp_exit (ex_then (ex_then (ex_same ?_)))
   have hd_ := hdone2 _ (Comp.run_pure h).symm; clear h
   subst hd_; have h := hk2; clear hk2; try dsimp only at h
   refine nx_then ?_
   exact ⟨_, hA, hB, h⟩
 intro a9 w9 hI
 clear hA hB h q0 q1 q2 h_1 h_2
 obtain ⟨O8, hA, hB, h⟩ := hI
 unfold core_Conflicts_f1_j1 at h
 refine wp_seq ?_
 refine' region [_] mixed hA (.cons (fun _ _ hE hK hg => ok_assign rfl) .nil) ?zok8 ?zgd8 ?zk8
 case zok8 | zgd8 => kernel_rfl
 intro a10 w10 hA hE HF
 have q4 := ksv (HF 4) rfl rfl rfl
 clear HF
 replace hB := Base.step hB hE hO; clear hE
 refine li_nil (nx_then (wp_ret ?_))
 have h := Comp.run_pure h; subst h
 exact retPure Try.results70 hA q4 hB.ext rfl
theorem ok_core_Conflicts_f2 {O : Tags} {w0 : World} (hO : OkO O w0) {x_0 : Int} {v_1 : Value} {x_1 : List Bool} (h_1 : (rBox (rSl rBool)).v O w0 v_1 x_1) {v_2 : Value} {x_2 : Int → Comp Bool} (h_2 : (rBox (rF1 Try.prog (rInt .i64) (RS.c (fun x => .bool x)))).v O w0 v_2 x_2) {n : Nat} {y : Bool} (h : (core_Conflicts_f2 x_0 x_1 x_2).run n = some y) : Pure Try.prog 72 #[.int .i64 x_0, v_1, v_2] w0 (SP.isv (.bool y)).holds := by
 unfold core_Conflicts_f2 at h
 refine pure_of_wp Try.func72 rfl 15 Try.ntmps72 (by simp) fun a0 hA hs0 => ?_
 have q0 : a0.get 0 = .int .i64 x_0 := hs0 0 _ rfl
 have q1 : a0.get 1 = v_1 := hs0 1 _ rfl
 have q2 : a0.get 2 = v_2 := hs0 2 _ rfl
 clear hs0
 have hB : Base (Fr w0) O w0 O w0 := Base.start hO
 refine wp_seq ?_
 refine' region [_] mixed hA (.cons (fun _ _ hE hK hg => ok_assign rfl) .nil) ?zok1 ?zgd1 ?zk1
 case zok1 | zgd1 => kernel_rfl
 intro a1 w1 hA hE HF
 replace q0 := kn (HF 0) rfl q0
 replace q1 := kn (HF 1) rfl q1
 replace q2 := kn (HF 2) rfl q2
 clear HF
 replace h_1 := GR.v_ext _ h_1 hE
 replace h_2 := GR.v_ext _ h_2 hE
 replace hB := Base.step hB hE hO; clear hE
 refine li_nil (nx_then (wp_seq ?_))
 obtain ⟨x1, hx1, h⟩ := Comp.run_bind h
 obtain ⟨x2, hx2, h⟩ := Comp.run_bind h
 refine' region [SP.vl (rSl rBool) O x_1, _, SP.ptr rBool O x1, SP.isv (.bool x1), _, SP.vl (rF1 Try.prog (rInt .i64) (RS.c (fun x => .bool x))) O x_2, _, SP.isv (.bool x2), _, _, _] mixed hA (.cons (fun _ _ hE hK hg => okl_ld (r := (rSl rBool)) (fun _ => rfl) ty47 rfl rfl (kn (hK 1 rfl) rfl q1) (ptr_of_box (fun _ => rfl) (GR.v_ext _ h_1 hE))) (.cons (fun _ _ hE hK hg => ok_move (kn (hK 0 rfl) rfl q0)) (.cons (fun _ _ hE hK hg => okl_idx (r := rBool) (O := O) ty47 ty4 rfl rfl (rd_of (kspS (φ := SP.vl (rSl rBool) O x_1) (j := 0) (hK 5 rfl) rfl rfl rfl)) (ksv (j := 1) (hK 6 rfl) rfl rfl rfl) hx1) (.cons (fun _ _ hE hK hg => okl_ldr rBool (fun _ => rfl) ty4 rfl rfl rfl (kspS (φ := SP.ptr rBool O x1) (j := 2) (hK 7 rfl) rfl rfl rfl) (fun _ _ _ h => rBool_v.1 h)) (.cons (fun _ _ hE hK hg => ok_move (ksv (j := 3) (hK 8 rfl) rfl rfl rfl)) (.cons (fun _ _ hE hK hg => okl_ld (r := (rF1 Try.prog (rInt .i64) (RS.c (fun x => .bool x)))) (fun _ => rfl) ty79 rfl rfl (kn (hK 2 rfl) rfl q2) (ptr_of_box (fun _ => rfl) (GR.v_ext _ h_2 hE))) (.cons (fun _ _ hE hK hg => ok_move (kn (hK 0 rfl) rfl q0)) (.cons ?z2_7 (.cons ?z2_8 (.cons ?z2_9 (.cons (fun _ _ hE hK hg => ok_assign (ksv (j := 9) (hK 14 rfl) rfl rfl rfl)) .nil))))))))))) ?zok2 ?zgd2 ?zk2
 case z2_7 => intro a' w' hE hK hg; exact okl_callv1 (R := (RS.c (fun x => .bool x))) rfl (show ((rF1 Try.prog (rInt .i64) (RS.c (fun x => .bool x)))).v O _ _ _ from (kspS (φ := SP.vl (rF1 Try.prog (rInt .i64) (RS.c (fun x => .bool x))) O x_2) (j := 5) (hK 10 rfl) rfl rfl hg)) (OkO.ext hB.ok hE) (ksv (j := 6) (hK 11 rfl) rfl rfl hg) (by exact rInt_v.2 rfl) (run_gdb hx2 hg)
 case z2_8 => intro a' w' hE hK hg; exact ok_not (ksv (j := 7) (hK 12 rfl) rfl rfl hg)
 case z2_9 => intro a' w' hE hK hg; exact ok_pick (ksv (j := 4) (hK 9 rfl) rfl rfl rfl) (fun hb => ksv (j := 8) (hK 13 rfl) rfl rfl (act_g1 rfl rfl hb)) (fun _ => rfl)
 case zok2 | zgd2 => kernel_rfl
 intro a2 w2 hA hE HF
 have q4 := ksv (HF 4) rfl rfl rfl
 clear q0
 clear q1
 clear q2
 clear HF
 replace h_1 := GR.v_ext _ h_1 hE
 replace h_2 := GR.v_ext _ h_2 hE
 replace hB := Base.step hB hE hO; clear hE
 refine li_nil (nx_then (wp_ret ?_))
 have h := Comp.run_pure h; subst h
 exact retPure Try.results72 hA q4 hB.ext rfl
theorem ok_core_only {O : Tags} {w0 : World} (hO : OkO O w0) {x_0 : Int} {v_1 : Value} {x_1 : Int → Comp Bool} (h_1 : (rF1 Try.prog (rInt .i64) (RS.c (fun x => .bool x))).v O w0 v_1 x_1) {n : Nat} {y : (List Int)} (h : (core_only x_0 x_1).run n = some y) : Pure Try.prog 71 #[.int .i64 x_0, v_1] w0 (SP.ownr (rInt .i64) 3 (w0.heap.size) O y).holds := by
 unfold core_only at h
 refine pure_of_wp Try.func71 rfl 20 Try.ntmps71 (by simp) fun a0 hA hs0 => ?_
 have q0 : a0.get 0 = .int .i64 x_0 := hs0 0 _ rfl
 have q1 : a0.get 1 = v_1 := hs0 1 _ rfl
 clear hs0
 have hB : Base (Fr w0) O w0 O w0 := Base.start hO
 refine wp_seq ?_
 refine' region [_] mixed hA (.cons (fun _ _ hE hK hg => ok_assign rfl) .nil) ?zok1 ?zgd1 ?zk1
 case zok1 | zgd1 => kernel_rfl
 intro a1 w1 hA hE HF
 replace q0 := kn (HF 0) rfl q0
 replace q1 := kn (HF 1) rfl q1
 clear HF
 replace h_1 := GR.v_ext _ h_1 hE
 replace hB := Base.step hB hE hO; clear hE
 refine li_nil (nx_then (wp_seq ?_))
 refine' region [_] mixed hA (.cons (fun _ _ hE hK hg => ok_assign rfl) .nil) ?zok2 ?zgd2 ?zk2
 case zok2 | zgd2 => kernel_rfl
 intro a2 w2 hA hE HF
 replace q0 := kn (HF 0) rfl q0
 replace q1 := kn (HF 1) rfl q1
 have q5 := ksv (HF 5) rfl rfl rfl
 clear HF
 replace h_1 := GR.v_ext _ h_1 hE
 replace hB := Base.step hB hE hO; clear hE
 refine li_nil (nx_then ?_)
 refine seq_join (fun a w => ∃ (O22 : Tags) (x19 : List Int) (u20 : Value), a.fit 20 ∧ Base (Fr w0) O w0 O22 w ∧ a.get 5 = u20 ∧ OwnL 1 (rInt .i64) 3 (Fr w0) O22 w u20 x19 ∧ (core_only_j1 x19).run n = some y) ?_ ?_
 ·
  refine wp_seq ?_
  refine' region [_, _] mixed hA (.cons (fun _ _ hE hK hg => ok_move (kn (hK 0 rfl) rfl q0)) (.cons (fun _ _ hE hK hg => ok_move rfl) .nil)) ?zok3 ?zgd3 ?zk3
  case zok3 | zgd3 => kernel_rfl
  intro a3 w3 hA hE HF
  replace q1 := kn (HF 1) rfl q1
  replace q5 := kn (HF 5) rfl q5
  have q7 := ksv (HF 7) rfl rfl rfl
  have q8 := ksv (HF 8) rfl rfl rfl
  clear q0
  clear HF
  replace h_1 := GR.v_ext _ h_1 hE
  replace hB := Base.step hB hE hO; clear hE
  refine li_nil (nx_then (wp_block ?_))
  obtain ⟨e2, he2, hk2⟩ := Comp.run_bind h; clear h
  refine loop_m (fun m a w => ∃ (O5 : Tags) (x1 : List Int) (x4 : Int) (u2 : Value), a.fit 20 ∧ Base (Fr w0) O w0 O5 w ∧ a.get 1 = v_1 ∧ (rF1 Try.prog (rInt .i64) (RS.c (fun x => .bool x))).v O5 w v_1 x_1 ∧ a.get 5 = u2 ∧ OwnL 1 (rInt .i64) 3 (Fr w0) O5 w u2 x1 ∧ a.get 7 = .int .i64 x_0 ∧ a.get 8 = .int .i64 x4 ∧ Comp.loopN (fun s => core_only_l2 x_0 x_1 s.1 s.2) n m (x1, x4) = some e2) (m := n) ?st2 ?_
  case st2 =>
   exact ⟨_, _, _, _, hA, hB, q1, h_1, q5, (OwnL.nil _ _ _ _ _ _), q7, q8, Comp.run_loop he2⟩
  intro m_ a4 w4 hI
  clear hA hB he2 q1 q5 q7 q8 h_1
  obtain ⟨O5, x1, x4, u2, hA, hB, q1, h_1, q5, f3, q7, q8, hl⟩ := hI
  obtain ⟨m2, hlt2, st2, h, hnext2, hdone2⟩ := Comp.loopN_succ hl; clear hl
  replace h : (core_only_l2 x_0 x_1 x1 x4).run n = some st2 := h
  unfold core_only_l2 at h
  refine wp_seq ?_
  refine' region [_] mixed hA (.cons (fun _ _ hE hK hg => ok_lss (kn (hK 8 rfl) rfl q8) (kn (hK 7 rfl) rfl q7)) .nil) ?zok4 ?zgd4 ?zk4
  case zok4 | zgd4 => kernel_rfl
  intro a5 w5 hA hE HF
  replace q1 := kn (HF 1) rfl q1
  replace q5 := kn (HF 5) rfl q5
  replace q7 := kn (HF 7) rfl q7
  replace q8 := kn (HF 8) rfl q8
  have q9 := ksv (HF 9) rfl rfl rfl
  clear HF
  replace h_1 := GR.v_ext _ h_1 hE
  replace f3 := f3.ext hE
  replace hB := Base.step hB hE hO; clear hE
  refine li_nil (nx_then (wp_seq ?_))
  refine wp_cond_b q9 (fun hc => ?_) (fun hc => ?_)
  ·
   replace h := Comp.run_b_t hc h; clear hc
   refine wp_skip (nx_then ?_)
   refine seq_join (fun a w => ∃ (O16 : Tags) (x13 : List Int) (u14 : Value), a.fit 20 ∧ Base (Fr w0) O w0 O16 w ∧ a.get 1 = v_1 ∧ (rF1 Try.prog (rInt .i64) (RS.c (fun x => .bool x))).v O16 w v_1 x_1 ∧ a.get 5 = u14 ∧ OwnL 1 (rInt .i64) 3 (Fr w0) O16 w u14 x13 ∧ a.get 7 = .int .i64 x_0 ∧ a.get 8 = .int .i64 x4 ∧ (core_only_j3 x4 x13).run n = some st2) ?_ ?_
   ·
    refine wp_block (wp_seq ?_)
    refine' region [_, _] mixed hA (.cons (fun _ _ hE hK hg => ok_move (kn (hK 8 rfl) rfl q8)) (.cons (fun _ _ hE hK hg => ok_assign (ksv (j := 0) (hK 10 rfl) rfl rfl rfl)) .nil)) ?zok5 ?zgd5 ?zk5
    case zok5 | zgd5 => kernel_rfl
    intro a6 w6 hA hE HF
    replace q1 := kn (HF 1) rfl q1
    replace q5 := kn (HF 5) rfl q5
    have q6 := ksv (HF 6) rfl rfl rfl
    replace q7 := kn (HF 7) rfl q7
    replace q8 := kn (HF 8) rfl q8
    clear q9
    clear HF
    replace h_1 := GR.v_ext _ h_1 hE
    replace f3 := f3.ext hE
    replace hB := Base.step hB hE hO; clear hE
    refine li_nil (nx_then (wp_seq ?_))
    obtain ⟨x6, hx6, h⟩ := Comp.run_bind h
    refine' region [_, _, SP.isv (.bool x6)] mixed hA (.cons (fun _ _ hE hK hg => ok_move (kn (hK 1 rfl) rfl q1)) (.cons (fun _ _ hE hK hg => ok_move (kn (hK 6 rfl) rfl q6)) (.cons (fun _ _ hE hK hg => okl_callv1 (R := (RS.c (fun x => .bool x))) (ksv (j := 0) (hK 11 rfl) rfl rfl rfl) (show ((rF1 Try.prog (rInt .i64) (RS.c (fun x => .bool x)))).v O5 _ _ _ from (GR.v_ext _ h_1 hE)) (OkO.ext hB.ok hE) (ksv (j := 1) (hK 12 rfl) rfl rfl rfl) (by exact rInt_v.2 rfl) hx6) .nil))) ?zok6 ?zgd6 ?zk6
    case zok6 | zgd6 => kernel_rfl
    intro a7 w7 hA hE HF
    replace q1 := kn (HF 1) rfl q1
    replace q5 := kn (HF 5) rfl q5
    replace q6 := kn (HF 6) rfl q6
    replace q7 := kn (HF 7) rfl q7
    replace q8 := kn (HF 8) rfl q8
    have q13 := ksv (HF 13) rfl rfl rfl
    clear HF
    replace h_1 := GR.v_ext _ h_1 hE
    replace f3 := f3.ext hE
    replace hB := Base.step hB hE hO; clear hE
    refine li_nil (nx_then ?_)
    refine wp_cond_b q13 (fun hc => ?_) (fun hc => ?_)
    ·
     replace h := Comp.run_b_t hc h; clear hc
     refine' regionT [_, _, SP.vl (rSl (rInt .i64)) O5 [x4]] hA (.cons (fun _ _ hE hK hg => ok_move (kn (hK 5 rfl) rfl q5)) (.cons (fun _ _ hE hK hg => ok_move (kn (hK 6 rfl) rfl q6)) (.cons (fun _ _ hE hK hg => okl_buildSliceV (r := (rInt .i64)) (fun _ => rfl) rfl (OkO.ext hB.ok hE) ty23 ty3 (parts_cons (ksv (j := 1) (hK 15 rfl) rfl rfl rfl) parts_nil) ⟨(by exact rInt_v.2 rfl), trivial⟩ rfl (by decide)) .nil))) ?zok7 ?zgd7 ?zk7
     case zok7 | zgd7 => kernel_rfl
     intro a8 w8 hA hE HF
     replace q1 := kn (HF 1) rfl q1
     replace q5 := kn (HF 5) rfl q5
     replace q7 := kn (HF 7) rfl q7
     replace q8 := kn (HF 8) rfl q8
     have q14 := ksv (HF 14) rfl rfl rfl
     have f8 := ksp (HF 16) rfl rfl rfl
     obtain ⟨u7, q16'⟩ : ∃ u, a8.get 16 = u := ⟨_, rfl⟩
     rw [q16'] at f8
     have q16 := q16'; clear q16'
     clear q6
     clear q13
     clear HF
     replace h_1 := GR.v_ext _ h_1 hE
     replace f3 := f3.ext hE
     replace hB := Base.step hB hE hO; clear hE
     obtain ⟨x9, hx9, h⟩ := Comp.run_bind h
     refine l_append (r := (rInt .i64)) (fun _ => rfl) rfl ty23 ty3 rfl (by decide) hO hB (okB_fr hB) q14 f3 q16 (rd_of f8) hx9 (by decide) fun u10 w9 O11 f12 hB' hX => ?_
     clear hB; have hB := hB'; clear hB'
     clear f3
     replace h_1 := GR.kx _ h_1 hX (by decide)
     replace f8 := GR.kx _ f8 hX (by decide)
     clear hX
     refine put_cont hA (by decide) fun a10 hA q_ hfr => ?_
     replace q1 := (hfr 1 rfl).trans q1
     replace q5 := (hfr 5 rfl).trans q5
     replace q7 := (hfr 7 rfl).trans q7
     replace q8 := (hfr 8 rfl).trans q8
     replace q14 := (hfr 14 rfl).trans q14
     replace q16 := (hfr 16 rfl).trans q16
     have q17 := q_; clear q_ hfr
     refine l_ok (φ := SP.isv (u10)) hO hB (by exact ok_assign q17) rfl fun u_ w11 hE hB' hv_ => ?_
     replace hv_ := Eq.symm hv_; subst hv_; clear hB; have hB := hB'; clear hB'
     replace h_1 := GR.v_ext _ h_1 hE
     replace f12 := f12.ext hE
     clear hE
     refine put_cont hA (by decide) fun a12 hA q_ hfr => ?_
     replace q1 := (hfr 1 rfl).trans q1
     replace q7 := (hfr 7 rfl).trans q7
     replace q8 := (hfr 8 rfl).trans q8
     replace q17 := (hfr 17 rfl).trans q17
     clear q5
     have q5 := q_; clear q_ hfr
     refine li_nil (nx_blk (nx_then ?_))
     exact ⟨_, _, _, hA, hB, q1, h_1, q5, f12, q7, q8, h⟩
    ·
     replace h := Comp.run_b_f hc h; clear hc
     refine wp_skip (nx_blk (nx_then ?_))
     exact ⟨_, _, _, hA, hB, q1, h_1, q5, f3, q7, q8, h⟩
   intro a13 w13 hI
   clear hA hB h q1 q5 q7 q8 q9 f3 h_1
   obtain ⟨O16, x13, u14, hA, hB, q1, h_1, q5, f15, q7, q8, h⟩ := hI
   unfold core_only_j3 at h
   refine' region [_, _] mixed hA (.cons (fun _ _ hE hK hg => ok_add (kn (hK 8 rfl) rfl q8) rfl) (.cons (fun _ _ hE hK hg => ok_move (ksv (j := 0) (hK 18 rfl) rfl rfl rfl)) .nil)) ?zok8 ?zgd8 ?zk8
   case zok8 | zgd8 => kernel_rfl
   intro a14 w14 hA hE HF
   replace q1 := kn (HF 1) rfl q1
   replace q5 := kn (HF 5) rfl q5
   replace q7 := kn (HF 7) rfl q7
   have q8' := ksv (HF 8) rfl rfl rfl
   replace q8 := q8'; clear q8'
   clear HF
   replace h_1 := GR.v_ext _ h_1 hE
   replace f15 := f15.ext hE
   replace hB := Base.step hB hE hO; clear hE
   refine li_nil (nx_then ?_)
   have h := hnext2 _ (Comp.run_pure h).symm
   refine ⟨m2, hlt2, ?_⟩
   exact ⟨_, _, _, _, hA, hB, q1, h_1, q5, f15, q7, q8, h⟩
  ·
   replace h := Comp.run_b_f hc h; clear hc
   refine wp_exit (ex_then (ex_then (ex_same ?_)))
   have hd_ := hdone2 _ (Comp.run_pure h).symm; clear h
   subst hd_; have h := hk2; clear hk2; try dsimp only at h
   refine nx_then ?_
   exact ⟨_, _, _, hA, hB, q5, f3, h⟩
 intro a15 w15 hI
 clear hA hB h q0 q1 q5 h_1
 obtain ⟨O22, x19, u20, hA, hB, q5, f21, h⟩ := hI
 unfold core_only_j1 at h
 refine wp_seq ?_
 refine' region [_, _] mixed hA (.cons (fun _ _ hE hK hg => ok_move (kn (hK 5 rfl) rfl q5)) (.cons (fun _ _ hE hK hg => ok_assign (ksv (j := 0) (hK 19 rfl) rfl rfl rfl)) .nil)) ?zok9 ?zgd9 ?zk9
 case zok9 | zgd9 => kernel_rfl
 intro a16 w16 hA hE HF
 have q4 := ksv (HF 4) rfl rfl rfl
 clear q5
 clear HF
 replace f21 := f21.ext hE
 replace hB := Base.step hB hE hO; clear hE
 refine li_nil (nx_then (wp_ret ?_))
 have h := Comp.run_pure h; subst h
 exact retPure Try.results71 hA q4 hB.ext (OwnL.res f21 (by decide) hB.zero)
theorem ok_core_Conflicts_f3 {O : Tags} {w0 : World} (hO : OkO O w0) {x_0 : Int} {v_1 : Value} {x_1 : List Bool} (h_1 : (rBox (rSl rBool)).v O w0 v_1 x_1) {v_2 : Value} {x_2 : Int → Comp Bool} (h_2 : (rBox (rF1 Try.prog (rInt .i64) (RS.c (fun x => .bool x)))).v O w0 v_2 x_2) {n : Nat} {y : Bool} (h : (core_Conflicts_f3 x_0 x_1 x_2).run n = some y) : Pure Try.prog 73 #[.int .i64 x_0, v_1, v_2] w0 (SP.isv (.bool y)).holds := by
 unfold core_Conflicts_f3 at h
 refine pure_of_wp Try.func73 rfl 15 Try.ntmps73 (by simp) fun a0 hA hs0 => ?_
 have q0 : a0.get 0 = .int .i64 x_0 := hs0 0 _ rfl
 have q1 : a0.get 1 = v_1 := hs0 1 _ rfl
 have q2 : a0.get 2 = v_2 := hs0 2 _ rfl
 clear hs0
 have hB : Base (Fr w0) O w0 O w0 := Base.start hO
 refine wp_seq ?_
 refine' region [_] mixed hA (.cons (fun _ _ hE hK hg => ok_assign rfl) .nil) ?zok1 ?zgd1 ?zk1
 case zok1 | zgd1 => kernel_rfl
 intro a1 w1 hA hE HF
 replace q0 := kn (HF 0) rfl q0
 replace q1 := kn (HF 1) rfl q1
 replace q2 := kn (HF 2) rfl q2
 clear HF
 replace h_1 := GR.v_ext _ h_1 hE
 replace h_2 := GR.v_ext _ h_2 hE
 replace hB := Base.step hB hE hO; clear hE
 refine li_nil (nx_then (wp_seq ?_))
 obtain ⟨x1, hx1, h⟩ := Comp.run_bind h
 obtain ⟨x2, hx2, h⟩ := Comp.run_bind h
 refine' region [SP.vl (rSl rBool) O x_1, _, SP.ptr rBool O x1, SP.isv (.bool x1), _, _, SP.vl (rF1 Try.prog (rInt .i64) (RS.c (fun x => .bool x))) O x_2, _, SP.isv (.bool x2), _, _] mixed hA (.cons (fun _ _ hE hK hg => okl_ld (r := (rSl rBool)) (fun _ => rfl) ty47 rfl rfl (kn (hK 1 rfl) rfl q1) (ptr_of_box (fun _ => rfl) (GR.v_ext _ h_1 hE))) (.cons (fun _ _ hE hK hg => ok_move (kn (hK 0 rfl) rfl q0)) (.cons (fun _ _ hE hK hg => okl_idx (r := rBool) (O := O) ty47 ty4 rfl rfl (rd_of (kspS (φ := SP.vl (rSl rBool) O x_1) (j := 0) (hK 5 rfl) rfl rfl rfl)) (ksv (j := 1) (hK 6 rfl) rfl rfl rfl) hx1) (.cons (fun _ _ hE hK hg => okl_ldr rBool (fun _ => rfl) ty4 rfl rfl rfl (kspS (φ := SP.ptr rBool O x1) (j := 2) (hK 7 rfl) rfl rfl rfl) (fun _ _ _ h => rBool_v.1 h)) (.cons (fun _ _ hE hK hg => ok_not (ksv (j := 3) (hK 8 rfl) rfl rfl rfl)) (.cons (fun _ _ hE hK hg => ok_move (ksv (j := 4) (hK 9 rfl) rfl rfl rfl)) (.cons (fun _ _ hE hK hg => okl_ld (r := (rF1 Try.prog (rInt .i64) (RS.c (fun x => .bool x)))) (fun _ => rfl) ty79 rfl rfl (kn (hK 2 rfl) rfl q2) (ptr_of_box (fun _ => rfl) (GR.v_ext _ h_2 hE))) (.cons (fun _ _ hE hK hg => ok_move (kn (hK 0 rfl) rfl q0)) (.cons ?z2_8 (.cons ?z2_9 (.cons (fun _ _ hE hK hg => ok_assign (ksv (j := 9) (hK 14 rfl) rfl rfl rfl)) .nil))))))))))) ?zok2 ?zgd2 ?zk2
 case z2_8 => intro a' w' hE hK hg; exact okl_callv1 (R := (RS.c (fun x => .bool x))) rfl (show ((rF1 Try.prog (rInt .i64) (RS.c (fun x => .bool x)))).v O _ _ _ from (kspS (φ := SP.vl (rF1 Try.prog (rInt .i64) (RS.c (fun x => .bool x))) O x_2) (j := 6) (hK 11 rfl) rfl rfl hg)) (OkO.ext hB.ok hE) (ksv (j := 7) (hK 12 rfl) rfl rfl hg) (by exact rInt_v.2 rfl) (run_gdb hx2 hg)
 case z2_9 => intro a' w' hE hK hg; exact ok_pick (ksv (j := 5) (hK 10 rfl) rfl rfl rfl) (fun hb => ksv (j := 8) (hK 13 rfl) rfl rfl (act_g1 rfl rfl hb)) (fun _ => rfl)
 case zok2 | zgd2 => kernel_rfl
 intro a2 w2 hA hE HF
 have q4 := ksv (HF 4) rfl rfl rfl
 clear q0
 clear q1
 clear q2
 clear HF
 replace h_1 := GR.v_ext _ h_1 hE
 replace h_2 := GR.v_ext _ h_2 hE
 replace hB := Base.step hB hE hO; clear hE
 refine li_nil (nx_then (wp_ret ?_))
 have h := Comp.run_pure h; subst h
 exact retPure Try.results73 hA q4 hB.ext rfl
theorem ok_core_Conflicts {O : Tags} {w0 : World} (hO : OkO O w0) {v_0 : Value} {x_0 : List Bool} (h_0 : (rSl rBool).v O w0 v_0 x_0) {n : Nat} {y : ((List Int) × Int)} (h : (core_Conflicts x_0).run n = some y) : Pure Try.prog 51 #[v_0] w0 (SP.tup2 (SP.ownr (rInt .i64) 3 (w0.heap.size) O y.1) (SP.isv (.int .i64 y.2))).holds := by
 unfold core_Conflicts at h
 refine pure_of_wp Try.func51 rfl 38 Try.ntmps51 (by simp) fun a0 hA hs0 => ?_
 have q0 : a0.get 0 = v_0 := hs0 0 _ rfl
 clear hs0
 have hB : Base (Fr w0) O w0 O w0 := Base.start hO
 refine wp_seq ?_
 refine' region [SP.vl (rBox (rSl rBool)) O x_0, _, _] mixed hA (.cons (fun _ _ hE hK hg => okl_boxV (r := (rSl rBool)) (fun _ => rfl) (OkO.ext hB.ok hE) (kn (hK 0 rfl) rfl q0) (GR.v_ext _ h_0 hE)) (.cons (fun _ _ hE hK hg => ok_assign rfl) (.cons (fun _ _ hE hK hg => ok_assign rfl) .nil))) ?zok1 ?zgd1 ?zk1
 case zok1 | zgd1 => kernel_rfl
 intro a1 w1 hA hE HF
 have f2 := ksp (HF 1) rfl rfl rfl
 obtain ⟨u1, q1'⟩ : ∃ u, a1.get 1 = u := ⟨_, rfl⟩
 rw [q1'] at f2
 have q1 := q1'; clear q1'
 clear q0
 clear HF
 replace h_0 := GR.v_ext _ h_0 hE
 replace hB := Base.step hB hE hO; clear hE
 refine li_nil (nx_then (wp_seq (wp_seq ?_)))
 refine' region [SP.vl (rSl rBool) O x_0, _, _] mixed hA (.cons (fun _ _ hE hK hg => okl_ld (r := (rSl rBool)) (fun _ => rfl) ty47 rfl rfl (kn (hK 1 rfl) rfl q1) (ptr_of_box (fun _ => rfl) (GR.v_ext _ f2 hE))) (.cons (fun _ _ hE hK hg => okl_len (r := rBool) ty47 rfl (rd_of (kspS (φ := SP.vl (rSl rBool) O x_0) (j := 0) (hK 7 rfl) rfl rfl rfl))) (.cons (fun _ _ hE hK hg => ok_assign (ksv (j := 1) (hK 8 rfl) rfl rfl rfl)) .nil))) ?zok2 ?zgd2 ?zk2
 case zok2 | zgd2 => kernel_rfl
 intro a2 w2 hA hE HF
 replace q1 := kn (HF 1) rfl q1
 have q4 := ksv (HF 4) rfl rfl rfl
 clear HF
 replace f2 := GR.v_ext _ f2 hE
 replace hB := Base.step hB hE hO; clear hE
 refine li_nil (nx_then (wp_block (wp_seq ?_)))
 refine' region [_, _, _] mixed hA (.cons (fun _ _ hE hK hg => ok_move (kn (hK 4 rfl) rfl q4)) (.cons (fun _ _ hE hK hg => ok_gtr (ksv (j := 0) (hK 10 rfl) rfl rfl rfl) rfl) (.cons (fun _ _ hE hK hg => ok_assign (ksv (j := 1) (hK 11 rfl) rfl rfl rfl)) .nil))) ?zok3 ?zgd3 ?zk3
 case zok3 | zgd3 => kernel_rfl
 intro a3 w3 hA hE HF
 replace q1 := kn (HF 1) rfl q1
 replace q4 := kn (HF 4) rfl q4
 have q9 := ksv (HF 9) rfl rfl rfl
 clear HF
 replace f2 := GR.v_ext _ f2 hE
 replace hB := Base.step hB hE hO; clear hE
 refine li_nil (nx_then ?_)
 refine wp_cond_b q9 (fun hc => ?_) (fun hc => ?_)
 ·
  replace h := Comp.run_b_t hc h; clear hc
  refine wp_seq ?_
  refine' region [_, _] mixed hA (.cons (fun _ _ hE hK hg => ok_assign rfl) (.cons (fun _ _ hE hK hg => ok_assign rfl) .nil)) ?zok4 ?zgd4 ?zk4
  case zok4 | zgd4 => kernel_rfl
  intro a4 w4 hA hE HF
  have q2 := ksv (HF 2) rfl rfl rfl
  have q3 := ksv (HF 3) rfl rfl rfl
  clear q1
  clear q4
  clear q9
  clear HF
  replace f2 := GR.v_ext _ f2 hE
  replace hB := Base.step hB hE hO; clear hE
  refine li_nil (nx_then (wp_ret (rt_blk (rt_then ?_))))
  have h := Comp.run_pure h; subst h
  exact retPure2 Try.results51 hA q2 q3 hB.ext ⟨_, _, rfl, (OwnR.nil _ _ _ _ _), rfl⟩
 ·
  replace h := Comp.run_b_f hc h; clear hc
  refine wp_seq ?_
  refine' region [_, _, _, _, _, _, _, _, _, _] mixed hA (.cons (fun _ _ hE hK hg => ok_move (kn (hK 4 rfl) rfl q4)) (.cons (fun _ _ hE hK hg => ok_eqlI (ksv (j := 0) (hK 13 rfl) rfl rfl rfl) rfl) (.cons (fun _ _ hE hK hg => ok_move (ksv (j := 1) (hK 14 rfl) rfl rfl rfl)) (.cons (fun _ _ hE hK hg => ok_move (kn (hK 4 rfl) rfl q4)) (.cons (fun _ _ hE hK hg => ok_move (kn (hK 4 rfl) rfl q4)) (.cons ?z5_5 (.cons ?z5_6 (.cons ?z5_7 (.cons ?z5_8 (.cons (fun _ _ hE hK hg => ok_assign (ksv (j := 8) (hK 21 rfl) rfl rfl rfl)) .nil)))))))))) ?zok5 ?zgd5 ?zk5
  case z5_5 => intro a' w' hE hK hg; exact ok_sub (ksv (j := 4) (hK 17 rfl) rfl rfl hg) rfl
  case z5_6 => intro a' w' hE hK hg; exact okb_and (ksv (j := 3) (hK 16 rfl) rfl rfl hg) (ksv (j := 5) (hK 18 rfl) rfl rfl hg)
  case z5_7 => intro a' w' hE hK hg; exact ok_neqI (ksv (j := 6) (hK 19 rfl) rfl rfl hg) rfl
  case z5_8 => intro a' w' hE hK hg; exact ok_pick (ksv (j := 2) (hK 15 rfl) rfl rfl rfl) (fun _ => rfl) (fun hb => ksv (j := 7) (hK 20 rfl) rfl rfl (act_g1 rfl rfl hb))
  case zok5 | zgd5 => kernel_rfl
  intro a5 w5 hA hE HF
  replace q1 := kn (HF 1) rfl q1
  have q12 := ksv (HF 12) rfl rfl rfl
  clear q4
  clear q9
  clear HF
  replace f2 := GR.v_ext _ f2 hE
  replace hB := Base.step hB hE hO; clear hE
  obtain ⟨x3, hx_, h⟩ := Comp.run_bind h; replace hx_ := Comp.run_pure hx_; rw [hx_] at q12; clear hx_
  refine li_nil (nx_then ?_)
  refine wp_cond_b q12 (fun hc => ?_) (fun hc => ?_)
  ·
   replace h := Comp.run_b_t hc h; clear hc
   refine wp_seq ?_
   refine' region [_, _] mixed hA (.cons (fun _ _ hE hK hg => ok_assign rfl) (.cons (fun _ _ hE hK hg => ok_assign rfl) .nil)) ?zok6 ?zgd6 ?zk6
   case zok6 | zgd6 => kernel_rfl
   intro a6 w6 hA hE HF
   have q2 := ksv (HF 2) rfl rfl rfl
   have q3 := ksv (HF 3) rfl rfl rfl
   clear q1
   clear q12
   clear HF
   replace f2 := GR.v_ext _ f2 hE
   replace hB := Base.step hB hE hO; clear hE
   refine li_nil (nx_then (wp_ret (rt_blk (rt_then ?_))))
   have h := Comp.run_pure h; subst h
   exact retPure2 Try.results51 hA q2 q3 hB.ext ⟨_, _, rfl, (OwnR.nil _ _ _ _ _), rfl⟩
  ·
   replace h := Comp.run_b_f hc h; clear hc
   refine wp_skip (nx_blk (nx_then (wp_seq ?_)))
   obtain ⟨x4, hx4, h⟩ := Comp.run_bind h
   refine' regionT [SP.vl (rSl rBool) O x_0, _, _, SP.isv (.int .i64 x4), _] hA (.cons (fun _ _ hE hK hg => okl_ld (r := (rSl rBool)) (fun _ => rfl) ty47 rfl rfl (kn (hK 1 rfl) rfl q1) (ptr_of_box (fun _ => rfl) (GR.v_ext _ f2 hE))) (.cons (fun _ _ hE hK hg => okl_len (r := rBool) ty47 rfl (rd_of (kspS (φ := SP.vl (rSl rBool) O x_0) (j := 0) (hK 22 rfl) rfl rfl rfl))) (.cons (fun _ _ hE hK hg => ok_convI ty3 ty85 (ksv (j := 1) (hK 23 rfl) rfl rfl rfl)) (.cons ?z7_3 (.cons (fun _ _ hE hK hg => ok_sub (ksv (j := 3) (hK 25 rfl) rfl rfl rfl) rfl) .nil))))) ?zok7 ?zgd7 ?zk7
   case z7_3 => intro a' w' hE hK hg; have c_ := ok_math_bits_Len (OkO.ext hB.ok hE)  hx4; exact ok_call1 fn69 (ksv (j := 2) (hK 24 rfl) rfl rfl rfl) c_
   case zok7 | zgd7 => kernel_rfl
   intro a7 w7 hA hE HF
   replace q1 := kn (HF 1) rfl q1
   have q26 := ksv (HF 26) rfl rfl rfl
   clear q12
   clear HF
   replace f2 := GR.v_ext _ f2 hE
   replace hB := Base.step hB hE hO; clear hE
   refine l_ok (φ := SP.box w7.heap.size #[.int .i64 0] 3) hO hB (by exact ok_alloc (Nat.le_refl _) ty3) rfl fun u5 w8 hE hB' f6 => ?_
   clear hB'; obtain ⟨O7, b9, hB', hX, e_, f8⟩ := boxNew hO hB hE f6 1 (by decide)
   subst e_; clear hB f6; have hB := hB'; clear hB'
   replace f2 := GR.kx _ f2 hX (by decide)
   clear hX hE
   refine put_cont hA (by decide) fun a9 hA q_ hfr => ?_
   replace q1 := (hfr 1 rfl).trans q1
   replace q26 := (hfr 26 rfl).trans q26
   have q5 := q_; clear q_ hfr
   refine l_store1 (cs' := #[.int .i64 (IntKind.wrap .i64 (x4 - 1))]) hO hB (okB_fr hB) ty3 q5 q26 rfl rfl f8 (by simp) rfl fun w10 f10 hB' hX => ?_
   clear hB f8; have hB := hB'; clear hB'
   replace f2 := GR.kx _ f2 hX (by decide)
   clear hX
   refine li_nil (nx_then (wp_seq ?_))
   obtain ⟨O11, hB', hX, f12⟩ := freezeB (r := (rInt .i64)) (x := (IntKind.wrap .i64 (x4 - 1))) hO hB f10 (by decide) rfl
   clear f10 hB; have hB := hB'; clear hB'
   replace f2 := GR.kx _ f2 hX (by decide)
   clear hX
   refine' regionT [SP.isv (.func (.func 70) #[] #[.pointer (some ⟨b9, 0, none⟩), u1]), SP.box w10.heap.size #[.nilFunc] 79] hA (.cons (fun _ _ hE hK hg => ok_makeFunc map0 (map2 (kn (hK 5 rfl) rfl q5) (kn (hK 1 rfl) rfl q1))) (.cons (fun _ _ hE hK hg => ok_alloc hE.size ty79) .nil)) ?zok8 ?zgd8 ?zk8
   case zok8 | zgd8 => kernel_rfl
   intro a11 w11 hA hE HF
   replace q1 := kn (HF 1) rfl q1
   have f14 := ksp (HF 6) rfl rfl rfl
   obtain ⟨u13, q6'⟩ : ∃ u, a11.get 6 = u := ⟨_, rfl⟩
   rw [q6'] at f14
   have q6 := q6'; clear q6'
   have q27 := ksv (HF 27) rfl rfl rfl
   clear q5
   clear HF
   obtain ⟨O15, b16, hB', hX, e_, f17⟩ := boxNew hO hB hE f14 2 (by decide)
   subst e_
   clear hB f14; have hB := hB'; clear hB'
   replace f2 := GR.kx _ f2 hX (by decide)
   replace f12 := GR.kx _ f12 hX (by decide)
   clear hX hE
   have f18 : (rF1 Try.prog (rInt .i64) (RS.c (fun x => .bool x))).v O15 w11 (.func (.func 70) #[] #[.pointer (some ⟨b9, 0, none⟩), u1]) (fun z0 => core_Conflicts_f1 z0 (IntKind.wrap .i64 (x4 - 1)) x_0) := rF1_v.2 ⟨rfl, fun O' w' hO' hk v_0 x_0 hv_0 n_ y_ hy_ => by obtain rfl := rInt_v.1 hv_0; exact callV_func fn70 (ok_core_Conflicts_f1 hO'  (GR.v_mono _ f12 hk) (GR.v_mono _ f2 hk) hy_)⟩
   refine l_store1 (cs' := #[.func (.func 70) #[] #[.pointer (some ⟨b9, 0, none⟩), u1]]) hO hB (okB_fr hB) ty79 q6 q27 (sl_cells f18 rfl rfl) (sl_one f18 rfl rfl) f17 (by simp) rfl fun w12 f19 hB' hX => ?_
   clear hB f17; have hB := hB'; clear hB'
   replace f2 := GR.kx _ f2 hX (by decide)
   replace f18 := GR.kx _ f18 hX (by decide)
   clear hX
   refine li_nil (nx_then (wp_seq (wp_seq ?_)))
   obtain ⟨O20, hB', hX, f21⟩ := freezeB (r := (rF1 Try.prog (rInt .i64) (RS.c (fun x => .bool x)))) (x := (fun z0 => core_Conflicts_f1 z0 (IntKind.wrap .i64 (x4 - 1)) x_0)) hO hB f19 (by decide) (rel_ofF (r := (rF1 Try.prog (rInt .i64) (RS.c (fun x => .bool x)))) f18 rfl rfl)
   clear f19 hB; have hB := hB'; clear hB'
   replace f2 := GR.kx _ f2 hX (by decide)
   replace f18 := GR.kx _ f18 hX (by decide)
   clear hX
   obtain ⟨x22, hx22, h⟩ := Comp.run_bind h
   refine' region [SP.vl (rSl rBool) O20 x_0, _, SP.isv (.func (.func 72) #[] #[u1, .pointer (some ⟨b16, 0, none⟩)]), SP.vl (rSl (rInt .i64)) O20 x22, _, _] mixed hA (.cons (fun _ _ hE hK hg => okl_ld (r := (rSl rBool)) (fun _ => rfl) ty47 rfl rfl (kn (hK 1 rfl) rfl q1) (ptr_of_box (fun _ => rfl) (GR.v_ext _ f2 hE))) (.cons (fun _ _ hE hK hg => okl_len (r := rBool) ty47 rfl (rd_of (kspS (φ := SP.vl (rSl rBool) O20 x_0) (j := 0) (hK 28 rfl) rfl rfl rfl))) (.cons (fun _ _ hE hK hg => ok_makeFunc map0 (map2 (kn (hK 1 rfl) rfl q1) (kn (hK 6 rfl) rfl q6))) (.cons ?z9_3 (.cons (fun _ _ hE hK hg => okl_len (r := (rInt .i64)) ty23 rfl (rd_of (kspS (φ := SP.vl (rSl (rInt .i64)) O20 x22) (j := 3) (hK 31 rfl) rfl rfl rfl))) (.cons (fun _ _ hE hK hg => ok_gtr (ksv (j := 4) (hK 32 rfl) rfl rfl rfl) rfl) .nil)))))) ?zok9 ?zgd9 ?zk9
   case z9_3 => intro a' w' hE hK hg; have c_ := ok_core_only (OkO.ext hB.ok hE) (show (rF1 Try.prog (rInt .i64) (RS.c (fun x => .bool x))).v O20 _ (.func (.func 72) #[] #[u1, .pointer (some ⟨b16, 0, none⟩)]) (fun z0 => core_Conflicts_f2 z0 x_0 (fun z0 => core_Conflicts_f1 z0 (IntKind.wrap .i64 (x4 - 1)) x_0)) from rF1_v.2 ⟨rfl, fun O' w' hO' hk v_0 x_0 hv_0 n_ y_ hy_ => by obtain rfl := rInt_v.1 hv_0; exact callV_func fn72 (ok_core_Conflicts_f2 hO'  (GR.v_mono _ (GR.v_ext _ f2 hE) hk) (GR.v_mono _ (GR.v_ext _ f21 hE) hk) hy_)⟩) hx22; exact ok_weak (ok_call2 fn71 (ksv (j := 1) (hK 29 rfl) rfl rfl rfl) (ksv (j := 2) (hK 30 rfl) rfl rfl rfl) c_) (fun _ _ _ h => (OwnR.val h (fun g hg => (OkO.ext hB.ok hE) g (OwnR.ge h g hg).1)))
   case zok9 | zgd9 => kernel_rfl
   intro a13 w13 hA hE HF
   replace q1 := kn (HF 1) rfl q1
   replace q6 := kn (HF 6) rfl q6
   have q33 := ksv (HF 33) rfl rfl rfl
   clear HF
   replace f2 := GR.v_ext _ f2 hE
   replace f21 := GR.v_ext _ f21 hE
   replace hB := Base.step hB hE hO; clear hE
   refine li_nil (nx_then ?_)
   refine wp_cond_b q33 (fun hc => ?_) (fun hc => ?_)
   ·
    replace h := Comp.run_b_t hc h; clear hc
    refine wp_seq ?_
    refine' region [_, _] mixed hA (.cons (fun _ _ hE hK hg => ok_assign rfl) (.cons (fun _ _ hE hK hg => ok_assign rfl) .nil)) ?zok10 ?zgd10 ?zk10
    case zok10 | zgd10 => kernel_rfl
    intro a14 w14 hA hE HF
    have q2 := ksv (HF 2) rfl rfl rfl
    have q3 := ksv (HF 3) rfl rfl rfl
    clear q1
    clear q6
    clear q33
    clear HF
    replace f2 := GR.v_ext _ f2 hE
    replace f21 := GR.v_ext _ f21 hE
    replace hB := Base.step hB hE hO; clear hE
    refine li_nil (nx_then (wp_ret (rt_then ?_)))
    have h := Comp.run_pure h; subst h
    exact retPure2 Try.results51 hA q2 q3 hB.ext ⟨_, _, rfl, (OwnR.nil _ _ _ _ _), rfl⟩
   ·
    replace h := Comp.run_b_f hc h; clear hc
    refine wp_skip (nx_then (wp_seq ?_))
    refine' regionT [SP.vl (rSl rBool) O20 x_0, _, SP.isv (.func (.func 73) #[] #[u1, .pointer (some ⟨b16, 0, none⟩)])] hA (.cons (fun _ _ hE hK hg => okl_ld (r := (rSl rBool)) (fun _ => rfl) ty47 rfl rfl (kn (hK 1 rfl) rfl q1) (ptr_of_box (fun _ => rfl) (GR.v_ext _ f2 hE))) (.cons (fun _ _ hE hK hg => okl_len (r := rBool) ty47 rfl (rd_of (kspS (φ := SP.vl (rSl rBool) O20 x_0) (j := 0) (hK 34 rfl) rfl rfl rfl))) (.cons (fun _ _ hE hK hg => ok_makeFunc map0 (map2 (kn (hK 1 rfl) rfl q1) (kn (hK 6 rfl) rfl q6))) .nil))) ?zok11 ?zgd11 ?zk11
    case zok11 | zgd11 => kernel_rfl
    intro a15 w15 hA hE HF
    have q35 := ksv (HF 35) rfl rfl rfl
    have q36 := ksv (HF 36) rfl rfl rfl
    clear q1
    clear q6
    clear q33
    clear HF
    replace f2 := GR.v_ext _ f2 hE
    replace f21 := GR.v_ext _ f21 hE
    replace hB := Base.step hB hE hO; clear hE
    have f23 : (rF1 Try.prog (rInt .i64) (RS.c (fun x => .bool x))).v O20 w15 (.func (.func 73) #[] #[u1, .pointer (some ⟨b16, 0, none⟩)]) (fun z0 => core_Conflicts_f3 z0 x_0 (fun z0 => core_Conflicts_f1 z0 (IntKind.wrap .i64 (x4 - 1)) x_0)) := rF1_v.2 ⟨rfl, fun O' w' hO' hk v_0 x_0 hv_0 n_ y_ hy_ => by obtain rfl := rInt_v.1 hv_0; exact callV_func fn73 (ok_core_Conflicts_f3 hO'  (GR.v_mono _ f2 hk) (GR.v_mono _ f21 hk) hy_)⟩
    obtain ⟨x24, hx24, h⟩ := Comp.run_bind h
    refine l_ok (φ := SP.ownr (rInt .i64) 3 w15.heap.size O20 x24) hO hB (by have c_ := ok_core_only hB.ok f23 hx24; exact ok_weak (ok_call2 fn71 q35 q36 c_) (fun _ _ _ h => h)) rfl fun u25 w16 hE hB' f26 => ?_
    clear hB'; obtain ⟨O27, hB', hX, f28⟩ := ownNew hO hB hE f26 rfl 3 (by decide)
    clear hB f26; have hB := hB'; clear hB'
    replace f23 := GR.kx _ f23 hX (by decide)
    clear hX hE
    refine put_cont hA (by decide) fun a17 hA q_ hfr => ?_
    replace q35 := (hfr 35 rfl).trans q35
    replace q36 := (hfr 36 rfl).trans q36
    have q37 := q_; clear q_ hfr
    refine l_ok (φ := SP.isv (u25)) hO hB (by exact ok_assign q37) rfl fun u_ w18 hE hB' hv_ => ?_
    replace hv_ := Eq.symm hv_; subst hv_; clear hB; have hB := hB'; clear hB'
    replace f28 := f28.ext hE
    clear hE
    refine put_cont hA (by decide) fun a19 hA q_ hfr => ?_
    replace q37 := (hfr 37 rfl).trans q37
    have q2 := q_; clear q_ hfr
    refine l_ok (φ := SP.isv (.int .i64 0)) hO hB (by exact ok_assign rfl) rfl fun u_ w20 hE hB' hv_ => ?_
    replace hv_ := Eq.symm hv_; subst hv_; clear hB; have hB := hB'; clear hB'
    replace f28 := f28.ext hE
    clear hE
    refine put_cont hA (by decide) fun a21 hA q_ hfr => ?_
    replace q2 := (hfr 2 rfl).trans q2
    have q3 := q_; clear q_ hfr
    refine li_nil (nx_then (wp_ret ?_))
    have h := Comp.run_pure h; subst h
    exact retPure2 Try.results51 hA q2 q3 hB.ext ⟨_, _, rfl, (OwnL.res f28 (by decide) hB.zero), rfl⟩
theorem ok_court_Conflicts {O : Tags} {w0 : World} (hO : OkO O w0) {v_0 : Value} {x_0 : List api_Claim} (h_0 : (rSl r_api_Claim).v O w0 v_0 x_0) {v_1 : Value} {x_1 : List api_Sight} (h_1 : (rSl r_api_Sight).v O w0 v_1 x_1) {x_2 : Int} {n : Nat} {y : ((List Int) × Int)} (h : (court_Conflicts x_0 x_1 x_2).run n = some y) : Pure Try.prog 22 #[v_0, v_1, .int .i64 x_2] w0 (SP.tup2 (SP.ownr (rInt .i64) 3 (w0.heap.size) O y.1) (SP.isv (.int .i64 y.2))).holds := by
 unfold court_Conflicts at h
 refine pure_of_wp Try.func22 rfl 43 Try.ntmps22 (by simp) fun a0 hA hs0 => ?_
 have q0 : a0.get 0 = v_0 := hs0 0 _ rfl
 have q1 : a0.get 1 = v_1 := hs0 1 _ rfl
 have q2 : a0.get 2 = .int .i64 x_2 := hs0 2 _ rfl
 clear hs0
 have hB : Base (Fr w0) O w0 O w0 := Base.start hO
 refine wp_seq ?_
 refine' region [_, _] mixed hA (.cons (fun _ _ hE hK hg => ok_assign rfl) (.cons (fun _ _ hE hK hg => ok_assign rfl) .nil)) ?zok1 ?zgd1 ?zk1
 case zok1 | zgd1 => kernel_rfl
 intro a1 w1 hA hE HF
 replace q0 := kn (HF 0) rfl q0
 replace q1 := kn (HF 1) rfl q1
 replace q2 := kn (HF 2) rfl q2
 clear HF
 replace h_0 := GR.v_ext _ h_0 hE
 replace h_1 := GR.v_ext _ h_1 hE
 replace hB := Base.step hB hE hO; clear hE
 refine li_nil (nx_then (wp_seq (wp_seq ?_)))
 obtain ⟨x1, hx1, h⟩ := Comp.run_bind h
 refine' region [_, _, _, SP.isv (.int .i64 x1), _] mixed hA (.cons (fun _ _ hE hK hg => ok_move (kn (hK 0 rfl) rfl q0)) (.cons (fun _ _ hE hK hg => ok_move (kn (hK 1 rfl) rfl q1)) (.cons (fun _ _ hE hK hg => ok_move (kn (hK 2 rfl) rfl q2)) (.cons ?z2_3 (.cons (fun _ _ hE hK hg => ok_assign (ksv (j := 3) (hK 15 rfl) rfl rfl rfl)) .nil))))) ?zok2 ?zgd2 ?zk2
 case z2_3 => intro a' w' hE hK hg; have c_ := ok_court_Check (OkO.ext hB.ok hE) (GR.v_ext _ h_0 hE) (GR.v_ext _ h_1 hE) hx1; exact ok_call3 fn13 (ksv (j := 0) (hK 12 rfl) rfl rfl rfl) (ksv (j := 1) (hK 13 rfl) rfl rfl rfl) (ksv (j := 2) (hK 14 rfl) rfl rfl rfl) c_
 case zok2 | zgd2 => kernel_rfl
 intro a2 w2 hA hE HF
 replace q0 := kn (HF 0) rfl q0
 replace q1 := kn (HF 1) rfl q1
 replace q2 := kn (HF 2) rfl q2
 have q8 := ksv (HF 8) rfl rfl rfl
 clear HF
 replace h_0 := GR.v_ext _ h_0 hE
 replace h_1 := GR.v_ext _ h_1 hE
 replace hB := Base.step hB hE hO; clear hE
 refine li_nil (nx_then (wp_seq ?_))
 refine' region [_, _] mixed hA (.cons (fun _ _ hE hK hg => ok_move (kn (hK 8 rfl) rfl q8)) (.cons (fun _ _ hE hK hg => ok_neqI (ksv (j := 0) (hK 16 rfl) rfl rfl rfl) rfl) .nil)) ?zok3 ?zgd3 ?zk3
 case zok3 | zgd3 => kernel_rfl
 intro a3 w3 hA hE HF
 replace q0 := kn (HF 0) rfl q0
 replace q1 := kn (HF 1) rfl q1
 replace q2 := kn (HF 2) rfl q2
 replace q8 := kn (HF 8) rfl q8
 have q17 := ksv (HF 17) rfl rfl rfl
 clear HF
 replace h_0 := GR.v_ext _ h_0 hE
 replace h_1 := GR.v_ext _ h_1 hE
 replace hB := Base.step hB hE hO; clear hE
 refine li_nil (nx_then ?_)
 refine wp_cond_b q17 (fun hc => ?_) (fun hc => ?_)
 ·
  replace h := Comp.run_b_t hc h; clear hc
  refine wp_seq ?_
  refine' region [_, _, _] mixed hA (.cons (fun _ _ hE hK hg => ok_move (kn (hK 8 rfl) rfl q8)) (.cons (fun _ _ hE hK hg => ok_assign rfl) (.cons (fun _ _ hE hK hg => ok_assign (ksv (j := 0) (hK 18 rfl) rfl rfl rfl)) .nil))) ?zok4 ?zgd4 ?zk4
  case zok4 | zgd4 => kernel_rfl
  intro a4 w4 hA hE HF
  have q6 := ksv (HF 6) rfl rfl rfl
  have q7 := ksv (HF 7) rfl rfl rfl
  clear q0
  clear q1
  clear q2
  clear q8
  clear q17
  clear HF
  replace h_0 := GR.v_ext _ h_0 hE
  replace h_1 := GR.v_ext _ h_1 hE
  replace hB := Base.step hB hE hO; clear hE
  refine li_nil (nx_then (wp_ret (rt_then ?_)))
  have h := Comp.run_pure h; subst h
  exact retPure2 Try.results22 hA q6 q7 hB.ext ⟨_, _, rfl, (OwnR.nil _ _ _ _ _), rfl⟩
 ·
  replace h := Comp.run_b_f hc h; clear hc
  refine wp_skip (nx_then (wp_seq ?_))
  obtain ⟨x2, hx2, h⟩ := Comp.run_bind h
  refine' region [_, _, SP.vl (rSl r_court_voice) O x2, SP.vl (rSl r_court_voice) O x2] mixed hA (.cons (fun _ _ hE hK hg => ok_move (kn (hK 0 rfl) rfl q0)) (.cons (fun _ _ hE hK hg => ok_move (kn (hK 1 rfl) rfl q1)) (.cons ?z5_2 (.cons (fun _ _ hE hK hg => ok_assign_pr (φ := SP.vl (rSl r_court_voice) O x2) (kspS (j := 2) (hK 21 rfl) rfl rfl rfl)) .nil)))) ?zok5 ?zgd5 ?zk5
  case z5_2 => intro a' w' hE hK hg; have c_ := ok_court_voices (OkO.ext hB.ok hE) (GR.v_ext _ h_0 hE) (GR.v_ext _ h_1 hE) hx2; exact ok_weak (ok_call2 fn41 (ksv (j := 0) (hK 19 rfl) rfl rfl rfl) (ksv (j := 1) (hK 20 rfl) rfl rfl rfl) c_) (fun _ _ _ h => (OwnR.val h (fun g hg => (OkO.ext hB.ok hE) g (OwnR.ge h g hg).1)))
  case zok5 | zgd5 => kernel_rfl
  intro a5 w5 hA hE HF
  replace q0 := kn (HF 0) rfl q0
  replace q2 := kn (HF 2) rfl q2
  have f4 := ksp (HF 9) rfl rfl rfl
  obtain ⟨u3, q9'⟩ : ∃ u, a5.get 9 = u := ⟨_, rfl⟩
  rw [q9'] at f4
  have q9 := q9'; clear q9'
  clear q1
  clear q8
  clear q17
  clear HF
  replace h_0 := GR.v_ext _ h_0 hE
  replace h_1 := GR.v_ext _ h_1 hE
  replace hB := Base.step hB hE hO; clear hE
  refine li_nil (nx_then (wp_seq ?_))
  obtain ⟨x5, hx5, h⟩ := Comp.run_bind h
  refine' regionT [_, _, _] hA (.cons (fun _ _ hE hK hg => ok_move (kn (hK 0 rfl) rfl q0)) (.cons (fun _ _ hE hK hg => okl_len (r := r_api_Claim) ty27 (ksv (j := 0) (hK 22 rfl) rfl rfl rfl) (rd_of (GR.v_ext _ h_0 hE))) (.cons (fun _ _ hE hK hg => okl_shl rfl (ksv (j := 1) (hK 23 rfl) rfl rfl rfl) (run_nonneg hx5)) .nil))) ?zok6 ?zgd6 ?zk6
  case zok6 | zgd6 => kernel_rfl
  intro a6 w6 hA hE HF
  replace q2 := kn (HF 2) rfl q2
  replace q9 := kn (HF 9) rfl q9
  have q24 := ksv (HF 24) rfl rfl rfl
  clear q0
  clear HF
  replace h_0 := GR.v_ext _ h_0 hE
  replace f4 := GR.v_ext _ f4 hE
  replace hB := Base.step hB hE hO; clear hE
  obtain ⟨x6, hx6, h⟩ := Comp.run_bind h
  refine l_ok (φ := SP.ownr rBool 4 w6.heap.size O x6) hO hB (by exact okl_make (r := rBool) (B := w6.heap.size) rfl ty47 ty4 (by decide) rfl (Nat.le_refl _) q24 q24 (fun _ _ => rBool_v.2 rfl) hx6) rfl fun u7 w7 hE hB' f8 => ?_
  clear hB'; obtain ⟨O9, hB', hX, f10⟩ := ownNew hO hB hE f8 rfl 1 (by decide)
  clear hB f8; have hB := hB'; clear hB'
  replace f4 := GR.kx _ f4 hX (by decide)
  clear hX hE
  refine put_cont hA (by decide) fun a8 hA q_ hfr => ?_
  replace q2 := (hfr 2 rfl).trans q2
  replace q9 := (hfr 9 rfl).trans q9
  replace q24 := (hfr 24 rfl).trans q24
  have q25 := q_; clear q_ hfr
  refine l_ok (φ := SP.isv (u7)) hO hB (by exact ok_assign q25) rfl fun u_ w9 hE hB' hv_ => ?_
  replace hv_ := Eq.symm hv_; subst hv_; clear hB; have hB := hB'; clear hB'
  replace f4 := GR.v_ext _ f4 hE
  replace f10 := f10.ext hE
  clear hE
  refine put_cont hA (by decide) fun a10 hA q_ hfr => ?_
  replace q2 := (hfr 2 rfl).trans q2
  replace q9 := (hfr 9 rfl).trans q9
  replace q25 := (hfr 25 rfl).trans q25
  have q10 := q_; clear q_ hfr
  refine li_nil (nx_then ?_)
  refine seq_join (fun a w => ∃ (O31 : Tags) (x26 : List Bool) (u27 : Value), a.fit 43 ∧ Base (Fr w0) O w0 O31 w ∧ a.get 10 = u27 ∧ (rSl rBool).v O31 w u27 x26 ∧ (court_Conflicts_j1 x26).run n = some y) ?_ ?_
  ·
   refine wp_seq ?_
   refine' region [_, _, _] mixed hA (.cons (fun _ _ hE hK hg => ok_move (kn (hK 10 rfl) rfl q10)) (.cons (fun _ _ hE hK hg => okl_len (r := rBool) ty47 (ksv (j := 0) (hK 26 rfl) rfl rfl rfl) (OwnL.rd (OwnL.ext f10 hE))) (.cons (fun _ _ hE hK hg => ok_move rfl) .nil))) ?zok7 ?zgd7 ?zk7
   case zok7 | zgd7 => kernel_rfl
   intro a11 w11 hA hE HF
   replace q2 := kn (HF 2) rfl q2
   replace q9 := kn (HF 9) rfl q9
   replace q10 := kn (HF 10) rfl q10
   have q27 := ksv (HF 27) rfl rfl rfl
   have q28 := ksv (HF 28) rfl rfl rfl
   clear HF
   replace f4 := GR.v_ext _ f4 hE
   replace f10 := f10.ext hE
   replace hB := Base.step hB hE hO; clear hE
   refine li_nil (nx_then (wp_block ?_))
   obtain ⟨O15, hB', hX, f16⟩ := retagL (okB_fr hB) hB f10 2 (by decide) (by decide)
   clear f10 hB; have hB := hB'; clear hB'
   replace f4 := GR.kx _ f4 hX (by decide)
   clear hX
   obtain ⟨e2, he2, hk2⟩ := Comp.run_bind h; clear h
   refine loop_m (fun m a w => ∃ (O17 : Tags) (x11 : List Bool) (x14 : Int) (u12 : Value), a.fit 43 ∧ Base (Fr w0) O w0 O17 w ∧ a.get 2 = .int .i64 x_2 ∧ a.get 9 = u3 ∧ (rSl r_court_voice).v O17 w u3 x2 ∧ a.get 10 = u12 ∧ OwnL 2 rBool 4 (Fr w0) O17 w u12 x11 ∧ a.get 27 = .int .i64 (x6.length : Int) ∧ a.get 28 = .int .i64 x14 ∧ Comp.loopN (fun s => court_Conflicts_l2 x6 x2 x_2 s.1 s.2) n m (x11, x14) = some e2) (m := n) ?st2 ?_
   case st2 =>
    exact ⟨_, _, _, _, hA, hB, q2, q9, f4, q10, f16, q27, q28, Comp.run_loop he2⟩
   intro m_ a12 w12 hI
   clear hA hB he2 q2 q9 q10 q27 q28 f16 f4
   obtain ⟨O17, x11, x14, u12, hA, hB, q2, q9, f4, q10, f13, q27, q28, hl⟩ := hI
   obtain ⟨m2, hlt2, st2, h, hnext2, hdone2⟩ := Comp.loopN_succ hl; clear hl
   replace h : (court_Conflicts_l2 x6 x2 x_2 x11 x14).run n = some st2 := h
   unfold court_Conflicts_l2 at h
   refine wp_seq ?_
   refine' region [_] mixed hA (.cons (fun _ _ hE hK hg => ok_lss (kn (hK 28 rfl) rfl q28) (kn (hK 27 rfl) rfl q27)) .nil) ?zok8 ?zgd8 ?zk8
   case zok8 | zgd8 => kernel_rfl
   intro a13 w13 hA hE HF
   replace q2 := kn (HF 2) rfl q2
   replace q9 := kn (HF 9) rfl q9
   replace q10 := kn (HF 10) rfl q10
   replace q27 := kn (HF 27) rfl q27
   replace q28 := kn (HF 28) rfl q28
   have q29 := ksv (HF 29) rfl rfl rfl
   clear HF
   replace f4 := GR.v_ext _ f4 hE
   replace f13 := f13.ext hE
   replace hB := Base.step hB hE hO; clear hE
   refine li_nil (nx_then (wp_seq ?_))
   refine wp_cond_b q29 (fun hc => ?_) (fun hc => ?_)
   ·
    replace h := Comp.run_b_t hc h; clear hc
    refine wp_skip (nx_then (wp_seq (wp_block (wp_seq ?_))))
    refine' region [_, _] mixed hA (.cons (fun _ _ hE hK hg => ok_move (kn (hK 28 rfl) rfl q28)) (.cons (fun _ _ hE hK hg => ok_assign (ksv (j := 0) (hK 30 rfl) rfl rfl rfl)) .nil)) ?zok9 ?zgd9 ?zk9
    case zok9 | zgd9 => kernel_rfl
    intro a14 w14 hA hE HF
    replace q2 := kn (HF 2) rfl q2
    replace q9 := kn (HF 9) rfl q9
    replace q10 := kn (HF 10) rfl q10
    have q11 := ksv (HF 11) rfl rfl rfl
    replace q27 := kn (HF 27) rfl q27
    replace q28 := kn (HF 28) rfl q28
    clear q29
    clear HF
    replace f4 := GR.v_ext _ f4 hE
    replace f13 := f13.ext hE
    replace hB := Base.step hB hE hO; clear hE
    refine li_nil (nx_then ?_)
    obtain ⟨x18, hx18, h⟩ := Comp.run_bind h
    obtain ⟨x19, hx19, h⟩ := Comp.run_bind h
    refine' regionT [_, _, _, _, _, SP.isv (.bool x18), SP.elt (u12) (Int.toNat x14 * 1)] hA (.cons (fun _ _ hE hK hg => ok_move (kn (hK 10 rfl) rfl q10)) (.cons (fun _ _ hE hK hg => ok_move (kn (hK 11 rfl) rfl q11)) (.cons (fun _ _ hE hK hg => ok_move (kn (hK 9 rfl) rfl q9)) (.cons (fun _ _ hE hK hg => ok_move (kn (hK 2 rfl) rfl q2)) (.cons (fun _ _ hE hK hg => ok_move (kn (hK 11 rfl) rfl q11)) (.cons ?z10_5 (.cons (fun _ _ hE hK hg => okl_idxOwn rfl ty47 ty4 (ksv (j := 0) (hK 31 rfl) rfl rfl rfl) (OwnL.ext f13 hE) (ksv (j := 1) (hK 32 rfl) rfl rfl rfl) (idx_lt hx19)) .nil))))))) ?zok10 ?zgd10 ?zk10
    case z10_5 => intro a' w' hE hK hg; have c_ := ok_court_agrees (OkO.ext hB.ok hE) (GR.v_ext _ f4 hE) hx18; exact ok_call3 fn40 (ksv (j := 2) (hK 33 rfl) rfl rfl rfl) (ksv (j := 3) (hK 34 rfl) rfl rfl rfl) (ksv (j := 4) (hK 35 rfl) rfl rfl rfl) c_
    case zok10 | zgd10 => kernel_rfl
    intro a15 w15 hA hE HF
    replace q2 := kn (HF 2) rfl q2
    replace q9 := kn (HF 9) rfl q9
    replace q10 := kn (HF 10) rfl q10
    replace q27 := kn (HF 27) rfl q27
    replace q28 := kn (HF 28) rfl q28
    have q36 := ksv (HF 36) rfl rfl rfl
    have f21 := ksp (HF 37) rfl rfl rfl
    obtain ⟨u20, q37'⟩ : ∃ u, a15.get 37 = u := ⟨_, rfl⟩
    rw [q37'] at f21
    have q37 := q37'; clear q37'
    clear q11
    clear HF
    replace f4 := GR.v_ext _ f4 hE
    replace f13 := f13.ext hE
    replace hB := Base.step hB hE hO; clear hE
    obtain ⟨x23, hx23, h⟩ := Comp.run_bind h
    refine l_storeElt (r := rBool) (fun _ => rfl) rfl hO hB (okB_fr hB) ty4 q37 f21 f13 q36 (by exact rBool_v.2 rfl) hx23 (by decide) fun w16 f22 hB' hX => ?_
    clear hB; have hB := hB'; clear hB'
    replace f4 := GR.kx _ f4 hX (by decide)
    clear hX f13
    refine li_nil (nx_blk (nx_then ?_))
    refine' region [_, _] mixed hA (.cons (fun _ _ hE hK hg => ok_add (kn (hK 28 rfl) rfl q28) rfl) (.cons (fun _ _ hE hK hg => ok_move (ksv (j := 0) (hK 38 rfl) rfl rfl rfl)) .nil)) ?zok11 ?zgd11 ?zk11
    case zok11 | zgd11 => kernel_rfl
    intro a17 w17 hA hE HF
    replace q2 := kn (HF 2) rfl q2
    replace q9 := kn (HF 9) rfl q9
    replace q10 := kn (HF 10) rfl q10
    replace q27 := kn (HF 27) rfl q27
    have q28' := ksv (HF 28) rfl rfl rfl
    replace q28 := q28'; clear q28'
    clear HF
    replace f4 := GR.v_ext _ f4 hE
    replace f22 := f22.ext hE
    replace hB := Base.step hB hE hO; clear hE
    refine li_nil (nx_then ?_)
    have h := hnext2 _ (Comp.run_pure h).symm
    refine ⟨m2, hlt2, ?_⟩
    exact ⟨_, _, _, _, hA, hB, q2, q9, f4, q10, f22, q27, q28, h⟩
   ·
    replace h := Comp.run_b_f hc h; clear hc
    refine wp_exit (ex_then (ex_then (ex_same ?_)))
    have hd_ := hdone2 _ (Comp.run_pure h).symm; clear h
    subst hd_; have h := hk2; clear hk2; try dsimp only at h
    refine nx_then ?_
    obtain ⟨O29, hB', hX, f30⟩ := freezeL hO hB f13 (by decide)
    clear f13 hB; have hB := hB'; clear hB'
    replace f4 := GR.kx _ f4 hX (by decide)
    clear hX
    exact ⟨_, _, _, hA, hB, q10, f30, h⟩
  intro a18 w18 hI
  clear hA hB h q2 q9 q10 f10 f4
  obtain ⟨O31, x26, u27, hA, hB, q10, f28, h⟩ := hI
  unfold court_Conflicts_j1 at h
  refine wp_seq ?_
  obtain ⟨x32, hx32, h⟩ := Comp.run_bind h
  refine' region [_, SP.tup2 (SP.ownr (rInt .i64) 3 w18.heap.size O31 x32.1) (SP.isv (.int .i64 x32.2)), SP.ownr (rInt .i64) 3 w18.heap.size O31 x32.1, SP.isv (.int .i64 x32.2), SP.ownr (rInt .i64) 3 w18.heap.size O31 x32.1, _] mixed hA (.cons (fun _ _ hE hK hg => ok_move (kn (hK 10 rfl) rfl q10)) (.cons ?z12_1 (.cons (fun _ _ hE hK hg => okl_ext0 (kspS (φ := SP.tup2 (SP.ownr (rInt .i64) 3 w18.heap.size O31 x32.1) (SP.isv (.int .i64 x32.2))) (j := 1) (hK 40 rfl) rfl rfl rfl)) (.cons (fun _ _ hE hK hg => okl_ext1 (kspS (φ := SP.tup2 (SP.ownr (rInt .i64) 3 w18.heap.size O31 x32.1) (SP.isv (.int .i64 x32.2))) (j := 1) (hK 40 rfl) rfl rfl rfl)) (.cons (fun _ _ hE hK hg => ok_assign_pr (φ := SP.ownr (rInt .i64) 3 w18.heap.size O31 x32.1) (kspS (j := 2) (hK 41 rfl) rfl rfl rfl)) (.cons (fun _ _ hE hK hg => ok_assign (ksv (j := 3) (hK 42 rfl) rfl rfl rfl)) .nil)))))) ?zok12 ?zgd12 ?zk12
  case z12_1 => intro a' w' hE hK hg; have c_ := ok_core_Conflicts (OkO.ext hB.ok hE) (GR.v_ext _ f28 hE) hx32; exact ok_weak (ok_call1 fn51 (ksv (j := 0) (hK 39 rfl) rfl rfl rfl) c_) (fun _ _ _ ⟨a_, b_, e0_, h0_, h1_⟩ => ⟨a_, b_, e0_, (fun h => (OwnR.base h hE.size)) h0_, h1_⟩)
  case zok12 | zgd12 => kernel_rfl
  intro a19 w19 hA hE HF
  have f34 := ksp (HF 6) rfl rfl rfl
  obtain ⟨u33, q6'⟩ : ∃ u, a19.get 6 = u := ⟨_, rfl⟩
  rw [q6'] at f34
  have q6 := q6'; clear q6'
  have q7 := ksv (HF 7) rfl rfl rfl
  clear q10
  clear HF
  obtain ⟨O35, hB', hX, f36⟩ := ownNew hO hB hE f34 rfl 3 (by decide)
  clear hB f34; have hB := hB'; clear hB'
  replace f28 := GR.kx _ f28 hX (by decide)
  clear hX hE
  refine li_nil (nx_then (wp_ret ?_))
  have h := Comp.run_pure h; subst h
  exact retPure2 Try.results22 hA q6 q7 hB.ext ⟨_, _, rfl, (OwnL.res f36 (by decide) hB.zero), rfl⟩
theorem ok_colletref04_SameInts {O : Tags} {w0 : World} (hO : OkO O w0) {v_0 : Value} {x_0 : List Int} (h_0 : (rSl (rInt .i64)).v O w0 v_0 x_0) {v_1 : Value} {x_1 : List Int} (h_1 : (rSl (rInt .i64)).v O w0 v_1 x_1) {n : Nat} {y : Bool} (h : (colletref04_SameInts x_0 x_1).run n = some y) : Pure Try.prog 21 #[v_0, v_1] w0 (SP.isv (.bool y)).holds := by
 unfold colletref04_SameInts at h
 refine pure_of_wp Try.func21 rfl 26 Try.ntmps21 (by simp) fun a0 hA hs0 => ?_
 have q0 : a0.get 0 = v_0 := hs0 0 _ rfl
 have q1 : a0.get 1 = v_1 := hs0 1 _ rfl
 clear hs0
 have hB : Base (Fr w0) O w0 O w0 := Base.start hO
 refine wp_seq ?_
 refine' region [_] mixed hA (.cons (fun _ _ hE hK hg => ok_assign rfl) .nil) ?zok1 ?zgd1 ?zk1
 case zok1 | zgd1 => kernel_rfl
 intro a1 w1 hA hE HF
 replace q0 := kn (HF 0) rfl q0
 replace q1 := kn (HF 1) rfl q1
 clear HF
 replace h_0 := GR.v_ext _ h_0 hE
 replace h_1 := GR.v_ext _ h_1 hE
 replace hB := Base.step hB hE hO; clear hE
 refine li_nil (nx_then (wp_seq (wp_seq ?_)))
 refine' region [_, _, _, _, _] mixed hA (.cons (fun _ _ hE hK hg => ok_move (kn (hK 0 rfl) rfl q0)) (.cons (fun _ _ hE hK hg => okl_len (r := (rInt .i64)) ty23 (ksv (j := 0) (hK 6 rfl) rfl rfl rfl) (rd_of (GR.v_ext _ h_0 hE))) (.cons (fun _ _ hE hK hg => ok_move (kn (hK 1 rfl) rfl q1)) (.cons (fun _ _ hE hK hg => okl_len (r := (rInt .i64)) ty23 (ksv (j := 2) (hK 8 rfl) rfl rfl rfl) (rd_of (GR.v_ext _ h_1 hE))) (.cons (fun _ _ hE hK hg => ok_neqI (ksv (j := 1) (hK 7 rfl) rfl rfl rfl) (ksv (j := 3) (hK 9 rfl) rfl rfl rfl)) .nil))))) ?zok2 ?zgd2 ?zk2
 case zok2 | zgd2 => kernel_rfl
 intro a2 w2 hA hE HF
 replace q0 := kn (HF 0) rfl q0
 replace q1 := kn (HF 1) rfl q1
 have q10 := ksv (HF 10) rfl rfl rfl
 clear HF
 replace h_0 := GR.v_ext _ h_0 hE
 replace h_1 := GR.v_ext _ h_1 hE
 replace hB := Base.step hB hE hO; clear hE
 obtain ⟨x1, hx_, h⟩ := Comp.run_bind h; replace hx_ := Comp.run_pure hx_; rw [hx_] at q10; clear hx_
 refine li_nil (nx_then ?_)
 refine wp_cond_b q10 (fun hc => ?_) (fun hc => ?_)
 ·
  replace h := Comp.run_b_t hc h; clear hc
  refine wp_seq ?_
  refine' region [_] mixed hA (.cons (fun _ _ hE hK hg => ok_assign rfl) .nil) ?zok3 ?zgd3 ?zk3
  case zok3 | zgd3 => kernel_rfl
  intro a3 w3 hA hE HF
  have q4 := ksv (HF 4) rfl rfl rfl
  clear q0
  clear q1
  clear q10
  clear HF
  replace h_0 := GR.v_ext _ h_0 hE
  replace h_1 := GR.v_ext _ h_1 hE
  replace hB := Base.step hB hE hO; clear hE
  refine li_nil (nx_then (wp_ret (rt_then ?_)))
  have h := Comp.run_pure h; subst h
  exact retPure Try.results21 hA q4 hB.ext rfl
 ·
  replace h := Comp.run_b_f hc h; clear hc
  refine wp_skip (nx_then ?_)
  refine seq_join (fun a w => ∃ (O7 : Tags), a.fit 26 ∧ Base (Fr w0) O w0 O7 w ∧ (colletref04_SameInts_j1 ).run n = some y) ?_ ?_
  ·
   refine wp_seq ?_
   refine' region [_] mixed hA (.cons (fun _ _ hE hK hg => ok_assign rfl) .nil) ?zok4 ?zgd4 ?zk4
   case zok4 | zgd4 => kernel_rfl
   intro a4 w4 hA hE HF
   replace q0 := kn (HF 0) rfl q0
   replace q1 := kn (HF 1) rfl q1
   have q5 := ksv (HF 5) rfl rfl rfl
   clear q10
   clear HF
   replace h_0 := GR.v_ext _ h_0 hE
   replace h_1 := GR.v_ext _ h_1 hE
   replace hB := Base.step hB hE hO; clear hE
   refine li_nil (nx_then (wp_block ?_))
   obtain ⟨e2, he2, hk2⟩ := Comp.run_bind h; clear h
   refine loop_m (fun m a w => ∃ (O3 : Tags) (x2 : Int), a.fit 26 ∧ Base (Fr w0) O w0 O3 w ∧ a.get 0 = v_0 ∧ (rSl (rInt .i64)).v O3 w v_0 x_0 ∧ a.get 1 = v_1 ∧ (rSl (rInt .i64)).v O3 w v_1 x_1 ∧ a.get 5 = .int .i64 x2 ∧ Comp.loopN (fun s => colletref04_SameInts_l2 x_0 x_1 s) n m x2 = some e2) (m := n) ?st2 ?_
   case st2 =>
    exact ⟨_, _, hA, hB, q0, h_0, q1, h_1, q5, Comp.run_loop he2⟩
   intro m_ a5 w5 hI
   clear hA hB he2 q0 q1 q5 h_0 h_1
   obtain ⟨O3, x2, hA, hB, q0, h_0, q1, h_1, q5, hl⟩ := hI
   obtain ⟨m2, hlt2, st2, h, hnext2, hdone2⟩ := Comp.loopN_succ hl; clear hl
   replace h : (colletref04_SameInts_l2 x_0 x_1 x2).run n = some st2 := h
   unfold colletref04_SameInts_l2 at h
   refine wp_seq (wp_seq ?_)
   refine' region [_, _, _, _] mixed hA (.cons (fun _ _ hE hK hg => ok_move (kn (hK 5 rfl) rfl q5)) (.cons (fun _ _ hE hK hg => ok_move (kn (hK 0 rfl) rfl q0)) (.cons (fun _ _ hE hK hg => okl_len (r := (rInt .i64)) ty23 (ksv (j := 1) (hK 12 rfl) rfl rfl rfl) (rd_of (GR.v_ext _ h_0 hE))) (.cons (fun _ _ hE hK hg => ok_lss (ksv (j := 0) (hK 11 rfl) rfl rfl rfl) (ksv (j := 2) (hK 13 rfl) rfl rfl rfl)) .nil)))) ?zok5 ?zgd5 ?zk5
   case zok5 | zgd5 => kernel_rfl
   intro a6 w6 hA hE HF
   replace q0 := kn (HF 0) rfl q0
   replace q1 := kn (HF 1) rfl q1
   replace q5 := kn (HF 5) rfl q5
   have q14 := ksv (HF 14) rfl rfl rfl
   clear HF
   replace h_0 := GR.v_ext _ h_0 hE
   replace h_1 := GR.v_ext _ h_1 hE
   replace hB := Base.step hB hE hO; clear hE
   refine li_nil (nx_then ?_)
   refine wp_cond_b q14 (fun hc => ?_) (fun hc => ?_)
   ·
    replace h := Comp.run_b_t hc h; clear hc
    refine wp_skip (nx_then (wp_seq (wp_block (wp_seq ?_))))
    obtain ⟨x4, hx4, h⟩ := Comp.run_bind h
    obtain ⟨x5, hx5, h⟩ := Comp.run_bind h
    refine' region [_, _, SP.ptr (rInt .i64) O3 x4, SP.isv (.int .i64 x4), _, _, SP.ptr (rInt .i64) O3 x5, SP.isv (.int .i64 x5), _] mixed hA (.cons (fun _ _ hE hK hg => ok_move (kn (hK 0 rfl) rfl q0)) (.cons (fun _ _ hE hK hg => ok_move (kn (hK 5 rfl) rfl q5)) (.cons (fun _ _ hE hK hg => okl_idx (r := (rInt .i64)) (O := O3) ty23 ty3 rfl (ksv (j := 0) (hK 17 rfl) rfl rfl rfl) (rd_of (GR.v_ext _ h_0 hE)) (ksv (j := 1) (hK 18 rfl) rfl rfl rfl) hx4) (.cons (fun _ _ hE hK hg => okl_ldr (rInt .i64) (fun _ => rfl) ty3 rfl rfl rfl (kspS (φ := SP.ptr (rInt .i64) O3 x4) (j := 2) (hK 19 rfl) rfl rfl rfl) (fun _ _ _ h => rInt_v.1 h)) (.cons (fun _ _ hE hK hg => ok_move (kn (hK 1 rfl) rfl q1)) (.cons (fun _ _ hE hK hg => ok_move (kn (hK 5 rfl) rfl q5)) (.cons (fun _ _ hE hK hg => okl_idx (r := (rInt .i64)) (O := O3) ty23 ty3 rfl (ksv (j := 4) (hK 21 rfl) rfl rfl rfl) (rd_of (GR.v_ext _ h_1 hE)) (ksv (j := 5) (hK 22 rfl) rfl rfl rfl) hx5) (.cons (fun _ _ hE hK hg => okl_ldr (rInt .i64) (fun _ => rfl) ty3 rfl rfl rfl (kspS (φ := SP.ptr (rInt .i64) O3 x5) (j := 6) (hK 23 rfl) rfl rfl rfl) (fun _ _ _ h => rInt_v.1 h)) (.cons (fun _ _ hE hK hg => ok_neqI (ksv (j := 3) (hK 20 rfl) rfl rfl rfl) (ksv (j := 7) (hK 24 rfl) rfl rfl rfl)) .nil))))))))) ?zok6 ?zgd6 ?zk6
    case zok6 | zgd6 => kernel_rfl
    intro a7 w7 hA hE HF
    replace q0 := kn (HF 0) rfl q0
    replace q1 := kn (HF 1) rfl q1
    replace q5 := kn (HF 5) rfl q5
    have q25 := ksv (HF 25) rfl rfl rfl
    clear q14
    clear HF
    replace h_0 := GR.v_ext _ h_0 hE
    replace h_1 := GR.v_ext _ h_1 hE
    replace hB := Base.step hB hE hO; clear hE
    refine li_nil (nx_then ?_)
    refine wp_cond_b q25 (fun hc => ?_) (fun hc => ?_)
    ·
     replace h := Comp.run_b_t hc h; clear hc
     refine wp_seq ?_
     refine' region [_] mixed hA (.cons (fun _ _ hE hK hg => ok_assign rfl) .nil) ?zok7 ?zgd7 ?zk7
     case zok7 | zgd7 => kernel_rfl
     intro a8 w8 hA hE HF
     have q4 := ksv (HF 4) rfl rfl rfl
     clear q0
     clear q1
     clear q5
     clear q25
     clear HF
     replace h_0 := GR.v_ext _ h_0 hE
     replace h_1 := GR.v_ext _ h_1 hE
     replace hB := Base.step hB hE hO; clear hE
     refine li_nil (nx_then (wp_ret (rt_blk (rt_then (rt_then (rt_blk (rt_then ?_)))))))
     have hd_ := hdone2 _ (Comp.run_pure h).symm; clear h
     subst hd_; have h := hk2; clear hk2; try dsimp only at h
     have h := Comp.run_pure h; subst h
     exact retPure Try.results21 hA q4 hB.ext rfl
    ·
     replace h := Comp.run_b_f hc h; clear hc
     refine wp_skip (nx_blk (nx_then ?_))
     refine' region [_, _, _] mixed hA (.cons (fun _ _ hE hK hg => ok_move (kn (hK 5 rfl) rfl q5)) (.cons (fun _ _ hE hK hg => ok_add (ksv (j := 0) (hK 15 rfl) rfl rfl rfl) rfl) (.cons (fun _ _ hE hK hg => ok_assign (ksv (j := 1) (hK 16 rfl) rfl rfl rfl)) .nil))) ?zok8 ?zgd8 ?zk8
     case zok8 | zgd8 => kernel_rfl
     intro a9 w9 hA hE HF
     replace q0 := kn (HF 0) rfl q0
     replace q1 := kn (HF 1) rfl q1
     have q5' := ksv (HF 5) rfl rfl rfl
     replace q5 := q5'; clear q5'
     clear q25
     clear HF
     replace h_0 := GR.v_ext _ h_0 hE
     replace h_1 := GR.v_ext _ h_1 hE
     replace hB := Base.step hB hE hO; clear hE
     refine li_nil (nx_then ?_)
     have h := hnext2 _ (Comp.run_pure h).symm
     refine ⟨m2, hlt2, ?_⟩
     exact ⟨_, _, hA, hB, q0, h_0, q1, h_1, q5, h⟩
   ·
    replace h := Comp.run_b_f hc h; clear hc
    refine wp_exit (ex_then (ex_then (ex_same ?_)))
    have hd_ := hdone2 _ (Comp.run_pure h).symm; clear h
    subst hd_; have h := hk2; clear hk2; try dsimp only at h
    refine nx_then ?_
    exact ⟨_, hA, hB, h⟩
  intro a10 w10 hI
  clear hA hB h q0 q1 q10 h_0 h_1
  obtain ⟨O7, hA, hB, h⟩ := hI
  unfold colletref04_SameInts_j1 at h
  refine wp_seq ?_
  refine' region [_] mixed hA (.cons (fun _ _ hE hK hg => ok_assign rfl) .nil) ?zok9 ?zgd9 ?zk9
  case zok9 | zgd9 => kernel_rfl
  intro a11 w11 hA hE HF
  have q4 := ksv (HF 4) rfl rfl rfl
  clear HF
  replace hB := Base.step hB hE hO; clear hE
  refine li_nil (nx_then (wp_ret ?_))
  have h := Comp.run_pure h; subst h
  exact retPure Try.results21 hA q4 hB.ext rfl
theorem ok_colletlaw43_conflicts {O : Tags} {w0 : World} (hO : OkO O w0) {v_0 : Value} {x_0 : List api_Claim} (h_0 : (rSl r_api_Claim).v O w0 v_0 x_0) {v_1 : Value} {x_1 : List api_Sight} (h_1 : (rSl r_api_Sight).v O w0 v_1 x_1) {v_2 : Value} {x_2 : List Int} (h_2 : (rSl (rInt .i64)).v O w0 v_2 x_2) {n : Nat} {y : Bool} (h : (colletlaw43_conflicts x_0 x_1 x_2).run n = some y) : Pure Try.prog 33 #[v_0, v_1, v_2] w0 (SP.isv (.bool y)).holds := by
 unfold colletlaw43_conflicts at h
 refine pure_of_wp Try.func33 rfl 22 Try.ntmps33 (by simp) fun a0 hA hs0 => ?_
 have q0 : a0.get 0 = v_0 := hs0 0 _ rfl
 have q1 : a0.get 1 = v_1 := hs0 1 _ rfl
 have q2 : a0.get 2 = v_2 := hs0 2 _ rfl
 clear hs0
 have hB : Base (Fr w0) O w0 O w0 := Base.start hO
 refine wp_seq ?_
 refine' region [_] mixed hA (.cons (fun _ _ hE hK hg => ok_assign rfl) .nil) ?zok1 ?zgd1 ?zk1
 case zok1 | zgd1 => kernel_rfl
 intro a1 w1 hA hE HF
 replace q0 := kn (HF 0) rfl q0
 replace q1 := kn (HF 1) rfl q1
 replace q2 := kn (HF 2) rfl q2
 clear HF
 replace h_0 := GR.v_ext _ h_0 hE
 replace h_1 := GR.v_ext _ h_1 hE
 replace h_2 := GR.v_ext _ h_2 hE
 replace hB := Base.step hB hE hO; clear hE
 refine li_nil (nx_then (wp_seq ?_))
 obtain ⟨x1, hx1, h⟩ := Comp.run_bind h
 refine' region [_, _, SP.tup2 (SP.vl (rSl (rInt .i64)) O x1.1) (SP.isv (.int .i64 x1.2)), SP.tup2 (SP.vl (rSl (rInt .i64)) O x1.1) (SP.isv (.int .i64 x1.2)), SP.vl (rSl (rInt .i64)) O x1.1, SP.isv (.int .i64 x1.2), SP.vl (rSl (rInt .i64)) O x1.1, _] mixed hA (.cons (fun _ _ hE hK hg => ok_move (kn (hK 0 rfl) rfl q0)) (.cons (fun _ _ hE hK hg => ok_move (kn (hK 1 rfl) rfl q1)) (.cons ?z2_2 (.cons (fun _ _ hE hK hg => ok_move_pr (φ := SP.tup2 (SP.vl (rSl (rInt .i64)) O x1.1) (SP.isv (.int .i64 x1.2))) (kspS (j := 2) (hK 12 rfl) rfl rfl rfl)) (.cons (fun _ _ hE hK hg => okl_ext0 (kspS (φ := SP.tup2 (SP.vl (rSl (rInt .i64)) O x1.1) (SP.isv (.int .i64 x1.2))) (j := 3) (hK 9 rfl) rfl rfl rfl)) (.cons (fun _ _ hE hK hg => okl_ext1 (kspS (φ := SP.tup2 (SP.vl (rSl (rInt .i64)) O x1.1) (SP.isv (.int .i64 x1.2))) (j := 3) (hK 9 rfl) rfl rfl rfl)) (.cons (fun _ _ hE hK hg => ok_assign_pr (φ := SP.vl (rSl (rInt .i64)) O x1.1) (kspS (j := 4) (hK 13 rfl) rfl rfl rfl)) (.cons (fun _ _ hE hK hg => ok_assign (ksv (j := 5) (hK 14 rfl) rfl rfl rfl)) .nil)))))))) ?zok2 ?zgd2 ?zk2
 case z2_2 => intro a' w' hE hK hg; have c_ := ok_court_Conflicts (OkO.ext hB.ok hE) (GR.v_ext _ h_0 hE) (GR.v_ext _ h_1 hE) hx1; exact ok_weak (ok_call3 fn22 (ksv (j := 0) (hK 10 rfl) rfl rfl rfl) (ksv (j := 1) (hK 11 rfl) rfl rfl rfl) rfl c_) (fun _ _ _ ⟨a_, b_, e0_, h0_, h1_⟩ => ⟨a_, b_, e0_, (fun h => (OwnR.val h (fun g hg => (OkO.ext hB.ok hE) g (OwnR.ge h g hg).1))) h0_, h1_⟩)
 case zok2 | zgd2 => kernel_rfl
 intro a2 w2 hA hE HF
 replace q2 := kn (HF 2) rfl q2
 have f3 := ksp (HF 7) rfl rfl rfl
 obtain ⟨u2, q7'⟩ : ∃ u, a2.get 7 = u := ⟨_, rfl⟩
 rw [q7'] at f3
 have q7 := q7'; clear q7'
 have q8 := ksv (HF 8) rfl rfl rfl
 clear q0
 clear q1
 clear HF
 replace h_0 := GR.v_ext _ h_0 hE
 replace h_1 := GR.v_ext _ h_1 hE
 replace h_2 := GR.v_ext _ h_2 hE
 replace hB := Base.step hB hE hO; clear hE
 refine li_nil (nx_then (wp_seq ?_))
 obtain ⟨x4, hx4, h⟩ := Comp.run_bind h
 refine' region [_, _, _, _, _, SP.isv (.bool x4), _, _] mixed hA (.cons (fun _ _ hE hK hg => ok_move (kn (hK 8 rfl) rfl q8)) (.cons (fun _ _ hE hK hg => ok_eqlI (ksv (j := 0) (hK 15 rfl) rfl rfl rfl) rfl) (.cons (fun _ _ hE hK hg => ok_move (ksv (j := 1) (hK 16 rfl) rfl rfl rfl)) (.cons (fun _ _ hE hK hg => ok_move (kn (hK 7 rfl) rfl q7)) (.cons (fun _ _ hE hK hg => ok_move (kn (hK 2 rfl) rfl q2)) (.cons ?z3_5 (.cons ?z3_6 (.cons (fun _ _ hE hK hg => ok_assign (ksv (j := 6) (hK 21 rfl) rfl rfl rfl)) .nil)))))))) ?zok3 ?zgd3 ?zk3
 case z3_5 => intro a' w' hE hK hg; have c_ := ok_colletref04_SameInts (OkO.ext hB.ok hE) (GR.v_ext _ f3 hE) (GR.v_ext _ h_2 hE) (run_gdb hx4 hg); exact ok_call2 fn21 (ksv (j := 3) (hK 18 rfl) rfl rfl hg) (ksv (j := 4) (hK 19 rfl) rfl rfl hg) c_
 case z3_6 => intro a' w' hE hK hg; exact ok_pick (ksv (j := 2) (hK 17 rfl) rfl rfl rfl) (fun hb => ksv (j := 5) (hK 20 rfl) rfl rfl (act_g1 rfl rfl hb)) (fun _ => rfl)
 case zok3 | zgd3 => kernel_rfl
 intro a3 w3 hA hE HF
 have q6 := ksv (HF 6) rfl rfl rfl
 clear q2
 clear q7
 clear q8
 clear HF
 replace h_2 := GR.v_ext _ h_2 hE
 replace f3 := GR.v_ext _ f3 hE
 replace hB := Base.step hB hE hO; clear hE
 obtain ⟨x5, hx_, h⟩ := Comp.run_bind h; replace hx_ := Comp.run_pure hx_; rw [hx_] at q6; clear hx_
 refine li_nil (nx_then (wp_ret ?_))
 have h := Comp.run_pure h; subst h
 exact retPure Try.results33 hA q6 hB.ext rfl
theorem ok_core_Hitting_f1 {O : Tags} {w0 : World} (hO : OkO O w0) {x_0 : Int} {v_1 : Value} {x_1 : Int} (h_1 : (rBox (rInt .i64)).v O w0 v_1 x_1) {n : Nat} {y : Bool} (h : (core_Hitting_f1 x_0 x_1).run n = some y) : Pure Try.prog 65 #[.int .i64 x_0, v_1] w0 (SP.isv (.bool y)).holds := by
 unfold core_Hitting_f1 at h
 refine pure_of_wp Try.func65 rfl 12 Try.ntmps65 (by simp) fun a0 hA hs0 => ?_
 have q0 : a0.get 0 = .int .i64 x_0 := hs0 0 _ rfl
 have q1 : a0.get 1 = v_1 := hs0 1 _ rfl
 clear hs0
 have hB : Base (Fr w0) O w0 O w0 := Base.start hO
 refine wp_seq ?_
 refine' region [_] mixed hA (.cons (fun _ _ hE hK hg => ok_assign rfl) .nil) ?zok1 ?zgd1 ?zk1
 case zok1 | zgd1 => kernel_rfl
 intro a1 w1 hA hE HF
 replace q0 := kn (HF 0) rfl q0
 replace q1 := kn (HF 1) rfl q1
 clear HF
 replace h_1 := GR.v_ext _ h_1 hE
 replace hB := Base.step hB hE hO; clear hE
 refine li_nil (nx_then (wp_seq ?_))
 obtain ⟨x1, hx1, h⟩ := Comp.run_bind h
 refine' region [_, _, _, _, SP.isv (.int .i64 x_1), _, _, _, _] mixed hA (.cons (fun _ _ hE hK hg => ok_move (kn (hK 0 rfl) rfl q0)) (.cons (fun _ _ hE hK hg => ok_lss (ksv (j := 0) (hK 4 rfl) rfl rfl rfl) rfl) (.cons (fun _ _ hE hK hg => ok_move (ksv (j := 1) (hK 5 rfl) rfl rfl rfl)) (.cons (fun _ _ hE hK hg => ok_move (kn (hK 0 rfl) rfl q0)) (.cons (fun _ _ hE hK hg => okl_ldr (rInt .i64) (fun _ => rfl) ty3 rfl rfl (kn (hK 1 rfl) rfl q1) (ptr_of_box (fun _ => rfl) (GR.v_ext _ h_1 hE)) (fun _ _ _ h => rInt_v.1 h)) (.cons ?z2_5 (.cons ?z2_6 (.cons ?z2_7 (.cons (fun _ _ hE hK hg => ok_assign (ksv (j := 7) (hK 11 rfl) rfl rfl rfl)) .nil))))))))) ?zok2 ?zgd2 ?zk2
 case z2_5 => intro a' w' hE hK hg; exact okl_shl rfl (ksv (j := 4) (hK 8 rfl) rfl rfl hg) (run_nonneg (run_gdb hx1 hg))
 case z2_6 => intro a' w' hE hK hg; exact ok_geq (ksv (j := 3) (hK 7 rfl) rfl rfl hg) (ksv (j := 5) (hK 9 rfl) rfl rfl hg)
 case z2_7 => intro a' w' hE hK hg; exact ok_pick (ksv (j := 2) (hK 6 rfl) rfl rfl rfl) (fun _ => rfl) (fun hb => ksv (j := 6) (hK 10 rfl) rfl rfl (act_g1 rfl rfl hb))
 case zok2 | zgd2 => kernel_rfl
 intro a2 w2 hA hE HF
 have q3 := ksv (HF 3) rfl rfl rfl
 clear q0
 clear q1
 clear HF
 replace h_1 := GR.v_ext _ h_1 hE
 replace hB := Base.step hB hE hO; clear hE
 obtain ⟨x2, hx_, h⟩ := Comp.run_bind h; replace hx_ := Comp.run_pure hx_; rw [hx_] at q3; clear hx_
 refine li_nil (nx_then (wp_ret ?_))
 have h := Comp.run_pure h; subst h
 exact retPure Try.results65 hA q3 hB.ext rfl
theorem ok_core_Minimal {O : Tags} {w0 : World} (hO : OkO O w0) {v_0 : Value} {x_0 : List Int} (h_0 : (rSl (rInt .i64)).v O w0 v_0 x_0) {n : Nat} {y : (List Int)} (h : (core_Minimal x_0).run n = some y) : Pure Try.prog 66 #[v_0] w0 (SP.ownr (rInt .i64) 3 (w0.heap.size) O y).holds := by
 unfold core_Minimal at h
 refine pure_of_wp Try.func66 rfl 43 Try.ntmps66 (by simp) fun a0 hA hs0 => ?_
 have q0 : a0.get 0 = v_0 := hs0 0 _ rfl
 clear hs0
 have hB : Base (Fr w0) O w0 O w0 := Base.start hO
 refine wp_seq ?_
 refine' region [_] mixed hA (.cons (fun _ _ hE hK hg => ok_assign rfl) .nil) ?zok1 ?zgd1 ?zk1
 case zok1 | zgd1 => kernel_rfl
 intro a1 w1 hA hE HF
 replace q0 := kn (HF 0) rfl q0
 clear HF
 replace h_0 := GR.v_ext _ h_0 hE
 replace hB := Base.step hB hE hO; clear hE
 refine li_nil (nx_then (wp_scope_straight (wp_seq ?_)))
 refine' regionT [_] hA (.cons (fun _ _ hE hK hg => ok_move (kn (hK 0 rfl) rfl q0)) .nil) ?zok2 ?zgd2 ?zk2
 case zok2 | zgd2 => kernel_rfl
 intro a2 w2 hA hE HF
 replace q0 := kn (HF 0) rfl q0
 have q8 := ksv (HF 8) rfl rfl rfl
 clear HF
 replace h_0 := GR.v_ext _ h_0 hE
 replace hB := Base.step hB hE hO; clear hE
 obtain ⟨x1, hx1, h⟩ := Comp.run_bind h
 refine l_ok (φ := SP.ownr (rInt .i64) 3 w2.heap.size O x1) hO hB (by have c_ := ok_slices_Clone_int_int hB.ok h_0 hx1; exact ok_weak (ok_call1 fn77 q8 c_) (fun _ _ _ h => h)) rfl fun u2 w3 hE hB' f3 => ?_
 clear hB'; obtain ⟨O4, hB', hX, f5⟩ := ownNew hO hB hE f3 rfl 1 (by decide)
 clear hB f3; have hB := hB'; clear hB'
 replace h_0 := GR.kx _ h_0 hX (by decide)
 clear hX hE
 refine put_cont hA (by decide) fun a4 hA q_ hfr => ?_
 replace q0 := (hfr 0 rfl).trans q0
 replace q8 := (hfr 8 rfl).trans q8
 have q9 := q_; clear q_ hfr
 refine l_ok (φ := SP.isv (u2)) hO hB (by exact ok_assign q9) rfl fun u_ w5 hE hB' hv_ => ?_
 replace hv_ := Eq.symm hv_; subst hv_; clear hB; have hB := hB'; clear hB'
 replace h_0 := GR.v_ext _ h_0 hE
 replace f5 := f5.ext hE
 clear hE
 refine put_cont hA (by decide) fun a6 hA q_ hfr => ?_
 replace q9 := (hfr 9 rfl).trans q9
 clear q0
 have q0 := q_; clear q_ hfr
 refine li_nil (nx_then (wp_seq ?_))
 refine' regionT [_] hA (.cons (fun _ _ hE hK hg => ok_move (kn (hK 0 rfl) rfl q0)) .nil) ?zok3 ?zgd3 ?zk3
 case zok3 | zgd3 => kernel_rfl
 intro a7 w7 hA hE HF
 replace q0 := kn (HF 0) rfl q0
 have q10 := ksv (HF 10) rfl rfl rfl
 clear HF
 replace f5 := f5.ext hE
 replace hB := Base.step hB hE hO; clear hE
 obtain ⟨x6, hx6, h⟩ := Comp.run_bind h
 refine l_io (r := (rInt .i64)) (E := 3) (k := 1) hO hB (okB_fr hB) fn80 (map1 q10) (m_sort Try.slices_Sort_int Try.slices_Sort_int_none hB.ok (OwnL.arg f5 (by decide)) hx6) f5 (by decide) fun u8 u7 w8 O9 f10 hB' hX hps => ?_
 clear hB; have hB := hB'; clear hB'
 clear f5
 replace hps : _ = _ := hps; subst hps
 clear hX
 refine put_cont hA (by decide) fun a9 hA q_ hfr => ?_
 replace q0 := (hfr 0 rfl).trans q0
 replace q10 := (hfr 10 rfl).trans q10
 have q11 := q_; clear q_ hfr
 refine li_nil (nx_then (wp_seq ?_))
 refine' regionT [_] hA (.cons (fun _ _ hE hK hg => ok_move (kn (hK 0 rfl) rfl q0)) .nil) ?zok4 ?zgd4 ?zk4
 case zok4 | zgd4 => kernel_rfl
 intro a10 w10 hA hE HF
 replace q0 := kn (HF 0) rfl q0
 have q12 := ksv (HF 12) rfl rfl rfl
 clear HF
 replace f10 := f10.ext hE
 replace hB := Base.step hB hE hO; clear hE
 obtain ⟨x11, hx11, h⟩ := Comp.run_bind h
 refine l_io (r := (rInt .i64)) (E := 3) (k := 1) hO hB (okB_fr hB) fn76 (map1 q12) (m_compact Try.slices_Compact_int Try.slices_Compact_int_empty hB.ok (OwnL.arg f10 (by decide)) hx11) f10 (by decide) fun u13 u12 w11 O14 f15 hB' hX hps => ?_
 clear hB; have hB := hB'; clear hB'
 clear f10
 replace hps : _ = _ := hps; subst hps
 clear hX
 refine put_cont hA (by decide) fun a12 hA q_ hfr => ?_
 replace q0 := (hfr 0 rfl).trans q0
 replace q12 := (hfr 12 rfl).trans q12
 have q13 := q_; clear q_ hfr
 refine l_ok (φ := SP.isv (u13)) hO hB (by exact ok_assign q13) rfl fun u_ w13 hE hB' hv_ => ?_
 replace hv_ := Eq.symm hv_; subst hv_; clear hB; have hB := hB'; clear hB'
 replace f15 := f15.ext hE
 clear hE
 refine put_cont hA (by decide) fun a14 hA q_ hfr => ?_
 replace q13 := (hfr 13 rfl).trans q13
 clear q0
 have q0 := q_; clear q_ hfr
 refine li_nil (nx_then (wp_seq ?_))
 refine' region [_] mixed hA (.cons (fun _ _ hE hK hg => ok_assign rfl) .nil) ?zok5 ?zgd5 ?zk5
 case zok5 | zgd5 => kernel_rfl
 intro a15 w15 hA hE HF
 replace q0 := kn (HF 0) rfl q0
 have q3 := ksv (HF 3) rfl rfl rfl
 clear HF
 replace f15 := f15.ext hE
 replace hB := Base.step hB hE hO; clear hE
 refine li_nil (nx_then (wp_seq (wp_label (nx_then ?_))))
 refine seq_join (fun a w => ∃ (O42 : Tags) (x39 : List Int) (u40 : Value), a.fit 43 ∧ Base (Fr w0) O w0 O42 w ∧ a.get 3 = u40 ∧ OwnL 2 (rInt .i64) 3 (Fr w0) O42 w u40 x39 ∧ (core_Minimal_j1 x39).run n = some y) ?_ ?_
 ·
  refine wp_seq ?_
  refine' region [_, _, _] mixed hA (.cons (fun _ _ hE hK hg => ok_move (kn (hK 0 rfl) rfl q0)) (.cons (fun _ _ hE hK hg => okl_len (r := (rInt .i64)) ty23 (ksv (j := 0) (hK 14 rfl) rfl rfl rfl) (OwnL.rd (OwnL.ext f15 hE))) (.cons (fun _ _ hE hK hg => ok_move rfl) .nil))) ?zok6 ?zgd6 ?zk6
  case zok6 | zgd6 => kernel_rfl
  intro a16 w16 hA hE HF
  replace q0 := kn (HF 0) rfl q0
  replace q3 := kn (HF 3) rfl q3
  have q14 := ksv (HF 14) rfl rfl rfl
  have q15 := ksv (HF 15) rfl rfl rfl
  have q16 := ksv (HF 16) rfl rfl rfl
  clear HF
  replace f15 := f15.ext hE
  replace hB := Base.step hB hE hO; clear hE
  refine li_nil (nx_then (wp_block ?_))
  obtain ⟨e2, he2, hk2⟩ := Comp.run_bind h; clear h
  refine loop_m (fun m a w => ∃ (O20 : Tags) (x16 : List Int) (x19 : Int) (u17 : Value), a.fit 43 ∧ Base (Fr w0) O w0 O20 w ∧ a.get 0 = u13 ∧ OwnL 1 (rInt .i64) 3 (Fr w0) O20 w u13 x11 ∧ a.get 3 = u17 ∧ OwnL 2 (rInt .i64) 3 (Fr w0) O20 w u17 x16 ∧ a.get 14 = u13 ∧ a.get 15 = .int .i64 (x11.length : Int) ∧ a.get 16 = .int .i64 x19 ∧ Comp.loopN (fun s => core_Minimal_l2 x11 s.1 s.2) n m (x16, x19) = some e2) (m := n) ?st2 ?_
  case st2 =>
   exact ⟨_, _, _, _, hA, hB, q0, f15, q3, (OwnL.nil _ _ _ _ _ _), q14, q15, q16, Comp.run_loop he2⟩
  intro m_ a17 w17 hI
  clear hA hB he2 q0 q3 q14 q15 q16 f15
  obtain ⟨O20, x16, x19, u17, hA, hB, q0, f15, q3, f18, q14, q15, q16, hl⟩ := hI
  obtain ⟨m2, hlt2, st2, h, hnext2, hdone2⟩ := Comp.loopN_succ hl; clear hl
  replace h : (core_Minimal_l2 x11 x16 x19).run n = some st2 := h
  unfold core_Minimal_l2 at h
  refine wp_seq ?_
  refine' region [_] mixed hA (.cons (fun _ _ hE hK hg => ok_lss (kn (hK 16 rfl) rfl q16) (kn (hK 15 rfl) rfl q15)) .nil) ?zok7 ?zgd7 ?zk7
  case zok7 | zgd7 => kernel_rfl
  intro a18 w18 hA hE HF
  replace q0 := kn (HF 0) rfl q0
  replace q3 := kn (HF 3) rfl q3
  replace q14 := kn (HF 14) rfl q14
  replace q15 := kn (HF 15) rfl q15
  replace q16 := kn (HF 16) rfl q16
  have q17 := ksv (HF 17) rfl rfl rfl
  clear HF
  replace f15 := f15.ext hE
  replace f18 := f18.ext hE
  replace hB := Base.step hB hE hO; clear hE
  refine li_nil (nx_then (wp_seq ?_))
  refine wp_cond_b q17 (fun hc => ?_) (fun hc => ?_)
  ·
   replace h := Comp.run_b_t hc h; clear hc
   refine wp_skip (nx_then ?_)
   refine seq_join (fun a w => ∃ (O36 : Tags) (x26 : List Int) (u27 : Value), a.fit 43 ∧ Base (Fr w0) O w0 O36 w ∧ a.get 0 = u13 ∧ OwnL 1 (rInt .i64) 3 (Fr w0) O36 w u13 x11 ∧ a.get 3 = u27 ∧ OwnL 2 (rInt .i64) 3 (Fr w0) O36 w u27 x26 ∧ a.get 14 = u13 ∧ a.get 15 = .int .i64 (x11.length : Int) ∧ a.get 16 = .int .i64 x19 ∧ (core_Minimal_j3 x19 x26).run n = some st2) ?_ ?_
   ·
    refine wp_block (wp_seq ?_)
    obtain ⟨x21, hx21, h⟩ := Comp.run_bind h
    refine' region [SP.ptr (rInt .i64) O20 x21, SP.isv (.int .i64 x21), _] mixed hA (.cons (fun _ _ hE hK hg => okl_idx (r := (rInt .i64)) (O := O20) ty23 ty3 rfl (kn (hK 14 rfl) rfl q14) (OwnL.rd (OwnL.ext f15 hE)) (kn (hK 16 rfl) rfl q16) hx21) (.cons (fun _ _ hE hK hg => okl_ldr (rInt .i64) (fun _ => rfl) ty3 rfl rfl rfl (kspS (φ := SP.ptr (rInt .i64) O20 x21) (j := 0) (hK 18 rfl) rfl rfl rfl) (fun _ _ _ h => rInt_v.1 h)) (.cons (fun _ _ hE hK hg => ok_assign (ksv (j := 1) (hK 19 rfl) rfl rfl rfl)) .nil))) ?zok8 ?zgd8 ?zk8
    case zok8 | zgd8 => kernel_rfl
    intro a19 w19 hA hE HF
    replace q0 := kn (HF 0) rfl q0
    replace q3 := kn (HF 3) rfl q3
    have q5 := ksv (HF 5) rfl rfl rfl
    replace q14 := kn (HF 14) rfl q14
    replace q15 := kn (HF 15) rfl q15
    replace q16 := kn (HF 16) rfl q16
    clear q17
    clear HF
    replace f15 := f15.ext hE
    replace f18 := f18.ext hE
    replace hB := Base.step hB hE hO; clear hE
    refine li_nil (nx_then ?_)
    refine seq_join (fun a w => ∃ (O29 : Tags), a.fit 43 ∧ Base (Fr w0) O w0 O29 w ∧ a.get 0 = u13 ∧ OwnL 1 (rInt .i64) 3 (Fr w0) O29 w u13 x11 ∧ a.get 3 = u17 ∧ OwnL 2 (rInt .i64) 3 (Fr w0) O29 w u17 x16 ∧ a.get 5 = .int .i64 x21 ∧ a.get 14 = u13 ∧ a.get 15 = .int .i64 (x11.length : Int) ∧ a.get 16 = .int .i64 x19 ∧ (core_Minimal_j4 x16 x21 x19 ).run n = some st2) ?_ ?_
    ·
     refine wp_seq ?_
     refine' region [_, _, _] mixed hA (.cons (fun _ _ hE hK hg => ok_move (kn (hK 0 rfl) rfl q0)) (.cons (fun _ _ hE hK hg => okl_len (r := (rInt .i64)) ty23 (ksv (j := 0) (hK 20 rfl) rfl rfl rfl) (OwnL.rd (OwnL.ext f15 hE))) (.cons (fun _ _ hE hK hg => ok_move rfl) .nil))) ?zok9 ?zgd9 ?zk9
     case zok9 | zgd9 => kernel_rfl
     intro a20 w20 hA hE HF
     replace q0 := kn (HF 0) rfl q0
     replace q3 := kn (HF 3) rfl q3
     replace q5 := kn (HF 5) rfl q5
     replace q14 := kn (HF 14) rfl q14
     replace q15 := kn (HF 15) rfl q15
     replace q16 := kn (HF 16) rfl q16
     have q20 := ksv (HF 20) rfl rfl rfl
     have q21 := ksv (HF 21) rfl rfl rfl
     have q22 := ksv (HF 22) rfl rfl rfl
     clear HF
     replace f15 := f15.ext hE
     replace f18 := f18.ext hE
     replace hB := Base.step hB hE hO; clear hE
     refine li_nil (nx_then (wp_block ?_))
     obtain ⟨e5, he5, hk5⟩ := Comp.run_bind h; clear h
     refine loop_m (fun m a w => ∃ (O23 : Tags) (x22 : Int), a.fit 43 ∧ Base (Fr w0) O w0 O23 w ∧ a.get 0 = u13 ∧ OwnL 1 (rInt .i64) 3 (Fr w0) O23 w u13 x11 ∧ a.get 3 = u17 ∧ OwnL 2 (rInt .i64) 3 (Fr w0) O23 w u17 x16 ∧ a.get 5 = .int .i64 x21 ∧ a.get 14 = u13 ∧ a.get 15 = .int .i64 (x11.length : Int) ∧ a.get 16 = .int .i64 x19 ∧ a.get 20 = u13 ∧ a.get 21 = .int .i64 (x11.length : Int) ∧ a.get 22 = .int .i64 x22 ∧ Comp.loopN (fun s => core_Minimal_l5 x11 x21 s) n m x22 = some e5) (m := n) ?st5 ?_
     case st5 =>
      exact ⟨_, _, hA, hB, q0, f15, q3, f18, q5, q14, q15, q16, q20, q21, q22, Comp.run_loop he5⟩
     intro m_ a21 w21 hI
     clear hA hB he5 q0 q3 q5 q14 q15 q16 q20 q21 q22 f15 f18
     obtain ⟨O23, x22, hA, hB, q0, f15, q3, f18, q5, q14, q15, q16, q20, q21, q22, hl⟩ := hI
     obtain ⟨m5, hlt5, st5, h, hnext5, hdone5⟩ := Comp.loopN_succ hl; clear hl
     replace h : (core_Minimal_l5 x11 x21 x22).run n = some st5 := h
     unfold core_Minimal_l5 at h
     refine wp_seq ?_
     refine' region [_] mixed hA (.cons (fun _ _ hE hK hg => ok_lss (kn (hK 22 rfl) rfl q22) (kn (hK 21 rfl) rfl q21)) .nil) ?zok10 ?zgd10 ?zk10
     case zok10 | zgd10 => kernel_rfl
     intro a22 w22 hA hE HF
     replace q0 := kn (HF 0) rfl q0
     replace q3 := kn (HF 3) rfl q3
     replace q5 := kn (HF 5) rfl q5
     replace q14 := kn (HF 14) rfl q14
     replace q15 := kn (HF 15) rfl q15
     replace q16 := kn (HF 16) rfl q16
     replace q20 := kn (HF 20) rfl q20
     replace q21 := kn (HF 21) rfl q21
     replace q22 := kn (HF 22) rfl q22
     have q23 := ksv (HF 23) rfl rfl rfl
     clear HF
     replace f15 := f15.ext hE
     replace f18 := f18.ext hE
     replace hB := Base.step hB hE hO; clear hE
     refine li_nil (nx_then (wp_seq ?_))
     refine wp_cond_b q23 (fun hc => ?_) (fun hc => ?_)
     ·
      replace h := Comp.run_b_t hc h; clear hc
      refine wp_skip (nx_then (wp_seq (wp_block (wp_seq ?_))))
      obtain ⟨x24, hx24, h⟩ := Comp.run_bind h
      refine' region [SP.ptr (rInt .i64) O23 x24, SP.isv (.int .i64 x24), _] mixed hA (.cons (fun _ _ hE hK hg => okl_idx (r := (rInt .i64)) (O := O23) ty23 ty3 rfl (kn (hK 20 rfl) rfl q20) (OwnL.rd (OwnL.ext f15 hE)) (kn (hK 22 rfl) rfl q22) hx24) (.cons (fun _ _ hE hK hg => okl_ldr (rInt .i64) (fun _ => rfl) ty3 rfl rfl rfl (kspS (φ := SP.ptr (rInt .i64) O23 x24) (j := 0) (hK 24 rfl) rfl rfl rfl) (fun _ _ _ h => rInt_v.1 h)) (.cons (fun _ _ hE hK hg => ok_assign (ksv (j := 1) (hK 25 rfl) rfl rfl rfl)) .nil))) ?zok11 ?zgd11 ?zk11
      case zok11 | zgd11 => kernel_rfl
      intro a23 w23 hA hE HF
      replace q0 := kn (HF 0) rfl q0
      replace q3 := kn (HF 3) rfl q3
      replace q5 := kn (HF 5) rfl q5
      have q7 := ksv (HF 7) rfl rfl rfl
      replace q14 := kn (HF 14) rfl q14
      replace q15 := kn (HF 15) rfl q15
      replace q16 := kn (HF 16) rfl q16
      replace q20 := kn (HF 20) rfl q20
      replace q21 := kn (HF 21) rfl q21
      replace q22 := kn (HF 22) rfl q22
      clear q23
      clear HF
      replace f15 := f15.ext hE
      replace f18 := f18.ext hE
      replace hB := Base.step hB hE hO; clear hE
      refine li_nil (nx_then (wp_seq ?_))
      refine' region [_, _, _, _, _, _, _, _, _, _] mixed hA (.cons (fun _ _ hE hK hg => ok_move (kn (hK 7 rfl) rfl q7)) (.cons (fun _ _ hE hK hg => ok_move (kn (hK 5 rfl) rfl q5)) (.cons (fun _ _ hE hK hg => ok_neqI (ksv (j := 0) (hK 26 rfl) rfl rfl rfl) (ksv (j := 1) (hK 27 rfl) rfl rfl rfl)) (.cons (fun _ _ hE hK hg => ok_move (ksv (j := 2) (hK 28 rfl) rfl rfl rfl)) (.cons (fun _ _ hE hK hg => ok_move (kn (hK 5 rfl) rfl q5)) (.cons (fun _ _ hE hK hg => ok_move (kn (hK 7 rfl) rfl q7)) (.cons ?z12_6 (.cons (fun _ _ hE hK hg => ok_move (kn (hK 7 rfl) rfl q7)) (.cons ?z12_8 (.cons ?z12_9 .nil)))))))))) ?zok12 ?zgd12 ?zk12
      case z12_6 => intro a' w' hE hK hg; exact okb_and (ksv (j := 4) (hK 30 rfl) rfl rfl hg) (ksv (j := 5) (hK 31 rfl) rfl rfl hg)
      case z12_8 => intro a' w' hE hK hg; exact ok_eqlI (ksv (j := 6) (hK 32 rfl) rfl rfl hg) (ksv (j := 7) (hK 33 rfl) rfl rfl hg)
      case z12_9 => intro a' w' hE hK hg; exact ok_pick (ksv (j := 3) (hK 29 rfl) rfl rfl rfl) (fun hb => ksv (j := 8) (hK 34 rfl) rfl rfl (act_g1 rfl rfl hb)) (fun _ => rfl)
      case zok12 | zgd12 => kernel_rfl
      intro a24 w24 hA hE HF
      replace q0 := kn (HF 0) rfl q0
      replace q3 := kn (HF 3) rfl q3
      replace q5 := kn (HF 5) rfl q5
      replace q14 := kn (HF 14) rfl q14
      replace q15 := kn (HF 15) rfl q15
      replace q16 := kn (HF 16) rfl q16
      replace q20 := kn (HF 20) rfl q20
      replace q21 := kn (HF 21) rfl q21
      replace q22 := kn (HF 22) rfl q22
      have q35 := ksv (HF 35) rfl rfl rfl
      clear q7
      clear HF
      replace f15 := f15.ext hE
      replace f18 := f18.ext hE
      replace hB := Base.step hB hE hO; clear hE
      obtain ⟨x25, hx_, h⟩ := Comp.run_bind h; replace hx_ := Comp.run_pure hx_; rw [hx_] at q35; clear hx_
      refine li_nil (nx_then ?_)
      refine wp_cond_b q35 (fun hc => ?_) (fun hc => ?_)
      ·
       replace h := Comp.run_b_t hc h; clear hc
       refine wp_exit ?_
       refine (ex_other rfl (ex_then (ex_then (ex_other rfl (ex_then (ex_same ?_))))))
       have hd_ := hdone5 _ (Comp.run_pure h).symm; clear h
       subst hd_; have h := hk5; clear hk5; try dsimp only at h
       refine nx_then ?_
       exact ⟨_, _, _, hA, hB, q0, f15, q3, f18, q14, q15, q16, h⟩
      ·
       replace h := Comp.run_b_f hc h; clear hc
       refine wp_skip (nx_blk (nx_then ?_))
       refine' region [_, _] mixed hA (.cons (fun _ _ hE hK hg => ok_add (kn (hK 22 rfl) rfl q22) rfl) (.cons (fun _ _ hE hK hg => ok_move (ksv (j := 0) (hK 36 rfl) rfl rfl rfl)) .nil)) ?zok13 ?zgd13 ?zk13
       case zok13 | zgd13 => kernel_rfl
       intro a25 w25 hA hE HF
       replace q0 := kn (HF 0) rfl q0
       replace q3 := kn (HF 3) rfl q3
       replace q5 := kn (HF 5) rfl q5
       replace q14 := kn (HF 14) rfl q14
       replace q15 := kn (HF 15) rfl q15
       replace q16 := kn (HF 16) rfl q16
       replace q20 := kn (HF 20) rfl q20
       replace q21 := kn (HF 21) rfl q21
       have q22' := ksv (HF 22) rfl rfl rfl
       replace q22 := q22'; clear q22'
       clear q35
       clear HF
       replace f15 := f15.ext hE
       replace f18 := f18.ext hE
       replace hB := Base.step hB hE hO; clear hE
       refine li_nil (nx_then ?_)
       have h := hnext5 _ (Comp.run_pure h).symm
       refine ⟨m5, hlt5, ?_⟩
       exact ⟨_, _, hA, hB, q0, f15, q3, f18, q5, q14, q15, q16, q20, q21, q22, h⟩
     ·
      replace h := Comp.run_b_f hc h; clear hc
      refine wp_exit (ex_then (ex_then (ex_same ?_)))
      have hd_ := hdone5 _ (Comp.run_pure h).symm; clear h
      subst hd_; have h := hk5; clear hk5; try dsimp only at h
      refine nx_then ?_
      exact ⟨_, hA, hB, q0, f15, q3, f18, q5, q14, q15, q16, h⟩
    intro a26 w26 hI
    clear hA hB h q0 q3 q5 q14 q15 q16 f15 f18
    obtain ⟨O29, hA, hB, q0, f15, q3, f18, q5, q14, q15, q16, h⟩ := hI
    unfold core_Minimal_j4 at h
    refine' regionT [_, _, SP.vl (rSl (rInt .i64)) O29 [x21]] hA (.cons (fun _ _ hE hK hg => ok_move (kn (hK 3 rfl) rfl q3)) (.cons (fun _ _ hE hK hg => ok_move (kn (hK 5 rfl) rfl q5)) (.cons (fun _ _ hE hK hg => okl_buildSliceV (r := (rInt .i64)) (fun _ => rfl) rfl (OkO.ext hB.ok hE) ty23 ty3 (parts_cons (ksv (j := 1) (hK 38 rfl) rfl rfl rfl) parts_nil) ⟨(by exact rInt_v.2 rfl), trivial⟩ rfl (by decide)) .nil))) ?zok14 ?zgd14 ?zk14
    case zok14 | zgd14 => kernel_rfl
    intro a27 w27 hA hE HF
    replace q0 := kn (HF 0) rfl q0
    replace q3 := kn (HF 3) rfl q3
    replace q14 := kn (HF 14) rfl q14
    replace q15 := kn (HF 15) rfl q15
    replace q16 := kn (HF 16) rfl q16
    have q37 := ksv (HF 37) rfl rfl rfl
    have f31 := ksp (HF 39) rfl rfl rfl
    obtain ⟨u30, q39'⟩ : ∃ u, a27.get 39 = u := ⟨_, rfl⟩
    rw [q39'] at f31
    have q39 := q39'; clear q39'
    clear q5
    clear HF
    replace f15 := f15.ext hE
    replace f18 := f18.ext hE
    replace hB := Base.step hB hE hO; clear hE
    obtain ⟨x32, hx32, h⟩ := Comp.run_bind h
    refine l_append (r := (rInt .i64)) (fun _ => rfl) rfl ty23 ty3 rfl (by decide) hO hB (okB_fr hB) q37 f18 q39 (rd_of f31) hx32 (by decide) fun u33 w28 O34 f35 hB' hX => ?_
    clear hB; have hB := hB'; clear hB'
    clear f18
    replace f15 := f15.kx hX (by decide) (by decide)
    replace f31 := GR.kx _ f31 hX (by decide)
    clear hX
    refine put_cont hA (by decide) fun a29 hA q_ hfr => ?_
    replace q0 := (hfr 0 rfl).trans q0
    replace q3 := (hfr 3 rfl).trans q3
    replace q14 := (hfr 14 rfl).trans q14
    replace q15 := (hfr 15 rfl).trans q15
    replace q16 := (hfr 16 rfl).trans q16
    replace q37 := (hfr 37 rfl).trans q37
    replace q39 := (hfr 39 rfl).trans q39
    have q40 := q_; clear q_ hfr
    refine l_ok (φ := SP.isv (u33)) hO hB (by exact ok_assign q40) rfl fun u_ w30 hE hB' hv_ => ?_
    replace hv_ := Eq.symm hv_; subst hv_; clear hB; have hB := hB'; clear hB'
    replace f15 := f15.ext hE
    replace f35 := f35.ext hE
    clear hE
    refine put_cont hA (by decide) fun a31 hA q_ hfr => ?_
    replace q0 := (hfr 0 rfl).trans q0
    replace q14 := (hfr 14 rfl).trans q14
    replace q15 := (hfr 15 rfl).trans q15
    replace q16 := (hfr 16 rfl).trans q16
    replace q40 := (hfr 40 rfl).trans q40
    clear q3
    have q3 := q_; clear q_ hfr
    refine li_nil (nx_blk (nx_then ?_))
    exact ⟨_, _, _, hA, hB, q0, f15, q3, f35, q14, q15, q16, h⟩
   intro a32 w32 hI
   clear hA hB h q0 q3 q14 q15 q16 q17 f15 f18
   obtain ⟨O36, x26, u27, hA, hB, q0, f15, q3, f28, q14, q15, q16, h⟩ := hI
   unfold core_Minimal_j3 at h
   refine' region [_, _] mixed hA (.cons (fun _ _ hE hK hg => ok_add (kn (hK 16 rfl) rfl q16) rfl) (.cons (fun _ _ hE hK hg => ok_move (ksv (j := 0) (hK 41 rfl) rfl rfl rfl)) .nil)) ?zok15 ?zgd15 ?zk15
   case zok15 | zgd15 => kernel_rfl
   intro a33 w33 hA hE HF
   replace q0 := kn (HF 0) rfl q0
   replace q3 := kn (HF 3) rfl q3
   replace q14 := kn (HF 14) rfl q14
   replace q15 := kn (HF 15) rfl q15
   have q16' := ksv (HF 16) rfl rfl rfl
   replace q16 := q16'; clear q16'
   clear HF
   replace f15 := f15.ext hE
   replace f28 := f28.ext hE
   replace hB := Base.step hB hE hO; clear hE
   refine li_nil (nx_then ?_)
   have h := hnext2 _ (Comp.run_pure h).symm
   refine ⟨m2, hlt2, ?_⟩
   exact ⟨_, _, _, _, hA, hB, q0, f15, q3, f28, q14, q15, q16, h⟩
  ·
   replace h := Comp.run_b_f hc h; clear hc
   refine wp_exit (ex_then (ex_then (ex_same ?_)))
   have hd_ := hdone2 _ (Comp.run_pure h).symm; clear h
   subst hd_; have h := hk2; clear hk2; try dsimp only at h
   refine nx_then ?_
   exact ⟨_, _, _, hA, hB, q3, f18, h⟩
 intro a34 w34 hI
 clear hA hB h q0 q3 f15
 obtain ⟨O42, x39, u40, hA, hB, q3, f41, h⟩ := hI
 unfold core_Minimal_j1 at h
 refine wp_seq ?_
 refine' region [_, _] mixed hA (.cons (fun _ _ hE hK hg => ok_move (kn (hK 3 rfl) rfl q3)) (.cons (fun _ _ hE hK hg => ok_assign (ksv (j := 0) (hK 42 rfl) rfl rfl rfl)) .nil)) ?zok16 ?zgd16 ?zk16
 case zok16 | zgd16 => kernel_rfl
 intro a35 w35 hA hE HF
 have q2 := ksv (HF 2) rfl rfl rfl
 clear q3
 clear HF
 replace f41 := f41.ext hE
 replace hB := Base.step hB hE hO; clear hE
 refine li_nil (nx_then (wp_ret (rt_sc ?_)))
 have h := Comp.run_pure h; subst h
 exact retPure Try.results66 hA q2 hB.ext (OwnL.res f41 (by decide) hB.zero)
end Go.Proofs.Ytebmpjdegajhgaa
end
