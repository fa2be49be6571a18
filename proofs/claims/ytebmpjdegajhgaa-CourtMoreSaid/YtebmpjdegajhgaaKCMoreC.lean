/- Lemmas behind a claim of this seat. No statement of the program stands here. -/
import Derived.Test.YtebmpjdegajhgaaKCMoreB
set_option linter.unusedSimpArgs false
set_option linter.unusedVariables false
section
namespace Go.Proofs.Ytebmpjdegajhgaa
open Go Go.RowKit Go.Eng Go.Lift Go.F
set_option linter.unusedVariables false
set_option linter.unusedSimpArgs false
set_option maxRecDepth 100000
theorem ok_court_gauge_speak {O : Tags} {w0 : World} (hO : OkO O w0) {v_0 : Value} {x_0 : List api_Sight} (h_0 : (rSl zF).v O w0 v_0 x_0) {x_1 : Int} {b_2 : Nat} {x_2 : court_fate} (h_2 : BoxA gJ 92 O w0 b_2 x_2) {n : Nat} {y : court_fate} (h : (vc x_0 x_1 x_2).run n = some y) : Calls Try.prog 117 #[v_0, .int .i64 x_1, .pointer (some ⟨b_2, 0, none⟩)] w0 (BioPost gJ 92 O w0 b_2 y (SP.unit)) := by
 unfold vc at h
 refine bio_of_wp Try.func117 rfl 42 Try.ntmps117 (by simp) fun a0 hA hs0 => ?_
 have q0 : a0.get 0 = v_0 := hs0 0 _ rfl
 have q1 : a0.get 1 = .int .i64 x_1 := hs0 1 _ rfl
 have q2 : a0.get 2 = .pointer (some ⟨b_2, 0, none⟩) := hs0 2 _ rfl
 clear hs0
 obtain ⟨Oi_, cs_, hB, hb_, hr_, hk_⟩ := bioStart hO h_2
 replace h_0 := GR.zI _ h_0 hk_
 clear hk_ h_2
 replace hr_ : cs_ = [.bool x_2.solid_, .bool x_2.empty_, .bool x_2.taken_, .bool x_2.loose_, .bool x_2.there_, .bool x_2.gone_] := hr_; subst hr_
 refine wp_seq ?_
 refine' rb [_, _, _] mixed hA hB hO (mv q0 (cn (fun hE hK => zw (r := zF) ty102 (ks 0 hK 8 rfl) (rd_of (vx h_0 hE))) (cn (fun hE hK => zJ rfl) .nil))) ?zk1
 intro a1 w1 hA hE hB HF; replace q1 := kf HF q1; replace q2 := kf HF q2; have q8 := ksv (HF 8) rfl rfl rfl; have q9 := ksv (HF 9) rfl rfl rfl; have q10 := ksv (HF 10) rfl rfl rfl; clear q0 HF; replace h_0 := vx h_0 hE; replace hb_ := hb_.ext hE; clear hE; refine zG (zA (wp_block ?_))
 obtain ⟨e1, he1, hk1⟩ := Comp.run_bind h; clear h
 refine gK (fun m a w => ∃ (O3 : Tags) (x1 : Int) (x2 : court_fate), a.fit 42 ∧ Base (FrB w0 b_2) O w0 O3 w ∧ a.get 1 = .int .i64 x_1 ∧ a.get 2 = .pointer (some ⟨b_2, 0, none⟩) ∧ a.get 8 = v_0 ∧ (rSl zF).v O3 w v_0 x_0 ∧ a.get 9 = .int .i64 (x_0.length : Int) ∧ a.get 10 = .int .i64 x1 ∧ OwnB 1 (FrB w0 b_2) O3 w b_2 #[.bool x2.solid_, .bool x2.empty_, .bool x2.taken_, .bool x2.loose_, .bool x2.there_, .bool x2.gone_] 92 ∧ Comp.loopN (fun s => yY x_0 x_1 s.1 s.2) n m (x1, x2) = some e1) (m := n) ?st1 ?_
 case st1 =>
  exact ⟨_, _, _, hA, hB, q1, q2, q8, h_0, q9, q10, hb_, Comp.yL he1⟩
 intro m_ a2 w2 hI
 clear hA hB he1 q1 q2 q8 q9 q10 h_0 hb_
 obtain ⟨O3, x1, x2, hA, hB, q1, q2, q8, h_0, q9, q10, hb_, hl⟩ := hI
 obtain ⟨m1, hlt1, st1, h, hnext1, hdone1⟩ := Comp.zm hl; clear hl
 replace h : (yY x_0 x_1 x1 x2).run n = some st1 := h
 unfold yY at h; refine wp_seq ?_
 refine' rb [_] mixed hA hB hO (cn (fun hE hK => yh (kq hK q10) (kq hK q9)) .nil) ?zk2
 intro a3 w3 hA hE hB HF; refine kr5 HF q1 q2 q8 q9 q10 ?_; clear q1 q2 q8 q9 q10; intro q1 q2 q8 q9 q10; have q11 := ksv (HF 11) rfl rfl rfl; clear HF; replace h_0 := vx h_0 hE; replace hb_ := hb_.ext hE; clear hE; refine zG (zA (wp_seq ?_))
 revert h; refine cnd q11 (fun h => ?_) (fun h => ?_)
 ·
  refine wp_skip (zA ?_)
  refine zh (fun a w => ∃ (O19 : Tags) (x13 : Bool) (x14 : Bool) (x15 : Bool) (x16 : Bool) (x17 : Bool) (x18 : Bool), a.fit 42 ∧ Base (FrB w0 b_2) O w0 O19 w ∧ a.get 1 = .int .i64 x_1 ∧ a.get 2 = .pointer (some ⟨b_2, 0, none⟩) ∧ a.get 8 = v_0 ∧ (rSl zF).v O19 w v_0 x_0 ∧ a.get 9 = .int .i64 (x_0.length : Int) ∧ a.get 10 = .int .i64 x1 ∧ OwnB 1 (FrB w0 b_2) O19 w b_2 #[.bool x13, .bool x14, .bool x15, .bool x16, .bool x17, .bool x18] 92 ∧ (vy x1 x13 x14 x15 x16 x17 x18).run n = some st1) ?_ ?_
  ·
   refine wp_block (wp_seq ?_); obtain ⟨x4, hx4, h⟩ := Comp.run_bind h
   refine' rgT [SP.ptr zF O3 x4, SP.isv (.agg #[.int .i64 x4.Gauge, .int .i64 x4.Cell, .bool x4.There]), SP.box w3.heap.size #[.int .i64 0, .int .i64 0, .bool false] 64] hA (cn (fun hE hK => vC (r := zF) (O := O3) ty102 ty64 rfl (kq hK q8) (rd_of (vx h_0 hE)) (kq hK q10) hx4) (cn (fun hE hK => yD zF yN ty64 rfl rfl rfl (kp (SP.ptr zF O3 x4) 0 hK 12 rfl) (fun _ _ _ h => rC_v.1 h)) (cn (fun hE hK => gj hE.size ty64) .nil))) ?zk3
   intro a4 w4 hA hE HF; refine kr5 HF q1 q2 q8 q9 q10 ?_; clear q1 q2 q8 q9 q10; intro q1 q2 q8 q9 q10; obtain ⟨u5, q7, f6⟩ := kx (HF 7) rfl rfl rfl; have q13 := ksv (HF 13) rfl rfl rfl; clear q11 HF
   obtain ⟨O7, b8, hB', hX, e_, f9⟩ := kQ hO hB hE f6 2 (by decide)
   subst e_
   clear hB f6; have hB := hB'; clear hB'; replace h_0 := vk h_0 hX
   replace hb_ := hb_.kx hX (by decide)
   clear hX hE
   refine gT (vs := [.int .i64 x4.Gauge, .int .i64 x4.Cell, .bool x4.There]) (cs' := #[.int .i64 x4.Gauge, .int .i64 x4.Cell, .bool x4.There]) hO hB (yI hB) ty64 q7 q13 rfl (by simp [Value.oneCell']) f9 (by simp) rfl fun w5 f10 hB' hX => ?_
   clear hB f9; have hB := hB'; clear hB'; replace h_0 := vk h_0 hX
   replace hb_ := hb_.kx hX (by decide)
   clear hX; refine zG (zA (wp_seq ?_))
   refine' rb [SP.isv (.pointer (some ⟨b8, 1, none⟩)), SP.isv (.int .i64 x4.Cell), _, _] mixed hA hB hO (cn (fun hE hK => zK fl64_1 (kq hK q7)) (cn (fun hE hK => zg ty3 rfl (ks 0 hK 14 rfl) (OwnB.ext f10 hE).own rfl) (mv q1 (cn (fun hE hK => yq (ks 1 hK 15 rfl) (ks 2 hK 16 rfl)) .nil)))) ?zk4
   intro a6 w6 hA hE hB HF; refine kr6 HF q1 q2 q7 q8 q9 q10 ?_; clear q1 q2 q7 q8 q9 q10; intro q1 q2 q7 q8 q9 q10; have q17 := ksv (HF 17) rfl rfl rfl; clear HF; replace h_0 := vx h_0 hE; replace hb_ := hb_.ext hE; replace f10 := f10.ext hE; clear hE; refine zG (zA ?_)
   revert h; refine cnd q17 (fun h => ?_) (fun h => ?_)
   ·
    obtain ⟨J_, eJ_⟩ : ∃ J_ : (Nat → Bool) → Act → World → Prop, J_ = (fun S_ a_ w_ => ∃ O_ : Tags, Base (FrB w0 b_2) O w0 O_ w_ ∧ Keep 0 O7 w6 O_ w_ ∧ Keep 2 O7 w6 O_ w_ ∧ (S_ 21 = false → OwnB 1 (FrB w0 b_2) O_ w_ b_2 #[.bool x2.solid_, .bool x2.empty_, .bool x2.taken_, .bool x2.loose_, .bool x2.there_, .bool x2.gone_] 92) ∧ (S_ 21 = true → S_ 24 = false → OwnB 1 (FrB w0 b_2) O_ w_ b_2 #[.bool x2.solid_, .bool x2.empty_, .bool x2.taken_, .bool x2.loose_, .bool (bif x2.there_ then true else x4.There), .bool x2.gone_] 92) ∧ (S_ 24 = true → OwnB 1 (FrB w0 b_2) O_ w_ b_2 #[.bool x2.solid_, .bool x2.empty_, .bool x2.taken_, .bool x2.loose_, .bool (bif x2.there_ then true else x4.There), .bool (bif x2.gone_ then true else (!x4.There))] 92)) := ⟨_, rfl⟩
    have T_ : ∀ {i_ : Nat} {d_ : Option Tmp} {v_ : Value} {S_ a' w' w2}, Nat.beq 21 i_ = false → Nat.beq 24 i_ = false → Ext w' w2 → J_ S_ a' w' → J_ (addS S_ i_) (a'.put d_ v_) w2 := by
     subst eJ_; intro i_ d_ v_ S_ a' w' w2 n21_ n24_ hE hJ_
     obtain ⟨O_, hB_, k0_, kk1_, v0_0_, v0_1_, v0_2_⟩ := hJ_
     exact ⟨O_, (Base.step hB_ hE hO), (k0_.trans (KX.keep (KX.ext hE) (by decide))), (kk1_.trans (KX.keep (KX.ext hE) (by decide))), fun hq_ => OwnB.kx (v0_0_ (zP hq_)) (KX.ext hE) (by decide), fun hp_ hq_ => OwnB.kx (v0_1_ (zD n21_ hp_) (zP hq_)) (KX.ext hE) (by decide), fun hp_ => OwnB.kx (v0_2_ (zD n24_ hp_)) (KX.ext hE) (by decide)⟩
    refine' regionX (draw := true) J_ [SP.isv (.pointer (some ⟨b_2, 0, none⟩)), SP.isv (.pointer (some ⟨b_2, 0, none⟩)), SP.isv (.pointer (some ⟨b_2, 0, none⟩)), SP.isv (.pointer (some ⟨b_2, 0, none⟩)), SP.isv (.pointer (some ⟨b_2, 4, none⟩)), SP.isv (.bool x2.there_), SP.isv (.bool x2.there_), SP.isv (.pointer (some ⟨b8, 2, none⟩)), SP.isv (.bool x4.There), SP.isv (.bool (bif x2.there_ then true else x4.There)), SP.isv (.pointer (some ⟨b_2, 0, none⟩)), SP.isv (.pointer (some ⟨b_2, 0, none⟩)), SP.isv (.pointer (some ⟨b_2, 5, none⟩)), SP.isv (.bool x2.gone_), SP.isv (.bool x2.gone_), SP.isv (.pointer (some ⟨b8, 2, none⟩)), SP.isv (.bool x4.There), SP.isv (.bool (!x4.There)), SP.isv (.bool (bif x2.gone_ then true else (!x4.There))), SP.isv (.pointer (some ⟨b_2, 0, none⟩)), SP.isv (.pointer (some ⟨b_2, 4, none⟩)), SP.tt, SP.isv (.pointer (some ⟨b_2, 0, none⟩)), SP.isv (.pointer (some ⟨b_2, 5, none⟩)), SP.tt] mixed hA (.cons (zV _) (.cons (zV _) (.cons (zV _) (.cons (zV _) (.cons (zV _) (.cons (zV _) (.cons (zV _) (.cons (zV _) (.cons (zV _) (.cons (zV _) (.cons (zV _) (.cons (zV _) (.cons (zV _) (.cons (zV _) (.cons (zV _) (.cons (zV _) (.cons (zV _) (.cons (zV _) (.cons (zV _) (.cons (zV _) (.cons (zV _) (.cons (vK _) (.cons (zV _) (.cons (zV _) (.cons (vK _) .nil))))))))))))))))))))))))) (.cons ?z5_0 (.cons ?z5_1 (.cons ?z5_2 (.cons ?z5_3 (.cons ?z5_4 (.cons ?z5_5 (.cons ?z5_6 (.cons ?z5_7 (.cons ?z5_8 (.cons ?z5_9 (.cons ?z5_10 (.cons ?z5_11 (.cons ?z5_12 (.cons ?z5_13 (.cons ?z5_14 (.cons ?z5_15 (.cons ?z5_16 (.cons ?z5_17 (.cons ?z5_18 (.cons ?z5_19 (.cons ?z5_20 (.cons ?z5_21 (.cons ?z5_22 (.cons ?z5_23 (.cons ?z5_24 .nil))))))))))))))))))))))))) ?zsk5 ?zst5 ?zok5 ?zgd5 ?zk5
    case z5_0 =>
     intro S_ a' w' hA_ hJ_ hS_ hafter_ hbef_ hK hg K_ Q_ hK_
     refine x_ok (φ := SP.isv (.pointer (some ⟨b_2, 0, none⟩))) (by exact zJ (kq hK q2)) fun v_ w2 hE hv_ => hK_ v_ w2 (T_ rfl rfl hE hJ_) hv_
    case z5_1 =>
     intro S_ a' w' hA_ hJ_ hS_ hafter_ hbef_ hK hg K_ Q_ hK_
     refine x_ok (φ := SP.isv (.pointer (some ⟨b_2, 0, none⟩))) (by exact zJ (kq hK q2)) fun v_ w2 hE hv_ => hK_ v_ w2 (T_ rfl rfl hE hJ_) hv_
    case z5_2 =>
     intro S_ a' w' hA_ hJ_ hS_ hafter_ hbef_ hK hg K_ Q_ hK_
     refine x_ok (φ := SP.isv (.pointer (some ⟨b_2, 0, none⟩))) (by exact zJ (kq hK q2)) fun v_ w2 hE hv_ => hK_ v_ w2 (T_ rfl rfl hE hJ_) hv_
    case z5_3 =>
     intro S_ a' w' hA_ hJ_ hS_ hafter_ hbef_ hK hg K_ Q_ hK_
     refine x_ok (φ := SP.isv (.pointer (some ⟨b_2, 0, none⟩))) (by exact vw (ks 2 hK 20 rfl)) fun v_ w2 hE hv_ => hK_ v_ w2 (T_ rfl rfl hE hJ_) hv_
    case z5_4 =>
     intro S_ a' w' hA_ hJ_ hS_ hafter_ hbef_ hK hg K_ Q_ hK_
     refine x_ok (φ := SP.isv (.pointer (some ⟨b_2, 4, none⟩))) (by exact zK fl92_4 (ks 3 hK 21 rfl)) fun v_ w2 hE hv_ => hK_ v_ w2 (T_ rfl rfl hE hJ_) hv_
    case z5_5 =>
     intro S_ a' w' hA_ hJ_ hS_ hafter_ hbef_ hK hg K_ Q_ hK_
     have hJ2_ := hJ_; rw [eJ_] at hJ2_; obtain ⟨O_, hB_, k0_, kk1_, v0_0_, v0_1_, v0_2_⟩ := hJ2_
     refine x_ok (φ := SP.isv (.bool x2.there_)) (by exact zg ty4 rfl (ks 4 hK 22 rfl) (v0_0_ (hafter_ 21 (by kernel_rfl))).own rfl) fun v_ w2 hE hv_ => hK_ v_ w2 (T_ rfl rfl hE hJ_) hv_
    case z5_6 =>
     intro S_ a' w' hA_ hJ_ hS_ hafter_ hbef_ hK hg K_ Q_ hK_
     refine x_ok (φ := SP.isv (.bool x2.there_)) (by exact zJ (ks 5 hK 23 rfl)) fun v_ w2 hE hv_ => hK_ v_ w2 (T_ rfl rfl hE hJ_) hv_
    case z5_7 =>
     intro S_ a' w' hA_ hJ_ hS_ hafter_ hbef_ hK hg K_ Q_ hK_
     refine x_ok (φ := SP.isv (.pointer (some ⟨b8, 2, none⟩))) (by exact zK fl64_2 (kq hK q7)) fun v_ w2 hE hv_ => hK_ v_ w2 (T_ rfl rfl hE hJ_) hv_
    case z5_8 =>
     intro S_ a' w' hA_ hJ_ hS_ hafter_ hbef_ hK hg K_ Q_ hK_
     have hJ2_ := hJ_; rw [eJ_] at hJ2_; obtain ⟨O_, hB_, k0_, kk1_, v0_0_, v0_1_, v0_2_⟩ := hJ2_
     refine x_ok (φ := SP.isv (.bool x4.There)) (by exact zg ty4 rfl (kg 7 hK 25 rfl hg) (OwnB.keep f10 kk1_).own rfl) fun v_ w2 hE hv_ => hK_ v_ w2 (T_ rfl rfl hE hJ_) hv_
    case z5_9 =>
     intro S_ a' w' hA_ hJ_ hS_ hafter_ hbef_ hK hg K_ Q_ hK_
     refine x_ok (φ := SP.isv (.bool (bif x2.there_ then true else x4.There))) (by exact za (ks 6 hK 24 rfl) (fun _ => rfl) (fun hb => kg 8 hK 26 rfl (zv rfl rfl hb))) fun v_ w2 hE hv_ => hK_ v_ w2 (T_ rfl rfl hE hJ_) hv_
    case z5_10 =>
     intro S_ a' w' hA_ hJ_ hS_ hafter_ hbef_ hK hg K_ Q_ hK_
     refine x_ok (φ := SP.isv (.pointer (some ⟨b_2, 0, none⟩))) (by exact zJ (kq hK q2)) fun v_ w2 hE hv_ => hK_ v_ w2 (T_ rfl rfl hE hJ_) hv_
    case z5_11 =>
     intro S_ a' w' hA_ hJ_ hS_ hafter_ hbef_ hK hg K_ Q_ hK_
     refine x_ok (φ := SP.isv (.pointer (some ⟨b_2, 0, none⟩))) (by exact vw (ks 10 hK 28 rfl)) fun v_ w2 hE hv_ => hK_ v_ w2 (T_ rfl rfl hE hJ_) hv_
    case z5_12 =>
     intro S_ a' w' hA_ hJ_ hS_ hafter_ hbef_ hK hg K_ Q_ hK_
     refine x_ok (φ := SP.isv (.pointer (some ⟨b_2, 5, none⟩))) (by exact zK fl92_5 (ks 11 hK 29 rfl)) fun v_ w2 hE hv_ => hK_ v_ w2 (T_ rfl rfl hE hJ_) hv_
    case z5_13 =>
     intro S_ a' w' hA_ hJ_ hS_ hafter_ hbef_ hK hg K_ Q_ hK_
     have hJ2_ := hJ_; rw [eJ_] at hJ2_; obtain ⟨O_, hB_, k0_, kk1_, v0_0_, v0_1_, v0_2_⟩ := hJ2_
     refine x_ok (φ := SP.isv (.bool x2.gone_)) (by exact zg ty4 rfl (ks 12 hK 30 rfl) (v0_0_ (hafter_ 21 (by kernel_rfl))).own rfl) fun v_ w2 hE hv_ => hK_ v_ w2 (T_ rfl rfl hE hJ_) hv_
    case z5_14 =>
     intro S_ a' w' hA_ hJ_ hS_ hafter_ hbef_ hK hg K_ Q_ hK_
     refine x_ok (φ := SP.isv (.bool x2.gone_)) (by exact zJ (ks 13 hK 31 rfl)) fun v_ w2 hE hv_ => hK_ v_ w2 (T_ rfl rfl hE hJ_) hv_
    case z5_15 =>
     intro S_ a' w' hA_ hJ_ hS_ hafter_ hbef_ hK hg K_ Q_ hK_
     refine x_ok (φ := SP.isv (.pointer (some ⟨b8, 2, none⟩))) (by exact zK fl64_2 (kq hK q7)) fun v_ w2 hE hv_ => hK_ v_ w2 (T_ rfl rfl hE hJ_) hv_
    case z5_16 =>
     intro S_ a' w' hA_ hJ_ hS_ hafter_ hbef_ hK hg K_ Q_ hK_
     have hJ2_ := hJ_; rw [eJ_] at hJ2_; obtain ⟨O_, hB_, k0_, kk1_, v0_0_, v0_1_, v0_2_⟩ := hJ2_
     refine x_ok (φ := SP.isv (.bool x4.There)) (by exact zg ty4 rfl (kg 15 hK 33 rfl hg) (OwnB.keep f10 kk1_).own rfl) fun v_ w2 hE hv_ => hK_ v_ w2 (T_ rfl rfl hE hJ_) hv_
    case z5_17 =>
     intro S_ a' w' hA_ hJ_ hS_ hafter_ hbef_ hK hg K_ Q_ hK_
     refine x_ok (φ := SP.isv (.bool (!x4.There))) (by exact kb (kg 16 hK 34 rfl hg)) fun v_ w2 hE hv_ => hK_ v_ w2 (T_ rfl rfl hE hJ_) hv_
    case z5_18 =>
     intro S_ a' w' hA_ hJ_ hS_ hafter_ hbef_ hK hg K_ Q_ hK_
     refine x_ok (φ := SP.isv (.bool (bif x2.gone_ then true else (!x4.There)))) (by exact za (ks 14 hK 32 rfl) (fun _ => rfl) (fun hb => kg 17 hK 35 rfl (zv rfl rfl hb))) fun v_ w2 hE hv_ => hK_ v_ w2 (T_ rfl rfl hE hJ_) hv_
    case z5_19 =>
     intro S_ a' w' hA_ hJ_ hS_ hafter_ hbef_ hK hg K_ Q_ hK_
     refine x_ok (φ := SP.isv (.pointer (some ⟨b_2, 0, none⟩))) (by exact vw (ks 0 hK 18 rfl)) fun v_ w2 hE hv_ => hK_ v_ w2 (T_ rfl rfl hE hJ_) hv_
    case z5_20 =>
     intro S_ a' w' hA_ hJ_ hS_ hafter_ hbef_ hK hg K_ Q_ hK_
     refine x_ok (φ := SP.isv (.pointer (some ⟨b_2, 4, none⟩))) (by exact zK fl92_4 (ks 19 hK 37 rfl)) fun v_ w2 hE hv_ => hK_ v_ w2 (T_ rfl rfl hE hJ_) hv_
    case z5_21 =>
     intro S_ a' w' hA_ hJ_ hS_ hafter_ hbef_ hK hg K_ Q_ hK_
     subst eJ_
     obtain ⟨O_, hB_, k0_, kk1_, v0_0_, v0_1_, v0_2_⟩ := hJ_
     refine x_store1 (cs' := #[.bool x2.solid_, .bool x2.empty_, .bool x2.taken_, .bool x2.loose_, .bool (bif x2.there_ then true else x4.There), .bool x2.gone_]) hO hB_ (ku hB_) ty4 (ks 20 hK 38 rfl) (ks 9 hK 27 rfl) rfl rfl (v0_0_ hS_) (by simp) rfl fun w2 f_ hB2_ hX_ => ?_
     exact hK_ undef w2 ⟨O_, hB2_, (k0_.trans (KX.keep hX_ (by decide))), (kk1_.trans (KX.keep hX_ (by decide))), fun hq_ => jk hq_, fun hp_ hq_ => f_, fun hp_ => no_tf (zD rfl hp_) (hafter_ 24 (by kernel_rfl))⟩ trivial
    case z5_22 =>
     intro S_ a' w' hA_ hJ_ hS_ hafter_ hbef_ hK hg K_ Q_ hK_
     refine x_ok (φ := SP.isv (.pointer (some ⟨b_2, 0, none⟩))) (by exact vw (ks 1 hK 19 rfl)) fun v_ w2 hE hv_ => hK_ v_ w2 (T_ rfl rfl hE hJ_) hv_
    case z5_23 =>
     intro S_ a' w' hA_ hJ_ hS_ hafter_ hbef_ hK hg K_ Q_ hK_
     refine x_ok (φ := SP.isv (.pointer (some ⟨b_2, 5, none⟩))) (by exact zK fl92_5 (ks 22 hK 39 rfl)) fun v_ w2 hE hv_ => hK_ v_ w2 (T_ rfl rfl hE hJ_) hv_
    case z5_24 =>
     intro S_ a' w' hA_ hJ_ hS_ hafter_ hbef_ hK hg K_ Q_ hK_
     subst eJ_
     obtain ⟨O_, hB_, k0_, kk1_, v0_0_, v0_1_, v0_2_⟩ := hJ_
     refine x_store1 (cs' := #[.bool x2.solid_, .bool x2.empty_, .bool x2.taken_, .bool x2.loose_, .bool (bif x2.there_ then true else x4.There), .bool (bif x2.gone_ then true else (!x4.There))]) hO hB_ (ku hB_) ty4 (ks 23 hK 40 rfl) (ks 18 hK 36 rfl) rfl rfl (v0_1_ (zD rfl (hbef_ 21 (by kernel_rfl))) hS_) (by simp) rfl fun w2 f_ hB2_ hX_ => ?_
     exact hK_ undef w2 ⟨O_, hB2_, (k0_.trans (KX.keep hX_ (by decide))), (kk1_.trans (KX.keep hX_ (by decide))), fun hq_ => no_tf (hbef_ 21 (by kernel_rfl)) hq_, fun hp_ hq_ => jk hq_, fun hp_ => f_⟩ trivial
    case zsk5 =>
     subst eJ_
     intro i_ o_ S_ a_ w_ ho_ hact_ hA_ hS_ hbef_ hJ_
     obtain ⟨O_, hB_, k0_, kk1_, v0_0_, v0_1_, v0_2_⟩ := hJ_
     exact ⟨O_, hB_, k0_, kk1_, fun hq_ => (v0_0_ (zP hq_)), fun hp_ hq_ => by obtain ⟨h1_, h2_⟩ := zj (j := 21) hact_ rfl hp_; exact (v0_1_ h1_ (zP hq_)), fun hp_ => by obtain ⟨h1_, h2_⟩ := zj (j := 24) hact_ rfl hp_; exact (v0_2_ h1_)⟩
    case zst5 => subst eJ_; exact fun w1_ hE_ => ⟨O7, (Base.step hB hE_ hO), (Keep.ext hE_), (Keep.ext hE_), fun _ => OwnB.ext hb_ hE_, fun hp_ => no_ft hp_, fun hp_ => no_ft hp_⟩
    case zok5 | zgd5 => kernel_rfl
    subst eJ_; clear T_
    intro a7 w7 hA HF hJ_
    obtain ⟨O11, hB_, k0_, kk1_, v0_0_, v0_1_, v0_2_⟩ := hJ_
    replace q1 := kn (HF 1) rfl q1
    replace q2 := kn (HF 2) rfl q2
    replace q8 := kn (HF 8) rfl q8
    replace q9 := kn (HF 9) rfl q9
    replace q10 := kn (HF 10) rfl q10
    clear q7; clear q17; clear HF
    replace h_0 := GR.zI _ h_0 k0_
    replace f10 := OwnB.keep f10 kk1_
    have f12 := (v0_2_ rfl)
    clear hb_; clear hB; have hB := hB_; clear hB_; clear k0_ kk1_ v0_0_ v0_1_ v0_2_; refine yJ (zA ?_)
    exact ⟨_, _, _, _, _, _, _, hA, hB, q1, q2, q8, h_0, q9, q10, f12, h⟩
   ·
    refine wp_skip (yJ (zA ?_))
    exact ⟨_, _, _, _, _, _, _, hA, hB, q1, q2, q8, h_0, q9, q10, hb_, h⟩
  intro a8 w8 hI
  clear hA hB h q1 q2 q8 q9 q10 q11 h_0 hb_
  obtain ⟨O19, x13, x14, x15, x16, x17, x18, hA, hB, q1, q2, q8, h_0, q9, q10, f12, h⟩ := hI
  unfold vy at h
  refine' rb [_, _] mixed hA hB hO (cn (fun hE hK => yp (kq hK q10) rfl) (cn (fun hE hK => zJ (ks 0 hK 41 rfl)) .nil)) ?zk6
  intro a9 w9 hA hE hB HF; refine kr4 HF q1 q2 q8 q9 ?_; clear q1 q2 q8 q9; intro q1 q2 q8 q9; replace q10 := ksv (HF 10) rfl rfl rfl; clear HF; replace h_0 := vx h_0 hE; replace f12 := f12.ext hE; clear hE; refine zG (zA ?_)
  have h := hnext1 _ (Comp.run_pure h).symm
  refine ⟨m1, hlt1, ?_⟩
  exact ⟨_, _, _, hA, hB, q1, q2, q8, h_0, q9, q10, f12, h⟩
 ·
  refine wp_exit (zX (zX (ye ?_)))
  have hd_ := hdone1 _ (Comp.run_pure h).symm; clear h
  subst hd_; have h := hk1; clear hk1; try dsimp only at h
  have h := Comp.run_pure h; subst h
  exact retG0n Try.results117 hA  (bioEnd hB hb_ rfl trivial)
def jj : court_voice → Nat
 | .c96 _ => 115
 | .c101 _ => 116
 | .c102 _ => 117
theorem meth115 (v : Value) (w : World) : (method (Try.prog.types.size + Made.depth) 96 v "collet/court.speak").run Try.prog w = .ok (115, v) w := by kernel_rfl
theorem meth116 (v : Value) (w : World) : (method (Try.prog.types.size + Made.depth) 101 v "collet/court.speak").run Try.prog w = .ok (116, v) w := by kernel_rfl
theorem meth117 (v : Value) (w : World) : (method (Try.prog.types.size + Made.depth) 102 v "collet/court.speak").run Try.prog w = .ok (117, v) w := by kernel_rfl
theorem meth_court_voice_speak (x : court_voice) : Meth Try.prog (tag_court_voice x) "collet/court.speak" (jj x) := by
 cases x with
 | c96 _ => exact ⟨meth115⟩
 | c101 _ => exact ⟨meth116⟩
 | c102 _ => exact ⟨meth117⟩
theorem fnok_court_voice_speak (x : court_voice) : FnOk Try.prog (jj x) := by cases x <;> first | exact fn115 | exact fn116 | exact fn117
theorem ok_court_voice_speak {O : Tags} {w0 : World} (hO : OkO O w0) {v : Value} {x_0 : court_voice} (h_0 : jz x_0 O w0 v) {x_1 : Int} {b_2 : Nat} {x_2 : court_fate} (h_2 : BoxA gJ 92 O w0 b_2 x_2) {n : Nat} {y : court_fate} (h : (court_voice_speak x_0 x_1 x_2).run n = some y) : Calls Try.prog (jj x_0) #[v, .int .i64 x_1, .pointer (some ⟨b_2, 0, none⟩)] w0 (BioPost gJ 92 O w0 b_2 y SP.unit) := by
 cases x_0 with
 | c96 x => exact ok_court_cut_speak hO h_0 h_2 h
 | c101 x => exact ok_court_blank_speak hO h_0 h_2 h
 | c102 x => exact ok_court_gauge_speak hO h_0 h_2 h
theorem ok_court_agrees {O : Tags} {w0 : World} (hO : OkO O w0) {v_0 : Value} {x_0 : List court_voice} (h_0 : (rSl zM).v O w0 v_0 x_0) {x_1 : Int} {x_2 : Int} {n : Nat} {y : Bool} (h : (jc x_0 x_1 x_2).run n = some y) : Pure Try.prog 40 #[v_0, .int .i64 x_1, .int .i64 x_2] w0 (SP.isv (.bool y)).holds := by
 unfold jc at h
 refine zU Try.func40 rfl 75 Try.ntmps40 (by simp) fun a0 hA hs0 => ?_
 have q0 : a0.get 0 = v_0 := hs0 0 _ rfl
 have q1 : a0.get 1 = .int .i64 x_1 := hs0 1 _ rfl
 have q2 : a0.get 2 = .int .i64 x_2 := hs0 2 _ rfl
 clear hs0
 have hB : Base (Fr w0) O w0 O w0 := Base.start hO
 refine wp_seq ?_
 refine' rb [_] mixed hA hB hO (cn (fun hE hK => zE rfl) .nil) ?zk1
 intro a1 w1 hA hE hB HF; refine kr3 HF q0 q1 q2 ?_; clear q0 q1 q2; intro q0 q1 q2; clear HF; replace h_0 := vx h_0 hE; clear hE; refine zG (zA (wp_scope_straight (wp_seq ?_)))
 refine' rb [_] mixed hA hB hO (cn (fun hE hK => zE rfl) .nil) ?zk2
 intro a2 w2 hA hE hB HF; refine kr3 HF q0 q1 q2 ?_; clear q0 q1 q2; intro q0 q1 q2; have q7 := ksv (HF 7) rfl rfl rfl; clear HF; replace h_0 := vx h_0 hE; clear hE; refine zG (zA (wp_seq (wp_label (zA ?_))))
 refine zh (fun a w => ∃ (O45 : Tags) (x44 : Bool), a.fit 75 ∧ Base (Fr w0) O w0 O45 w ∧ a.get 7 = .bool x44 ∧ (kK x44).run n = some y) ?_ ?_
 ·
  refine wp_seq ?_
  refine' rb [_, _] mixed hA hB hO (mv q1 (cn (fun hE hK => zJ rfl) .nil)) ?zk3
  intro a3 w3 hA hE hB HF; refine kr3 HF q0 q2 q7 ?_; clear q0 q2 q7; intro q0 q2 q7; have q14 := ksv (HF 14) rfl rfl rfl; have q15 := ksv (HF 15) rfl rfl rfl; clear q1 HF; replace h_0 := vx h_0 hE; clear hE; refine zG (zA (wp_block ?_))
  obtain ⟨e2, he2, hk2⟩ := Comp.run_bind h; clear h
  refine gK (fun m a w => ∃ (O3 : Tags) (x1 : Bool) (x2 : Int), a.fit 75 ∧ Base (Fr w0) O w0 O3 w ∧ a.get 0 = v_0 ∧ (rSl zM).v O3 w v_0 x_0 ∧ a.get 2 = .int .i64 x_2 ∧ a.get 7 = .bool x1 ∧ a.get 14 = .int .i64 x_1 ∧ a.get 15 = .int .i64 x2 ∧ Comp.loopN (fun s => vj x_1 x_0 x_2 s.1 s.2) n m (x1, x2) = some e2) (m := n) ?st2 ?_
  case st2 =>
   exact ⟨_, _, _, hA, hB, q0, h_0, q2, q7, q14, q15, Comp.yL he2⟩
  intro m_ a4 w4 hI
  clear hA hB he2 q0 q2 q7 q14 q15 h_0
  obtain ⟨O3, x1, x2, hA, hB, q0, h_0, q2, q7, q14, q15, hl⟩ := hI
  obtain ⟨m2, hlt2, st2, h, hnext2, hdone2⟩ := Comp.zm hl; clear hl
  replace h : (vj x_1 x_0 x_2 x1 x2).run n = some st2 := h
  unfold vj at h; refine wp_seq ?_
  refine' rb [_] mixed hA hB hO (cn (fun hE hK => yh (kq hK q15) (kq hK q14)) .nil) ?zk4
  intro a5 w5 hA hE hB HF; refine kr5 HF q0 q2 q7 q14 q15 ?_; clear q0 q2 q7 q14 q15; intro q0 q2 q7 q14 q15; have q16 := ksv (HF 16) rfl rfl rfl; clear HF; replace h_0 := vx h_0 hE; clear hE; refine zG (zA (wp_seq ?_))
  revert h; refine cnd q16 (fun h => ?_) (fun h => ?_)
  ·
   refine wp_skip (zA (wp_seq (wp_block (wp_seq ?_))))
   refine' rb [_, _] mixed hA hB hO (mv q15 (cn (fun hE hK => zE (ks 0 hK 17 rfl)) .nil)) ?zk5
   intro a6 w6 hA hE hB HF; refine kr5 HF q0 q2 q7 q14 q15 ?_; clear q0 q2 q7 q14 q15; intro q0 q2 q7 q14 q15; have q8 := ksv (HF 8) rfl rfl rfl; clear q16 HF; replace h_0 := vx h_0 hE; clear hE; refine zG (zA (wp_seq ?_))
   refine' rgT [SP.isv (.agg #[.bool true, .bool true, .bool false, .bool false, .bool false, .bool false]), SP.box w6.heap.size #[.bool false, .bool false, .bool false, .bool false, .bool false, .bool false] 92] hA (cn (fun hE hK => vg plc92 ty92 (yl (v := .bool true) rfl (yl (v := .bool true) rfl kP)) rfl (.cons rfl rfl rfl (leb rfl) (.cons rfl rfl rfl (leb rfl) .nil)) rfl) (cn (fun hE hK => gj hE.size ty92) .nil)) ?zk6
   intro a7 w7 hA hE HF; refine kr6 HF q0 q2 q7 q8 q14 q15 ?_; clear q0 q2 q7 q8 q14 q15; intro q0 q2 q7 q8 q14 q15; obtain ⟨u4, q9, f5⟩ := kx (HF 9) rfl rfl rfl; have q18 := ksv (HF 18) rfl rfl rfl; clear HF
   obtain ⟨O6, b7, hB', hX, e_, f8⟩ := kQ hO hB hE f5 1 (by decide)
   subst e_
   clear hB f5; have hB := hB'; clear hB'; replace h_0 := vk h_0 hX; clear hX hE
   refine gT (vs := [.bool true, .bool true, .bool false, .bool false, .bool false, .bool false]) (cs' := #[.bool true, .bool true, .bool false, .bool false, .bool false, .bool false]) hO hB (yI hB) ty92 q9 q18 rfl (by simp [Value.oneCell']) f8 (by simp) rfl fun w8 f9 hB' hX => ?_
   clear hB f8; have hB := hB'; clear hB'; replace h_0 := vk h_0 hX; clear hX; refine zG (zA ?_)
   refine zh (fun a w => ∃ (O40 : Tags) (x39 : court_fate), a.fit 75 ∧ Base (Fr w0) O w0 O40 w ∧ a.get 0 = v_0 ∧ (rSl zM).v O40 w v_0 x_0 ∧ a.get 2 = .int .i64 x_2 ∧ a.get 7 = .bool x1 ∧ a.get 9 = .pointer (some ⟨b7, 0, none⟩) ∧ a.get 14 = .int .i64 x_1 ∧ a.get 15 = .int .i64 x2 ∧ OwnB 1 (Fr w0) O40 w b7 #[.bool x39.solid_, .bool x39.empty_, .bool x39.taken_, .bool x39.loose_, .bool x39.there_, .bool x39.gone_] 92 ∧ (kJ x1 x2 x39).run n = some st2) ?_ ?_
   ·
    refine wp_seq ?_
    refine' rb [_, _, _] mixed hA hB hO (mv q0 (cn (fun hE hK => zw (r := zM) ty75 (ks 0 hK 19 rfl) (rd_of (vx h_0 hE))) (cn (fun hE hK => zJ rfl) .nil))) ?zk7
    intro a9 w9 hA hE hB HF; refine kr7 HF q0 q2 q7 q8 q9 q14 q15 ?_; clear q0 q2 q7 q8 q9 q14 q15; intro q0 q2 q7 q8 q9 q14 q15; have q19 := ksv (HF 19) rfl rfl rfl; have q20 := ksv (HF 20) rfl rfl rfl; have q21 := ksv (HF 21) rfl rfl rfl; clear HF; replace h_0 := vx h_0 hE; replace f9 := f9.ext hE; clear hE; refine zG (zA (wp_block ?_))
    obtain ⟨e4, he4, hk4⟩ := Comp.run_bind h; clear h
    refine gK (fun m a w => ∃ (O12 : Tags) (x10 : Int) (x11 : court_fate), a.fit 75 ∧ Base (Fr w0) O w0 O12 w ∧ a.get 0 = v_0 ∧ (rSl zM).v O12 w v_0 x_0 ∧ a.get 2 = .int .i64 x_2 ∧ a.get 7 = .bool x1 ∧ a.get 8 = .int .i64 x2 ∧ a.get 9 = .pointer (some ⟨b7, 0, none⟩) ∧ a.get 14 = .int .i64 x_1 ∧ a.get 15 = .int .i64 x2 ∧ a.get 19 = v_0 ∧ a.get 20 = .int .i64 (x_0.length : Int) ∧ a.get 21 = .int .i64 x10 ∧ OwnB 1 (Fr w0) O12 w b7 #[.bool x11.solid_, .bool x11.empty_, .bool x11.taken_, .bool x11.loose_, .bool x11.there_, .bool x11.gone_] 92 ∧ Comp.loopN (fun s => yx x_0 x_2 x2 s.1 s.2) n m (x10, x11) = some e4) (m := n) ?st4 ?_
    case st4 =>
     exact ⟨_, _, _, hA, hB, q0, h_0, q2, q7, q8, q9, q14, q15, q19, q20, q21, f9, Comp.yL he4⟩
    intro m_ a10 w10 hI
    clear hA hB he4 q0 q2 q7 q8 q9 q14 q15 q19 q20 q21 f9 h_0
    obtain ⟨O12, x10, x11, hA, hB, q0, h_0, q2, q7, q8, q9, q14, q15, q19, q20, q21, f9, hl⟩ := hI
    obtain ⟨m4, hlt4, st4, h, hnext4, hdone4⟩ := Comp.zm hl; clear hl
    replace h : (yx x_0 x_2 x2 x10 x11).run n = some st4 := h
    unfold yx at h; refine wp_seq ?_
    refine' rb [_] mixed hA hB hO (cn (fun hE hK => yh (kq hK q21) (kq hK q20)) .nil) ?zk8
    intro a11 w11 hA hE hB HF; refine kr10 HF q0 q2 q7 q8 q9 q14 q15 q19 q20 q21 ?_; clear q0 q2 q7 q8 q9 q14 q15 q19 q20 q21; intro q0 q2 q7 q8 q9 q14 q15 q19 q20 q21; have q22 := ksv (HF 22) rfl rfl rfl; clear HF; replace h_0 := vx h_0 hE; replace f9 := f9.ext hE; clear hE; refine zG (zA (wp_seq ?_))
    revert h; refine cnd q22 (fun h => ?_) (fun h => ?_)
    ·
     refine wp_skip (zA ?_)
     refine zh (fun a w => ∃ (O37 : Tags) (x35 : court_fate), a.fit 75 ∧ Base (Fr w0) O w0 O37 w ∧ a.get 0 = v_0 ∧ (rSl zM).v O37 w v_0 x_0 ∧ a.get 2 = .int .i64 x_2 ∧ a.get 7 = .bool x1 ∧ a.get 8 = .int .i64 x2 ∧ a.get 9 = .pointer (some ⟨b7, 0, none⟩) ∧ a.get 14 = .int .i64 x_1 ∧ a.get 15 = .int .i64 x2 ∧ a.get 19 = v_0 ∧ a.get 20 = .int .i64 (x_0.length : Int) ∧ a.get 21 = .int .i64 x10 ∧ OwnB 1 (Fr w0) O37 w b7 #[.bool x35.solid_, .bool x35.empty_, .bool x35.taken_, .bool x35.loose_, .bool x35.there_, .bool x35.gone_] 92 ∧ (gp x10 x35).run n = some st4) ?_ ?_
     ·
      refine wp_block (wp_seq ?_); obtain ⟨x13, hx13, h⟩ := Comp.run_bind h
      refine' rb [_, SP.ptr zM O12 x13, SP.vl zM O12 x13, _, SP.vl zM O12 x13] mixed hA hB hO (mv q21 (cn (fun hE hK => vC (r := zM) (O := O12) ty75 ty94 rfl (kq hK q19) (rd_of (vx h_0 hE)) (kq hK q21) hx13) (cn (fun hE hK => vO (r := zM) (fun _ => rfl) ty94 rfl rfl rfl (kp (SP.ptr zM O12 x13) 1 hK 24 rfl)) (cn (fun hE hK => zE (ks 0 hK 23 rfl)) (cn (fun hE hK => yC (φ := SP.vl zM O12 x13) (kp _ 2 hK 25 rfl)) .nil))))) ?zk9
      intro a12 w12 hA hE hB HF; refine kr10 HF q0 q2 q7 q8 q9 q14 q15 q19 q20 q21 ?_; clear q0 q2 q7 q8 q9 q14 q15 q19 q20 q21; intro q0 q2 q7 q8 q9 q14 q15 q19 q20 q21; obtain ⟨u14, q11, f15⟩ := kx (HF 11) rfl rfl rfl; have q10 := ksv (HF 10) rfl rfl rfl; clear q22 HF; replace h_0 := vx h_0 hE; replace f9 := f9.ext hE; clear hE; refine zG (zA (wp_seq ?_))
      refine' rbT [_, SP.tup2 (SP.vl ya O12 (court_voice.as96 x13).1) (SP.isv (.bool (court_voice.as96 x13).2)), SP.tup2 (SP.vl ya O12 (court_voice.as96 x13).1) (SP.isv (.bool (court_voice.as96 x13).2)), SP.vl ya O12 (court_voice.as96 x13).1, SP.isv (.bool ((court_voice.as96 x13).2))] hA hB hO (mv q11 (cn (fun hE hK => as_court_voice_96 (ks 0 hK 27 rfl) (vx f15 hE)) (cn (fun hE hK => vo (φ := SP.tup2 (SP.vl ya O12 (court_voice.as96 x13).1) (SP.isv (.bool (court_voice.as96 x13).2))) (kp _ 1 hK 28 rfl)) (cn (fun hE hK => jC (kp (SP.tup2 (SP.vl ya O12 (court_voice.as96 x13).1) (SP.isv (.bool (court_voice.as96 x13).2))) 2 hK 26 rfl)) (cn (fun hE hK => jB (kp (SP.tup2 (SP.vl ya O12 (court_voice.as96 x13).1) (SP.isv (.bool (court_voice.as96 x13).2))) 2 hK 26 rfl)) .nil))))) ?zk10
      intro a13 w13 hA hE hB HF; refine kr12 HF q0 q2 q7 q8 q9 q10 q11 q14 q15 q19 q20 q21 ?_; clear q0 q2 q7 q8 q9 q10 q11 q14 q15 q19 q20 q21; intro q0 q2 q7 q8 q9 q10 q11 q14 q15 q19 q20 q21; obtain ⟨u16, q29, f17⟩ := kx (HF 29) rfl rfl rfl; have q30 := ksv (HF 30) rfl rfl rfl; clear HF; replace h_0 := vx h_0 hE; replace f15 := vx f15 hE; replace f9 := f9.ext hE; clear hE
      refine l_ok (φ := SP.box w13.heap.size #[.slice none 0 0, .slice none 0 0] 96) hO hB (by exact gj (Nat.le_refl _) ty96) rfl fun u18 w14 hE hB' f19 => ?_
      clear hB'; obtain ⟨O20, b22, hB', hX, e_, f21⟩ := kQ hO hB hE f19 2 (by decide)
      subst e_; clear hB f19; have hB := hB'; clear hB'
      replace h_0 := vk h_0 hX; replace f15 := vk f15 hX; replace f17 := vk f17 hX
      replace f9 := f9.kx hX (by decide)
      clear hX hE
      refine zQ hA (by decide) fun a15 hA q_ hfr => ?_
      refine kd14 hfr q0 q2 q7 q8 q9 q10 q11 q14 q15 q19 q20 q21 q29 q30 ?_; clear q0 q2 q7 q8 q9 q10 q11 q14 q15 q19 q20 q21 q29 q30; intro q0 q2 q7 q8 q9 q10 q11 q14 q15 q19 q20 q21 q29 q30; have q12 := q_; clear q_ hfr
      obtain ⟨u23, u25, e_, f24, f26⟩ := openV_court_cut f17; subst e_
      refine gT (vs := [u23, u25]) (cs' := #[u23, u25]) hO hB (yI hB) ty96 q12 q29 rfl (by intro c_ hc_; simp only [List.mem_cons, List.not_mem_nil, or_false] at hc_; rcases hc_ with rfl | rfl <;> first | rfl | assumption | exact sl_one f24 rfl rfl | exact sl_one f26 rfl rfl) f21 (by simp) rfl fun w16 f27 hB' hX => ?_
      clear hB f21; have hB := hB'; clear hB'; replace h_0 := vk h_0 hX; replace f15 := vk f15 hX; replace f24 := vk f24 hX; replace f26 := vk f26 hX
      replace f9 := f9.kx hX (by decide)
      clear hX
      refine l_ok (φ := SP.isv (.bool ((court_voice.as96 x13).2))) hO hB (by exact zE q30) rfl fun u_ w17 hE hB' hv_ => ?_
      replace hv_ := Eq.symm hv_; subst hv_; clear hB; have hB := hB'; clear hB'
      replace h_0 := vx h_0 hE; replace f15 := vx f15 hE; replace f9 := f9.ext hE; clear hE
      refine zQ hA (by decide) fun a18 hA q_ hfr => ?_
      refine kd13 hfr q0 q2 q7 q8 q9 q10 q11 q14 q15 q19 q20 q21 q30 ?_; clear q0 q2 q7 q8 q9 q10 q11 q14 q15 q19 q20 q21 q30; intro q0 q2 q7 q8 q9 q10 q11 q14 q15 q19 q20 q21 q30; have q13 := q_; clear q_ hfr; refine zG (zA (wp_block (wp_seq ?_))); obtain ⟨x28, hx28, h⟩ := Comp.run_bind h
      refine' rb [_, _, _, _, _, _] mixed hA hB hO (mv q2 (mv q10 (cn (fun hE hK => okl_shr (ks 0 hK 32 rfl) (ks 1 hK 33 rfl) (vn hx28)) (cn (fun hE hK => okb_and (ks 2 hK 34 rfl) rfl) (cn (fun hE hK => yq (ks 3 hK 35 rfl) rfl) (cn (fun hE hK => zE (ks 4 hK 36 rfl)) .nil)))))) ?zk11
      intro a19 w19 hA hE hB HF; refine kr12 HF q0 q2 q7 q8 q9 q11 q13 q14 q15 q19 q20 q21 ?_; clear q0 q2 q7 q8 q9 q11 q13 q14 q15 q19 q20 q21; intro q0 q2 q7 q8 q9 q11 q13 q14 q15 q19 q20 q21; have q31 := ksv (HF 31) rfl rfl rfl; clear q10 HF; replace h_0 := vx h_0 hE; replace f15 := vx f15 hE; replace f9 := f9.ext hE; clear hE
      obtain ⟨x29, hx_, h⟩ := Comp.run_bind h; replace hx_ := Comp.run_pure hx_; rw [hx_] at q31; clear hx_
      refine zG (zA ?_)
      revert h; refine cnd q31 (fun h => ?_) (fun h => ?_)
      ·
       refine' rbT [_, _] hA hB hO (mv q11 (mv q8 .nil)) ?zk12
       intro a20 w20 hA hE hB HF; refine kr10 HF q0 q2 q7 q8 q9 q14 q15 q19 q20 q21 ?_; clear q0 q2 q7 q8 q9 q14 q15 q19 q20 q21; intro q0 q2 q7 q8 q9 q14 q15 q19 q20 q21; have q37 := ksv (HF 37) rfl rfl rfl; have q38 := ksv (HF 38) rfl rfl rfl; clear q11 q13 q31 HF; replace h_0 := vx h_0 hE; replace f15 := vx f15 hE; replace f9 := f9.ext hE; clear hE
       obtain ⟨v_, hu_, hs_⟩ := rIf_v.1 f15
       obtain ⟨x30, hx30, h⟩ := Comp.run_bind h
       refine l_pioI (r := gJ) (x := x11) hO hB (yI hB) (meth_court_voice_speak x13) (fnok_court_voice_speak x13) (Eq.trans q37 hu_) (map2 q38 q9) (ok_court_voice_speak hB.ok hs_ (BoxO.arg (show BoxO 1 (Fr w0) O20 w20 b7 92 gJ x11 from ⟨_, f9, rfl⟩) (by decide)) hx30) ⟨_, f9, rfl⟩ fun u31 w21 f33 hB' hX f32 => ?_
       clear hB f9; have hB := hB'; clear hB'; replace h_0 := vk h_0 hX; replace f15 := vk f15 hX; clear hX
       have hz_ := f33; clear f33; obtain ⟨cs_, f34, hr_⟩ := hz_
       replace hr_ : cs_ = [.bool x30.solid_, .bool x30.empty_, .bool x30.taken_, .bool x30.loose_, .bool x30.there_, .bool x30.gone_] := hr_; subst hr_
       clear f32
       refine zQ hA (by decide) fun a22 hA q_ hfr => ?_
       refine kd12 hfr q0 q2 q7 q8 q9 q14 q15 q19 q20 q21 q37 q38 ?_; clear q0 q2 q7 q8 q9 q14 q15 q19 q20 q21 q37 q38; intro q0 q2 q7 q8 q9 q14 q15 q19 q20 q21 q37 q38; have q39 := q_; clear q_ hfr; refine zG (yJ (yJ (zA ?_)))
       exact ⟨_, _, hA, hB, q0, h_0, q2, q7, q8, q9, q14, q15, q19, q20, q21, f34, h⟩
      ·
       refine wp_seq ?_
       refine' rb [_, _] mixed hA hB hO (mv q13 (cn (fun hE hK => zE (ks 0 hK 41 rfl)) .nil)) ?zk13
       intro a23 w23 hA hE hB HF; refine kr10 HF q0 q2 q7 q8 q9 q14 q15 q19 q20 q21 ?_; clear q0 q2 q7 q8 q9 q14 q15 q19 q20 q21; intro q0 q2 q7 q8 q9 q14 q15 q19 q20 q21; have q40 := ksv (HF 40) rfl rfl rfl; clear q11 q13 q31 HF; replace h_0 := vx h_0 hE; replace f15 := vx f15 hE; replace f9 := f9.ext hE; clear hE; refine zG (zA ?_)
       revert h; refine cnd q40 (fun h => ?_) (fun h => ?_)
       ·
        refine' rbT [SP.isv (.pointer (some ⟨b7, 3, none⟩))] hA hB hO (cn (fun hE hK => zK fl92_3 (kq hK q9)) .nil) ?zk14
        intro a24 w24 hA hE hB HF; refine kr10 HF q0 q2 q7 q8 q9 q14 q15 q19 q20 q21 ?_; clear q0 q2 q7 q8 q9 q14 q15 q19 q20 q21; intro q0 q2 q7 q8 q9 q14 q15 q19 q20 q21; have q42 := ksv (HF 42) rfl rfl rfl; clear q40 HF; replace h_0 := vx h_0 hE; replace f9 := f9.ext hE; clear hE
        refine jO (cs' := #[.bool x11.solid_, .bool x11.empty_, .bool x11.taken_, .bool true, .bool x11.there_, .bool x11.gone_]) hO hB (yI hB) ty4 q42 rfl rfl rfl f9 (by simp) rfl fun w25 f36 hB' hX => ?_
        clear hB f9; have hB := hB'; clear hB'; replace h_0 := vk h_0 hX; clear hX; refine zG (yJ (yJ (zA ?_)))
        exact ⟨_, _, hA, hB, q0, h_0, q2, q7, q8, q9, q14, q15, q19, q20, q21, f36, h⟩
       ·
        refine wp_skip (yJ (yJ (zA ?_)))
        exact ⟨_, _, hA, hB, q0, h_0, q2, q7, q8, q9, q14, q15, q19, q20, q21, f9, h⟩
     intro a26 w26 hI
     clear hA hB h q0 q2 q7 q8 q9 q14 q15 q19 q20 q21 q22 f9 h_0
     obtain ⟨O37, x35, hA, hB, q0, h_0, q2, q7, q8, q9, q14, q15, q19, q20, q21, f34, h⟩ := hI
     unfold gp at h
     refine' rb [_, _] mixed hA hB hO (cn (fun hE hK => yp (kq hK q21) rfl) (cn (fun hE hK => zJ (ks 0 hK 43 rfl)) .nil)) ?zk15
     intro a27 w27 hA hE hB HF; refine kr9 HF q0 q2 q7 q8 q9 q14 q15 q19 q20 ?_; clear q0 q2 q7 q8 q9 q14 q15 q19 q20; intro q0 q2 q7 q8 q9 q14 q15 q19 q20; replace q21 := ksv (HF 21) rfl rfl rfl; clear HF; replace h_0 := vx h_0 hE; replace f34 := f34.ext hE; clear hE; refine zG (zA ?_)
     have h := hnext4 _ (Comp.run_pure h).symm
     refine ⟨m4, hlt4, ?_⟩
     exact ⟨_, _, _, hA, hB, q0, h_0, q2, q7, q8, q9, q14, q15, q19, q20, q21, f34, h⟩
    ·
     refine wp_exit (zX (zX (ye ?_)))
     have hd_ := hdone4 _ (Comp.run_pure h).symm; clear h
     subst hd_; have h := hk4; clear hk4; try dsimp only at h
     refine zA ?_
     exact ⟨_, _, hA, hB, q0, h_0, q2, q7, q9, q14, q15, f9, h⟩
   intro a28 w28 hI
   clear hA hB h q0 q2 q7 q8 q9 q14 q15 f9 h_0
   obtain ⟨O40, x39, hA, hB, q0, h_0, q2, q7, q9, q14, q15, f9, h⟩ := hI
   unfold kJ at h; refine wp_seq ?_
   refine' rb [SP.isv (.pointer (some ⟨b7, 4, none⟩)), SP.isv (.bool x39.there_), _, SP.isv (.pointer (some ⟨b7, 5, none⟩)), SP.isv (.bool x39.gone_), _, SP.isv (.pointer (some ⟨b7, 0, none⟩)), SP.isv (.bool x39.solid_), _, _, _, SP.isv (.pointer (some ⟨b7, 2, none⟩)), SP.isv (.bool x39.taken_), _, _, _, SP.isv (.pointer (some ⟨b7, 5, none⟩)), SP.isv (.bool x39.gone_), _, SP.isv (.pointer (some ⟨b7, 1, none⟩)), SP.isv (.bool x39.empty_), _, _, _, SP.isv (.pointer (some ⟨b7, 3, none⟩)), SP.isv (.bool x39.loose_), _, _, _] mixed hA hB hO (cn (fun hE hK => zK fl92_4 (kq hK q9)) (cn (fun hE hK => zg ty4 rfl (ks 0 hK 44 rfl) (OwnB.ext f9 hE).own rfl) (cn (fun hE hK => zJ (ks 1 hK 45 rfl)) (cn (fun hE hK => zK fl92_5 (kq hK q9)) (.cons (fun _ _ hE hK hg => zg ty4 rfl (kg 3 hK 47 rfl hg) (OwnB.ext f9 hE).own rfl) (.cons (fun _ _ hE hK hg => zJ (kg 4 hK 48 rfl hg)) (cn (fun hE hK => zK fl92_0 (kq hK q9)) (.cons (fun _ _ hE hK hg => zg ty4 rfl (kg 6 hK 50 rfl hg) (OwnB.ext f9 hE).own rfl) (.cons (fun _ _ hE hK hg => kb (kg 7 hK 51 rfl hg)) (.cons (fun _ _ hE hK hg => za (kg 5 hK 49 rfl hg) (fun _ => rfl) (fun hb => kg 8 hK 52 rfl (zv rfl hg hb))) (.cons (fun _ _ hE hK hg => zJ (kg 9 hK 53 rfl hg)) (cn (fun hE hK => zK fl92_2 (kq hK q9)) (.cons (fun _ _ hE hK hg => zg ty4 rfl (kg 11 hK 55 rfl hg) (OwnB.ext f9 hE).own rfl) (.cons (fun _ _ hE hK hg => za (kg 10 hK 54 rfl hg) (fun _ => rfl) (fun hb => kg 12 hK 56 rfl (zv rfl hg hb))) (cn (fun hE hK => za (ks 2 hK 46 rfl) (fun hb => kg 13 hK 57 rfl (zv rfl rfl hb)) (fun _ => rfl)) (cn (fun hE hK => zJ (ks 14 hK 58 rfl)) (cn (fun hE hK => zK fl92_5 (kq hK q9)) (.cons (fun _ _ hE hK hg => zg ty4 rfl (kg 16 hK 60 rfl hg) (OwnB.ext f9 hE).own rfl) (.cons (fun _ _ hE hK hg => zJ (kg 17 hK 61 rfl hg)) (cn (fun hE hK => zK fl92_1 (kq hK q9)) (.cons (fun _ _ hE hK hg => zg ty4 rfl (kg 19 hK 63 rfl hg) (OwnB.ext f9 hE).own rfl) (.cons (fun _ _ hE hK hg => kb (kg 20 hK 64 rfl hg)) (.cons (fun _ _ hE hK hg => za (kg 18 hK 62 rfl hg) (fun hb => kg 21 hK 65 rfl (zv rfl hg hb)) (fun _ => rfl)) (.cons (fun _ _ hE hK hg => zJ (kg 22 hK 66 rfl hg)) (cn (fun hE hK => zK fl92_3 (kq hK q9)) (.cons (fun _ _ hE hK hg => zg ty4 rfl (kg 24 hK 68 rfl hg) (OwnB.ext f9 hE).own rfl) (.cons (fun _ _ hE hK hg => kb (kg 25 hK 69 rfl hg)) (.cons (fun _ _ hE hK hg => za (kg 23 hK 67 rfl hg) (fun hb => kg 26 hK 70 rfl (zv rfl hg hb)) (fun _ => rfl)) (cn (fun hE hK => za (ks 15 hK 59 rfl) (fun _ => rfl) (fun hb => kg 27 hK 71 rfl (zv rfl rfl hb))) .nil))))))))))))))))))))))))))))) ?zk16
   intro a29 w29 hA hE hB HF; refine kr5 HF q0 q2 q7 q14 q15 ?_; clear q0 q2 q7 q14 q15; intro q0 q2 q7 q14 q15; have q72 := ksv (HF 72) rfl rfl rfl; clear q9 HF; replace h_0 := vx h_0 hE; replace f9 := f9.ext hE; clear hE
   obtain ⟨x41, hx_, h⟩ := Comp.run_bind h; replace hx_ := Comp.run_pure hx_; rw [hx_] at q72; clear hx_
   refine zG (zA ?_)
   revert h; refine cnd q72 (fun h => ?_) (fun h => ?_)
   ·
    refine wp_seq ?_
    refine' rb [_] mixed hA hB hO (cn (fun hE hK => zE rfl) .nil) ?zk17
    intro a30 w30 hA hE hB HF; replace q7 := ksv (HF 7) rfl rfl rfl; clear q0 q2 q14 q15 q72 HF; replace h_0 := vx h_0 hE; clear hE; refine zG (zA (wp_exit ?_))
    refine (ex_other rfl (zX (zX (ye ?_))))
    have hd_ := hdone2 _ (Comp.run_pure h).symm; clear h
    subst hd_; have h := hk2; clear hk2; try dsimp only at h
    refine zA ?_
    exact ⟨_, _, hA, hB, q7, h⟩
   ·
    refine wp_skip (yJ (zA ?_))
    refine' rb [_, _] mixed hA hB hO (cn (fun hE hK => yp (kq hK q15) rfl) (cn (fun hE hK => zJ (ks 0 hK 73 rfl)) .nil)) ?zk18
    intro a31 w31 hA hE hB HF; refine kr4 HF q0 q2 q7 q14 ?_; clear q0 q2 q7 q14; intro q0 q2 q7 q14; replace q15 := ksv (HF 15) rfl rfl rfl; clear q72 HF; replace h_0 := vx h_0 hE; clear hE; refine zG (zA ?_)
    have h := hnext2 _ (Comp.run_pure h).symm
    refine ⟨m2, hlt2, ?_⟩
    exact ⟨_, _, _, hA, hB, q0, h_0, q2, q7, q14, q15, h⟩
  ·
   refine wp_exit (zX (zX (ye ?_)))
   have hd_ := hdone2 _ (Comp.run_pure h).symm; clear h
   subst hd_; have h := hk2; clear hk2; try dsimp only at h
   refine zA ?_
   exact ⟨_, _, hA, hB, q7, h⟩
 intro a32 w32 hI
 clear hA hB h q0 q1 q2 q7 h_0
 obtain ⟨O45, x44, hA, hB, q7, h⟩ := hI
 unfold kK at h; refine wp_seq ?_
 refine' rb [_, _] mixed hA hB hO (mv q7 (cn (fun hE hK => zE (ks 0 hK 74 rfl)) .nil)) ?zk19
 intro a33 w33 hA hE hB HF; have q6 := ksv (HF 6) rfl rfl rfl; clear q7 HF; clear hE; refine zG (zA (wp_ret (rt_sc ?_)))
 have h := Comp.run_pure h; subst h
 exact zi Try.results40 hA q6 hB.ext rfl
theorem ok_court_Agrees {O : Tags} {w0 : World} (hO : OkO O w0) {v_0 : Value} {x_0 : List api_Claim} (h_0 : (rSl zB).v O w0 v_0 x_0) {v_1 : Value} {x_1 : List api_Sight} (h_1 : (rSl zF).v O w0 v_1 x_1) {x_2 : Int} {x_3 : Int} {n : Nat} {y : Bool} (h : (gx x_0 x_1 x_2 x_3).run n = some y) : Pure Try.prog 15 #[v_0, v_1, .int .i64 x_2, .int .i64 x_3] w0 (SP.isv (.bool y)).holds := by
 unfold gx at h
 refine zU Try.func15 rfl 33 Try.ntmps15 (by simp) fun a0 hA hs0 => ?_
 have q0 : a0.get 0 = v_0 := hs0 0 _ rfl
 have q1 : a0.get 1 = v_1 := hs0 1 _ rfl
 have q2 : a0.get 2 = .int .i64 x_2 := hs0 2 _ rfl
 have q3 : a0.get 3 = .int .i64 x_3 := hs0 3 _ rfl
 clear hs0
 have hB : Base (Fr w0) O w0 O w0 := Base.start hO
 refine wp_seq ?_
 refine' rb [_] mixed hA hB hO (cn (fun hE hK => zE rfl) .nil) ?zk1
 intro a1 w1 hA hE hB HF; refine kr4 HF q0 q1 q2 q3 ?_; clear q0 q1 q2 q3; intro q0 q1 q2 q3; clear HF; replace h_0 := vx h_0 hE; replace h_1 := vx h_1 hE; clear hE; refine zG (zA (wp_seq ?_)); obtain ⟨x1, hx1, h⟩ := Comp.run_bind h; obtain ⟨x2, hx2, h⟩ := Comp.run_bind h; obtain ⟨x3, hx3, h⟩ := Comp.run_bind h; obtain ⟨x4, hx4, h⟩ := Comp.run_bind h
 refine' rb [_, _, _, SP.isv (.int .i64 x1), _, _, _, _, _, _, _, _, _, _, _, _, _, _, _, SP.vl (rSl zM) O x3, _, _, SP.isv (.bool x4), _, _] mixed hA hB hO (mv q0 (mv q1 (mv q2 (cn (fun hE hK => vY fn13 (ks 0 hK 9 rfl) (ks 1 hK 10 rfl) (ks 2 hK 11 rfl) (ok_court_Check (OkO.ext hB.ok hE) (vx h_0 hE) (vx h_1 hE) hx1)) (cn (fun hE hK => yq (ks 3 hK 12 rfl) rfl) (cn (fun hE hK => zJ (ks 4 hK 13 rfl)) (mv q3 (.cons (fun _ _ hE hK hg => ok_geq (kg 6 hK 15 rfl hg) rfl) (cn (fun hE hK => za (ks 5 hK 14 rfl) (fun hb => kg 7 hK 16 rfl (zv rfl rfl hb)) (fun _ => rfl)) (cn (fun hE hK => zJ (ks 8 hK 17 rfl)) (mv q3 (mv q0 (.cons (fun _ _ hE hK hg => zw (r := zB) ty27 (kg 11 hK 20 rfl hg) (rd_of (vx h_0 hE))) (.cons (fun _ _ hE hK hg => okl_shl rfl (kg 12 hK 21 rfl hg) (vn (yd hx2 hg))) (.cons (fun _ _ hE hK hg => yh (kg 10 hK 19 rfl hg) (kg 13 hK 22 rfl hg)) (cn (fun hE hK => za (ks 9 hK 18 rfl) (fun hb => kg 14 hK 23 rfl (zv rfl rfl hb)) (fun _ => rfl)) (cn (fun hE hK => zJ (ks 15 hK 24 rfl)) (mv q0 (mv q1 (.cons (fun _ _ hE hK hg => yE (yV fn41 (kg 17 hK 26 rfl hg) (kg 18 hK 27 rfl hg) (ok_court_voices (OkO.ext hB.ok hE) (vx h_0 hE) (vx h_1 hE) (yd hx3 hg))) (fun _ _ _ h => (OwnR.val h (fun g hg => (OkO.ext hB.ok hE) g (OwnR.ge h g hg).1)))) (mv q2 (mv q3 (.cons (fun _ _ hE hK hg => vY fn40 rfl (kg 20 hK 29 rfl hg) (kg 21 hK 30 rfl hg) (ok_court_agrees (OkO.ext hB.ok hE) (kspS (φ := SP.vl (rSl zM) O x3) (j := 19) (hK 28 rfl) rfl rfl hg) (yd hx4 hg))) (cn (fun hE hK => za (ks 16 hK 25 rfl) (fun hb => kg 22 hK 31 rfl (zv rfl rfl hb)) (fun _ => rfl)) (cn (fun hE hK => zE (ks 23 hK 32 rfl)) .nil))))))))))))))))))))))))) ?zk2
 intro a2 w2 hA hE hB HF; have q8 := ksv (HF 8) rfl rfl rfl; clear q0 q1 q2 q3 HF; replace h_0 := vx h_0 hE; replace h_1 := vx h_1 hE; clear hE
 obtain ⟨x5, hx_, h⟩ := Comp.run_bind h; replace hx_ := Comp.run_pure hx_; rw [hx_] at q8; clear hx_
 refine zG (zA (wp_ret ?_))
 have h := Comp.run_pure h; subst h
 exact zi Try.results15 hA q8 hB.ext rfl
theorem ok_math_bits_Len64 {O : Tags} {w0 : World} (hO : OkO O w0) {x_0 : Int} {n : Nat} {y : Int} (h : (ZE x_0).run n = some y) : Pure Try.prog 82 #[.int .u64 x_0] w0 (SP.isv (.int .i64 y)).holds := by
 unfold ZE at h
 refine zU Try.func82 rfl 25 Try.ntmps82 (by simp) fun a0 hA hs0 => ?_
 have q0 : a0.get 0 = .int .u64 x_0 := hs0 0 _ rfl
 clear hs0
 have hB : Base (Fr w0) O w0 O w0 := Base.start hO
 refine wp_seq ?_
 refine' rb [_] mixed hA hB hO (cn (fun hE hK => zE rfl) .nil) ?zk1
 intro a1 w1 hA hE hB HF; replace q0 := kf HF q0; have q2 := ksv (HF 2) rfl rfl rfl; clear HF; clear hE; refine zG (zA ?_)
 refine zh (fun a w => ∃ (O3 : Tags) (x1 : Int) (x2 : Int), a.fit 25 ∧ Base (Fr w0) O w0 O3 w ∧ a.get 0 = .int .u64 x1 ∧ a.get 2 = .int .i64 x2 ∧ (jN x1 x2).run n = some y) ?_ ?_
 ·
  refine wp_seq ?_
  refine' rb [_, _] mixed hA hB hO (mv q0 (cn (fun hE hK => ok_geq (ks 0 hK 3 rfl) rfl) .nil)) ?zk2
  intro a2 w2 hA hE hB HF; replace q0 := kf HF q0; replace q2 := kf HF q2; have q4 := ksv (HF 4) rfl rfl rfl; clear HF; clear hE; refine zG (zA ?_)
  revert h; refine cnd q4 (fun h => ?_) (fun h => ?_)
  ·
   refine wp_seq ?_
   refine' rb [_, _, _] mixed hA hB hO (mv q0 (cn (fun hE hK => okl_shr (ks 0 hK 5 rfl) rfl (by decide)) (cn (fun hE hK => zE (ks 1 hK 6 rfl)) .nil))) ?zk3
   intro a3 w3 hA hE hB HF; replace q0 := ksv (HF 0) rfl rfl rfl; clear q2 q4 HF; clear hE; refine zG (zA ?_)
   refine' rb [_] mixed hA hB hO (cn (fun hE hK => zE rfl) .nil) ?zk4
   intro a4 w4 hA hE hB HF; replace q0 := kf HF q0; have q2 := ksv (HF 2) rfl rfl rfl; clear HF; clear hE; refine zG (zA ?_)
   exact ⟨_, _, _, hA, hB, q0, q2, h⟩
  ·
   refine wp_skip (zA ?_)
   exact ⟨_, _, _, hA, hB, q0, q2, h⟩
 intro a5 w5 hI
 clear hA hB h q0 q2
 obtain ⟨O3, x1, x2, hA, hB, q0, q2, h⟩ := hI
 unfold jN at h
 refine zh (fun a w => ∃ (O6 : Tags) (x4 : Int) (x5 : Int), a.fit 25 ∧ Base (Fr w0) O w0 O6 w ∧ a.get 0 = .int .u64 x4 ∧ a.get 2 = .int .i64 x5 ∧ (jM x4 x5).run n = some y) ?_ ?_
 ·
  refine wp_seq ?_
  refine' rb [_, _] mixed hA hB hO (mv q0 (cn (fun hE hK => ok_geq (ks 0 hK 7 rfl) rfl) .nil)) ?zk5
  intro a6 w6 hA hE hB HF; replace q0 := kf HF q0; replace q2 := kf HF q2; have q8 := ksv (HF 8) rfl rfl rfl; clear HF; clear hE; refine zG (zA ?_)
  revert h; refine cnd q8 (fun h => ?_) (fun h => ?_)
  ·
   refine wp_seq ?_
   refine' rb [_, _, _] mixed hA hB hO (mv q0 (cn (fun hE hK => okl_shr (ks 0 hK 9 rfl) rfl (by decide)) (cn (fun hE hK => zE (ks 1 hK 10 rfl)) .nil))) ?zk6
   intro a7 w7 hA hE hB HF; replace q2 := kf HF q2; replace q0 := ksv (HF 0) rfl rfl rfl; clear q8 HF; clear hE; refine zG (zA ?_)
   refine' rb [_, _, _] mixed hA hB hO (mv q2 (cn (fun hE hK => yp (ks 0 hK 11 rfl) rfl) (cn (fun hE hK => zE (ks 1 hK 12 rfl)) .nil))) ?zk7
   intro a8 w8 hA hE hB HF; replace q0 := kf HF q0; replace q2 := ksv (HF 2) rfl rfl rfl; clear HF; clear hE; refine zG (zA ?_)
   exact ⟨_, _, _, hA, hB, q0, q2, h⟩
  ·
   refine wp_skip (zA ?_)
   exact ⟨_, _, _, hA, hB, q0, q2, h⟩
 intro a9 w9 hI
 clear hA hB h q0 q2
 obtain ⟨O6, x4, x5, hA, hB, q0, q2, h⟩ := hI
 unfold jM at h
 refine zh (fun a w => ∃ (O9 : Tags) (x7 : Int) (x8 : Int), a.fit 25 ∧ Base (Fr w0) O w0 O9 w ∧ a.get 0 = .int .u64 x7 ∧ a.get 2 = .int .i64 x8 ∧ (jL x7 x8).run n = some y) ?_ ?_
 ·
  refine wp_seq ?_
  refine' rb [_, _] mixed hA hB hO (mv q0 (cn (fun hE hK => ok_geq (ks 0 hK 13 rfl) rfl) .nil)) ?zk8
  intro a10 w10 hA hE hB HF; replace q0 := kf HF q0; replace q2 := kf HF q2; have q14 := ksv (HF 14) rfl rfl rfl; clear HF; clear hE; refine zG (zA ?_)
  revert h; refine cnd q14 (fun h => ?_) (fun h => ?_)
  ·
   refine wp_seq ?_
   refine' rb [_, _, _] mixed hA hB hO (mv q0 (cn (fun hE hK => okl_shr (ks 0 hK 15 rfl) rfl (by decide)) (cn (fun hE hK => zE (ks 1 hK 16 rfl)) .nil))) ?zk9
   intro a11 w11 hA hE hB HF; replace q2 := kf HF q2; replace q0 := ksv (HF 0) rfl rfl rfl; clear q14 HF; clear hE; refine zG (zA ?_)
   refine' rb [_, _, _] mixed hA hB hO (mv q2 (cn (fun hE hK => yp (ks 0 hK 17 rfl) rfl) (cn (fun hE hK => zE (ks 1 hK 18 rfl)) .nil))) ?zk10
   intro a12 w12 hA hE hB HF; replace q0 := kf HF q0; replace q2 := ksv (HF 2) rfl rfl rfl; clear HF; clear hE; refine zG (zA ?_)
   exact ⟨_, _, _, hA, hB, q0, q2, h⟩
  ·
   refine wp_skip (zA ?_)
   exact ⟨_, _, _, hA, hB, q0, q2, h⟩
 intro a13 w13 hI
 clear hA hB h q0 q2
 obtain ⟨O9, x7, x8, hA, hB, q0, q2, h⟩ := hI
 unfold jL at h; refine wp_seq ?_; obtain ⟨x10, hx10, h⟩ := Comp.run_bind h
 refine' rb [_, _, _, SP.isv (.int .u8 x10), _, _, _] mixed hA hB hO (mv q2 (mv q0 (cn (fun hE hK => ok_convI ty115 ty5 (ks 1 hK 20 rfl)) (cn (fun hE hK => okl_indexS ty9 rfl (ks 2 hK 21 rfl) hx10) (cn (fun hE hK => ok_convI ty5 ty3 (ks 3 hK 22 rfl)) (cn (fun hE hK => yp (ks 0 hK 19 rfl) (ks 4 hK 23 rfl)) (cn (fun hE hK => zE (ks 5 hK 24 rfl)) .nil))))))) ?zk11
 intro a14 w14 hA hE hB HF; replace q2 := ksv (HF 2) rfl rfl rfl; clear q0 HF; clear hE
 obtain ⟨x11, hx_, h⟩ := Comp.run_bind h; replace hx_ := Comp.run_pure hx_; rw [hx_] at q2; clear hx_
 refine zG (zA (wp_ret ?_))
 have h := Comp.run_pure h; subst h
 exact zi Try.results82 hA q2 hB.ext rfl
theorem ok_math_bits_Len {O : Tags} {w0 : World} (hO : OkO O w0) {x_0 : Int} {n : Nat} {y : Int} (h : (kv x_0).run n = some y) : Pure Try.prog 69 #[.int .u64 x_0] w0 (SP.isv (.int .i64 y)).holds := by
 unfold kv at h
 refine zU Try.func69 rfl 8 Try.ntmps69 (by simp) fun a0 hA hs0 => ?_
 have q0 : a0.get 0 = .int .u64 x_0 := hs0 0 _ rfl
 clear hs0
 have hB : Base (Fr w0) O w0 O w0 := Base.start hO
 refine wp_seq ?_
 refine' rb [_] mixed hA hB hO (cn (fun hE hK => zE rfl) .nil) ?zk1
 intro a1 w1 hA hE hB HF; replace q0 := kf HF q0; clear HF; clear hE; refine zG (zA (wp_seq ?_)); refine wp_cond_false rfl ?_; refine wp_skip (zA (wp_seq ?_)); obtain ⟨x1, hx1, h⟩ := Comp.run_bind h
 refine' rb [_, SP.isv (.int .i64 x1), _] mixed hA hB hO (mv q0 (cn (fun hE hK => kF fn82 (ks 0 hK 6 rfl) (ok_math_bits_Len64 (OkO.ext hB.ok hE)  hx1)) (cn (fun hE hK => zE (ks 1 hK 7 rfl)) .nil))) ?zk2
 intro a2 w2 hA hE hB HF; have q2 := ksv (HF 2) rfl rfl rfl; clear q0 HF; clear hE; refine zG (zA (wp_ret ?_))
 have h := Comp.run_pure h; subst h
 exact zi Try.results69 hA q2 hB.ext rfl
theorem ok_core_Conflicts_f1 {O : Tags} {w0 : World} (hO : OkO O w0) {x_0 : Int} {v_1 : Value} {x_1 : Int} (h_1 : (rBox (rInt .i64)).v O w0 v_1 x_1) {v_2 : Value} {x_2 : List Bool} (h_2 : (rBox (rSl rBool)).v O w0 v_2 x_2) {n : Nat} {y : Bool} (h : (yG x_0 x_1 x_2).run n = some y) : Pure Try.prog 70 #[.int .i64 x_0, v_1, v_2] w0 (SP.isv (.bool y)).holds := by
 unfold yG at h
 refine zU Try.func70 rfl 26 Try.ntmps70 (by simp) fun a0 hA hs0 => ?_
 have q0 : a0.get 0 = .int .i64 x_0 := hs0 0 _ rfl
 have q1 : a0.get 1 = v_1 := hs0 1 _ rfl
 have q2 : a0.get 2 = v_2 := hs0 2 _ rfl
 clear hs0
 have hB : Base (Fr w0) O w0 O w0 := Base.start hO
 refine wp_seq ?_
 refine' rb [_] mixed hA hB hO (cn (fun hE hK => zE rfl) .nil) ?zk1
 intro a1 w1 hA hE hB HF; refine kr3 HF q0 q1 q2 ?_; clear q0 q1 q2; intro q0 q1 q2; clear HF; replace h_1 := vx h_1 hE; replace h_2 := vx h_2 hE; clear hE; refine zG (zA ?_)
 refine zh (fun a w => ∃ (O8 : Tags), a.fit 26 ∧ Base (Fr w0) O w0 O8 w ∧ (gl ).run n = some y) ?_ ?_
 ·
  refine wp_seq ?_
  refine' rb [SP.isv (.int .i64 x_1), _] mixed hA hB hO (cn (fun hE hK => yD (rInt .i64) (fun _ => rfl) ty3 rfl rfl (kn (hK 1 rfl) rfl q1) (yM (fun _ => rfl) (vx h_1 hE)) (fun _ _ _ h => zd.1 h)) (cn (fun hE hK => zJ rfl) .nil)) ?zk2
  intro a2 w2 hA hE hB HF; replace q0 := kf HF q0; replace q2 := kf HF q2; have q6 := ksv (HF 6) rfl rfl rfl; have q7 := ksv (HF 7) rfl rfl rfl; clear q1 HF; replace h_1 := vx h_1 hE; replace h_2 := vx h_2 hE; clear hE; refine zG (zA (wp_block ?_))
  obtain ⟨e2, he2, hk2⟩ := Comp.run_bind h; clear h
  refine gK (fun m a w => ∃ (O2 : Tags) (x1 : Int), a.fit 26 ∧ Base (Fr w0) O w0 O2 w ∧ a.get 0 = .int .i64 x_0 ∧ a.get 2 = v_2 ∧ (rBox (rSl rBool)).v O2 w v_2 x_2 ∧ a.get 6 = .int .i64 x_1 ∧ a.get 7 = .int .i64 x1 ∧ Comp.loopN (fun s => yr x_1 x_0 x_2 s) n m x1 = some e2) (m := n) ?st2 ?_
  case st2 =>
   exact ⟨_, _, hA, hB, q0, q2, h_2, q6, q7, Comp.yL he2⟩
  intro m_ a3 w3 hI
  clear hA hB he2 q0 q2 q6 q7 h_2
  obtain ⟨O2, x1, hA, hB, q0, q2, h_2, q6, q7, hl⟩ := hI
  obtain ⟨m2, hlt2, st2, h, hnext2, hdone2⟩ := Comp.zm hl; clear hl
  replace h : (yr x_1 x_0 x_2 x1).run n = some st2 := h
  unfold yr at h; refine wp_seq ?_
  refine' rb [_] mixed hA hB hO (cn (fun hE hK => yh (kq hK q7) (kq hK q6)) .nil) ?zk3
  intro a4 w4 hA hE hB HF; refine kr4 HF q0 q2 q6 q7 ?_; clear q0 q2 q6 q7; intro q0 q2 q6 q7; have q8 := ksv (HF 8) rfl rfl rfl; clear HF; replace h_2 := vx h_2 hE; clear hE; refine zG (zA (wp_seq ?_))
  revert h; refine cnd q8 (fun h => ?_) (fun h => ?_)
  ·
   refine wp_skip (zA (wp_seq (wp_block (wp_seq ?_))))
   refine' rb [_, _] mixed hA hB hO (mv q7 (cn (fun hE hK => zE (ks 0 hK 9 rfl)) .nil)) ?zk4
   intro a5 w5 hA hE hB HF; refine kr4 HF q0 q2 q6 q7 ?_; clear q0 q2 q6 q7; intro q0 q2 q6 q7; have q5 := ksv (HF 5) rfl rfl rfl; clear q8 HF; replace h_2 := vx h_2 hE; clear hE; refine zG (zA (wp_seq ?_)); obtain ⟨x3, hx3, h⟩ := Comp.run_bind h; obtain ⟨x4, hx4, h⟩ := Comp.run_bind h; obtain ⟨x5, hx5, h⟩ := Comp.run_bind h
   refine' rb [_, _, _, _, _, _, SP.vl (rSl rBool) O2 x_2, _, _, _, _, SP.ptr rBool O2 x5, SP.isv (.bool x5), _, _] mixed hA hB hO (mv q0 (mv q5 (cn (fun hE hK => okl_shr (ks 0 hK 10 rfl) (ks 1 hK 11 rfl) (vn hx3)) (cn (fun hE hK => okb_and (ks 2 hK 12 rfl) rfl) (cn (fun hE hK => yq (ks 3 hK 13 rfl) rfl) (cn (fun hE hK => zJ (ks 4 hK 14 rfl)) (cn (fun hE hK => vO (r := (rSl rBool)) (fun _ => rfl) ty47 rfl rfl (kn (hK 2 rfl) rfl q2) (yM (fun _ => rfl) (vx h_2 hE))) (mv q0 (mv q5 (.cons (fun _ _ hE hK hg => okl_shl rfl (kg 8 hK 18 rfl hg) (vn (yd hx4 hg))) (.cons (fun _ _ hE hK hg => okb_andNot (kg 7 hK 17 rfl hg) (kg 9 hK 19 rfl hg)) (.cons (fun _ _ hE hK hg => vC (r := rBool) (O := O2) ty47 ty4 rfl rfl (rd_of (kspS (φ := SP.vl (rSl rBool) O2 x_2) (j := 6) (hK 16 rfl) rfl rfl hg)) (kg 10 hK 20 rfl hg) (yd hx5 hg)) (.cons (fun _ _ hE hK hg => yD rBool (fun _ => rfl) ty4 rfl rfl rfl (kspS (φ := SP.ptr rBool O2 x5) (j := 11) (hK 21 rfl) rfl rfl hg) (fun _ _ _ h => rBool_v.1 h)) (.cons (fun _ _ hE hK hg => kb (kg 12 hK 22 rfl hg)) (cn (fun hE hK => za (ks 5 hK 15 rfl) (fun hb => kg 13 hK 23 rfl (zv rfl rfl hb)) (fun _ => rfl)) .nil))))))))))))))) ?zk5
   intro a6 w6 hA hE hB HF; refine kr4 HF q0 q2 q6 q7 ?_; clear q0 q2 q6 q7; intro q0 q2 q6 q7; have q24 := ksv (HF 24) rfl rfl rfl; clear q5 HF; replace h_2 := vx h_2 hE; clear hE
   obtain ⟨x6, hx_, h⟩ := Comp.run_bind h; replace hx_ := Comp.run_pure hx_; rw [hx_] at q24; clear hx_
   refine zG (zA ?_)
   revert h; refine cnd q24 (fun h => ?_) (fun h => ?_)
   ·
    refine wp_seq ?_
    refine' rb [_] mixed hA hB hO (cn (fun hE hK => zE rfl) .nil) ?zk6
    intro a7 w7 hA hE hB HF; have q4 := ksv (HF 4) rfl rfl rfl; clear q0 q2 q6 q7 q24 HF; replace h_2 := vx h_2 hE; clear hE; refine zG (zA (wp_ret (gR (zn (zn (gR (zn ?_)))))))
    have hd_ := hdone2 _ (Comp.run_pure h).symm; clear h
    subst hd_; have h := hk2; clear hk2; try dsimp only at h
    have h := Comp.run_pure h; subst h
    exact zi Try.results70 hA q4 hB.ext rfl
   ·
    refine wp_skip (yJ (zA ?_))
    refine' rb [_, _] mixed hA hB hO (cn (fun hE hK => yp (kq hK q7) rfl) (cn (fun hE hK => zJ (ks 0 hK 25 rfl)) .nil)) ?zk7
    intro a8 w8 hA hE hB HF; refine kr3 HF q0 q2 q6 ?_; clear q0 q2 q6; intro q0 q2 q6; replace q7 := ksv (HF 7) rfl rfl rfl; clear q24 HF; replace h_2 := vx h_2 hE; clear hE; refine zG (zA ?_)
    have h := hnext2 _ (Comp.run_pure h).symm
    refine ⟨m2, hlt2, ?_⟩
    exact ⟨_, _, hA, hB, q0, q2, h_2, q6, q7, h⟩
  ·
   refine wp_exit (zX (zX (ye ?_)))
   have hd_ := hdone2 _ (Comp.run_pure h).symm; clear h
   subst hd_; have h := hk2; clear hk2; try dsimp only at h
   refine zA ?_
   exact ⟨_, hA, hB, h⟩
 intro a9 w9 hI
 clear hA hB h q0 q1 q2 h_1 h_2
 obtain ⟨O8, hA, hB, h⟩ := hI
 unfold gl at h; refine wp_seq ?_
 refine' rb [_] mixed hA hB hO (cn (fun hE hK => zE rfl) .nil) ?zk8
 intro a10 w10 hA hE hB HF; have q4 := ksv (HF 4) rfl rfl rfl; clear HF; clear hE; refine zG (zA (wp_ret ?_))
 have h := Comp.run_pure h; subst h
 exact zi Try.results70 hA q4 hB.ext rfl
theorem ok_core_Conflicts_f2 {O : Tags} {w0 : World} (hO : OkO O w0) {x_0 : Int} {v_1 : Value} {x_1 : List Bool} (h_1 : (rBox (rSl rBool)).v O w0 v_1 x_1) {v_2 : Value} {x_2 : Int → Comp Bool} (h_2 : (rBox (rF1 Try.prog (rInt .i64) (RS.c (fun x => .bool x)))).v O w0 v_2 x_2) {n : Nat} {y : Bool} (h : (gM x_0 x_1 x_2).run n = some y) : Pure Try.prog 72 #[.int .i64 x_0, v_1, v_2] w0 (SP.isv (.bool y)).holds := by
 unfold gM at h
 refine zU Try.func72 rfl 15 Try.ntmps72 (by simp) fun a0 hA hs0 => ?_
 have q0 : a0.get 0 = .int .i64 x_0 := hs0 0 _ rfl
 have q1 : a0.get 1 = v_1 := hs0 1 _ rfl
 have q2 : a0.get 2 = v_2 := hs0 2 _ rfl
 clear hs0
 have hB : Base (Fr w0) O w0 O w0 := Base.start hO
 refine wp_seq ?_
 refine' rb [_] mixed hA hB hO (cn (fun hE hK => zE rfl) .nil) ?zk1
 intro a1 w1 hA hE hB HF; refine kr3 HF q0 q1 q2 ?_; clear q0 q1 q2; intro q0 q1 q2; clear HF; replace h_1 := vx h_1 hE; replace h_2 := vx h_2 hE; clear hE; refine zG (zA (wp_seq ?_)); obtain ⟨x1, hx1, h⟩ := Comp.run_bind h; obtain ⟨x2, hx2, h⟩ := Comp.run_bind h
 refine' rb [SP.vl (rSl rBool) O x_1, _, SP.ptr rBool O x1, SP.isv (.bool x1), _, SP.vl (rF1 Try.prog (rInt .i64) (RS.c (fun x => .bool x))) O x_2, _, SP.isv (.bool x2), _, _, _] mixed hA hB hO (cn (fun hE hK => vO (r := (rSl rBool)) (fun _ => rfl) ty47 rfl rfl (kn (hK 1 rfl) rfl q1) (yM (fun _ => rfl) (vx h_1 hE))) (mv q0 (cn (fun hE hK => vC (r := rBool) (O := O) ty47 ty4 rfl rfl (rd_of (kp (SP.vl (rSl rBool) O x_1) 0 hK 5 rfl)) (ks 1 hK 6 rfl) hx1) (cn (fun hE hK => yD rBool (fun _ => rfl) ty4 rfl rfl rfl (kp (SP.ptr rBool O x1) 2 hK 7 rfl) (fun _ _ _ h => rBool_v.1 h)) (cn (fun hE hK => zJ (ks 3 hK 8 rfl)) (cn (fun hE hK => vO (r := (rF1 Try.prog (rInt .i64) (RS.c (fun x => .bool x)))) (fun _ => rfl) ty79 rfl rfl (kn (hK 2 rfl) rfl q2) (yM (fun _ => rfl) (vx h_2 hE))) (mv q0 (.cons (fun _ _ hE hK hg => okl_callv1 (R := (RS.c (fun x => .bool x))) rfl (show ((rF1 Try.prog (rInt .i64) (RS.c (fun x => .bool x)))).v O _ _ _ from (kspS (φ := SP.vl (rF1 Try.prog (rInt .i64) (RS.c (fun x => .bool x))) O x_2) (j := 5) (hK 10 rfl) rfl rfl hg)) (OkO.ext hB.ok hE) (kg 6 hK 11 rfl hg) (by exact zd.2 rfl) (yd hx2 hg)) (.cons (fun _ _ hE hK hg => kb (kg 7 hK 12 rfl hg)) (cn (fun hE hK => za (ks 4 hK 9 rfl) (fun hb => kg 8 hK 13 rfl (zv rfl rfl hb)) (fun _ => rfl)) (cn (fun hE hK => zE (ks 9 hK 14 rfl)) .nil))))))))))) ?zk2
 intro a2 w2 hA hE hB HF; have q4 := ksv (HF 4) rfl rfl rfl; clear q0 q1 q2 HF; replace h_1 := vx h_1 hE; replace h_2 := vx h_2 hE; clear hE; refine zG (zA (wp_ret ?_))
 have h := Comp.run_pure h; subst h
 exact zi Try.results72 hA q4 hB.ext rfl
theorem ok_core_only {O : Tags} {w0 : World} (hO : OkO O w0) {x_0 : Int} {v_1 : Value} {x_1 : Int → Comp Bool} (h_1 : (rF1 Try.prog (rInt .i64) (RS.c (fun x => .bool x))).v O w0 v_1 x_1) {n : Nat} {y : (List Int)} (h : (kc x_0 x_1).run n = some y) : Pure Try.prog 71 #[.int .i64 x_0, v_1] w0 (SP.ownr (rInt .i64) 3 (w0.heap.size) O y).holds := by
 unfold kc at h
 refine zU Try.func71 rfl 20 Try.ntmps71 (by simp) fun a0 hA hs0 => ?_
 have q0 : a0.get 0 = .int .i64 x_0 := hs0 0 _ rfl
 have q1 : a0.get 1 = v_1 := hs0 1 _ rfl
 clear hs0
 have hB : Base (Fr w0) O w0 O w0 := Base.start hO
 refine wp_seq ?_
 refine' rb [_] mixed hA hB hO (cn (fun hE hK => zE rfl) .nil) ?zk1
 intro a1 w1 hA hE hB HF; replace q0 := kf HF q0; replace q1 := kf HF q1; clear HF; replace h_1 := vx h_1 hE; clear hE; refine zG (zA (wp_seq ?_))
 refine' rb [_] mixed hA hB hO (cn (fun hE hK => zE rfl) .nil) ?zk2
 intro a2 w2 hA hE hB HF; replace q0 := kf HF q0; replace q1 := kf HF q1; have q5 := ksv (HF 5) rfl rfl rfl; clear HF; replace h_1 := vx h_1 hE; clear hE; refine zG (zA ?_)
 refine zh (fun a w => ∃ (O22 : Tags) (x19 : List Int) (u20 : Value), a.fit 20 ∧ Base (Fr w0) O w0 O22 w ∧ a.get 5 = u20 ∧ OwnL 1 (rInt .i64) 3 (Fr w0) O22 w u20 x19 ∧ (core_only_j1 x19).run n = some y) ?_ ?_
 ·
  refine wp_seq ?_
  refine' rb [_, _] mixed hA hB hO (mv q0 (cn (fun hE hK => zJ rfl) .nil)) ?zk3
  intro a3 w3 hA hE hB HF; replace q1 := kf HF q1; replace q5 := kf HF q5; have q7 := ksv (HF 7) rfl rfl rfl; have q8 := ksv (HF 8) rfl rfl rfl; clear q0 HF; replace h_1 := vx h_1 hE; clear hE; refine zG (zA (wp_block ?_))
  obtain ⟨e2, he2, hk2⟩ := Comp.run_bind h; clear h
  refine gK (fun m a w => ∃ (O5 : Tags) (x1 : List Int) (x4 : Int) (u2 : Value), a.fit 20 ∧ Base (Fr w0) O w0 O5 w ∧ a.get 1 = v_1 ∧ (rF1 Try.prog (rInt .i64) (RS.c (fun x => .bool x))).v O5 w v_1 x_1 ∧ a.get 5 = u2 ∧ OwnL 1 (rInt .i64) 3 (Fr w0) O5 w u2 x1 ∧ a.get 7 = .int .i64 x_0 ∧ a.get 8 = .int .i64 x4 ∧ Comp.loopN (fun s => gV x_0 x_1 s.1 s.2) n m (x1, x4) = some e2) (m := n) ?st2 ?_
  case st2 =>
   exact ⟨_, _, _, _, hA, hB, q1, h_1, q5, (OwnL.nil _ _ _ _ _ _), q7, q8, Comp.yL he2⟩
  intro m_ a4 w4 hI
  clear hA hB he2 q1 q5 q7 q8 h_1
  obtain ⟨O5, x1, x4, u2, hA, hB, q1, h_1, q5, f3, q7, q8, hl⟩ := hI
  obtain ⟨m2, hlt2, st2, h, hnext2, hdone2⟩ := Comp.zm hl; clear hl
  replace h : (gV x_0 x_1 x1 x4).run n = some st2 := h
  unfold gV at h; refine wp_seq ?_
  refine' rb [_] mixed hA hB hO (cn (fun hE hK => yh (kq hK q8) (kq hK q7)) .nil) ?zk4
  intro a5 w5 hA hE hB HF; refine kr4 HF q1 q5 q7 q8 ?_; clear q1 q5 q7 q8; intro q1 q5 q7 q8; have q9 := ksv (HF 9) rfl rfl rfl; clear HF; replace h_1 := vx h_1 hE; replace f3 := f3.ext hE; clear hE; refine zG (zA (wp_seq ?_))
  revert h; refine cnd q9 (fun h => ?_) (fun h => ?_)
  ·
   refine wp_skip (zA ?_)
   refine zh (fun a w => ∃ (O16 : Tags) (x13 : List Int) (u14 : Value), a.fit 20 ∧ Base (Fr w0) O w0 O16 w ∧ a.get 1 = v_1 ∧ (rF1 Try.prog (rInt .i64) (RS.c (fun x => .bool x))).v O16 w v_1 x_1 ∧ a.get 5 = u14 ∧ OwnL 1 (rInt .i64) 3 (Fr w0) O16 w u14 x13 ∧ a.get 7 = .int .i64 x_0 ∧ a.get 8 = .int .i64 x4 ∧ (jv x4 x13).run n = some st2) ?_ ?_
   ·
    refine wp_block (wp_seq ?_)
    refine' rb [_, _] mixed hA hB hO (mv q8 (cn (fun hE hK => zE (ks 0 hK 10 rfl)) .nil)) ?zk5
    intro a6 w6 hA hE hB HF; refine kr4 HF q1 q5 q7 q8 ?_; clear q1 q5 q7 q8; intro q1 q5 q7 q8; have q6 := ksv (HF 6) rfl rfl rfl; clear q9 HF; replace h_1 := vx h_1 hE; replace f3 := f3.ext hE; clear hE; refine zG (zA (wp_seq ?_)); obtain ⟨x6, hx6, h⟩ := Comp.run_bind h
    refine' rb [_, _, SP.isv (.bool x6)] mixed hA hB hO (mv q1 (mv q6 (cn (fun hE hK => okl_callv1 (R := (RS.c (fun x => .bool x))) (ks 0 hK 11 rfl) (show ((rF1 Try.prog (rInt .i64) (RS.c (fun x => .bool x)))).v O5 _ _ _ from (vx h_1 hE)) (OkO.ext hB.ok hE) (ks 1 hK 12 rfl) (by exact zd.2 rfl) hx6) .nil))) ?zk6
    intro a7 w7 hA hE hB HF; refine kr5 HF q1 q5 q6 q7 q8 ?_; clear q1 q5 q6 q7 q8; intro q1 q5 q6 q7 q8; have q13 := ksv (HF 13) rfl rfl rfl; clear HF; replace h_1 := vx h_1 hE; replace f3 := f3.ext hE; clear hE; refine zG (zA ?_)
    revert h; refine cnd q13 (fun h => ?_) (fun h => ?_)
    ·
     refine' rbT [_, _, SP.vl (rSl (rInt .i64)) O5 [x4]] hA hB hO (mv q5 (mv q6 (cn (fun hE hK => zN (r := (rInt .i64)) (fun _ => rfl) rfl (OkO.ext hB.ok hE) ty23 ty3 (zR (ks 1 hK 15 rfl) zl) ⟨(by exact zd.2 rfl), trivial⟩ rfl (by decide)) .nil))) ?zk7
     intro a8 w8 hA hE hB HF; refine kr4 HF q1 q5 q7 q8 ?_; clear q1 q5 q7 q8; intro q1 q5 q7 q8; obtain ⟨u7, q16, f8⟩ := kx (HF 16) rfl rfl rfl; have q14 := ksv (HF 14) rfl rfl rfl; clear q6 q13 HF; replace h_1 := vx h_1 hE; replace f3 := f3.ext hE; clear hE; obtain ⟨x9, hx9, h⟩ := Comp.run_bind h
     refine jP (r := (rInt .i64)) (fun _ => rfl) rfl ty23 ty3 rfl (by decide) hO hB (yI hB) q14 f3 q16 (rd_of f8) hx9 (by decide) fun u10 w9 O11 f12 hB' hX => ?_
     clear hB; have hB := hB'; clear hB'; clear f3; replace h_1 := vk h_1 hX; replace f8 := vk f8 hX; clear hX
     refine zQ hA (by decide) fun a10 hA q_ hfr => ?_
     refine kd6 hfr q1 q5 q7 q8 q14 q16 ?_; clear q1 q5 q7 q8 q14 q16; intro q1 q5 q7 q8 q14 q16; have q17 := q_; clear q_ hfr
     refine l_ok (φ := SP.isv (u10)) hO hB (by exact zE q17) rfl fun u_ w11 hE hB' hv_ => ?_
     replace hv_ := Eq.symm hv_; subst hv_; clear hB; have hB := hB'; clear hB'
     replace h_1 := vx h_1 hE; replace f12 := f12.ext hE; clear hE
     refine zQ hA (by decide) fun a12 hA q_ hfr => ?_
     replace q1 := (hfr 1 rfl).trans q1
     replace q7 := (hfr 7 rfl).trans q7
     replace q8 := (hfr 8 rfl).trans q8
     replace q17 := (hfr 17 rfl).trans q17
     clear q5; have q5 := q_; clear q_ hfr; refine zG (yJ (zA ?_))
     exact ⟨_, _, _, hA, hB, q1, h_1, q5, f12, q7, q8, h⟩
    ·
     refine wp_skip (yJ (zA ?_))
     exact ⟨_, _, _, hA, hB, q1, h_1, q5, f3, q7, q8, h⟩
   intro a13 w13 hI
   clear hA hB h q1 q5 q7 q8 q9 f3 h_1
   obtain ⟨O16, x13, u14, hA, hB, q1, h_1, q5, f15, q7, q8, h⟩ := hI
   unfold jv at h
   refine' rb [_, _] mixed hA hB hO (cn (fun hE hK => yp (kq hK q8) rfl) (cn (fun hE hK => zJ (ks 0 hK 18 rfl)) .nil)) ?zk8
   intro a14 w14 hA hE hB HF; refine kr3 HF q1 q5 q7 ?_; clear q1 q5 q7; intro q1 q5 q7; replace q8 := ksv (HF 8) rfl rfl rfl; clear HF; replace h_1 := vx h_1 hE; replace f15 := f15.ext hE; clear hE; refine zG (zA ?_)
   have h := hnext2 _ (Comp.run_pure h).symm
   refine ⟨m2, hlt2, ?_⟩
   exact ⟨_, _, _, _, hA, hB, q1, h_1, q5, f15, q7, q8, h⟩
  ·
   refine wp_exit (zX (zX (ye ?_)))
   have hd_ := hdone2 _ (Comp.run_pure h).symm; clear h
   subst hd_; have h := hk2; clear hk2; try dsimp only at h
   refine zA ?_
   exact ⟨_, _, _, hA, hB, q5, f3, h⟩
 intro a15 w15 hI
 clear hA hB h q0 q1 q5 h_1
 obtain ⟨O22, x19, u20, hA, hB, q5, f21, h⟩ := hI
 unfold core_only_j1 at h; refine wp_seq ?_
 refine' rb [_, _] mixed hA hB hO (mv q5 (cn (fun hE hK => zE (ks 0 hK 19 rfl)) .nil)) ?zk9
 intro a16 w16 hA hE hB HF; have q4 := ksv (HF 4) rfl rfl rfl; clear q5 HF; replace f21 := f21.ext hE; clear hE; refine zG (zA (wp_ret ?_))
 have h := Comp.run_pure h; subst h
 exact zi Try.results71 hA q4 hB.ext (OwnL.res f21 (by decide) hB.zero)
theorem ok_core_Conflicts_f3 {O : Tags} {w0 : World} (hO : OkO O w0) {x_0 : Int} {v_1 : Value} {x_1 : List Bool} (h_1 : (rBox (rSl rBool)).v O w0 v_1 x_1) {v_2 : Value} {x_2 : Int → Comp Bool} (h_2 : (rBox (rF1 Try.prog (rInt .i64) (RS.c (fun x => .bool x)))).v O w0 v_2 x_2) {n : Nat} {y : Bool} (h : (gL x_0 x_1 x_2).run n = some y) : Pure Try.prog 73 #[.int .i64 x_0, v_1, v_2] w0 (SP.isv (.bool y)).holds := by
 unfold gL at h
 refine zU Try.func73 rfl 15 Try.ntmps73 (by simp) fun a0 hA hs0 => ?_
 have q0 : a0.get 0 = .int .i64 x_0 := hs0 0 _ rfl
 have q1 : a0.get 1 = v_1 := hs0 1 _ rfl
 have q2 : a0.get 2 = v_2 := hs0 2 _ rfl
 clear hs0
 have hB : Base (Fr w0) O w0 O w0 := Base.start hO
 refine wp_seq ?_
 refine' rb [_] mixed hA hB hO (cn (fun hE hK => zE rfl) .nil) ?zk1
 intro a1 w1 hA hE hB HF; refine kr3 HF q0 q1 q2 ?_; clear q0 q1 q2; intro q0 q1 q2; clear HF; replace h_1 := vx h_1 hE; replace h_2 := vx h_2 hE; clear hE; refine zG (zA (wp_seq ?_)); obtain ⟨x1, hx1, h⟩ := Comp.run_bind h; obtain ⟨x2, hx2, h⟩ := Comp.run_bind h
 refine' rb [SP.vl (rSl rBool) O x_1, _, SP.ptr rBool O x1, SP.isv (.bool x1), _, _, SP.vl (rF1 Try.prog (rInt .i64) (RS.c (fun x => .bool x))) O x_2, _, SP.isv (.bool x2), _, _] mixed hA hB hO (cn (fun hE hK => vO (r := (rSl rBool)) (fun _ => rfl) ty47 rfl rfl (kn (hK 1 rfl) rfl q1) (yM (fun _ => rfl) (vx h_1 hE))) (mv q0 (cn (fun hE hK => vC (r := rBool) (O := O) ty47 ty4 rfl rfl (rd_of (kp (SP.vl (rSl rBool) O x_1) 0 hK 5 rfl)) (ks 1 hK 6 rfl) hx1) (cn (fun hE hK => yD rBool (fun _ => rfl) ty4 rfl rfl rfl (kp (SP.ptr rBool O x1) 2 hK 7 rfl) (fun _ _ _ h => rBool_v.1 h)) (cn (fun hE hK => kb (ks 3 hK 8 rfl)) (cn (fun hE hK => zJ (ks 4 hK 9 rfl)) (cn (fun hE hK => vO (r := (rF1 Try.prog (rInt .i64) (RS.c (fun x => .bool x)))) (fun _ => rfl) ty79 rfl rfl (kn (hK 2 rfl) rfl q2) (yM (fun _ => rfl) (vx h_2 hE))) (mv q0 (.cons (fun _ _ hE hK hg => okl_callv1 (R := (RS.c (fun x => .bool x))) rfl (show ((rF1 Try.prog (rInt .i64) (RS.c (fun x => .bool x)))).v O _ _ _ from (kspS (φ := SP.vl (rF1 Try.prog (rInt .i64) (RS.c (fun x => .bool x))) O x_2) (j := 6) (hK 11 rfl) rfl rfl hg)) (OkO.ext hB.ok hE) (kg 7 hK 12 rfl hg) (by exact zd.2 rfl) (yd hx2 hg)) (cn (fun hE hK => za (ks 5 hK 10 rfl) (fun hb => kg 8 hK 13 rfl (zv rfl rfl hb)) (fun _ => rfl)) (cn (fun hE hK => zE (ks 9 hK 14 rfl)) .nil))))))))))) ?zk2
 intro a2 w2 hA hE hB HF; have q4 := ksv (HF 4) rfl rfl rfl; clear q0 q1 q2 HF; replace h_1 := vx h_1 hE; replace h_2 := vx h_2 hE; clear hE; refine zG (zA (wp_ret ?_))
 have h := Comp.run_pure h; subst h
 exact zi Try.results73 hA q4 hB.ext rfl
theorem ok_core_Conflicts {O : Tags} {w0 : World} (hO : OkO O w0) {v_0 : Value} {x_0 : List Bool} (h_0 : (rSl rBool).v O w0 v_0 x_0) {n : Nat} {y : ((List Int) × Int)} (h : (gf x_0).run n = some y) : Pure Try.prog 51 #[v_0] w0 (SP.tup2 (SP.ownr (rInt .i64) 3 (w0.heap.size) O y.1) (SP.isv (.int .i64 y.2))).holds := by
 unfold gf at h
 refine zU Try.func51 rfl 38 Try.ntmps51 (by simp) fun a0 hA hs0 => ?_
 have q0 : a0.get 0 = v_0 := hs0 0 _ rfl
 clear hs0
 have hB : Base (Fr w0) O w0 O w0 := Base.start hO
 refine wp_seq ?_
 refine' rb [SP.vl (rBox (rSl rBool)) O x_0, _, _] mixed hA hB hO (cn (fun hE hK => kC (r := (rSl rBool)) (fun _ => rfl) (OkO.ext hB.ok hE) (kq hK q0) (vx h_0 hE)) (cn (fun hE hK => zE rfl) (cn (fun hE hK => zE rfl) .nil))) ?zk1
 intro a1 w1 hA hE hB HF; obtain ⟨u1, q1, f2⟩ := kx (HF 1) rfl rfl rfl; clear q0 HF; replace h_0 := vx h_0 hE; clear hE; refine zG (zA (wp_seq (wp_seq ?_)))
 refine' rb [SP.vl (rSl rBool) O x_0, _, _] mixed hA hB hO (cn (fun hE hK => vO (r := (rSl rBool)) (fun _ => rfl) ty47 rfl rfl (kn (hK 1 rfl) rfl q1) (yM (fun _ => rfl) (vx f2 hE))) (cn (fun hE hK => zw (r := rBool) ty47 rfl (rd_of (kp (SP.vl (rSl rBool) O x_0) 0 hK 7 rfl))) (cn (fun hE hK => zE (ks 1 hK 8 rfl)) .nil))) ?zk2
 intro a2 w2 hA hE hB HF; replace q1 := kf HF q1; have q4 := ksv (HF 4) rfl rfl rfl; clear HF; replace f2 := vx f2 hE; clear hE; refine zG (zA (wp_block (wp_seq ?_)))
 refine' rb [_, _, _] mixed hA hB hO (mv q4 (cn (fun hE hK => ok_gtr (ks 0 hK 10 rfl) rfl) (cn (fun hE hK => zE (ks 1 hK 11 rfl)) .nil))) ?zk3
 intro a3 w3 hA hE hB HF; replace q1 := kf HF q1; replace q4 := kf HF q4; have q9 := ksv (HF 9) rfl rfl rfl; clear HF; replace f2 := vx f2 hE; clear hE; refine zG (zA ?_)
 revert h; refine cnd q9 (fun h => ?_) (fun h => ?_)
 ·
  refine wp_seq ?_
  refine' rb [_, _] mixed hA hB hO (cn (fun hE hK => zE rfl) (cn (fun hE hK => zE rfl) .nil)) ?zk4
  intro a4 w4 hA hE hB HF; have q2 := ksv (HF 2) rfl rfl rfl; have q3 := ksv (HF 3) rfl rfl rfl; clear q1 q4 q9 HF; replace f2 := vx f2 hE; clear hE; refine zG (zA (wp_ret (gR (zn ?_))))
  have h := Comp.run_pure h; subst h
  exact gi Try.results51 hA q2 q3 hB.ext ⟨_, _, rfl, (OwnR.nil _ _ _ _ _), rfl⟩
 ·
  refine wp_seq ?_
  refine' rb [_, _, _, _, _, _, _, _, _, _] mixed hA hB hO (mv q4 (cn (fun hE hK => yq (ks 0 hK 13 rfl) rfl) (cn (fun hE hK => zJ (ks 1 hK 14 rfl)) (mv q4 (mv q4 (.cons (fun _ _ hE hK hg => ok_sub (kg 4 hK 17 rfl hg) rfl) (.cons (fun _ _ hE hK hg => okb_and (kg 3 hK 16 rfl hg) (kg 5 hK 18 rfl hg)) (.cons (fun _ _ hE hK hg => gm (kg 6 hK 19 rfl hg) rfl) (cn (fun hE hK => za (ks 2 hK 15 rfl) (fun _ => rfl) (fun hb => kg 7 hK 20 rfl (zv rfl rfl hb))) (cn (fun hE hK => zE (ks 8 hK 21 rfl)) .nil)))))))))) ?zk5
  intro a5 w5 hA hE hB HF; replace q1 := kf HF q1; have q12 := ksv (HF 12) rfl rfl rfl; clear q4 q9 HF; replace f2 := vx f2 hE; clear hE
  obtain ⟨x3, hx_, h⟩ := Comp.run_bind h; replace hx_ := Comp.run_pure hx_; rw [hx_] at q12; clear hx_
  refine zG (zA ?_)
  revert h; refine cnd q12 (fun h => ?_) (fun h => ?_)
  ·
   refine wp_seq ?_
   refine' rb [_, _] mixed hA hB hO (cn (fun hE hK => zE rfl) (cn (fun hE hK => zE rfl) .nil)) ?zk6
   intro a6 w6 hA hE hB HF; have q2 := ksv (HF 2) rfl rfl rfl; have q3 := ksv (HF 3) rfl rfl rfl; clear q1 q12 HF; replace f2 := vx f2 hE; clear hE; refine zG (zA (wp_ret (gR (zn ?_))))
   have h := Comp.run_pure h; subst h
   exact gi Try.results51 hA q2 q3 hB.ext ⟨_, _, rfl, (OwnR.nil _ _ _ _ _), rfl⟩
  ·
   refine wp_skip (yJ (zA (wp_seq ?_))); obtain ⟨x4, hx4, h⟩ := Comp.run_bind h
   refine' rbT [SP.vl (rSl rBool) O x_0, _, _, SP.isv (.int .i64 x4), _] hA hB hO (cn (fun hE hK => vO (r := (rSl rBool)) (fun _ => rfl) ty47 rfl rfl (kn (hK 1 rfl) rfl q1) (yM (fun _ => rfl) (vx f2 hE))) (cn (fun hE hK => zw (r := rBool) ty47 rfl (rd_of (kp (SP.vl (rSl rBool) O x_0) 0 hK 22 rfl))) (cn (fun hE hK => ok_convI ty3 ty85 (ks 1 hK 23 rfl)) (cn (fun hE hK => kF fn69 (ks 2 hK 24 rfl) (ok_math_bits_Len (OkO.ext hB.ok hE)  hx4)) (cn (fun hE hK => ok_sub (ks 3 hK 25 rfl) rfl) .nil))))) ?zk7
   intro a7 w7 hA hE hB HF; replace q1 := kf HF q1; have q26 := ksv (HF 26) rfl rfl rfl; clear q12 HF; replace f2 := vx f2 hE; clear hE
   refine l_ok (φ := SP.box w7.heap.size #[.int .i64 0] 3) hO hB (by exact gj (Nat.le_refl _) ty3) rfl fun u5 w8 hE hB' f6 => ?_
   clear hB'; obtain ⟨O7, b9, hB', hX, e_, f8⟩ := kQ hO hB hE f6 1 (by decide)
   subst e_; clear hB f6; have hB := hB'; clear hB'
   replace f2 := vk f2 hX; clear hX hE
   refine zQ hA (by decide) fun a9 hA q_ hfr => ?_
   replace q1 := (hfr _ rfl).trans q1; replace q26 := (hfr _ rfl).trans q26; have q5 := q_; clear q_ hfr
   refine jO (cs' := #[.int .i64 (IntKind.wrap .i64 (x4 - 1))]) hO hB (yI hB) ty3 q5 q26 rfl rfl f8 (by simp) rfl fun w10 f10 hB' hX => ?_
   clear hB f8; have hB := hB'; clear hB'; replace f2 := vk f2 hX; clear hX; refine zG (zA (wp_seq ?_))
   obtain ⟨O11, hB', hX, f12⟩ := freezeB (r := (rInt .i64)) (x := (IntKind.wrap .i64 (x4 - 1))) hO hB f10 (by decide) rfl
   clear f10 hB; have hB := hB'; clear hB'; replace f2 := vk f2 hX; clear hX
   refine' rgT [SP.isv (.func (.func 70) #[] #[.pointer (some ⟨b9, 0, none⟩), u1]), SP.box w10.heap.size #[.nilFunc] 79] hA (cn (fun hE hK => jX map0 (map2 (kq hK q5) (kq hK q1))) (cn (fun hE hK => gj hE.size ty79) .nil)) ?zk8
   intro a11 w11 hA hE HF; replace q1 := kf HF q1; obtain ⟨u13, q6, f14⟩ := kx (HF 6) rfl rfl rfl; have q27 := ksv (HF 27) rfl rfl rfl; clear q5 HF
   obtain ⟨O15, b16, hB', hX, e_, f17⟩ := kQ hO hB hE f14 2 (by decide)
   subst e_
   clear hB f14; have hB := hB'; clear hB'; replace f2 := vk f2 hX; replace f12 := vk f12 hX; clear hX hE
   have f18 : (rF1 Try.prog (rInt .i64) (RS.c (fun x => .bool x))).v O15 w11 (.func (.func 70) #[] #[.pointer (some ⟨b9, 0, none⟩), u1]) (fun z0 => yG z0 (IntKind.wrap .i64 (x4 - 1)) x_0) := rF1_v.2 ⟨rfl, fun O' w' hO' hk v_0 x_0 hv_0 n_ y_ hy_ => by obtain rfl := zd.1 hv_0; exact jx fn70 (ok_core_Conflicts_f1 hO'  (GR.zI _ f12 hk) (GR.zI _ f2 hk) hy_)⟩
   refine jO (cs' := #[.func (.func 70) #[] #[.pointer (some ⟨b9, 0, none⟩), u1]]) hO hB (yI hB) ty79 q6 q27 (jf f18 rfl rfl) (sl_one f18 rfl rfl) f17 (by simp) rfl fun w12 f19 hB' hX => ?_
   clear hB f17; have hB := hB'; clear hB'; replace f2 := vk f2 hX; replace f18 := vk f18 hX; clear hX; refine zG (zA (wp_seq (wp_seq ?_)))
   obtain ⟨O20, hB', hX, f21⟩ := freezeB (r := (rF1 Try.prog (rInt .i64) (RS.c (fun x => .bool x)))) (x := (fun z0 => yG z0 (IntKind.wrap .i64 (x4 - 1)) x_0)) hO hB f19 (by decide) (vJ (r := (rF1 Try.prog (rInt .i64) (RS.c (fun x => .bool x)))) f18 rfl rfl)
   clear f19 hB; have hB := hB'; clear hB'; replace f2 := vk f2 hX; replace f18 := vk f18 hX; clear hX; obtain ⟨x22, hx22, h⟩ := Comp.run_bind h
   refine' rb [SP.vl (rSl rBool) O20 x_0, _, SP.isv (.func (.func 72) #[] #[u1, .pointer (some ⟨b16, 0, none⟩)]), SP.vl (rSl (rInt .i64)) O20 x22, _, _] mixed hA hB hO (cn (fun hE hK => vO (r := (rSl rBool)) (fun _ => rfl) ty47 rfl rfl (kn (hK 1 rfl) rfl q1) (yM (fun _ => rfl) (vx f2 hE))) (cn (fun hE hK => zw (r := rBool) ty47 rfl (rd_of (kp (SP.vl (rSl rBool) O20 x_0) 0 hK 28 rfl))) (cn (fun hE hK => jX map0 (map2 (kq hK q1) (kq hK q6))) (.cons ?z9_3 (cn (fun hE hK => zw (r := (rInt .i64)) ty23 rfl (rd_of (kp (SP.vl (rSl (rInt .i64)) O20 x22) 3 hK 31 rfl))) (cn (fun hE hK => ok_gtr (ks 4 hK 32 rfl) rfl) .nil)))))) ?zk9
   case z9_3 => intro a' w' hE hK hg; have c_ := ok_core_only (OkO.ext hB.ok hE) (show (rF1 Try.prog (rInt .i64) (RS.c (fun x => .bool x))).v O20 _ (.func (.func 72) #[] #[u1, .pointer (some ⟨b16, 0, none⟩)]) (fun z0 => gM z0 x_0 (fun z0 => yG z0 (IntKind.wrap .i64 (x4 - 1)) x_0)) from rF1_v.2 ⟨rfl, fun O' w' hO' hk v_0 x_0 hv_0 n_ y_ hy_ => by obtain rfl := zd.1 hv_0; exact jx fn72 (ok_core_Conflicts_f2 hO'  (GR.zI _ (vx f2 hE) hk) (GR.zI _ (vx f21 hE) hk) hy_)⟩) hx22; exact yE (yV fn71 (ks 1 hK 29 rfl) (ks 2 hK 30 rfl) c_) (fun _ _ _ h => (OwnR.val h (fun g hg => (OkO.ext hB.ok hE) g (OwnR.ge h g hg).1)))
   intro a13 w13 hA hE hB HF; replace q1 := kf HF q1; replace q6 := kf HF q6; have q33 := ksv (HF 33) rfl rfl rfl; clear HF; replace f2 := vx f2 hE; replace f21 := vx f21 hE; clear hE; refine zG (zA ?_)
   revert h; refine cnd q33 (fun h => ?_) (fun h => ?_)
   ·
    refine wp_seq ?_
    refine' rb [_, _] mixed hA hB hO (cn (fun hE hK => zE rfl) (cn (fun hE hK => zE rfl) .nil)) ?zk10
    intro a14 w14 hA hE hB HF; have q2 := ksv (HF 2) rfl rfl rfl; have q3 := ksv (HF 3) rfl rfl rfl; clear q1 q6 q33 HF; replace f2 := vx f2 hE; replace f21 := vx f21 hE; clear hE; refine zG (zA (wp_ret (zn ?_)))
    have h := Comp.run_pure h; subst h
    exact gi Try.results51 hA q2 q3 hB.ext ⟨_, _, rfl, (OwnR.nil _ _ _ _ _), rfl⟩
   ·
    refine wp_skip (zA (wp_seq ?_))
    refine' rbT [SP.vl (rSl rBool) O20 x_0, _, SP.isv (.func (.func 73) #[] #[u1, .pointer (some ⟨b16, 0, none⟩)])] hA hB hO (cn (fun hE hK => vO (r := (rSl rBool)) (fun _ => rfl) ty47 rfl rfl (kn (hK 1 rfl) rfl q1) (yM (fun _ => rfl) (vx f2 hE))) (cn (fun hE hK => zw (r := rBool) ty47 rfl (rd_of (kp (SP.vl (rSl rBool) O20 x_0) 0 hK 34 rfl))) (cn (fun hE hK => jX map0 (map2 (kq hK q1) (kq hK q6))) .nil))) ?zk11
    intro a15 w15 hA hE hB HF; have q35 := ksv (HF 35) rfl rfl rfl; have q36 := ksv (HF 36) rfl rfl rfl; clear q1 q6 q33 HF; replace f2 := vx f2 hE; replace f21 := vx f21 hE; clear hE
    have f23 : (rF1 Try.prog (rInt .i64) (RS.c (fun x => .bool x))).v O20 w15 (.func (.func 73) #[] #[u1, .pointer (some ⟨b16, 0, none⟩)]) (fun z0 => gL z0 x_0 (fun z0 => yG z0 (IntKind.wrap .i64 (x4 - 1)) x_0)) := rF1_v.2 ⟨rfl, fun O' w' hO' hk v_0 x_0 hv_0 n_ y_ hy_ => by obtain rfl := zd.1 hv_0; exact jx fn73 (ok_core_Conflicts_f3 hO'  (GR.zI _ f2 hk) (GR.zI _ f21 hk) hy_)⟩
    obtain ⟨x24, hx24, h⟩ := Comp.run_bind h
    refine l_ok (φ := SP.ownr (rInt .i64) 3 w15.heap.size O20 x24) hO hB (by have c_ := ok_core_only hB.ok f23 hx24; exact yE (yV fn71 q35 q36 c_) (fun _ _ _ h => h)) rfl fun u25 w16 hE hB' f26 => ?_
    clear hB'; obtain ⟨O27, hB', hX, f28⟩ := ownNew hO hB hE f26 rfl 3 (by decide)
    clear hB f26; have hB := hB'; clear hB'; replace f23 := vk f23 hX; clear hX hE
    refine zQ hA (by decide) fun a17 hA q_ hfr => ?_
    replace q35 := (hfr _ rfl).trans q35; replace q36 := (hfr _ rfl).trans q36; have q37 := q_; clear q_ hfr
    refine l_ok (φ := SP.isv (u25)) hO hB (by exact zE q37) rfl fun u_ w18 hE hB' hv_ => ?_
    replace hv_ := Eq.symm hv_; subst hv_; clear hB; have hB := hB'; clear hB'
    replace f28 := f28.ext hE; clear hE
    refine zQ hA (by decide) fun a19 hA q_ hfr => ?_
    replace q37 := (hfr _ rfl).trans q37; have q2 := q_; clear q_ hfr
    refine l_ok (φ := SP.isv (.int .i64 0)) hO hB (by exact zE rfl) rfl fun u_ w20 hE hB' hv_ => ?_
    replace hv_ := Eq.symm hv_; subst hv_; clear hB; have hB := hB'; clear hB'
    replace f28 := f28.ext hE; clear hE
    refine zQ hA (by decide) fun a21 hA q_ hfr => ?_
    replace q2 := (hfr _ rfl).trans q2; have q3 := q_; clear q_ hfr; refine zG (zA (wp_ret ?_))
    have h := Comp.run_pure h; subst h
    exact gi Try.results51 hA q2 q3 hB.ext ⟨_, _, rfl, (OwnL.res f28 (by decide) hB.zero), rfl⟩
theorem jK {O : Tags} {w0 : World} (hO : OkO O w0) {v_0 : Value} {x_0 : List api_Claim} (h_0 : (rSl zB).v O w0 v_0 x_0) {v_1 : Value} {x_1 : List api_Sight} (h_1 : (rSl zF).v O w0 v_1 x_1) {x_2 : Int} {n : Nat} {y : ((List Int) × Int)} (h : (vR x_0 x_1 x_2).run n = some y) : Pure Try.prog 22 #[v_0, v_1, .int .i64 x_2] w0 (SP.tup2 (SP.ownr (rInt .i64) 3 (w0.heap.size) O y.1) (SP.isv (.int .i64 y.2))).holds := by
 unfold vR at h
 refine zU Try.func22 rfl 43 Try.ntmps22 (by simp) fun a0 hA hs0 => ?_
 have q0 : a0.get 0 = v_0 := hs0 0 _ rfl
 have q1 : a0.get 1 = v_1 := hs0 1 _ rfl
 have q2 : a0.get 2 = .int .i64 x_2 := hs0 2 _ rfl
 clear hs0
 have hB : Base (Fr w0) O w0 O w0 := Base.start hO
 refine wp_seq ?_
 refine' rb [_, _] mixed hA hB hO (cn (fun hE hK => zE rfl) (cn (fun hE hK => zE rfl) .nil)) ?zk1
 intro a1 w1 hA hE hB HF; refine kr3 HF q0 q1 q2 ?_; clear q0 q1 q2; intro q0 q1 q2; clear HF; replace h_0 := vx h_0 hE; replace h_1 := vx h_1 hE; clear hE; refine zG (zA (wp_seq (wp_seq ?_))); obtain ⟨x1, hx1, h⟩ := Comp.run_bind h
 refine' rb [_, _, _, SP.isv (.int .i64 x1), _] mixed hA hB hO (mv q0 (mv q1 (mv q2 (cn (fun hE hK => vY fn13 (ks 0 hK 12 rfl) (ks 1 hK 13 rfl) (ks 2 hK 14 rfl) (ok_court_Check (OkO.ext hB.ok hE) (vx h_0 hE) (vx h_1 hE) hx1)) (cn (fun hE hK => zE (ks 3 hK 15 rfl)) .nil))))) ?zk2
 intro a2 w2 hA hE hB HF; refine kr3 HF q0 q1 q2 ?_; clear q0 q1 q2; intro q0 q1 q2; have q8 := ksv (HF 8) rfl rfl rfl; clear HF; replace h_0 := vx h_0 hE; replace h_1 := vx h_1 hE; clear hE; refine zG (zA (wp_seq ?_))
 refine' rb [_, _] mixed hA hB hO (mv q8 (cn (fun hE hK => gm (ks 0 hK 16 rfl) rfl) .nil)) ?zk3
 intro a3 w3 hA hE hB HF; refine kr4 HF q0 q1 q2 q8 ?_; clear q0 q1 q2 q8; intro q0 q1 q2 q8; have q17 := ksv (HF 17) rfl rfl rfl; clear HF; replace h_0 := vx h_0 hE; replace h_1 := vx h_1 hE; clear hE; refine zG (zA ?_)
 revert h; refine cnd q17 (fun h => ?_) (fun h => ?_)
 ·
  refine wp_seq ?_
  refine' rb [_, _, _] mixed hA hB hO (mv q8 (cn (fun hE hK => zE rfl) (cn (fun hE hK => zE (ks 0 hK 18 rfl)) .nil))) ?zk4
  intro a4 w4 hA hE hB HF; have q6 := ksv (HF 6) rfl rfl rfl; have q7 := ksv (HF 7) rfl rfl rfl; clear q0 q1 q2 q8 q17 HF; replace h_0 := vx h_0 hE; replace h_1 := vx h_1 hE; clear hE; refine zG (zA (wp_ret (zn ?_)))
  have h := Comp.run_pure h; subst h
  exact gi Try.results22 hA q6 q7 hB.ext ⟨_, _, rfl, (OwnR.nil _ _ _ _ _), rfl⟩
 ·
  refine wp_skip (zA (wp_seq ?_)); obtain ⟨x2, hx2, h⟩ := Comp.run_bind h
  refine' rb [_, _, SP.vl (rSl zM) O x2, SP.vl (rSl zM) O x2] mixed hA hB hO (mv q0 (mv q1 (.cons (fun _ _ hE hK hg => yE (yV fn41 (ks 0 hK 19 rfl) (ks 1 hK 20 rfl) (ok_court_voices (OkO.ext hB.ok hE) (vx h_0 hE) (vx h_1 hE) hx2)) (fun _ _ _ h => (OwnR.val h (fun g hg => (OkO.ext hB.ok hE) g (OwnR.ge h g hg).1)))) (cn (fun hE hK => yC (φ := SP.vl (rSl zM) O x2) (kp _ 2 hK 21 rfl)) .nil)))) ?zk5
  intro a5 w5 hA hE hB HF; replace q0 := kf HF q0; replace q2 := kf HF q2; obtain ⟨u3, q9, f4⟩ := kx (HF 9) rfl rfl rfl; clear q1 q8 q17 HF; replace h_0 := vx h_0 hE; replace h_1 := vx h_1 hE; clear hE; refine zG (zA (wp_seq ?_)); obtain ⟨x5, hx5, h⟩ := Comp.run_bind h
  refine' rbT [_, _, _] hA hB hO (mv q0 (cn (fun hE hK => zw (r := zB) ty27 (ks 0 hK 22 rfl) (rd_of (vx h_0 hE))) (cn (fun hE hK => okl_shl rfl (ks 1 hK 23 rfl) (vn hx5)) .nil))) ?zk6
  intro a6 w6 hA hE hB HF; replace q2 := kf HF q2; replace q9 := kf HF q9; have q24 := ksv (HF 24) rfl rfl rfl; clear q0 HF; replace h_0 := vx h_0 hE; replace f4 := vx f4 hE; clear hE; obtain ⟨x6, hx6, h⟩ := Comp.run_bind h
  refine l_ok (φ := SP.ownr rBool 4 w6.heap.size O x6) hO hB (by exact okl_make (r := rBool) (B := w6.heap.size) rfl ty47 ty4 (by decide) rfl (Nat.le_refl _) q24 q24 (fun _ _ => rBool_v.2 rfl) hx6) rfl fun u7 w7 hE hB' f8 => ?_
  clear hB'; obtain ⟨O9, hB', hX, f10⟩ := ownNew hO hB hE f8 rfl 1 (by decide)
  clear hB f8; have hB := hB'; clear hB'; replace f4 := vk f4 hX; clear hX hE
  refine zQ hA (by decide) fun a8 hA q_ hfr => ?_
  refine kd3 hfr q2 q9 q24 ?_; clear q2 q9 q24; intro q2 q9 q24; have q25 := q_; clear q_ hfr
  refine l_ok (φ := SP.isv (u7)) hO hB (by exact zE q25) rfl fun u_ w9 hE hB' hv_ => ?_
  replace hv_ := Eq.symm hv_; subst hv_; clear hB; have hB := hB'; clear hB'
  replace f4 := vx f4 hE; replace f10 := f10.ext hE; clear hE
  refine zQ hA (by decide) fun a10 hA q_ hfr => ?_
  refine kd3 hfr q2 q9 q25 ?_; clear q2 q9 q25; intro q2 q9 q25; have q10 := q_; clear q_ hfr; refine zG (zA ?_)
  refine zh (fun a w => ∃ (O31 : Tags) (x26 : List Bool) (u27 : Value), a.fit 43 ∧ Base (Fr w0) O w0 O31 w ∧ a.get 10 = u27 ∧ (rSl rBool).v O31 w u27 x26 ∧ (jQ x26).run n = some y) ?_ ?_
  ·
   refine wp_seq ?_
   refine' rb [_, _, _] mixed hA hB hO (mv q10 (cn (fun hE hK => zw (r := rBool) ty47 (ks 0 hK 26 rfl) (OwnL.rd (OwnL.ext f10 hE))) (cn (fun hE hK => zJ rfl) .nil))) ?zk7
   intro a11 w11 hA hE hB HF; refine kr3 HF q2 q9 q10 ?_; clear q2 q9 q10; intro q2 q9 q10; have q27 := ksv (HF 27) rfl rfl rfl; have q28 := ksv (HF 28) rfl rfl rfl; clear HF; replace f4 := vx f4 hE; replace f10 := f10.ext hE; clear hE; refine zG (zA (wp_block ?_))
   obtain ⟨O15, hB', hX, f16⟩ := retagL (yI hB) hB f10 2 (by decide) (by decide)
   clear f10 hB; have hB := hB'; clear hB'; replace f4 := vk f4 hX; clear hX
   obtain ⟨e2, he2, hk2⟩ := Comp.run_bind h; clear h
   refine gK (fun m a w => ∃ (O17 : Tags) (x11 : List Bool) (x14 : Int) (u12 : Value), a.fit 43 ∧ Base (Fr w0) O w0 O17 w ∧ a.get 2 = .int .i64 x_2 ∧ a.get 9 = u3 ∧ (rSl zM).v O17 w u3 x2 ∧ a.get 10 = u12 ∧ OwnL 2 rBool 4 (Fr w0) O17 w u12 x11 ∧ a.get 27 = .int .i64 (x6.length : Int) ∧ a.get 28 = .int .i64 x14 ∧ Comp.loopN (fun s => yc x6 x2 x_2 s.1 s.2) n m (x11, x14) = some e2) (m := n) ?st2 ?_
   case st2 =>
    exact ⟨_, _, _, _, hA, hB, q2, q9, f4, q10, f16, q27, q28, Comp.yL he2⟩
   intro m_ a12 w12 hI
   clear hA hB he2 q2 q9 q10 q27 q28 f16 f4
   obtain ⟨O17, x11, x14, u12, hA, hB, q2, q9, f4, q10, f13, q27, q28, hl⟩ := hI
   obtain ⟨m2, hlt2, st2, h, hnext2, hdone2⟩ := Comp.zm hl; clear hl
   replace h : (yc x6 x2 x_2 x11 x14).run n = some st2 := h
   unfold yc at h; refine wp_seq ?_
   refine' rb [_] mixed hA hB hO (cn (fun hE hK => yh (kq hK q28) (kq hK q27)) .nil) ?zk8
   intro a13 w13 hA hE hB HF; refine kr5 HF q2 q9 q10 q27 q28 ?_; clear q2 q9 q10 q27 q28; intro q2 q9 q10 q27 q28; have q29 := ksv (HF 29) rfl rfl rfl; clear HF; replace f4 := vx f4 hE; replace f13 := f13.ext hE; clear hE; refine zG (zA (wp_seq ?_))
   revert h; refine cnd q29 (fun h => ?_) (fun h => ?_)
   ·
    refine wp_skip (zA (wp_seq (wp_block (wp_seq ?_))))
    refine' rb [_, _] mixed hA hB hO (mv q28 (cn (fun hE hK => zE (ks 0 hK 30 rfl)) .nil)) ?zk9
    intro a14 w14 hA hE hB HF; refine kr5 HF q2 q9 q10 q27 q28 ?_; clear q2 q9 q10 q27 q28; intro q2 q9 q10 q27 q28; have q11 := ksv (HF 11) rfl rfl rfl; clear q29 HF; replace f4 := vx f4 hE; replace f13 := f13.ext hE; clear hE; refine zG (zA ?_); obtain ⟨x18, hx18, h⟩ := Comp.run_bind h; obtain ⟨x19, hx19, h⟩ := Comp.run_bind h
    refine' rbT [_, _, _, _, _, SP.isv (.bool x18), SP.elt (u12) (Int.toNat x14 * 1)] hA hB hO (mv q10 (mv q11 (mv q9 (mv q2 (mv q11 (cn (fun hE hK => vY fn40 (ks 2 hK 33 rfl) (ks 3 hK 34 rfl) (ks 4 hK 35 rfl) (ok_court_agrees (OkO.ext hB.ok hE) (vx f4 hE) hx18)) (cn (fun hE hK => okl_idxOwn rfl ty47 ty4 (ksv (j := 0) (hK 31 rfl) rfl rfl rfl) (OwnL.ext f13 hE) (ks 1 hK 32 rfl) (idx_lt hx19)) .nil))))))) ?zk10
    intro a15 w15 hA hE hB HF; refine kr5 HF q2 q9 q10 q27 q28 ?_; clear q2 q9 q10 q27 q28; intro q2 q9 q10 q27 q28; obtain ⟨u20, q37, f21⟩ := kx (HF 37) rfl rfl rfl; have q36 := ksv (HF 36) rfl rfl rfl; clear q11 HF; replace f4 := vx f4 hE; replace f13 := f13.ext hE; clear hE; obtain ⟨x23, hx23, h⟩ := Comp.run_bind h
    refine l_storeElt (r := rBool) (fun _ => rfl) rfl hO hB (yI hB) ty4 q37 f21 f13 q36 (by exact rBool_v.2 rfl) hx23 (by decide) fun w16 f22 hB' hX => ?_
    clear hB; have hB := hB'; clear hB'; replace f4 := vk f4 hX; clear hX f13; refine zG (yJ (zA ?_))
    refine' rb [_, _] mixed hA hB hO (cn (fun hE hK => yp (kq hK q28) rfl) (cn (fun hE hK => zJ (ks 0 hK 38 rfl)) .nil)) ?zk11
    intro a17 w17 hA hE hB HF; refine kr4 HF q2 q9 q10 q27 ?_; clear q2 q9 q10 q27; intro q2 q9 q10 q27; replace q28 := ksv (HF 28) rfl rfl rfl; clear HF; replace f4 := vx f4 hE; replace f22 := f22.ext hE; clear hE; refine zG (zA ?_)
    have h := hnext2 _ (Comp.run_pure h).symm
    refine ⟨m2, hlt2, ?_⟩
    exact ⟨_, _, _, _, hA, hB, q2, q9, f4, q10, f22, q27, q28, h⟩
   ·
    refine wp_exit (zX (zX (ye ?_)))
    have hd_ := hdone2 _ (Comp.run_pure h).symm; clear h
    subst hd_; have h := hk2; clear hk2; try dsimp only at h
    refine zA ?_
    obtain ⟨O29, hB', hX, f30⟩ := freezeL hO hB f13 (by decide)
    clear f13 hB; have hB := hB'; clear hB'; replace f4 := vk f4 hX; clear hX
    exact ⟨_, _, _, hA, hB, q10, f30, h⟩
  intro a18 w18 hI
  clear hA hB h q2 q9 q10 f10 f4
  obtain ⟨O31, x26, u27, hA, hB, q10, f28, h⟩ := hI
  unfold jQ at h; refine wp_seq ?_; obtain ⟨x32, hx32, h⟩ := Comp.run_bind h
  refine' rg [_, SP.tup2 (SP.ownr (rInt .i64) 3 w18.heap.size O31 x32.1) (SP.isv (.int .i64 x32.2)), SP.ownr (rInt .i64) 3 w18.heap.size O31 x32.1, SP.isv (.int .i64 x32.2), SP.ownr (rInt .i64) 3 w18.heap.size O31 x32.1, _] mixed hA (mv q10 (cn (fun hE hK => yE (kF fn51 (ks 0 hK 39 rfl) (ok_core_Conflicts (OkO.ext hB.ok hE) (vx f28 hE) hx32)) (fun _ _ _ ⟨a_, b_, e0_, h0_, h1_⟩ => ⟨a_, b_, e0_, (fun h => (OwnR.base h hE.size)) h0_, h1_⟩)) (cn (fun hE hK => jC (kp (SP.tup2 (SP.ownr (rInt .i64) 3 w18.heap.size O31 x32.1) (SP.isv (.int .i64 x32.2))) 1 hK 40 rfl)) (cn (fun hE hK => jB (kp (SP.tup2 (SP.ownr (rInt .i64) 3 w18.heap.size O31 x32.1) (SP.isv (.int .i64 x32.2))) 1 hK 40 rfl)) (cn (fun hE hK => yC (φ := SP.ownr (rInt .i64) 3 w18.heap.size O31 x32.1) (kp _ 2 hK 41 rfl)) (cn (fun hE hK => zE (ks 3 hK 42 rfl)) .nil)))))) ?zk12
  intro a19 w19 hA hE HF; obtain ⟨u33, q6, f34⟩ := kx (HF 6) rfl rfl rfl; have q7 := ksv (HF 7) rfl rfl rfl; clear q10 HF
  obtain ⟨O35, hB', hX, f36⟩ := ownNew hO hB hE f34 rfl 3 (by decide)
  clear hB f34; have hB := hB'; clear hB'; replace f28 := vk f28 hX; clear hX hE; refine zG (zA (wp_ret ?_))
  have h := Comp.run_pure h; subst h
  exact gi Try.results22 hA q6 q7 hB.ext ⟨_, _, rfl, (OwnL.res f36 (by decide) hB.zero), rfl⟩
theorem vP {O : Tags} {w0 : World} (hO : OkO O w0) {v_0 : Value} {x_0 : List Int} (h_0 : (rSl (rInt .i64)).v O w0 v_0 x_0) {v_1 : Value} {x_1 : List Int} (h_1 : (rSl (rInt .i64)).v O w0 v_1 x_1) {n : Nat} {y : Bool} (h : (zz x_0 x_1).run n = some y) : Pure Try.prog 21 #[v_0, v_1] w0 (SP.isv (.bool y)).holds := by
 unfold zz at h
 refine zU Try.func21 rfl 26 Try.ntmps21 (by simp) fun a0 hA hs0 => ?_
 have q0 : a0.get 0 = v_0 := hs0 0 _ rfl
 have q1 : a0.get 1 = v_1 := hs0 1 _ rfl
 clear hs0
 have hB : Base (Fr w0) O w0 O w0 := Base.start hO
 refine wp_seq ?_
 refine' rb [_] mixed hA hB hO (cn (fun hE hK => zE rfl) .nil) ?zk1
 intro a1 w1 hA hE hB HF; replace q0 := kf HF q0; replace q1 := kf HF q1; clear HF; replace h_0 := vx h_0 hE; replace h_1 := vx h_1 hE; clear hE; refine zG (zA (wp_seq (wp_seq ?_)))
 refine' rb [_, _, _, _, _] mixed hA hB hO (mv q0 (cn (fun hE hK => zw (r := (rInt .i64)) ty23 (ks 0 hK 6 rfl) (rd_of (vx h_0 hE))) (mv q1 (cn (fun hE hK => zw (r := (rInt .i64)) ty23 (ks 2 hK 8 rfl) (rd_of (vx h_1 hE))) (cn (fun hE hK => gm (ks 1 hK 7 rfl) (ks 3 hK 9 rfl)) .nil))))) ?zk2
 intro a2 w2 hA hE hB HF; replace q0 := kf HF q0; replace q1 := kf HF q1; have q10 := ksv (HF 10) rfl rfl rfl; clear HF; replace h_0 := vx h_0 hE; replace h_1 := vx h_1 hE; clear hE
 obtain ⟨x1, hx_, h⟩ := Comp.run_bind h; replace hx_ := Comp.run_pure hx_; rw [hx_] at q10; clear hx_
 refine zG (zA ?_)
 revert h; refine cnd q10 (fun h => ?_) (fun h => ?_)
 ·
  refine wp_seq ?_
  refine' rb [_] mixed hA hB hO (cn (fun hE hK => zE rfl) .nil) ?zk3
  intro a3 w3 hA hE hB HF; have q4 := ksv (HF 4) rfl rfl rfl; clear q0 q1 q10 HF; replace h_0 := vx h_0 hE; replace h_1 := vx h_1 hE; clear hE; refine zG (zA (wp_ret (zn ?_)))
  have h := Comp.run_pure h; subst h
  exact zi Try.results21 hA q4 hB.ext rfl
 ·
  refine wp_skip (zA ?_)
  refine zh (fun a w => ∃ (O7 : Tags), a.fit 26 ∧ Base (Fr w0) O w0 O7 w ∧ (gH ).run n = some y) ?_ ?_
  ·
   refine wp_seq ?_
   refine' rb [_] mixed hA hB hO (cn (fun hE hK => zE rfl) .nil) ?zk4
   intro a4 w4 hA hE hB HF; replace q0 := kf HF q0; replace q1 := kf HF q1; have q5 := ksv (HF 5) rfl rfl rfl; clear q10 HF; replace h_0 := vx h_0 hE; replace h_1 := vx h_1 hE; clear hE; refine zG (zA (wp_block ?_))
   obtain ⟨e2, he2, hk2⟩ := Comp.run_bind h; clear h
   refine gK (fun m a w => ∃ (O3 : Tags) (x2 : Int), a.fit 26 ∧ Base (Fr w0) O w0 O3 w ∧ a.get 0 = v_0 ∧ (rSl (rInt .i64)).v O3 w v_0 x_0 ∧ a.get 1 = v_1 ∧ (rSl (rInt .i64)).v O3 w v_1 x_1 ∧ a.get 5 = .int .i64 x2 ∧ Comp.loopN (fun s => yB x_0 x_1 s) n m x2 = some e2) (m := n) ?st2 ?_
   case st2 =>
    exact ⟨_, _, hA, hB, q0, h_0, q1, h_1, q5, Comp.yL he2⟩
   intro m_ a5 w5 hI
   clear hA hB he2 q0 q1 q5 h_0 h_1
   obtain ⟨O3, x2, hA, hB, q0, h_0, q1, h_1, q5, hl⟩ := hI
   obtain ⟨m2, hlt2, st2, h, hnext2, hdone2⟩ := Comp.zm hl; clear hl
   replace h : (yB x_0 x_1 x2).run n = some st2 := h
   unfold yB at h; refine wp_seq (wp_seq ?_)
   refine' rb [_, _, _, _] mixed hA hB hO (mv q5 (mv q0 (cn (fun hE hK => zw (r := (rInt .i64)) ty23 (ks 1 hK 12 rfl) (rd_of (vx h_0 hE))) (cn (fun hE hK => yh (ks 0 hK 11 rfl) (ks 2 hK 13 rfl)) .nil)))) ?zk5
   intro a6 w6 hA hE hB HF; refine kr3 HF q0 q1 q5 ?_; clear q0 q1 q5; intro q0 q1 q5; have q14 := ksv (HF 14) rfl rfl rfl; clear HF; replace h_0 := vx h_0 hE; replace h_1 := vx h_1 hE; clear hE; refine zG (zA ?_)
   revert h; refine cnd q14 (fun h => ?_) (fun h => ?_)
   ·
    refine wp_skip (zA (wp_seq (wp_block (wp_seq ?_)))); obtain ⟨x4, hx4, h⟩ := Comp.run_bind h; obtain ⟨x5, hx5, h⟩ := Comp.run_bind h
    refine' rb [_, _, SP.ptr (rInt .i64) O3 x4, SP.isv (.int .i64 x4), _, _, SP.ptr (rInt .i64) O3 x5, SP.isv (.int .i64 x5), _] mixed hA hB hO (mv q0 (mv q5 (cn (fun hE hK => vC (r := (rInt .i64)) (O := O3) ty23 ty3 rfl (ks 0 hK 17 rfl) (rd_of (vx h_0 hE)) (ks 1 hK 18 rfl) hx4) (cn (fun hE hK => yD (rInt .i64) (fun _ => rfl) ty3 rfl rfl rfl (kp (SP.ptr (rInt .i64) O3 x4) 2 hK 19 rfl) (fun _ _ _ h => zd.1 h)) (mv q1 (mv q5 (cn (fun hE hK => vC (r := (rInt .i64)) (O := O3) ty23 ty3 rfl (ks 4 hK 21 rfl) (rd_of (vx h_1 hE)) (ks 5 hK 22 rfl) hx5) (cn (fun hE hK => yD (rInt .i64) (fun _ => rfl) ty3 rfl rfl rfl (kp (SP.ptr (rInt .i64) O3 x5) 6 hK 23 rfl) (fun _ _ _ h => zd.1 h)) (cn (fun hE hK => gm (ks 3 hK 20 rfl) (ks 7 hK 24 rfl)) .nil))))))))) ?zk6
    intro a7 w7 hA hE hB HF; refine kr3 HF q0 q1 q5 ?_; clear q0 q1 q5; intro q0 q1 q5; have q25 := ksv (HF 25) rfl rfl rfl; clear q14 HF; replace h_0 := vx h_0 hE; replace h_1 := vx h_1 hE; clear hE; refine zG (zA ?_)
    revert h; refine cnd q25 (fun h => ?_) (fun h => ?_)
    ·
     refine wp_seq ?_
     refine' rb [_] mixed hA hB hO (cn (fun hE hK => zE rfl) .nil) ?zk7
     intro a8 w8 hA hE hB HF; have q4 := ksv (HF 4) rfl rfl rfl; clear q0 q1 q5 q25 HF; replace h_0 := vx h_0 hE; replace h_1 := vx h_1 hE; clear hE; refine zG (zA (wp_ret (gR (zn (zn (gR (zn ?_)))))))
     have hd_ := hdone2 _ (Comp.run_pure h).symm; clear h
     subst hd_; have h := hk2; clear hk2; try dsimp only at h
     have h := Comp.run_pure h; subst h
     exact zi Try.results21 hA q4 hB.ext rfl
    ·
     refine wp_skip (yJ (zA ?_))
     refine' rb [_, _, _] mixed hA hB hO (mv q5 (cn (fun hE hK => yp (ks 0 hK 15 rfl) rfl) (cn (fun hE hK => zE (ks 1 hK 16 rfl)) .nil))) ?zk8
     intro a9 w9 hA hE hB HF; replace q0 := kf HF q0; replace q1 := kf HF q1; replace q5 := ksv (HF 5) rfl rfl rfl; clear q25 HF; replace h_0 := vx h_0 hE; replace h_1 := vx h_1 hE; clear hE; refine zG (zA ?_)
     have h := hnext2 _ (Comp.run_pure h).symm
     refine ⟨m2, hlt2, ?_⟩
     exact ⟨_, _, hA, hB, q0, h_0, q1, h_1, q5, h⟩
   ·
    refine wp_exit (zX (zX (ye ?_)))
    have hd_ := hdone2 _ (Comp.run_pure h).symm; clear h
    subst hd_; have h := hk2; clear hk2; try dsimp only at h
    refine zA ?_
    exact ⟨_, hA, hB, h⟩
  intro a10 w10 hI
  clear hA hB h q0 q1 q10 h_0 h_1
  obtain ⟨O7, hA, hB, h⟩ := hI
  unfold gH at h; refine wp_seq ?_
  refine' rb [_] mixed hA hB hO (cn (fun hE hK => zE rfl) .nil) ?zk9
  intro a11 w11 hA hE hB HF; have q4 := ksv (HF 4) rfl rfl rfl; clear HF; clear hE; refine zG (zA (wp_ret ?_))
  have h := Comp.run_pure h; subst h
  exact zi Try.results21 hA q4 hB.ext rfl
theorem yf {O : Tags} {w0 : World} (hO : OkO O w0) {v_0 : Value} {x_0 : List api_Claim} (h_0 : (rSl zB).v O w0 v_0 x_0) {v_1 : Value} {x_1 : List api_Sight} (h_1 : (rSl zF).v O w0 v_1 x_1) {v_2 : Value} {x_2 : List Int} (h_2 : (rSl (rInt .i64)).v O w0 v_2 x_2) {n : Nat} {y : Bool} (h : (yT x_0 x_1 x_2).run n = some y) : Pure Try.prog 33 #[v_0, v_1, v_2] w0 (SP.isv (.bool y)).holds := by
 unfold yT at h
 refine zU Try.func33 rfl 22 Try.ntmps33 (by simp) fun a0 hA hs0 => ?_
 have q0 : a0.get 0 = v_0 := hs0 0 _ rfl
 have q1 : a0.get 1 = v_1 := hs0 1 _ rfl
 have q2 : a0.get 2 = v_2 := hs0 2 _ rfl
 clear hs0
 have hB : Base (Fr w0) O w0 O w0 := Base.start hO
 refine wp_seq ?_
 refine' rb [_] mixed hA hB hO (cn (fun hE hK => zE rfl) .nil) ?zk1
 intro a1 w1 hA hE hB HF; refine kr3 HF q0 q1 q2 ?_; clear q0 q1 q2; intro q0 q1 q2; clear HF; replace h_0 := vx h_0 hE; replace h_1 := vx h_1 hE; replace h_2 := vx h_2 hE; clear hE; refine zG (zA (wp_seq ?_)); obtain ⟨x1, hx1, h⟩ := Comp.run_bind h
 refine' rb [_, _, SP.tup2 (SP.vl (rSl (rInt .i64)) O x1.1) (SP.isv (.int .i64 x1.2)), SP.tup2 (SP.vl (rSl (rInt .i64)) O x1.1) (SP.isv (.int .i64 x1.2)), SP.vl (rSl (rInt .i64)) O x1.1, SP.isv (.int .i64 x1.2), SP.vl (rSl (rInt .i64)) O x1.1, _] mixed hA hB hO (mv q0 (mv q1 (.cons (fun _ _ hE hK hg => yE (vY fn22 (ks 0 hK 10 rfl) (ks 1 hK 11 rfl) rfl (jK (OkO.ext hB.ok hE) (vx h_0 hE) (vx h_1 hE) hx1)) (fun _ _ _ ⟨a_, b_, e0_, h0_, h1_⟩ => ⟨a_, b_, e0_, (fun h => (OwnR.val h (fun g hg => (OkO.ext hB.ok hE) g (OwnR.ge h g hg).1))) h0_, h1_⟩)) (cn (fun hE hK => vo (φ := SP.tup2 (SP.vl (rSl (rInt .i64)) O x1.1) (SP.isv (.int .i64 x1.2))) (kp _ 2 hK 12 rfl)) (cn (fun hE hK => jC (kp (SP.tup2 (SP.vl (rSl (rInt .i64)) O x1.1) (SP.isv (.int .i64 x1.2))) 3 hK 9 rfl)) (cn (fun hE hK => jB (kp (SP.tup2 (SP.vl (rSl (rInt .i64)) O x1.1) (SP.isv (.int .i64 x1.2))) 3 hK 9 rfl)) (cn (fun hE hK => yC (φ := SP.vl (rSl (rInt .i64)) O x1.1) (kp _ 4 hK 13 rfl)) (cn (fun hE hK => zE (ks 5 hK 14 rfl)) .nil)))))))) ?zk2
 intro a2 w2 hA hE hB HF; replace q2 := kf HF q2; obtain ⟨u2, q7, f3⟩ := kx (HF 7) rfl rfl rfl; have q8 := ksv (HF 8) rfl rfl rfl; clear q0 q1 HF; replace h_0 := vx h_0 hE; replace h_1 := vx h_1 hE; replace h_2 := vx h_2 hE; clear hE; refine zG (zA (wp_seq ?_)); obtain ⟨x4, hx4, h⟩ := Comp.run_bind h
 refine' rb [_, _, _, _, _, SP.isv (.bool x4), _, _] mixed hA hB hO (mv q8 (cn (fun hE hK => yq (ks 0 hK 15 rfl) rfl) (cn (fun hE hK => zJ (ks 1 hK 16 rfl)) (mv q7 (mv q2 (.cons (fun _ _ hE hK hg => yV fn21 (kg 3 hK 18 rfl hg) (kg 4 hK 19 rfl hg) (vP (OkO.ext hB.ok hE) (vx f3 hE) (vx h_2 hE) (yd hx4 hg))) (cn (fun hE hK => za (ks 2 hK 17 rfl) (fun hb => kg 5 hK 20 rfl (zv rfl rfl hb)) (fun _ => rfl)) (cn (fun hE hK => zE (ks 6 hK 21 rfl)) .nil)))))))) ?zk3
 intro a3 w3 hA hE hB HF; have q6 := ksv (HF 6) rfl rfl rfl; clear q2 q7 q8 HF; replace h_2 := vx h_2 hE; replace f3 := vx f3 hE; clear hE
 obtain ⟨x5, hx_, h⟩ := Comp.run_bind h; replace hx_ := Comp.run_pure hx_; rw [hx_] at q6; clear hx_
 refine zG (zA (wp_ret ?_))
 have h := Comp.run_pure h; subst h
 exact zi Try.results33 hA q6 hB.ext rfl
theorem ok_core_Hitting_f1 {O : Tags} {w0 : World} (hO : OkO O w0) {x_0 : Int} {v_1 : Value} {x_1 : Int} (h_1 : (rBox (rInt .i64)).v O w0 v_1 x_1) {n : Nat} {y : Bool} (h : (gu x_0 x_1).run n = some y) : Pure Try.prog 65 #[.int .i64 x_0, v_1] w0 (SP.isv (.bool y)).holds := by
 unfold gu at h
 refine zU Try.func65 rfl 12 Try.ntmps65 (by simp) fun a0 hA hs0 => ?_
 have q0 : a0.get 0 = .int .i64 x_0 := hs0 0 _ rfl
 have q1 : a0.get 1 = v_1 := hs0 1 _ rfl
 clear hs0
 have hB : Base (Fr w0) O w0 O w0 := Base.start hO
 refine wp_seq ?_
 refine' rb [_] mixed hA hB hO (cn (fun hE hK => zE rfl) .nil) ?zk1
 intro a1 w1 hA hE hB HF; replace q0 := kf HF q0; replace q1 := kf HF q1; clear HF; replace h_1 := vx h_1 hE; clear hE; refine zG (zA (wp_seq ?_)); obtain ⟨x1, hx1, h⟩ := Comp.run_bind h
 refine' rb [_, _, _, _, SP.isv (.int .i64 x_1), _, _, _, _] mixed hA hB hO (mv q0 (cn (fun hE hK => yh (ks 0 hK 4 rfl) rfl) (cn (fun hE hK => zJ (ks 1 hK 5 rfl)) (mv q0 (cn (fun hE hK => yD (rInt .i64) (fun _ => rfl) ty3 rfl rfl (kn (hK 1 rfl) rfl q1) (yM (fun _ => rfl) (vx h_1 hE)) (fun _ _ _ h => zd.1 h)) (.cons (fun _ _ hE hK hg => okl_shl rfl (kg 4 hK 8 rfl hg) (vn (yd hx1 hg))) (.cons (fun _ _ hE hK hg => ok_geq (kg 3 hK 7 rfl hg) (kg 5 hK 9 rfl hg)) (cn (fun hE hK => za (ks 2 hK 6 rfl) (fun _ => rfl) (fun hb => kg 6 hK 10 rfl (zv rfl rfl hb))) (cn (fun hE hK => zE (ks 7 hK 11 rfl)) .nil))))))))) ?zk2
 intro a2 w2 hA hE hB HF; have q3 := ksv (HF 3) rfl rfl rfl; clear q0 q1 HF; replace h_1 := vx h_1 hE; clear hE
 obtain ⟨x2, hx_, h⟩ := Comp.run_bind h; replace hx_ := Comp.run_pure hx_; rw [hx_] at q3; clear hx_
 refine zG (zA (wp_ret ?_))
 have h := Comp.run_pure h; subst h
 exact zi Try.results65 hA q3 hB.ext rfl
theorem ok_core_Minimal {O : Tags} {w0 : World} (hO : OkO O w0) {v_0 : Value} {x_0 : List Int} (h_0 : (rSl (rInt .i64)).v O w0 v_0 x_0) {n : Nat} {y : (List Int)} (h : (ke x_0).run n = some y) : Pure Try.prog 66 #[v_0] w0 (SP.ownr (rInt .i64) 3 (w0.heap.size) O y).holds := by
 unfold ke at h
 refine zU Try.func66 rfl 43 Try.ntmps66 (by simp) fun a0 hA hs0 => ?_
 have q0 : a0.get 0 = v_0 := hs0 0 _ rfl
 clear hs0
 have hB : Base (Fr w0) O w0 O w0 := Base.start hO
 refine wp_seq ?_
 refine' rb [_] mixed hA hB hO (cn (fun hE hK => zE rfl) .nil) ?zk1
 intro a1 w1 hA hE hB HF; replace q0 := kf HF q0; clear HF; replace h_0 := vx h_0 hE; clear hE; refine zG (zA (wp_scope_straight (wp_seq ?_)))
 refine' rbT [_] hA hB hO (mv q0 .nil) ?zk2
 intro a2 w2 hA hE hB HF; replace q0 := kf HF q0; have q8 := ksv (HF 8) rfl rfl rfl; clear HF; replace h_0 := vx h_0 hE; clear hE; obtain ⟨x1, hx1, h⟩ := Comp.run_bind h
 refine l_ok (φ := SP.ownr (rInt .i64) 3 w2.heap.size O x1) hO hB (by have c_ := kD hB.ok h_0 hx1; exact yE (kF fn77 q8 c_) (fun _ _ _ h => h)) rfl fun u2 w3 hE hB' f3 => ?_
 clear hB'; obtain ⟨O4, hB', hX, f5⟩ := ownNew hO hB hE f3 rfl 1 (by decide)
 clear hB f3; have hB := hB'; clear hB'; replace h_0 := vk h_0 hX; clear hX hE
 refine zQ hA (by decide) fun a4 hA q_ hfr => ?_
 replace q0 := (hfr _ rfl).trans q0; replace q8 := (hfr _ rfl).trans q8; have q9 := q_; clear q_ hfr
 refine l_ok (φ := SP.isv (u2)) hO hB (by exact zE q9) rfl fun u_ w5 hE hB' hv_ => ?_
 replace hv_ := Eq.symm hv_; subst hv_; clear hB; have hB := hB'; clear hB'
 replace h_0 := vx h_0 hE; replace f5 := f5.ext hE; clear hE
 refine zQ hA (by decide) fun a6 hA q_ hfr => ?_
 replace q9 := (hfr 9 rfl).trans q9
 clear q0; have q0 := q_; clear q_ hfr; refine zG (zA (wp_seq ?_))
 refine' rbT [_] hA hB hO (mv q0 .nil) ?zk3
 intro a7 w7 hA hE hB HF; replace q0 := kf HF q0; have q10 := ksv (HF 10) rfl rfl rfl; clear HF; replace f5 := f5.ext hE; clear hE; obtain ⟨x6, hx6, h⟩ := Comp.run_bind h
 refine l_io (r := (rInt .i64)) (E := 3) (k := 1) hO hB (yI hB) fn80 (map1 q10) (m_sort Try.slices_Sort_int Try.slices_Sort_int_none hB.ok (OwnL.arg f5 (by decide)) hx6) f5 (by decide) fun u8 u7 w8 O9 f10 hB' hX hps => ?_
 clear hB; have hB := hB'; clear hB'; clear f5
 replace hps : _ = _ := hps; subst hps
 clear hX
 refine zQ hA (by decide) fun a9 hA q_ hfr => ?_
 replace q0 := (hfr _ rfl).trans q0; replace q10 := (hfr _ rfl).trans q10; have q11 := q_; clear q_ hfr; refine zG (zA (wp_seq ?_))
 refine' rbT [_] hA hB hO (mv q0 .nil) ?zk4
 intro a10 w10 hA hE hB HF; replace q0 := kf HF q0; have q12 := ksv (HF 12) rfl rfl rfl; clear HF; replace f10 := f10.ext hE; clear hE; obtain ⟨x11, hx11, h⟩ := Comp.run_bind h
 refine l_io (r := (rInt .i64)) (E := 3) (k := 1) hO hB (yI hB) fn76 (map1 q12) (m_compact Try.slices_Compact_int Try.slices_Compact_int_empty hB.ok (OwnL.arg f10 (by decide)) hx11) f10 (by decide) fun u13 u12 w11 O14 f15 hB' hX hps => ?_
 clear hB; have hB := hB'; clear hB'; clear f10
 replace hps : _ = _ := hps; subst hps
 clear hX
 refine zQ hA (by decide) fun a12 hA q_ hfr => ?_
 replace q0 := (hfr _ rfl).trans q0; replace q12 := (hfr _ rfl).trans q12; have q13 := q_; clear q_ hfr
 refine l_ok (φ := SP.isv (u13)) hO hB (by exact zE q13) rfl fun u_ w13 hE hB' hv_ => ?_
 replace hv_ := Eq.symm hv_; subst hv_; clear hB; have hB := hB'; clear hB'
 replace f15 := f15.ext hE; clear hE
 refine zQ hA (by decide) fun a14 hA q_ hfr => ?_
 replace q13 := (hfr 13 rfl).trans q13
 clear q0; have q0 := q_; clear q_ hfr; refine zG (zA (wp_seq ?_))
 refine' rb [_] mixed hA hB hO (cn (fun hE hK => zE rfl) .nil) ?zk5
 intro a15 w15 hA hE hB HF; replace q0 := kf HF q0; have q3 := ksv (HF 3) rfl rfl rfl; clear HF; replace f15 := f15.ext hE; clear hE; refine zG (zA (wp_seq (wp_label (zA ?_))))
 refine zh (fun a w => ∃ (O42 : Tags) (x39 : List Int) (u40 : Value), a.fit 43 ∧ Base (Fr w0) O w0 O42 w ∧ a.get 3 = u40 ∧ OwnL 2 (rInt .i64) 3 (Fr w0) O42 w u40 x39 ∧ (kL x39).run n = some y) ?_ ?_
 ·
  refine wp_seq ?_
  refine' rb [_, _, _] mixed hA hB hO (mv q0 (cn (fun hE hK => zw (r := (rInt .i64)) ty23 (ks 0 hK 14 rfl) (OwnL.rd (OwnL.ext f15 hE))) (cn (fun hE hK => zJ rfl) .nil))) ?zk6
  intro a16 w16 hA hE hB HF; replace q0 := kf HF q0; replace q3 := kf HF q3; have q14 := ksv (HF 14) rfl rfl rfl; have q15 := ksv (HF 15) rfl rfl rfl; have q16 := ksv (HF 16) rfl rfl rfl; clear HF; replace f15 := f15.ext hE; clear hE; refine zG (zA (wp_block ?_))
  obtain ⟨e2, he2, hk2⟩ := Comp.run_bind h; clear h
  refine gK (fun m a w => ∃ (O20 : Tags) (x16 : List Int) (x19 : Int) (u17 : Value), a.fit 43 ∧ Base (Fr w0) O w0 O20 w ∧ a.get 0 = u13 ∧ OwnL 1 (rInt .i64) 3 (Fr w0) O20 w u13 x11 ∧ a.get 3 = u17 ∧ OwnL 2 (rInt .i64) 3 (Fr w0) O20 w u17 x16 ∧ a.get 14 = u13 ∧ a.get 15 = .int .i64 (x11.length : Int) ∧ a.get 16 = .int .i64 x19 ∧ Comp.loopN (fun s => vS x11 s.1 s.2) n m (x16, x19) = some e2) (m := n) ?st2 ?_
  case st2 =>
   exact ⟨_, _, _, _, hA, hB, q0, f15, q3, (OwnL.nil _ _ _ _ _ _), q14, q15, q16, Comp.yL he2⟩
  intro m_ a17 w17 hI
  clear hA hB he2 q0 q3 q14 q15 q16 f15
  obtain ⟨O20, x16, x19, u17, hA, hB, q0, f15, q3, f18, q14, q15, q16, hl⟩ := hI
  obtain ⟨m2, hlt2, st2, h, hnext2, hdone2⟩ := Comp.zm hl; clear hl
  replace h : (vS x11 x16 x19).run n = some st2 := h
  unfold vS at h; refine wp_seq ?_
  refine' rb [_] mixed hA hB hO (cn (fun hE hK => yh (kq hK q16) (kq hK q15)) .nil) ?zk7
  intro a18 w18 hA hE hB HF; refine kr5 HF q0 q3 q14 q15 q16 ?_; clear q0 q3 q14 q15 q16; intro q0 q3 q14 q15 q16; have q17 := ksv (HF 17) rfl rfl rfl; clear HF; replace f15 := f15.ext hE; replace f18 := f18.ext hE; clear hE; refine zG (zA (wp_seq ?_))
  revert h; refine cnd q17 (fun h => ?_) (fun h => ?_)
  ·
   refine wp_skip (zA ?_)
   refine zh (fun a w => ∃ (O36 : Tags) (x26 : List Int) (u27 : Value), a.fit 43 ∧ Base (Fr w0) O w0 O36 w ∧ a.get 0 = u13 ∧ OwnL 1 (rInt .i64) 3 (Fr w0) O36 w u13 x11 ∧ a.get 3 = u27 ∧ OwnL 2 (rInt .i64) 3 (Fr w0) O36 w u27 x26 ∧ a.get 14 = u13 ∧ a.get 15 = .int .i64 (x11.length : Int) ∧ a.get 16 = .int .i64 x19 ∧ (gq x19 x26).run n = some st2) ?_ ?_
   ·
    refine wp_block (wp_seq ?_); obtain ⟨x21, hx21, h⟩ := Comp.run_bind h
    refine' rb [SP.ptr (rInt .i64) O20 x21, SP.isv (.int .i64 x21), _] mixed hA hB hO (cn (fun hE hK => vC (r := (rInt .i64)) (O := O20) ty23 ty3 rfl (kq hK q14) (OwnL.rd (OwnL.ext f15 hE)) (kq hK q16) hx21) (cn (fun hE hK => yD (rInt .i64) (fun _ => rfl) ty3 rfl rfl rfl (kp (SP.ptr (rInt .i64) O20 x21) 0 hK 18 rfl) (fun _ _ _ h => zd.1 h)) (cn (fun hE hK => zE (ks 1 hK 19 rfl)) .nil))) ?zk8
    intro a19 w19 hA hE hB HF; refine kr5 HF q0 q3 q14 q15 q16 ?_; clear q0 q3 q14 q15 q16; intro q0 q3 q14 q15 q16; have q5 := ksv (HF 5) rfl rfl rfl; clear q17 HF; replace f15 := f15.ext hE; replace f18 := f18.ext hE; clear hE; refine zG (zA ?_)
    refine zh (fun a w => ∃ (O29 : Tags), a.fit 43 ∧ Base (Fr w0) O w0 O29 w ∧ a.get 0 = u13 ∧ OwnL 1 (rInt .i64) 3 (Fr w0) O29 w u13 x11 ∧ a.get 3 = u17 ∧ OwnL 2 (rInt .i64) 3 (Fr w0) O29 w u17 x16 ∧ a.get 5 = .int .i64 x21 ∧ a.get 14 = u13 ∧ a.get 15 = .int .i64 (x11.length : Int) ∧ a.get 16 = .int .i64 x19 ∧ (jd x16 x21 x19 ).run n = some st2) ?_ ?_
    ·
     refine wp_seq ?_
     refine' rb [_, _, _] mixed hA hB hO (mv q0 (cn (fun hE hK => zw (r := (rInt .i64)) ty23 (ks 0 hK 20 rfl) (OwnL.rd (OwnL.ext f15 hE))) (cn (fun hE hK => zJ rfl) .nil))) ?zk9
     intro a20 w20 hA hE hB HF; refine kr6 HF q0 q3 q5 q14 q15 q16 ?_; clear q0 q3 q5 q14 q15 q16; intro q0 q3 q5 q14 q15 q16; have q20 := ksv (HF 20) rfl rfl rfl; have q21 := ksv (HF 21) rfl rfl rfl; have q22 := ksv (HF 22) rfl rfl rfl; clear HF; replace f15 := f15.ext hE; replace f18 := f18.ext hE; clear hE; refine zG (zA (wp_block ?_))
     obtain ⟨e5, he5, hk5⟩ := Comp.run_bind h; clear h
     refine gK (fun m a w => ∃ (O23 : Tags) (x22 : Int), a.fit 43 ∧ Base (Fr w0) O w0 O23 w ∧ a.get 0 = u13 ∧ OwnL 1 (rInt .i64) 3 (Fr w0) O23 w u13 x11 ∧ a.get 3 = u17 ∧ OwnL 2 (rInt .i64) 3 (Fr w0) O23 w u17 x16 ∧ a.get 5 = .int .i64 x21 ∧ a.get 14 = u13 ∧ a.get 15 = .int .i64 (x11.length : Int) ∧ a.get 16 = .int .i64 x19 ∧ a.get 20 = u13 ∧ a.get 21 = .int .i64 (x11.length : Int) ∧ a.get 22 = .int .i64 x22 ∧ Comp.loopN (fun s => gP x11 x21 s) n m x22 = some e5) (m := n) ?st5 ?_
     case st5 =>
      exact ⟨_, _, hA, hB, q0, f15, q3, f18, q5, q14, q15, q16, q20, q21, q22, Comp.yL he5⟩
     intro m_ a21 w21 hI
     clear hA hB he5 q0 q3 q5 q14 q15 q16 q20 q21 q22 f15 f18
     obtain ⟨O23, x22, hA, hB, q0, f15, q3, f18, q5, q14, q15, q16, q20, q21, q22, hl⟩ := hI
     obtain ⟨m5, hlt5, st5, h, hnext5, hdone5⟩ := Comp.zm hl; clear hl
     replace h : (gP x11 x21 x22).run n = some st5 := h
     unfold gP at h; refine wp_seq ?_
     refine' rb [_] mixed hA hB hO (cn (fun hE hK => yh (kq hK q22) (kq hK q21)) .nil) ?zk10
     intro a22 w22 hA hE hB HF; refine kr9 HF q0 q3 q5 q14 q15 q16 q20 q21 q22 ?_; clear q0 q3 q5 q14 q15 q16 q20 q21 q22; intro q0 q3 q5 q14 q15 q16 q20 q21 q22; have q23 := ksv (HF 23) rfl rfl rfl; clear HF; replace f15 := f15.ext hE; replace f18 := f18.ext hE; clear hE; refine zG (zA (wp_seq ?_))
     revert h; refine cnd q23 (fun h => ?_) (fun h => ?_)
     ·
      refine wp_skip (zA (wp_seq (wp_block (wp_seq ?_)))); obtain ⟨x24, hx24, h⟩ := Comp.run_bind h
      refine' rb [SP.ptr (rInt .i64) O23 x24, SP.isv (.int .i64 x24), _] mixed hA hB hO (cn (fun hE hK => vC (r := (rInt .i64)) (O := O23) ty23 ty3 rfl (kq hK q20) (OwnL.rd (OwnL.ext f15 hE)) (kq hK q22) hx24) (cn (fun hE hK => yD (rInt .i64) (fun _ => rfl) ty3 rfl rfl rfl (kp (SP.ptr (rInt .i64) O23 x24) 0 hK 24 rfl) (fun _ _ _ h => zd.1 h)) (cn (fun hE hK => zE (ks 1 hK 25 rfl)) .nil))) ?zk11
      intro a23 w23 hA hE hB HF; refine kr9 HF q0 q3 q5 q14 q15 q16 q20 q21 q22 ?_; clear q0 q3 q5 q14 q15 q16 q20 q21 q22; intro q0 q3 q5 q14 q15 q16 q20 q21 q22; have q7 := ksv (HF 7) rfl rfl rfl; clear q23 HF; replace f15 := f15.ext hE; replace f18 := f18.ext hE; clear hE; refine zG (zA (wp_seq ?_))
      refine' rb [_, _, _, _, _, _, _, _, _, _] mixed hA hB hO (mv q7 (mv q5 (cn (fun hE hK => gm (ks 0 hK 26 rfl) (ks 1 hK 27 rfl)) (cn (fun hE hK => zJ (ks 2 hK 28 rfl)) (mv q5 (mv q7 (.cons (fun _ _ hE hK hg => okb_and (kg 4 hK 30 rfl hg) (kg 5 hK 31 rfl hg)) (mv q7 (.cons (fun _ _ hE hK hg => yq (kg 6 hK 32 rfl hg) (kg 7 hK 33 rfl hg)) (cn (fun hE hK => za (ks 3 hK 29 rfl) (fun hb => kg 8 hK 34 rfl (zv rfl rfl hb)) (fun _ => rfl)) .nil)))))))))) ?zk12
      intro a24 w24 hA hE hB HF; refine kr9 HF q0 q3 q5 q14 q15 q16 q20 q21 q22 ?_; clear q0 q3 q5 q14 q15 q16 q20 q21 q22; intro q0 q3 q5 q14 q15 q16 q20 q21 q22; have q35 := ksv (HF 35) rfl rfl rfl; clear q7 HF; replace f15 := f15.ext hE; replace f18 := f18.ext hE; clear hE
      obtain ⟨x25, hx_, h⟩ := Comp.run_bind h; replace hx_ := Comp.run_pure hx_; rw [hx_] at q35; clear hx_
      refine zG (zA ?_)
      revert h; refine cnd q35 (fun h => ?_) (fun h => ?_)
      ·
       refine wp_exit ?_
       refine (ex_other rfl (zX (zX (ex_other rfl (zX (ye ?_))))))
       have hd_ := hdone5 _ (Comp.run_pure h).symm; clear h
       subst hd_; have h := hk5; clear hk5; try dsimp only at h
       refine zA ?_
       exact ⟨_, _, _, hA, hB, q0, f15, q3, f18, q14, q15, q16, h⟩
      ·
       refine wp_skip (yJ (zA ?_))
       refine' rb [_, _] mixed hA hB hO (cn (fun hE hK => yp (kq hK q22) rfl) (cn (fun hE hK => zJ (ks 0 hK 36 rfl)) .nil)) ?zk13
       intro a25 w25 hA hE hB HF; refine kr8 HF q0 q3 q5 q14 q15 q16 q20 q21 ?_; clear q0 q3 q5 q14 q15 q16 q20 q21; intro q0 q3 q5 q14 q15 q16 q20 q21; replace q22 := ksv (HF 22) rfl rfl rfl; clear q35 HF; replace f15 := f15.ext hE; replace f18 := f18.ext hE; clear hE; refine zG (zA ?_)
       have h := hnext5 _ (Comp.run_pure h).symm
       refine ⟨m5, hlt5, ?_⟩
       exact ⟨_, _, hA, hB, q0, f15, q3, f18, q5, q14, q15, q16, q20, q21, q22, h⟩
     ·
      refine wp_exit (zX (zX (ye ?_)))
      have hd_ := hdone5 _ (Comp.run_pure h).symm; clear h
      subst hd_; have h := hk5; clear hk5; try dsimp only at h
      refine zA ?_
      exact ⟨_, hA, hB, q0, f15, q3, f18, q5, q14, q15, q16, h⟩
    intro a26 w26 hI
    clear hA hB h q0 q3 q5 q14 q15 q16 f15 f18
    obtain ⟨O29, hA, hB, q0, f15, q3, f18, q5, q14, q15, q16, h⟩ := hI
    unfold jd at h
    refine' rbT [_, _, SP.vl (rSl (rInt .i64)) O29 [x21]] hA hB hO (mv q3 (mv q5 (cn (fun hE hK => zN (r := (rInt .i64)) (fun _ => rfl) rfl (OkO.ext hB.ok hE) ty23 ty3 (zR (ks 1 hK 38 rfl) zl) ⟨(by exact zd.2 rfl), trivial⟩ rfl (by decide)) .nil))) ?zk14
    intro a27 w27 hA hE hB HF; refine kr5 HF q0 q3 q14 q15 q16 ?_; clear q0 q3 q14 q15 q16; intro q0 q3 q14 q15 q16; obtain ⟨u30, q39, f31⟩ := kx (HF 39) rfl rfl rfl; have q37 := ksv (HF 37) rfl rfl rfl; clear q5 HF; replace f15 := f15.ext hE; replace f18 := f18.ext hE; clear hE; obtain ⟨x32, hx32, h⟩ := Comp.run_bind h
    refine jP (r := (rInt .i64)) (fun _ => rfl) rfl ty23 ty3 rfl (by decide) hO hB (yI hB) q37 f18 q39 (rd_of f31) hx32 (by decide) fun u33 w28 O34 f35 hB' hX => ?_
    clear hB; have hB := hB'; clear hB'; clear f18
    replace f15 := f15.kx hX (by decide) (by decide)
    replace f31 := vk f31 hX; clear hX
    refine zQ hA (by decide) fun a29 hA q_ hfr => ?_
    refine kd7 hfr q0 q3 q14 q15 q16 q37 q39 ?_; clear q0 q3 q14 q15 q16 q37 q39; intro q0 q3 q14 q15 q16 q37 q39; have q40 := q_; clear q_ hfr
    refine l_ok (φ := SP.isv (u33)) hO hB (by exact zE q40) rfl fun u_ w30 hE hB' hv_ => ?_
    replace hv_ := Eq.symm hv_; subst hv_; clear hB; have hB := hB'; clear hB'
    replace f15 := f15.ext hE; replace f35 := f35.ext hE; clear hE
    refine zQ hA (by decide) fun a31 hA q_ hfr => ?_
    replace q0 := (hfr 0 rfl).trans q0
    replace q14 := (hfr 14 rfl).trans q14
    replace q15 := (hfr 15 rfl).trans q15
    replace q16 := (hfr 16 rfl).trans q16
    replace q40 := (hfr 40 rfl).trans q40
    clear q3; have q3 := q_; clear q_ hfr; refine zG (yJ (zA ?_))
    exact ⟨_, _, _, hA, hB, q0, f15, q3, f35, q14, q15, q16, h⟩
   intro a32 w32 hI
   clear hA hB h q0 q3 q14 q15 q16 q17 f15 f18
   obtain ⟨O36, x26, u27, hA, hB, q0, f15, q3, f28, q14, q15, q16, h⟩ := hI
   unfold gq at h
   refine' rb [_, _] mixed hA hB hO (cn (fun hE hK => yp (kq hK q16) rfl) (cn (fun hE hK => zJ (ks 0 hK 41 rfl)) .nil)) ?zk15
   intro a33 w33 hA hE hB HF; refine kr4 HF q0 q3 q14 q15 ?_; clear q0 q3 q14 q15; intro q0 q3 q14 q15; replace q16 := ksv (HF 16) rfl rfl rfl; clear HF; replace f15 := f15.ext hE; replace f28 := f28.ext hE; clear hE; refine zG (zA ?_)
   have h := hnext2 _ (Comp.run_pure h).symm
   refine ⟨m2, hlt2, ?_⟩
   exact ⟨_, _, _, _, hA, hB, q0, f15, q3, f28, q14, q15, q16, h⟩
  ·
   refine wp_exit (zX (zX (ye ?_)))
   have hd_ := hdone2 _ (Comp.run_pure h).symm; clear h
   subst hd_; have h := hk2; clear hk2; try dsimp only at h
   refine zA ?_
   exact ⟨_, _, _, hA, hB, q3, f18, h⟩
 intro a34 w34 hI
 clear hA hB h q0 q3 f15
 obtain ⟨O42, x39, u40, hA, hB, q3, f41, h⟩ := hI
 unfold kL at h; refine wp_seq ?_
 refine' rb [_, _] mixed hA hB hO (mv q3 (cn (fun hE hK => zE (ks 0 hK 42 rfl)) .nil)) ?zk16
 intro a35 w35 hA hE hB HF; have q2 := ksv (HF 2) rfl rfl rfl; clear q3 HF; replace f41 := f41.ext hE; clear hE; refine zG (zA (wp_ret (rt_sc ?_)))
 have h := Comp.run_pure h; subst h
 exact zi Try.results66 hA q2 hB.ext (OwnL.res f41 (by decide) hB.zero)
end Go.Proofs.Ytebmpjdegajhgaa
end
section
namespace Go.Proofs.Ytebmpjdegajhgaa
open Go Go.RowKit Go.Eng Go.Lift Go.F
set_option linter.unusedVariables false
set_option linter.unusedSimpArgs false
set_option maxRecDepth 100000
set_option maxHeartbeats 4000000 in
theorem ok_core_Hitting {O : Tags} {w0 : World} (hO : OkO O w0) {v_0 : Value} {x_0 : List Int} (h_0 : (rSl (rInt .i64)).v O w0 v_0 x_0) {x_1 : Int} {n : Nat} {y : ((List Int) × Int)} (h : (jw x_0 x_1).run n = some y) : Pure Try.prog 43 #[v_0, .int .i64 x_1] w0 (SP.tup2 (SP.ownr (rInt .i64) 3 (w0.heap.size) O y.1) (SP.isv (.int .i64 y.2))).holds := by
 unfold jw at h
 refine zU Try.func43 rfl 67 Try.ntmps43 (by simp) fun a0 hA hs0 => ?_
 have q0 : a0.get 0 = v_0 := hs0 0 _ rfl
 have q1 : a0.get 1 = .int .i64 x_1 := hs0 1 _ rfl
 clear hs0
 have hB : Base (Fr w0) O w0 O w0 := Base.start hO
 refine wp_seq ?_
 refine' rb [SP.vl (rBox (rInt .i64)) O x_1, _, _] mixed hA hB hO (cn (fun hE hK => kC (r := (rInt .i64)) (fun _ => rfl) (OkO.ext hB.ok hE) (kq hK q1) (by exact zd.2 rfl)) (cn (fun hE hK => zE rfl) (cn (fun hE hK => zE rfl) .nil))) ?zk1
 intro a1 w1 hA hE hB HF; replace q0 := kf HF q0; obtain ⟨u1, q3, f2⟩ := kx (HF 3) rfl rfl rfl; clear q1 HF; replace h_0 := vx h_0 hE; clear hE; refine zG (zA (wp_seq (wp_seq ?_)))
 refine' rb [SP.isv (.int .i64 x_1), _, _, SP.isv (.int .i64 x_1), _, _] mixed hA hB hO (cn (fun hE hK => yD (rInt .i64) (fun _ => rfl) ty3 rfl rfl (kn (hK 3 rfl) rfl q3) (yM (fun _ => rfl) (vx f2 hE)) (fun _ _ _ h => zd.1 h)) (cn (fun hE hK => yh (ks 0 hK 14 rfl) rfl) (cn (fun hE hK => zJ (ks 1 hK 15 rfl)) (cn (fun hE hK => yD (rInt .i64) (fun _ => rfl) ty3 rfl rfl (kn (hK 3 rfl) rfl q3) (yM (fun _ => rfl) (vx f2 hE)) (fun _ _ _ h => zd.1 h)) (.cons (fun _ _ hE hK hg => ok_gtr (kg 3 hK 17 rfl hg) rfl) (cn (fun hE hK => za (ks 2 hK 16 rfl) (fun _ => rfl) (fun hb => kg 4 hK 18 rfl (zv rfl rfl hb))) .nil)))))) ?zk2
 intro a2 w2 hA hE hB HF; replace q0 := kf HF q0; replace q3 := kf HF q3; have q19 := ksv (HF 19) rfl rfl rfl; clear HF; replace h_0 := vx h_0 hE; replace f2 := vx f2 hE; clear hE
 obtain ⟨x3, hx_, h⟩ := Comp.run_bind h; replace hx_ := Comp.run_pure hx_; rw [hx_] at q19; clear hx_
 refine zG (zA ?_)
 revert h; refine cnd q19 (fun h => ?_) (fun h => ?_)
 ·
  refine wp_seq ?_
  refine' rb [_, _] mixed hA hB hO (cn (fun hE hK => zE rfl) (cn (fun hE hK => zE rfl) .nil)) ?zk3
  intro a3 w3 hA hE hB HF; have q4 := ksv (HF 4) rfl rfl rfl; have q5 := ksv (HF 5) rfl rfl rfl; clear q0 q3 q19 HF; replace h_0 := vx h_0 hE; replace f2 := vx f2 hE; clear hE; refine zG (zA (wp_ret (zn ?_)))
  have h := Comp.run_pure h; subst h
  exact gi Try.results43 hA q4 q5 hB.ext ⟨_, _, rfl, (OwnR.nil _ _ _ _ _), rfl⟩
 ·
  refine wp_skip (zA (wp_seq ?_))
  refine' rb [SP.isv (.func (.func 65) #[] #[u1]), _] mixed hA hB hO (cn (fun hE hK => jX map0 (map1 (kq hK q3))) (cn (fun hE hK => zE (ks 0 hK 20 rfl)) .nil)) ?zk4
  intro a4 w4 hA hE hB HF; replace q0 := kf HF q0; replace q3 := kf HF q3; have q6 := ksv (HF 6) rfl rfl rfl; clear q19 HF; replace h_0 := vx h_0 hE; replace f2 := vx f2 hE; clear hE
  have f4 : (rF1 Try.prog (rInt .i64) (RS.c (fun x => .bool x))).v O w4 (.func (.func 65) #[] #[u1]) (fun z0 => gu z0 x_1) := rF1_v.2 ⟨rfl, fun O' w' hO' hk v_0 x_0 hv_0 n_ y_ hy_ => by obtain rfl := zd.1 hv_0; exact jx fn65 (ok_core_Hitting_f1 hO'  (GR.zI _ f2 hk) hy_)⟩
  refine zG (zA (wp_seq (wp_seq ?_))); obtain ⟨x5, hx5, h⟩ := Comp.run_bind h
  refine' rb [_, _, SP.isv (.bool x5)] mixed hA hB hO (mv q0 (mv q6 (cn (fun hE hK => yV fn48 (ks 0 hK 21 rfl) (ks 1 hK 22 rfl) (yt (OkO.ext hB.ok hE) (vx h_0 hE) (vx f4 hE) hx5)) .nil))) ?zk5
  intro a5 w5 hA hE hB HF; replace q0 := kf HF q0; replace q3 := kf HF q3; have q23 := ksv (HF 23) rfl rfl rfl; clear q6 HF; replace h_0 := vx h_0 hE; replace f2 := vx f2 hE; replace f4 := vx f4 hE; clear hE; refine zG (zA ?_)
  revert h; refine cnd q23 (fun h => ?_) (fun h => ?_)
  ·
   refine wp_seq ?_
   refine' rb [_, _] mixed hA hB hO (cn (fun hE hK => zE rfl) (cn (fun hE hK => zE rfl) .nil)) ?zk6
   intro a6 w6 hA hE hB HF; have q4 := ksv (HF 4) rfl rfl rfl; have q5 := ksv (HF 5) rfl rfl rfl; clear q0 q3 q23 HF; replace h_0 := vx h_0 hE; replace f2 := vx f2 hE; clear hE; refine zG (zA (wp_ret (zn ?_)))
   have h := Comp.run_pure h; subst h
   exact gi Try.results43 hA q4 q5 hB.ext ⟨_, _, rfl, (OwnR.nil _ _ _ _ _), rfl⟩
  ·
   refine wp_skip (zA (wp_seq ?_))
   refine' rbT [] hA hB hO .nil ?zk7
   intro a7 w7 hA hE hB HF; replace q0 := kf HF q0; replace q3 := kf HF q3; clear q23 HF; replace h_0 := vx h_0 hE; replace f2 := vx f2 hE; clear hE
   refine l_ok (φ := SP.ownr (rInt .i64) 3 w7.heap.size O [0]) hO hB (by exact jH (r := (rInt .i64)) (fun _ => rfl) rfl hB.ok ty23 ty3 (Nat.le_refl _) (zR rfl zl) ⟨(by exact zd.2 rfl), trivial⟩ rfl (by decide)) rfl fun u6 w8 hE hB' f7 => ?_
   clear hB'; obtain ⟨O8, hB', hX, f9⟩ := ownNew hO hB hE f7 rfl 1 (by decide)
   clear hB f7; have hB := hB'; clear hB'; replace h_0 := vk h_0 hX; replace f2 := vk f2 hX; clear hX hE
   refine zQ hA (by decide) fun a9 hA q_ hfr => ?_
   replace q0 := (hfr _ rfl).trans q0; replace q3 := (hfr _ rfl).trans q3; have q24 := q_; clear q_ hfr
   refine l_ok (φ := SP.isv (u6)) hO hB (by exact zE q24) rfl fun u_ w10 hE hB' hv_ => ?_
   replace hv_ := Eq.symm hv_; subst hv_; clear hB; have hB := hB'; clear hB'
   replace h_0 := vx h_0 hE; replace f2 := vx f2 hE; replace f9 := f9.ext hE; clear hE
   refine zQ hA (by decide) fun a11 hA q_ hfr => ?_
   refine kd3 hfr q0 q3 q24 ?_; clear q0 q3 q24; intro q0 q3 q24; have q7 := q_; clear q_ hfr; refine zG (zA ?_)
   refine zh (fun a w => ∃ (O74 : Tags) (x71 : List Int) (u72 : Value), a.fit 67 ∧ Base (Fr w0) O w0 O74 w ∧ a.get 7 = u72 ∧ OwnL 2 (rInt .i64) 3 (Fr w0) O74 w u72 x71 ∧ (kN x71).run n = some y) ?_ ?_
   ·
    refine wp_seq ?_
    refine' rb [_, _, _] mixed hA hB hO (mv q0 (cn (fun hE hK => zw (r := (rInt .i64)) ty23 (ks 0 hK 25 rfl) (rd_of (vx h_0 hE))) (cn (fun hE hK => zJ rfl) .nil))) ?zk8
    intro a12 w12 hA hE hB HF; replace q3 := kf HF q3; replace q7 := kf HF q7; have q25 := ksv (HF 25) rfl rfl rfl; have q26 := ksv (HF 26) rfl rfl rfl; have q27 := ksv (HF 27) rfl rfl rfl; clear q0 HF; replace h_0 := vx h_0 hE; replace f2 := vx f2 hE; replace f9 := f9.ext hE; clear hE; refine zG (zA (wp_block ?_))
    obtain ⟨O14, hB', hX, f15⟩ := retagL (yI hB) hB f9 2 (by decide) (by decide)
    clear f9 hB; have hB := hB'; clear hB'; replace f2 := vk f2 hX; replace h_0 := vk h_0 hX; clear hX
    obtain ⟨e2, he2, hk2⟩ := Comp.run_bind h; clear h
    refine gK (fun m a w => ∃ (O16 : Tags) (x10 : List Int) (x13 : Int) (u11 : Value), a.fit 67 ∧ Base (Fr w0) O w0 O16 w ∧ a.get 3 = u1 ∧ (rBox (rInt .i64)).v O16 w u1 x_1 ∧ a.get 7 = u11 ∧ OwnL 2 (rInt .i64) 3 (Fr w0) O16 w u11 x10 ∧ a.get 25 = v_0 ∧ (rSl (rInt .i64)).v O16 w v_0 x_0 ∧ a.get 26 = .int .i64 (x_0.length : Int) ∧ a.get 27 = .int .i64 x13 ∧ Comp.loopN (fun s => vA x_0 x_1 s.1 s.2) n m (x10, x13) = some e2) (m := n) ?st2 ?_
    case st2 =>
     exact ⟨_, _, _, _, hA, hB, q3, f2, q7, f15, q25, h_0, q26, q27, Comp.yL he2⟩
    intro m_ a13 w13 hI
    clear hA hB he2 q3 q7 q25 q26 q27 f15 f2 h_0
    obtain ⟨O16, x10, x13, u11, hA, hB, q3, f2, q7, f12, q25, h_0, q26, q27, hl⟩ := hI
    obtain ⟨m2, hlt2, st2, h, hnext2, hdone2⟩ := Comp.zm hl; clear hl
    replace h : (vA x_0 x_1 x10 x13).run n = some st2 := h
    unfold vA at h; refine wp_seq ?_
    refine' rb [_] mixed hA hB hO (cn (fun hE hK => yh (kq hK q27) (kq hK q26)) .nil) ?zk9
    intro a14 w14 hA hE hB HF; refine kr5 HF q3 q7 q25 q26 q27 ?_; clear q3 q7 q25 q26 q27; intro q3 q7 q25 q26 q27; have q28 := ksv (HF 28) rfl rfl rfl; clear HF; replace f2 := vx f2 hE; replace f12 := f12.ext hE; replace h_0 := vx h_0 hE; clear hE; refine zG (zA (wp_seq ?_))
    revert h; refine cnd q28 (fun h => ?_) (fun h => ?_)
    ·
     refine wp_skip (zA (wp_seq (wp_block (wp_seq ?_)))); obtain ⟨x17, hx17, h⟩ := Comp.run_bind h
     refine' rb [SP.ptr (rInt .i64) O16 x17, SP.isv (.int .i64 x17), _] mixed hA hB hO (cn (fun hE hK => vC (r := (rInt .i64)) (O := O16) ty23 ty3 rfl (kq hK q25) (rd_of (vx h_0 hE)) (kq hK q27) hx17) (cn (fun hE hK => yD (rInt .i64) (fun _ => rfl) ty3 rfl rfl rfl (kp (SP.ptr (rInt .i64) O16 x17) 0 hK 29 rfl) (fun _ _ _ h => zd.1 h)) (cn (fun hE hK => zE (ks 1 hK 30 rfl)) .nil))) ?zk10
     intro a15 w15 hA hE hB HF; refine kr5 HF q3 q7 q25 q26 q27 ?_; clear q3 q7 q25 q26 q27; intro q3 q7 q25 q26 q27; have q9 := ksv (HF 9) rfl rfl rfl; clear q28 HF; replace f2 := vx f2 hE; replace f12 := f12.ext hE; replace h_0 := vx h_0 hE; clear hE; refine zG (zA (wp_seq ?_))
     refine' rb [_] mixed hA hB hO (cn (fun hE hK => zE rfl) .nil) ?zk11
     intro a16 w16 hA hE hB HF; refine kr6 HF q3 q7 q9 q25 q26 q27 ?_; clear q3 q7 q9 q25 q26 q27; intro q3 q7 q9 q25 q26 q27; have q10 := ksv (HF 10) rfl rfl rfl; clear HF; replace f2 := vx f2 hE; replace f12 := f12.ext hE; replace h_0 := vx h_0 hE; clear hE; refine zG (zA ?_)
     refine zh (fun a w => ∃ (O61 : Tags) (x56 : List Int) (u57 : Value), a.fit 67 ∧ Base (Fr w0) O w0 O61 w ∧ a.get 3 = u1 ∧ (rBox (rInt .i64)).v O61 w u1 x_1 ∧ a.get 10 = u57 ∧ (rSl (rInt .i64)).v O61 w u57 x56 ∧ a.get 25 = v_0 ∧ (rSl (rInt .i64)).v O61 w v_0 x_0 ∧ a.get 26 = .int .i64 (x_0.length : Int) ∧ a.get 27 = .int .i64 x13 ∧ (kM x13 x56).run n = some st2) ?_ ?_
     ·
      refine wp_seq ?_
      refine' rb [_, _, _] mixed hA hB hO (mv q7 (cn (fun hE hK => zw (r := (rInt .i64)) ty23 (ks 0 hK 31 rfl) (OwnL.rd (OwnL.ext f12 hE))) (cn (fun hE hK => zJ rfl) .nil))) ?zk12
      intro a17 w17 hA hE hB HF; refine kr6 HF q3 q9 q10 q25 q26 q27 ?_; clear q3 q9 q10 q25 q26 q27; intro q3 q9 q10 q25 q26 q27; have q31 := ksv (HF 31) rfl rfl rfl; have q32 := ksv (HF 32) rfl rfl rfl; have q33 := ksv (HF 33) rfl rfl rfl; clear q7 HF; replace f2 := vx f2 hE; replace f12 := f12.ext hE; replace h_0 := vx h_0 hE; clear hE; refine zG (zA (wp_block ?_))
      obtain ⟨e4, he4, hk4⟩ := Comp.run_bind h; clear h
      refine gK (fun m a w => ∃ (O22 : Tags) (x18 : List Int) (x21 : Int) (u19 : Value), a.fit 67 ∧ Base (Fr w0) O w0 O22 w ∧ a.get 3 = u1 ∧ (rBox (rInt .i64)).v O22 w u1 x_1 ∧ a.get 9 = .int .i64 x17 ∧ a.get 10 = u19 ∧ OwnL 3 (rInt .i64) 3 (Fr w0) O22 w u19 x18 ∧ a.get 25 = v_0 ∧ (rSl (rInt .i64)).v O22 w v_0 x_0 ∧ a.get 26 = .int .i64 (x_0.length : Int) ∧ a.get 27 = .int .i64 x13 ∧ a.get 31 = u11 ∧ OwnL 2 (rInt .i64) 3 (Fr w0) O22 w u11 x10 ∧ a.get 32 = .int .i64 (x10.length : Int) ∧ a.get 33 = .int .i64 x21 ∧ Comp.loopN (fun s => yz x10 x17 x_1 s.1 s.2) n m (x18, x21) = some e4) (m := n) ?st4 ?_
      case st4 =>
       exact ⟨_, _, _, _, hA, hB, q3, f2, q9, q10, (OwnL.nil _ _ _ _ _ _), q25, h_0, q26, q27, q31, f12, q32, q33, Comp.yL he4⟩
      intro m_ a18 w18 hI
      clear hA hB he4 q3 q9 q10 q25 q26 q27 q31 q32 q33 f12 f2 h_0
      obtain ⟨O22, x18, x21, u19, hA, hB, q3, f2, q9, q10, f20, q25, h_0, q26, q27, q31, f12, q32, q33, hl⟩ := hI
      obtain ⟨m4, hlt4, st4, h, hnext4, hdone4⟩ := Comp.zm hl; clear hl
      replace h : (yz x10 x17 x_1 x18 x21).run n = some st4 := h
      unfold yz at h; refine wp_seq ?_
      refine' rb [_] mixed hA hB hO (cn (fun hE hK => yh (kq hK q33) (kq hK q32)) .nil) ?zk13
      intro a19 w19 hA hE hB HF; refine kr9 HF q3 q9 q10 q25 q26 q27 q31 q32 q33 ?_; clear q3 q9 q10 q25 q26 q27 q31 q32 q33; intro q3 q9 q10 q25 q26 q27 q31 q32 q33; have q34 := ksv (HF 34) rfl rfl rfl; clear HF; replace f2 := vx f2 hE; replace f20 := f20.ext hE; replace h_0 := vx h_0 hE; replace f12 := f12.ext hE; clear hE; refine zG (zA (wp_seq ?_))
      revert h; refine cnd q34 (fun h => ?_) (fun h => ?_)
      ·
       refine wp_skip (zA ?_)
       refine zh (fun a w => ∃ (O53 : Tags) (x30 : List Int) (u31 : Value), a.fit 67 ∧ Base (Fr w0) O w0 O53 w ∧ a.get 3 = u1 ∧ (rBox (rInt .i64)).v O53 w u1 x_1 ∧ a.get 9 = .int .i64 x17 ∧ a.get 10 = u31 ∧ OwnL 3 (rInt .i64) 3 (Fr w0) O53 w u31 x30 ∧ a.get 25 = v_0 ∧ (rSl (rInt .i64)).v O53 w v_0 x_0 ∧ a.get 26 = .int .i64 (x_0.length : Int) ∧ a.get 27 = .int .i64 x13 ∧ a.get 31 = u11 ∧ OwnL 2 (rInt .i64) 3 (Fr w0) O53 w u11 x10 ∧ a.get 32 = .int .i64 (x10.length : Int) ∧ a.get 33 = .int .i64 x21 ∧ (gt x21 x30).run n = some st4) ?_ ?_
       ·
        refine wp_block (wp_seq ?_); obtain ⟨x23, hx23, h⟩ := Comp.run_bind h
        refine' rb [SP.ptr (rInt .i64) O22 x23, SP.isv (.int .i64 x23), _] mixed hA hB hO (cn (fun hE hK => vC (r := (rInt .i64)) (O := O22) ty23 ty3 rfl (kq hK q31) (OwnL.rd (OwnL.ext f12 hE)) (kq hK q33) hx23) (cn (fun hE hK => yD (rInt .i64) (fun _ => rfl) ty3 rfl rfl rfl (kp (SP.ptr (rInt .i64) O22 x23) 0 hK 35 rfl) (fun _ _ _ h => zd.1 h)) (cn (fun hE hK => zE (ks 1 hK 36 rfl)) .nil))) ?zk14
        intro a20 w20 hA hE hB HF; refine kr9 HF q3 q9 q10 q25 q26 q27 q31 q32 q33 ?_; clear q3 q9 q10 q25 q26 q27 q31 q32 q33; intro q3 q9 q10 q25 q26 q27 q31 q32 q33; have q12 := ksv (HF 12) rfl rfl rfl; clear q34 HF; replace f2 := vx f2 hE; replace f20 := f20.ext hE; replace h_0 := vx h_0 hE; replace f12 := f12.ext hE; clear hE; refine zG (zA (wp_seq (wp_seq ?_)))
        refine' rb [_, _, _, _] mixed hA hB hO (mv q12 (mv q9 (cn (fun hE hK => okb_and (ks 0 hK 37 rfl) (ks 1 hK 38 rfl)) (cn (fun hE hK => gm (ks 2 hK 39 rfl) rfl) .nil)))) ?zk15
        intro a21 w21 hA hE hB HF; refine kr10 HF q3 q9 q10 q12 q25 q26 q27 q31 q32 q33 ?_; clear q3 q9 q10 q12 q25 q26 q27 q31 q32 q33; intro q3 q9 q10 q12 q25 q26 q27 q31 q32 q33; have q40 := ksv (HF 40) rfl rfl rfl; clear HF; replace f2 := vx f2 hE; replace f20 := f20.ext hE; replace h_0 := vx h_0 hE; replace f12 := f12.ext hE; clear hE; refine zG (zA ?_)
        revert h; refine cnd q40 (fun h => ?_) (fun h => ?_)
        ·
         refine wp_seq ?_
         refine' rbT [_, _, SP.vl (rSl (rInt .i64)) O22 [x23]] hA hB hO (mv q10 (mv q12 (cn (fun hE hK => zN (r := (rInt .i64)) (fun _ => rfl) rfl (OkO.ext hB.ok hE) ty23 ty3 (zR (ks 1 hK 42 rfl) zl) ⟨(by exact zd.2 rfl), trivial⟩ rfl (by decide)) .nil))) ?zk16
         intro a22 w22 hA hE hB HF; refine kr9 HF q3 q9 q10 q25 q26 q27 q31 q32 q33 ?_; clear q3 q9 q10 q25 q26 q27 q31 q32 q33; intro q3 q9 q10 q25 q26 q27 q31 q32 q33; obtain ⟨u24, q43, f25⟩ := kx (HF 43) rfl rfl rfl; have q41 := ksv (HF 41) rfl rfl rfl; clear q12 q40 HF; replace f2 := vx f2 hE; replace f20 := f20.ext hE; replace h_0 := vx h_0 hE; replace f12 := f12.ext hE; clear hE; obtain ⟨x26, hx26, h⟩ := Comp.run_bind h
         refine jP (r := (rInt .i64)) (fun _ => rfl) rfl ty23 ty3 rfl (by decide) hO hB (yI hB) q41 f20 q43 (rd_of f25) hx26 (by decide) fun u27 w23 O28 f29 hB' hX => ?_
         clear hB; have hB := hB'; clear hB'; clear f20; replace f2 := vk f2 hX; replace h_0 := vk h_0 hX
         replace f12 := f12.kx hX (by decide) (by decide)
         replace f25 := vk f25 hX; clear hX
         refine zQ hA (by decide) fun a24 hA q_ hfr => ?_
         refine kd11 hfr q3 q9 q10 q25 q26 q27 q31 q32 q33 q41 q43 ?_; clear q3 q9 q10 q25 q26 q27 q31 q32 q33 q41 q43; intro q3 q9 q10 q25 q26 q27 q31 q32 q33 q41 q43; have q44 := q_; clear q_ hfr
         refine l_ok (φ := SP.isv (u27)) hO hB (by exact zE q44) rfl fun u_ w25 hE hB' hv_ => ?_
         replace hv_ := Eq.symm hv_; subst hv_; clear hB; have hB := hB'; clear hB'
         replace f2 := vx f2 hE; replace h_0 := vx h_0 hE; replace f12 := f12.ext hE; replace f29 := f29.ext hE; clear hE
         refine zQ hA (by decide) fun a26 hA q_ hfr => ?_
         replace q3 := (hfr 3 rfl).trans q3
         replace q9 := (hfr 9 rfl).trans q9
         replace q25 := (hfr 25 rfl).trans q25
         replace q26 := (hfr 26 rfl).trans q26
         replace q27 := (hfr 27 rfl).trans q27
         replace q31 := (hfr 31 rfl).trans q31
         replace q32 := (hfr 32 rfl).trans q32
         replace q33 := (hfr 33 rfl).trans q33
         replace q44 := (hfr 44 rfl).trans q44
         clear q10; have q10 := q_; clear q_ hfr; refine zG (zA (wp_exit (zX (ye (zA ?_)))))
         exact ⟨_, _, _, hA, hB, q3, f2, q9, q10, f29, q25, h_0, q26, q27, q31, f12, q32, q33, h⟩
        ·
         refine wp_skip (zA (wp_seq ?_))
         refine' rb [SP.isv (.int .i64 x_1), _] mixed hA hB hO (cn (fun hE hK => yD (rInt .i64) (fun _ => rfl) ty3 rfl rfl (kn (hK 3 rfl) rfl q3) (yM (fun _ => rfl) (vx f2 hE)) (fun _ _ _ h => zd.1 h)) (cn (fun hE hK => zJ rfl) .nil)) ?zk17
         intro a27 w27 hA hE hB HF; refine kr10 HF q3 q9 q10 q12 q25 q26 q27 q31 q32 q33 ?_; clear q3 q9 q10 q12 q25 q26 q27 q31 q32 q33; intro q3 q9 q10 q12 q25 q26 q27 q31 q32 q33; have q45 := ksv (HF 45) rfl rfl rfl; have q46 := ksv (HF 46) rfl rfl rfl; clear q40 HF; replace f2 := vx f2 hE; replace f20 := f20.ext hE; replace h_0 := vx h_0 hE; replace f12 := f12.ext hE; clear hE; refine zG (zA (wp_block ?_))
         obtain ⟨e6, he6, hk6⟩ := Comp.run_bind h; clear h
         refine gK (fun m a w => ∃ (O37 : Tags) (x33 : List Int) (x36 : Int) (u34 : Value), a.fit 67 ∧ Base (Fr w0) O w0 O37 w ∧ a.get 3 = u1 ∧ (rBox (rInt .i64)).v O37 w u1 x_1 ∧ a.get 9 = .int .i64 x17 ∧ a.get 10 = u34 ∧ OwnL 3 (rInt .i64) 3 (Fr w0) O37 w u34 x33 ∧ a.get 12 = .int .i64 x23 ∧ a.get 25 = v_0 ∧ (rSl (rInt .i64)).v O37 w v_0 x_0 ∧ a.get 26 = .int .i64 (x_0.length : Int) ∧ a.get 27 = .int .i64 x13 ∧ a.get 31 = u11 ∧ OwnL 2 (rInt .i64) 3 (Fr w0) O37 w u11 x10 ∧ a.get 32 = .int .i64 (x10.length : Int) ∧ a.get 33 = .int .i64 x21 ∧ a.get 45 = .int .i64 x_1 ∧ a.get 46 = .int .i64 x36 ∧ Comp.loopN (fun s => yy x_1 x17 x23 s.1 s.2) n m (x33, x36) = some e6) (m := n) ?st6 ?_
         case st6 =>
          exact ⟨_, _, _, _, hA, hB, q3, f2, q9, q10, f20, q12, q25, h_0, q26, q27, q31, f12, q32, q33, q45, q46, Comp.yL he6⟩
         intro m_ a28 w28 hI
         clear hA hB he6 q3 q9 q10 q12 q25 q26 q27 q31 q32 q33 q45 q46 f12 f2 f20 h_0
         obtain ⟨O37, x33, x36, u34, hA, hB, q3, f2, q9, q10, f35, q12, q25, h_0, q26, q27, q31, f12, q32, q33, q45, q46, hl⟩ := hI
         obtain ⟨m6, hlt6, st6, h, hnext6, hdone6⟩ := Comp.zm hl; clear hl
         replace h : (yy x_1 x17 x23 x33 x36).run n = some st6 := h
         unfold yy at h; refine wp_seq ?_
         refine' rb [_] mixed hA hB hO (cn (fun hE hK => yh (kq hK q46) (kq hK q45)) .nil) ?zk18
         intro a29 w29 hA hE hB HF; refine kr12 HF q3 q9 q10 q12 q25 q26 q27 q31 q32 q33 q45 q46 ?_; clear q3 q9 q10 q12 q25 q26 q27 q31 q32 q33 q45 q46; intro q3 q9 q10 q12 q25 q26 q27 q31 q32 q33 q45 q46; have q47 := ksv (HF 47) rfl rfl rfl; clear HF; replace f2 := vx f2 hE; replace f35 := f35.ext hE; replace h_0 := vx h_0 hE; replace f12 := f12.ext hE; clear hE; refine zG (zA (wp_seq ?_))
         revert h; refine cnd q47 (fun h => ?_) (fun h => ?_)
         ·
          refine wp_skip (zA ?_)
          refine zh (fun a w => ∃ (O50 : Tags) (x47 : List Int) (u48 : Value), a.fit 67 ∧ Base (Fr w0) O w0 O50 w ∧ a.get 3 = u1 ∧ (rBox (rInt .i64)).v O50 w u1 x_1 ∧ a.get 9 = .int .i64 x17 ∧ a.get 10 = u48 ∧ OwnL 3 (rInt .i64) 3 (Fr w0) O50 w u48 x47 ∧ a.get 12 = .int .i64 x23 ∧ a.get 25 = v_0 ∧ (rSl (rInt .i64)).v O50 w v_0 x_0 ∧ a.get 26 = .int .i64 (x_0.length : Int) ∧ a.get 27 = .int .i64 x13 ∧ a.get 31 = u11 ∧ OwnL 2 (rInt .i64) 3 (Fr w0) O50 w u11 x10 ∧ a.get 32 = .int .i64 (x10.length : Int) ∧ a.get 33 = .int .i64 x21 ∧ a.get 45 = .int .i64 x_1 ∧ a.get 46 = .int .i64 x36 ∧ (gr x36 x47).run n = some st6) ?_ ?_
          ·
           refine wp_block (wp_seq ?_)
           refine' rb [_, _] mixed hA hB hO (mv q46 (cn (fun hE hK => zE (ks 0 hK 48 rfl)) .nil)) ?zk19
           intro a30 w30 hA hE hB HF; refine kr12 HF q3 q9 q10 q12 q25 q26 q27 q31 q32 q33 q45 q46 ?_; clear q3 q9 q10 q12 q25 q26 q27 q31 q32 q33 q45 q46; intro q3 q9 q10 q12 q25 q26 q27 q31 q32 q33 q45 q46; have q13 := ksv (HF 13) rfl rfl rfl; clear q47 HF; replace f2 := vx f2 hE; replace f35 := f35.ext hE; replace h_0 := vx h_0 hE; replace f12 := f12.ext hE; clear hE; refine zG (zA (wp_seq ?_)); obtain ⟨x38, hx38, h⟩ := Comp.run_bind h
           refine' rb [_, _, _, _, _] mixed hA hB hO (mv q9 (mv q13 (cn (fun hE hK => okl_shr (ks 0 hK 49 rfl) (ks 1 hK 50 rfl) (vn hx38)) (cn (fun hE hK => okb_and (ks 2 hK 51 rfl) rfl) (cn (fun hE hK => yq (ks 3 hK 52 rfl) rfl) .nil))))) ?zk20
           intro a31 w31 hA hE hB HF; refine kr13 HF q3 q9 q10 q12 q13 q25 q26 q27 q31 q32 q33 q45 q46 ?_; clear q3 q9 q10 q12 q13 q25 q26 q27 q31 q32 q33 q45 q46; intro q3 q9 q10 q12 q13 q25 q26 q27 q31 q32 q33 q45 q46; have q53 := ksv (HF 53) rfl rfl rfl; clear HF; replace f2 := vx f2 hE; replace f35 := f35.ext hE; replace h_0 := vx h_0 hE; replace f12 := f12.ext hE; clear hE
           obtain ⟨x39, hx_, h⟩ := Comp.run_bind h; replace hx_ := Comp.run_pure hx_; rw [hx_] at q53; clear hx_
           refine zG (zA ?_)
           revert h; refine cnd q53 (fun h => ?_) (fun h => ?_)
           ·
            obtain ⟨x40, hx40, h⟩ := Comp.run_bind h
            refine' rbT [_, _, _, _, _, SP.vl (rSl (rInt .i64)) O37 [(orB .i64 x23 (shlF .i64 1 x36))]] hA hB hO (mv q10 (mv q12 (mv q13 (cn (fun hE hK => okl_shl rfl (ks 2 hK 56 rfl) (vn hx40)) (cn (fun hE hK => okb_or (ks 1 hK 55 rfl) (ks 3 hK 57 rfl)) (cn (fun hE hK => zN (r := (rInt .i64)) (fun _ => rfl) rfl (OkO.ext hB.ok hE) ty23 ty3 (zR (ks 4 hK 58 rfl) zl) ⟨(by exact zd.2 rfl), trivial⟩ rfl (by decide)) .nil)))))) ?zk21
            intro a32 w32 hA hE hB HF; refine kr12 HF q3 q9 q10 q12 q25 q26 q27 q31 q32 q33 q45 q46 ?_; clear q3 q9 q10 q12 q25 q26 q27 q31 q32 q33 q45 q46; intro q3 q9 q10 q12 q25 q26 q27 q31 q32 q33 q45 q46; obtain ⟨u41, q59, f42⟩ := kx (HF 59) rfl rfl rfl; have q54 := ksv (HF 54) rfl rfl rfl; clear q13 q53 HF; replace f2 := vx f2 hE; replace f35 := f35.ext hE; replace h_0 := vx h_0 hE; replace f12 := f12.ext hE; clear hE; obtain ⟨x43, hx43, h⟩ := Comp.run_bind h
            refine jP (r := (rInt .i64)) (fun _ => rfl) rfl ty23 ty3 rfl (by decide) hO hB (yI hB) q54 f35 q59 (rd_of f42) hx43 (by decide) fun u44 w33 O45 f46 hB' hX => ?_
            clear hB; have hB := hB'; clear hB'; clear f35; replace f2 := vk f2 hX; replace h_0 := vk h_0 hX
            replace f12 := f12.kx hX (by decide) (by decide)
            replace f42 := vk f42 hX; clear hX
            refine zQ hA (by decide) fun a34 hA q_ hfr => ?_
            refine kd14 hfr q3 q9 q10 q12 q25 q26 q27 q31 q32 q33 q45 q46 q54 q59 ?_; clear q3 q9 q10 q12 q25 q26 q27 q31 q32 q33 q45 q46 q54 q59; intro q3 q9 q10 q12 q25 q26 q27 q31 q32 q33 q45 q46 q54 q59; have q60 := q_; clear q_ hfr
            refine l_ok (φ := SP.isv (u44)) hO hB (by exact zE q60) rfl fun u_ w35 hE hB' hv_ => ?_
            replace hv_ := Eq.symm hv_; subst hv_; clear hB; have hB := hB'; clear hB'
            replace f2 := vx f2 hE; replace h_0 := vx h_0 hE; replace f12 := f12.ext hE; replace f46 := f46.ext hE; clear hE
            refine zQ hA (by decide) fun a36 hA q_ hfr => ?_
            replace q3 := (hfr 3 rfl).trans q3
            replace q9 := (hfr 9 rfl).trans q9
            replace q12 := (hfr 12 rfl).trans q12
            replace q25 := (hfr 25 rfl).trans q25
            replace q26 := (hfr 26 rfl).trans q26
            replace q27 := (hfr 27 rfl).trans q27
            replace q31 := (hfr 31 rfl).trans q31
            replace q32 := (hfr 32 rfl).trans q32
            replace q33 := (hfr 33 rfl).trans q33
            replace q45 := (hfr 45 rfl).trans q45
            replace q46 := (hfr 46 rfl).trans q46
            replace q60 := (hfr 60 rfl).trans q60
            clear q10; have q10 := q_; clear q_ hfr; refine zG (yJ (zA ?_))
            exact ⟨_, _, _, hA, hB, q3, f2, q9, q10, f46, q12, q25, h_0, q26, q27, q31, f12, q32, q33, q45, q46, h⟩
           ·
            refine wp_skip (yJ (zA ?_))
            exact ⟨_, _, _, hA, hB, q3, f2, q9, q10, f35, q12, q25, h_0, q26, q27, q31, f12, q32, q33, q45, q46, h⟩
          intro a37 w37 hI
          clear hA hB h q3 q9 q10 q12 q25 q26 q27 q31 q32 q33 q45 q46 q47 f12 f2 f35 h_0
          obtain ⟨O50, x47, u48, hA, hB, q3, f2, q9, q10, f49, q12, q25, h_0, q26, q27, q31, f12, q32, q33, q45, q46, h⟩ := hI
          unfold gr at h
          refine' rb [_, _] mixed hA hB hO (cn (fun hE hK => yp (kq hK q46) rfl) (cn (fun hE hK => zJ (ks 0 hK 61 rfl)) .nil)) ?zk22
          intro a38 w38 hA hE hB HF; refine kr11 HF q3 q9 q10 q12 q25 q26 q27 q31 q32 q33 q45 ?_; clear q3 q9 q10 q12 q25 q26 q27 q31 q32 q33 q45; intro q3 q9 q10 q12 q25 q26 q27 q31 q32 q33 q45; replace q46 := ksv (HF 46) rfl rfl rfl; clear HF; replace f2 := vx f2 hE; replace f49 := f49.ext hE; replace h_0 := vx h_0 hE; replace f12 := f12.ext hE; clear hE; refine zG (zA ?_)
          have h := hnext6 _ (Comp.run_pure h).symm
          refine ⟨m6, hlt6, ?_⟩
          exact ⟨_, _, _, _, hA, hB, q3, f2, q9, q10, f49, q12, q25, h_0, q26, q27, q31, f12, q32, q33, q45, q46, h⟩
         ·
          refine wp_exit (zX (zX (ye ?_)))
          have hd_ := hdone6 _ (Comp.run_pure h).symm; clear h
          subst hd_; have h := hk6; clear hk6; try dsimp only at h
          refine yJ (zA ?_)
          exact ⟨_, _, _, hA, hB, q3, f2, q9, q10, f35, q25, h_0, q26, q27, q31, f12, q32, q33, h⟩
       intro a39 w39 hI
       clear hA hB h q3 q9 q10 q25 q26 q27 q31 q32 q33 q34 f12 f2 f20 h_0
       obtain ⟨O53, x30, u31, hA, hB, q3, f2, q9, q10, f32, q25, h_0, q26, q27, q31, f12, q32, q33, h⟩ := hI
       unfold gt at h
       refine' rb [_, _] mixed hA hB hO (cn (fun hE hK => yp (kq hK q33) rfl) (cn (fun hE hK => zJ (ks 0 hK 62 rfl)) .nil)) ?zk23
       intro a40 w40 hA hE hB HF; refine kr8 HF q3 q9 q10 q25 q26 q27 q31 q32 ?_; clear q3 q9 q10 q25 q26 q27 q31 q32; intro q3 q9 q10 q25 q26 q27 q31 q32; replace q33 := ksv (HF 33) rfl rfl rfl; clear HF; replace f2 := vx f2 hE; replace f32 := f32.ext hE; replace h_0 := vx h_0 hE; replace f12 := f12.ext hE; clear hE; refine zG (zA ?_)
       have h := hnext4 _ (Comp.run_pure h).symm
       refine ⟨m4, hlt4, ?_⟩
       exact ⟨_, _, _, _, hA, hB, q3, f2, q9, q10, f32, q25, h_0, q26, q27, q31, f12, q32, q33, h⟩
      ·
       refine wp_exit (zX (zX (ye ?_)))
       have hd_ := hdone4 _ (Comp.run_pure h).symm; clear h
       subst hd_; have h := hk4; clear hk4; try dsimp only at h
       refine zA ?_
       obtain ⟨O59, hB', hX, f60⟩ := freezeL hO hB f20 (by decide)
       clear f20 hB; have hB := hB'; clear hB'; replace f2 := vk f2 hX; replace h_0 := vk h_0 hX
       replace f12 := f12.kx hX (by decide) (by decide)
       clear hX
       exact ⟨_, _, _, hA, hB, q3, f2, q10, f60, q25, h_0, q26, q27, h⟩
     intro a41 w41 hI
     clear hA hB h q3 q7 q9 q10 q25 q26 q27 f12 f2 h_0
     obtain ⟨O61, x56, u57, hA, hB, q3, f2, q10, f58, q25, h_0, q26, q27, h⟩ := hI
     unfold kM at h
     refine' rbT [_] hA hB hO (mv q10 .nil) ?zk24
     intro a42 w42 hA hE hB HF; refine kr4 HF q3 q25 q26 q27 ?_; clear q3 q25 q26 q27; intro q3 q25 q26 q27; have q63 := ksv (HF 63) rfl rfl rfl; clear q10 HF; replace f2 := vx f2 hE; replace f58 := vx f58 hE; replace h_0 := vx h_0 hE; clear hE; obtain ⟨x62, hx62, h⟩ := Comp.run_bind h
     refine l_ok (φ := SP.ownr (rInt .i64) 3 w42.heap.size O61 x62) hO hB (by have c_ := ok_core_Minimal hB.ok f58 hx62; exact yE (kF fn66 q63 c_) (fun _ _ _ h => h)) rfl fun u63 w43 hE hB' f64 => ?_
     clear hB'; obtain ⟨O65, hB', hX, f66⟩ := ownNew hO hB hE f64 rfl 4 (by decide)
     clear hB f64; have hB := hB'; clear hB'; replace f2 := vk f2 hX; replace h_0 := vk h_0 hX; replace f58 := vk f58 hX; clear hX hE
     refine zQ hA (by decide) fun a44 hA q_ hfr => ?_
     refine kd5 hfr q3 q25 q26 q27 q63 ?_; clear q3 q25 q26 q27 q63; intro q3 q25 q26 q27 q63; have q64 := q_; clear q_ hfr
     refine l_ok (φ := SP.isv (u63)) hO hB (by exact zE q64) rfl fun u_ w45 hE hB' hv_ => ?_
     replace hv_ := Eq.symm hv_; subst hv_; clear hB; have hB := hB'; clear hB'
     replace f2 := vx f2 hE; replace h_0 := vx h_0 hE; replace f66 := f66.ext hE; clear hE
     refine zQ hA (by decide) fun a46 hA q_ hfr => ?_
     refine kd5 hfr q3 q25 q26 q27 q64 ?_; clear q3 q25 q26 q27 q64; intro q3 q25 q26 q27 q64; have q7 := q_; clear q_ hfr; refine zG (yJ (zA ?_))
     refine' rb [_, _] mixed hA hB hO (cn (fun hE hK => yp (kq hK q27) rfl) (cn (fun hE hK => zJ (ks 0 hK 65 rfl)) .nil)) ?zk25
     intro a47 w47 hA hE hB HF; refine kr4 HF q3 q7 q25 q26 ?_; clear q3 q7 q25 q26; intro q3 q7 q25 q26; replace q27 := ksv (HF 27) rfl rfl rfl; clear HF; replace f2 := vx f2 hE; replace h_0 := vx h_0 hE; replace f66 := f66.ext hE; clear hE; refine zG (zA ?_)
     obtain ⟨O67, hB', hX, f68⟩ := retagL (yI hB) hB f66 2 (by decide) (by decide)
     clear f66 hB; have hB := hB'; clear hB'; replace f2 := vk f2 hX; replace h_0 := vk h_0 hX; clear hX
     have h := hnext2 _ (Comp.run_pure h).symm
     refine ⟨m2, hlt2, ?_⟩
     exact ⟨_, _, _, _, hA, hB, q3, f2, q7, f68, q25, h_0, q26, q27, h⟩
    ·
     refine wp_exit (zX (zX (ye ?_)))
     have hd_ := hdone2 _ (Comp.run_pure h).symm; clear h
     subst hd_; have h := hk2; clear hk2; try dsimp only at h
     refine zA ?_
     exact ⟨_, _, _, hA, hB, q7, f12, h⟩
   intro a48 w48 hI
   clear hA hB h q0 q3 q7 f2 f9 h_0
   obtain ⟨O74, x71, u72, hA, hB, q7, f73, h⟩ := hI
   unfold kN at h; refine wp_seq ?_
   refine' rb [_, _, _] mixed hA hB hO (mv q7 (cn (fun hE hK => zE (ks 0 hK 66 rfl)) (cn (fun hE hK => zE rfl) .nil))) ?zk26
   intro a49 w49 hA hE hB HF; have q4 := ksv (HF 4) rfl rfl rfl; have q5 := ksv (HF 5) rfl rfl rfl; clear q7 HF; replace f73 := f73.ext hE; clear hE; refine zG (zA (wp_ret ?_))
   have h := Comp.run_pure h; subst h
   exact gi Try.results43 hA q4 q5 hB.ext ⟨_, _, rfl, (OwnL.res f73 (by decide) hB.zero), rfl⟩
theorem ok_court_Explains_f1 {O : Tags} {w0 : World} (hO : OkO O w0) {x_0 : Int} {v_1 : Value} {x_1 : List api_Claim} (h_1 : (rBox (rSl zB)).v O w0 v_1 x_1) {v_2 : Value} {x_2 : Int} (h_2 : (rBox (rInt .i64)).v O w0 v_2 x_2) {n : Nat} {y : Bool} (h : (vd x_0 x_1 x_2).run n = some y) : Pure Try.prog 45 #[.int .i64 x_0, v_1, v_2] w0 (SP.isv (.bool y)).holds := by
 unfold vd at h
 refine zU Try.func45 rfl 28 Try.ntmps45 (by simp) fun a0 hA hs0 => ?_
 have q0 : a0.get 0 = .int .i64 x_0 := hs0 0 _ rfl
 have q1 : a0.get 1 = v_1 := hs0 1 _ rfl
 have q2 : a0.get 2 = v_2 := hs0 2 _ rfl
 clear hs0
 have hB : Base (Fr w0) O w0 O w0 := Base.start hO
 refine wp_seq ?_
 refine' rb [_] mixed hA hB hO (cn (fun hE hK => zE rfl) .nil) ?zk1
 intro a1 w1 hA hE hB HF; refine kr3 HF q0 q1 q2 ?_; clear q0 q1 q2; intro q0 q1 q2; clear HF; replace h_1 := vx h_1 hE; replace h_2 := vx h_2 hE; clear hE; refine zG (zA (wp_seq ?_))
 refine' rb [_] mixed hA hB hO (cn (fun hE hK => zE rfl) .nil) ?zk2
 intro a2 w2 hA hE hB HF; refine kr3 HF q0 q1 q2 ?_; clear q0 q1 q2; intro q0 q1 q2; have q5 := ksv (HF 5) rfl rfl rfl; clear HF; replace h_1 := vx h_1 hE; replace h_2 := vx h_2 hE; clear hE; refine zG (zA ?_)
 refine zh (fun a w => ∃ (O26 : Tags) (x25 : Int), a.fit 28 ∧ Base (Fr w0) O w0 O26 w ∧ a.get 2 = v_2 ∧ (rBox (rInt .i64)).v O26 w v_2 x_2 ∧ a.get 5 = .int .i64 x25 ∧ (gk x_2 x25).run n = some y) ?_ ?_
 ·
  refine wp_seq ?_
  refine' rb [SP.vl (rSl zB) O x_1, _, _] mixed hA hB hO (cn (fun hE hK => vO (r := (rSl zB)) (fun _ => rfl) ty27 rfl rfl (kn (hK 1 rfl) rfl q1) (yM (fun _ => rfl) (vx h_1 hE))) (cn (fun hE hK => zw (r := zB) ty27 rfl (rd_of (kp (SP.vl (rSl zB) O x_1) 0 hK 8 rfl))) (cn (fun hE hK => zJ rfl) .nil))) ?zk3
  intro a3 w3 hA hE hB HF; refine kr3 HF q0 q2 q5 ?_; clear q0 q2 q5; intro q0 q2 q5; obtain ⟨u1, q8, f2⟩ := kx (HF 8) rfl rfl rfl; have q9 := ksv (HF 9) rfl rfl rfl; have q10 := ksv (HF 10) rfl rfl rfl; clear q1 HF; replace h_1 := vx h_1 hE; replace h_2 := vx h_2 hE; clear hE; refine zG (zA (wp_block ?_))
  obtain ⟨e2, he2, hk2⟩ := Comp.run_bind h; clear h
  refine gK (fun m a w => ∃ (O5 : Tags) (x3 : Int) (x4 : Int), a.fit 28 ∧ Base (Fr w0) O w0 O5 w ∧ a.get 0 = .int .i64 x_0 ∧ a.get 2 = v_2 ∧ (rBox (rInt .i64)).v O5 w v_2 x_2 ∧ a.get 5 = .int .i64 x3 ∧ a.get 8 = u1 ∧ (rSl zB).v O5 w u1 x_1 ∧ a.get 9 = .int .i64 (x_1.length : Int) ∧ a.get 10 = .int .i64 x4 ∧ Comp.loopN (fun s => yZ x_1 x_0 s.1 s.2) n m (x3, x4) = some e2) (m := n) ?st2 ?_
  case st2 =>
   exact ⟨_, _, _, hA, hB, q0, q2, h_2, q5, q8, f2, q9, q10, Comp.yL he2⟩
  intro m_ a4 w4 hI
  clear hA hB he2 q0 q2 q5 q8 q9 q10 f2 h_2
  obtain ⟨O5, x3, x4, hA, hB, q0, q2, h_2, q5, q8, f2, q9, q10, hl⟩ := hI
  obtain ⟨m2, hlt2, st2, h, hnext2, hdone2⟩ := Comp.zm hl; clear hl
  replace h : (yZ x_1 x_0 x3 x4).run n = some st2 := h
  unfold yZ at h; refine wp_seq ?_
  refine' rb [_] mixed hA hB hO (cn (fun hE hK => yh (kq hK q10) (kq hK q9)) .nil) ?zk4
  intro a5 w5 hA hE hB HF; refine kr6 HF q0 q2 q5 q8 q9 q10 ?_; clear q0 q2 q5 q8 q9 q10; intro q0 q2 q5 q8 q9 q10; have q11 := ksv (HF 11) rfl rfl rfl; clear HF; replace h_2 := vx h_2 hE; replace f2 := vx f2 hE; clear hE; refine zG (zA (wp_seq ?_))
  revert h; refine cnd q11 (fun h => ?_) (fun h => ?_)
  ·
   refine wp_skip (zA ?_)
   refine zh (fun a w => ∃ (O22 : Tags) (x21 : Int), a.fit 28 ∧ Base (Fr w0) O w0 O22 w ∧ a.get 0 = .int .i64 x_0 ∧ a.get 2 = v_2 ∧ (rBox (rInt .i64)).v O22 w v_2 x_2 ∧ a.get 5 = .int .i64 x21 ∧ a.get 8 = u1 ∧ (rSl zB).v O22 w u1 x_1 ∧ a.get 9 = .int .i64 (x_1.length : Int) ∧ a.get 10 = .int .i64 x4 ∧ (gA x4 x21).run n = some st2) ?_ ?_
   ·
    refine wp_block (wp_seq ?_); obtain ⟨x6, hx6, h⟩ := Comp.run_bind h
    refine' rbT [_, SP.ptr zB O5 x6, SP.vl zB O5 x6] hA hB hO (mv q10 (cn (fun hE hK => vC (r := zB) (O := O5) ty27 ty33 rfl (kq hK q8) (rd_of (vx f2 hE)) (kq hK q10) hx6) (cn (fun hE hK => vO (r := zB) zO ty33 rfl rfl rfl (kp (SP.ptr zB O5 x6) 1 hK 13 rfl)) .nil))) ?zk5
    intro a6 w6 hA hE hB HF; refine kr6 HF q0 q2 q5 q8 q9 q10 ?_; clear q0 q2 q5 q8 q9 q10; intro q0 q2 q5 q8 q9 q10; obtain ⟨u7, q14, f8⟩ := kx (HF 14) rfl rfl rfl; have q12 := ksv (HF 12) rfl rfl rfl; clear q11 HF; replace h_2 := vx h_2 hE; replace f2 := vx f2 hE; clear hE
    refine l_ok (φ := SP.box w6.heap.size #[.int .i64 0, .int .i64 0, .int .i64 0, .slice none 0 0, .slice none 0 0] 33) hO hB (by exact gj (Nat.le_refl _) ty33) rfl fun u9 w7 hE hB' f10 => ?_
    clear hB'; obtain ⟨O11, b13, hB', hX, e_, f12⟩ := kQ hO hB hE f10 1 (by decide)
    subst e_; clear hB f10; have hB := hB'; clear hB'
    replace h_2 := vk h_2 hX; replace f2 := vk f2 hX; replace f8 := vk f8 hX; clear hX hE
    refine zQ hA (by decide) fun a8 hA q_ hfr => ?_
    refine kd8 hfr q0 q2 q5 q8 q9 q10 q12 q14 ?_; clear q0 q2 q5 q8 q9 q10 q12 q14; intro q0 q2 q5 q8 q9 q10 q12 q14; have q7 := q_; clear q_ hfr
    refine l_ok (φ := SP.isv (.int .i64 x4)) hO hB (by exact zE q12) rfl fun u_ w9 hE hB' hv_ => ?_
    replace hv_ := Eq.symm hv_; subst hv_; clear hB; have hB := hB'; clear hB'
    replace h_2 := vx h_2 hE; replace f2 := vx f2 hE; replace f8 := vx f8 hE; replace f12 := f12.ext hE; clear hE
    refine zQ hA (by decide) fun a10 hA q_ hfr => ?_
    refine kd9 hfr q0 q2 q5 q7 q8 q9 q10 q12 q14 ?_; clear q0 q2 q5 q7 q8 q9 q10 q12 q14; intro q0 q2 q5 q7 q8 q9 q10 q12 q14; have q6 := q_; clear q_ hfr
    obtain ⟨u14, u16, e_, f15, f17⟩ := kB f8; subst e_
    refine gT (vs := [.int .i64 x6.Party, .int .i64 x6.Kind, .int .i64 x6.Gauge, u14, u16]) (cs' := #[.int .i64 x6.Party, .int .i64 x6.Kind, .int .i64 x6.Gauge, u14, u16]) hO hB (yI hB) ty33 q7 q14 rfl (by intro c_ hc_; simp only [List.mem_cons, List.not_mem_nil, or_false] at hc_; rcases hc_ with rfl | rfl | rfl | rfl | rfl <;> first | rfl | assumption | exact sl_one f15 rfl rfl | exact sl_one f17 rfl rfl) f12 (by simp) rfl fun w11 f18 hB' hX => ?_
    clear hB f12; have hB := hB'; clear hB'; replace h_2 := vk h_2 hX; replace f2 := vk f2 hX; replace f15 := vk f15 hX; replace f17 := vk f17 hX; clear hX; refine zG (zA (wp_seq ?_))
    refine' rb [SP.isv (.pointer (some ⟨b13, 1, none⟩)), SP.isv (.int .i64 x6.Kind), _] mixed hA hB hO (cn (fun hE hK => zK fl33_1 (kq hK q7)) (cn (fun hE hK => zg ty3 rfl (ks 0 hK 15 rfl) (OwnB.ext f18 hE).own rfl) (cn (fun hE hK => yq (ks 1 hK 16 rfl) rfl) .nil))) ?zk6
    intro a12 w12 hA hE hB HF; refine kr7 HF q0 q2 q5 q6 q8 q9 q10 ?_; clear q0 q2 q5 q6 q8 q9 q10; intro q0 q2 q5 q6 q8 q9 q10; have q17 := ksv (HF 17) rfl rfl rfl; clear q7 HF; replace h_2 := vx h_2 hE; replace f2 := vx f2 hE; replace f18 := f18.ext hE; replace f15 := vx f15 hE; replace f17 := vx f17 hE; clear hE; refine zG (zA ?_)
    revert h; refine cnd q17 (fun h => ?_) (fun h => ?_)
    ·
     obtain ⟨x19, hx19, h⟩ := Comp.run_bind h
     refine' rb [_, _, _, _, _, _, _] mixed hA hB hO (mv q5 (mv q0 (mv q6 (cn (fun hE hK => okl_shr (ks 1 hK 19 rfl) (ks 2 hK 20 rfl) (vn hx19)) (cn (fun hE hK => okb_and (ks 3 hK 21 rfl) rfl) (cn (fun hE hK => yp (ks 0 hK 18 rfl) (ks 4 hK 22 rfl)) (cn (fun hE hK => zE (ks 5 hK 23 rfl)) .nil))))))) ?zk7
     intro a13 w13 hA hE hB HF; refine kr5 HF q0 q2 q8 q9 q10 ?_; clear q0 q2 q8 q9 q10; intro q0 q2 q8 q9 q10; replace q5 := ksv (HF 5) rfl rfl rfl; clear q6 q17 HF; replace h_2 := vx h_2 hE; replace f2 := vx f2 hE; clear hE
     obtain ⟨x20, hx_, h⟩ := Comp.run_bind h; replace hx_ := Comp.run_pure hx_; rw [hx_] at q5; clear hx_
     refine zG (yJ (zA ?_))
     exact ⟨_, _, hA, hB, q0, q2, h_2, q5, q8, f2, q9, q10, h⟩
    ·
     refine wp_skip (yJ (zA ?_))
     exact ⟨_, _, hA, hB, q0, q2, h_2, q5, q8, f2, q9, q10, h⟩
   intro a14 w14 hI
   clear hA hB h q0 q2 q5 q8 q9 q10 q11 f2 h_2
   obtain ⟨O22, x21, hA, hB, q0, q2, h_2, q5, q8, f2, q9, q10, h⟩ := hI
   unfold gA at h
   refine' rb [_, _] mixed hA hB hO (cn (fun hE hK => yp (kq hK q10) rfl) (cn (fun hE hK => zJ (ks 0 hK 24 rfl)) .nil)) ?zk8
   intro a15 w15 hA hE hB HF; refine kr5 HF q0 q2 q5 q8 q9 ?_; clear q0 q2 q5 q8 q9; intro q0 q2 q5 q8 q9; replace q10 := ksv (HF 10) rfl rfl rfl; clear HF; replace h_2 := vx h_2 hE; replace f2 := vx f2 hE; clear hE; refine zG (zA ?_)
   have h := hnext2 _ (Comp.run_pure h).symm
   refine ⟨m2, hlt2, ?_⟩
   exact ⟨_, _, _, hA, hB, q0, q2, h_2, q5, q8, f2, q9, q10, h⟩
  ·
   refine wp_exit (zX (zX (ye ?_)))
   have hd_ := hdone2 _ (Comp.run_pure h).symm; clear h
   subst hd_; have h := hk2; clear hk2; try dsimp only at h
   refine zA ?_
   exact ⟨_, _, hA, hB, q2, h_2, q5, h⟩
 intro a16 w16 hI
 clear hA hB h q0 q1 q2 q5 h_1 h_2
 obtain ⟨O26, x25, hA, hB, q2, h_2, q5, h⟩ := hI
 unfold gk at h; refine wp_seq ?_
 refine' rb [_, SP.isv (.int .i64 x_2), _, _] mixed hA hB hO (mv q5 (cn (fun hE hK => yD (rInt .i64) (fun _ => rfl) ty3 rfl rfl (kn (hK 2 rfl) rfl q2) (yM (fun _ => rfl) (vx h_2 hE)) (fun _ _ _ h => zd.1 h)) (cn (fun hE hK => ok_gtr (ks 0 hK 25 rfl) (ks 1 hK 26 rfl)) (cn (fun hE hK => zE (ks 2 hK 27 rfl)) .nil)))) ?zk9
 intro a17 w17 hA hE hB HF; have q4 := ksv (HF 4) rfl rfl rfl; clear q2 q5 HF; replace h_2 := vx h_2 hE; clear hE; refine zG (zA (wp_ret ?_))
 have h := Comp.run_pure h; subst h
 exact zi Try.results45 hA q4 hB.ext rfl
theorem kt {O : Tags} {w0 : World} (hO : OkO O w0) {v_0 : Value} {x_0 : List Int} (h_0 : OwnA (rInt .i64) 3 O w0 v_0 x_0) {v_1 : Value} {x_1 : Int → Comp Bool} (h_1 : (rF1 Try.prog (rInt .i64) (RS.c (fun x => .bool x))).v O w0 v_1 x_1) {n : Nat} {y : (List Int)} (h : (yv x_0 x_1).run n = some y) : Calls Try.prog 44 #[v_0, v_1] w0 (IoPost (rInt .i64) 3 O w0 v_0 y fun v u' => v = u') := by
 unfold yv at h
 refine bio_of_wp Try.func44 rfl 42 Try.ntmps44 (by simp) fun a0 hA hs0 => ?_
 have q0 : a0.get 0 = v_0 := hs0 0 _ rfl
 have q1 : a0.get 1 = v_1 := hs0 1 _ rfl
 clear hs0
 obtain ⟨Oi_, hB, f1, hk_⟩ := sioStart hO h_0
 replace h_1 := GR.zI _ h_1 hk_
 clear hk_ h_0; refine wp_seq ?_
 refine' rb [_] mixed hA hB hO (cn (fun hE hK => zE rfl) .nil) ?zk1
 intro a1 w1 hA hE hB HF; replace q0 := kf HF q0; replace q1 := kf HF q1; clear HF; replace h_1 := vx h_1 hE; replace f1 := f1.ext hE; clear hE; refine zG (zA (wp_seq ?_)); obtain ⟨x2, hx2, h⟩ := Comp.run_bind h
 refine' rb [_, _, SP.isv (.int .i64 x2), _] mixed hA hB hO (mv q0 (mv q1 (cn (fun hE hK => yV fn67 (ks 0 hK 8 rfl) (ks 1 hK 9 rfl) (jW (okO_zero _) (OwnL.lend (OwnL.ext f1 hE)) (GR.lend _ (vx h_1 hE)) hx2)) (cn (fun hE hK => zE (ks 2 hK 10 rfl)) .nil)))) ?zk2
 intro a2 w2 hA hE hB HF; replace q0 := kf HF q0; replace q1 := kf HF q1; have q5 := ksv (HF 5) rfl rfl rfl; clear HF; replace f1 := f1.ext hE; replace h_1 := vx h_1 hE; clear hE; refine zG (zA (wp_seq (wp_seq ?_)))
 refine' rb [_, _] mixed hA hB hO (mv q5 (cn (fun hE hK => yq (ks 0 hK 11 rfl) rfl) .nil)) ?zk3
 intro a3 w3 hA hE hB HF; refine kr3 HF q0 q1 q5 ?_; clear q0 q1 q5; intro q0 q1 q5; have q12 := ksv (HF 12) rfl rfl rfl; clear HF; replace f1 := f1.ext hE; replace h_1 := vx h_1 hE; clear hE; refine zG (zA ?_)
 revert h; refine cnd q12 (fun h => ?_) (fun h => ?_)
 ·
  refine wp_seq ?_
  refine' rb [_, _] mixed hA hB hO (mv q0 (cn (fun hE hK => zE (ks 0 hK 13 rfl)) .nil)) ?zk4
  intro a4 w4 hA hE hB HF; have q4 := ksv (HF 4) rfl rfl rfl; clear q0 q1 q5 q12 HF; replace f1 := f1.ext hE; replace h_1 := vx h_1 hE; clear hE; refine zG (zA (wp_ret (zn ?_)))
  have h := Comp.run_pure h; subst h
  exact retG1 Try.results44 hA (.tmp q4) (sioEnd hB f1 (by decide) rfl)
 ·
  refine wp_skip (zA ?_)
  refine zh (fun a w => ∃ (O29 : Tags) (x25 : List Int) (x28 : Int) (u26 : Value), a.fit 42 ∧ Base (FrS w0 v_0) O w0 O29 w ∧ a.get 0 = u26 ∧ OwnL 1 (rInt .i64) 3 (FrS w0 v_0) O29 w u26 x25 ∧ a.get 5 = .int .i64 x28 ∧ (yb x25 x28).run n = some y) ?_ ?_
  ·
   refine wp_seq ?_
   refine' rb [_, _, _] mixed hA hB hO (mv q5 (cn (fun hE hK => yp (ks 0 hK 14 rfl) rfl) (cn (fun hE hK => zE (ks 1 hK 15 rfl)) .nil))) ?zk5
   intro a5 w5 hA hE hB HF; refine kr3 HF q0 q1 q5 ?_; clear q0 q1 q5; intro q0 q1 q5; have q6 := ksv (HF 6) rfl rfl rfl; clear q12 HF; replace f1 := f1.ext hE; replace h_1 := vx h_1 hE; clear hE; refine zG (zA (wp_block ?_))
   obtain ⟨e2, he2, hk2⟩ := Comp.run_bind h; clear h
   refine gK (fun m a w => ∃ (O8 : Tags) (x3 : List Int) (x6 : Int) (x7 : Int) (u4 : Value), a.fit 42 ∧ Base (FrS w0 v_0) O w0 O8 w ∧ a.get 0 = u4 ∧ OwnL 1 (rInt .i64) 3 (FrS w0 v_0) O8 w u4 x3 ∧ a.get 1 = v_1 ∧ (rF1 Try.prog (rInt .i64) (RS.c (fun x => .bool x))).v O8 w v_1 x_1 ∧ a.get 5 = .int .i64 x6 ∧ a.get 6 = .int .i64 x7 ∧ Comp.loopN (fun s => yA x_1 s.1 s.2.1 s.2.2) n m (x3, x6, x7) = some e2) (m := n) ?st2 ?_
   case st2 =>
    exact ⟨_, _, _, _, _, hA, hB, q0, f1, q1, h_1, q5, q6, Comp.yL he2⟩
   intro m_ a6 w6 hI
   clear hA hB he2 q0 q1 q5 q6 f1 h_1
   obtain ⟨O8, x3, x6, x7, u4, hA, hB, q0, f5, q1, h_1, q5, q6, hl⟩ := hI
   obtain ⟨m2, hlt2, st2, h, hnext2, hdone2⟩ := Comp.zm hl; clear hl
   replace h : (yA x_1 x3 x6 x7).run n = some st2 := h
   unfold yA at h; refine wp_seq (wp_seq ?_)
   refine' rb [_, _, _, _] mixed hA hB hO (mv q6 (mv q0 (cn (fun hE hK => zw (r := (rInt .i64)) ty23 (ks 1 hK 17 rfl) (OwnL.rd (OwnL.ext f5 hE))) (cn (fun hE hK => yh (ks 0 hK 16 rfl) (ks 2 hK 18 rfl)) .nil)))) ?zk6
   intro a7 w7 hA hE hB HF; refine kr4 HF q0 q1 q5 q6 ?_; clear q0 q1 q5 q6; intro q0 q1 q5 q6; have q19 := ksv (HF 19) rfl rfl rfl; clear HF; replace f5 := f5.ext hE; replace h_1 := vx h_1 hE; clear hE; refine zG (zA ?_)
   revert h; refine cnd q19 (fun h => ?_) (fun h => ?_)
   ·
    refine wp_skip (zA ?_)
    refine zh (fun a w => ∃ (O20 : Tags) (x16 : List Int) (x19 : Int) (u17 : Value), a.fit 42 ∧ Base (FrS w0 v_0) O w0 O20 w ∧ a.get 0 = u17 ∧ OwnL 1 (rInt .i64) 3 (FrS w0 v_0) O20 w u17 x16 ∧ a.get 1 = v_1 ∧ (rF1 Try.prog (rInt .i64) (RS.c (fun x => .bool x))).v O20 w v_1 x_1 ∧ a.get 5 = .int .i64 x19 ∧ a.get 6 = .int .i64 x7 ∧ (yK x7 x16 x19).run n = some st2) ?_ ?_
    ·
     refine wp_block (wp_seq ?_); obtain ⟨x9, hx9, h⟩ := Comp.run_bind h
     refine' rb [_, _, SP.ptr (rInt .i64) O8 x9, SP.isv (.int .i64 x9), _] mixed hA hB hO (mv q0 (mv q6 (cn (fun hE hK => vC (r := (rInt .i64)) (O := O8) ty23 ty3 rfl (ks 0 hK 22 rfl) (OwnL.rd (OwnL.ext f5 hE)) (ks 1 hK 23 rfl) hx9) (cn (fun hE hK => yD (rInt .i64) (fun _ => rfl) ty3 rfl rfl rfl (kp (SP.ptr (rInt .i64) O8 x9) 2 hK 24 rfl) (fun _ _ _ h => zd.1 h)) (cn (fun hE hK => zE (ks 3 hK 25 rfl)) .nil))))) ?zk7
     intro a8 w8 hA hE hB HF; refine kr4 HF q0 q1 q5 q6 ?_; clear q0 q1 q5 q6; intro q0 q1 q5 q6; have q7 := ksv (HF 7) rfl rfl rfl; clear q19 HF; replace f5 := f5.ext hE; replace h_1 := vx h_1 hE; clear hE; refine zG (zA (wp_seq ?_)); obtain ⟨x10, hx10, h⟩ := Comp.run_bind h
     refine' rb [_, _, SP.isv (.bool x10), _] mixed hA hB hO (mv q1 (mv q7 (cn (fun hE hK => okl_callv1 (R := (RS.c (fun x => .bool x))) (ks 0 hK 26 rfl) (show ((rF1 Try.prog (rInt .i64) (RS.c (fun x => .bool x)))).v O8 _ _ _ from (vx h_1 hE)) (OkO.ext hB.ok hE) (ks 1 hK 27 rfl) (by exact zd.2 rfl) hx10) (cn (fun hE hK => kb (ks 2 hK 28 rfl)) .nil)))) ?zk8
     intro a9 w9 hA hE hB HF; refine kr5 HF q0 q1 q5 q6 q7 ?_; clear q0 q1 q5 q6 q7; intro q0 q1 q5 q6 q7; have q29 := ksv (HF 29) rfl rfl rfl; clear HF; replace f5 := f5.ext hE; replace h_1 := vx h_1 hE; clear hE; refine zG (zA ?_)
     revert h; refine cnd q29 (fun h => ?_) (fun h => ?_)
     ·
      refine wp_seq ?_; obtain ⟨x11, hx11, h⟩ := Comp.run_bind h
      refine' rbT [_, _, _, SP.elt (u4) (Int.toNat x6 * 1)] hA hB hO (mv q0 (mv q5 (mv q7 (cn (fun hE hK => okl_idxOwn rfl ty23 ty3 (ksv (j := 0) (hK 30 rfl) rfl rfl rfl) (OwnL.ext f5 hE) (ks 1 hK 31 rfl) (idx_lt hx11)) .nil)))) ?zk9
      intro a10 w10 hA hE hB HF; refine kr4 HF q0 q1 q5 q6 ?_; clear q0 q1 q5 q6; intro q0 q1 q5 q6; obtain ⟨u12, q33, f13⟩ := kx (HF 33) rfl rfl rfl; have q32 := ksv (HF 32) rfl rfl rfl; clear q7 q29 HF; replace f5 := f5.ext hE; replace h_1 := vx h_1 hE; clear hE; obtain ⟨x15, hx15, h⟩ := Comp.run_bind h
      refine l_storeElt (r := (rInt .i64)) (fun _ => rfl) rfl hO hB (ku hB) ty3 q33 f13 f5 q32 (by exact zd.2 rfl) hx15 (by decide) fun w11 f14 hB' hX => ?_
      clear hB; have hB := hB'; clear hB'; replace h_1 := vk h_1 hX; clear hX f5; refine zG (zA ?_)
      refine' rb [_, _, _] mixed hA hB hO (mv q5 (cn (fun hE hK => yp (ks 0 hK 34 rfl) rfl) (cn (fun hE hK => zE (ks 1 hK 35 rfl)) .nil))) ?zk10
      intro a12 w12 hA hE hB HF; refine kr3 HF q0 q1 q6 ?_; clear q0 q1 q6; intro q0 q1 q6; replace q5 := ksv (HF 5) rfl rfl rfl; clear HF; replace f14 := f14.ext hE; replace h_1 := vx h_1 hE; clear hE; refine zG (yJ (zA ?_))
      exact ⟨_, _, _, _, hA, hB, q0, f14, q1, h_1, q5, q6, h⟩
     ·
      refine wp_skip (yJ (zA ?_))
      exact ⟨_, _, _, _, hA, hB, q0, f5, q1, h_1, q5, q6, h⟩
    intro a13 w13 hI
    clear hA hB h q0 q1 q5 q6 q19 f5 h_1
    obtain ⟨O20, x16, x19, u17, hA, hB, q0, f18, q1, h_1, q5, q6, h⟩ := hI
    unfold yK at h
    refine' rb [_, _, _] mixed hA hB hO (mv q6 (cn (fun hE hK => yp (ks 0 hK 20 rfl) rfl) (cn (fun hE hK => zE (ks 1 hK 21 rfl)) .nil))) ?zk11
    intro a14 w14 hA hE hB HF; refine kr3 HF q0 q1 q5 ?_; clear q0 q1 q5; intro q0 q1 q5; replace q6 := ksv (HF 6) rfl rfl rfl; clear HF; replace f18 := f18.ext hE; replace h_1 := vx h_1 hE; clear hE; refine zG (zA ?_)
    have h := hnext2 _ (Comp.run_pure h).symm
    refine ⟨m2, hlt2, ?_⟩
    exact ⟨_, _, _, _, _, hA, hB, q0, f18, q1, h_1, q5, q6, h⟩
   ·
    refine wp_exit (zX (zX (ye ?_)))
    have hd_ := hdone2 _ (Comp.run_pure h).symm; clear h
    subst hd_; have h := hk2; clear hk2; try dsimp only at h
    refine zA ?_
    exact ⟨_, _, _, _, hA, hB, q0, f5, q5, h⟩
  intro a15 w15 hI
  clear hA hB h q0 q1 q5 q12 f1 h_1
  obtain ⟨O29, x25, x28, u26, hA, hB, q0, f27, q5, h⟩ := hI
  unfold yb at h; refine wp_seq ?_; obtain ⟨x30, hx30, h⟩ := Comp.run_bind h
  refine' rbT [_, _, SP.isv ((sufV u26 (Int.toNat x28) 1))] hA hB hO (mv q0 (mv q5 (cn (fun hE hK => okl_slice_s (r := (rInt .i64)) ty23 ty3 rfl (ks 0 hK 36 rfl) (OwnL.lend (OwnL.ext f27 hE)) (ks 1 hK 37 rfl) hx30) .nil))) ?zk12
  intro a16 w16 hA hE hB HF; replace q0 := kf HF q0; replace q5 := kf HF q5; have q38 := ksv (HF 38) rfl rfl rfl; clear HF; replace f27 := f27.ext hE; clear hE
  refine l_clear (r := (rInt .i64)) (z := .int .i64 0) (z0 := 0) (fun _ => rfl) rfl hO hB (ku hB) ty23 ty3 q38 f27 (by decide) hx30 (fun _ _ => zd.2 rfl) fun w17 f31 hB' hX => ?_
  clear hB; have hB := hB'; clear hB'; clear hX f27; refine zG (zA (wp_seq ?_)); obtain ⟨x32, hx32, h⟩ := Comp.run_bind h
  refine' rb [_, _, SP.isv ((preV u26 x32.length)), _] mixed hA hB hO (mv q0 (mv q5 (cn (fun hE hK => okl_slice_p (r := (rInt .i64)) ty23 ty3 rfl (ks 0 hK 39 rfl) (OwnL.lend (OwnL.ext f31 hE)) (ks 1 hK 40 rfl) hx32) (cn (fun hE hK => zE (ks 2 hK 41 rfl)) .nil)))) ?zk13
  intro a18 w18 hA hE hB HF; have q4 := ksv (HF 4) rfl rfl rfl; clear q0 q5 HF; replace f31 := f31.ext hE; clear hE
  have f33 := OwnL.pre f31 hx32
  refine zG (zA (wp_ret ?_))
  have h := Comp.run_pure h; subst h
  exact retG1 Try.results44 hA (.tmp q4) (sioEnd hB f33 (by decide) rfl)
theorem gn {O : Tags} {w0 : World} (hO : OkO O w0) {v_0 : Value} {x_0 : List api_Claim} (h_0 : (rSl zB).v O w0 v_0 x_0) {v_1 : Value} {x_1 : List api_Sight} (h_1 : (rSl zF).v O w0 v_1 x_1) {x_2 : Int} {x_3 : Int} {n : Nat} {y : ((List Int) × Int)} (h : (vL x_0 x_1 x_2 x_3).run n = some y) : Pure Try.prog 17 #[v_0, v_1, .int .i64 x_2, .int .i64 x_3] w0 (SP.tup2 (SP.ownr (rInt .i64) 3 (w0.heap.size) O y.1) (SP.isv (.int .i64 y.2))).holds := by
 unfold vL at h
 refine zU Try.func17 rfl 42 Try.ntmps17 (by simp) fun a0 hA hs0 => ?_
 have q0 : a0.get 0 = v_0 := hs0 0 _ rfl
 have q1 : a0.get 1 = v_1 := hs0 1 _ rfl
 have q2 : a0.get 2 = .int .i64 x_2 := hs0 2 _ rfl
 have q3 : a0.get 3 = .int .i64 x_3 := hs0 3 _ rfl
 clear hs0
 have hB : Base (Fr w0) O w0 O w0 := Base.start hO
 refine wp_seq ?_
 refine' rb [SP.vl (rBox (rSl zB)) O x_0, SP.vl (rBox (rInt .i64)) O x_3, _, _] mixed hA hB hO (cn (fun hE hK => kC (r := (rSl zB)) (fun _ => rfl) (OkO.ext hB.ok hE) (kq hK q0) (vx h_0 hE)) (cn (fun hE hK => kC (r := (rInt .i64)) (fun _ => rfl) (OkO.ext hB.ok hE) (kq hK q3) (by exact zd.2 rfl)) (cn (fun hE hK => zE rfl) (cn (fun hE hK => zE rfl) .nil)))) ?zk1
 intro a1 w1 hA hE hB HF; replace q1 := kf HF q1; replace q2 := kf HF q2; obtain ⟨u1, q4, f2⟩ := kx (HF 4) rfl rfl rfl; obtain ⟨u3, q7, f4⟩ := kx (HF 7) rfl rfl rfl; clear q0 q3 HF; replace h_0 := vx h_0 hE; replace h_1 := vx h_1 hE; clear hE; refine zG (zA (wp_seq ?_)); obtain ⟨x5, hx5, h⟩ := Comp.run_bind h
 refine' rb [SP.vl (rSl zB) O x_0, _, _, SP.tup2 (SP.vl (rSl (rInt .i64)) O x5.1) (SP.isv (.int .i64 x5.2)), SP.tup2 (SP.vl (rSl (rInt .i64)) O x5.1) (SP.isv (.int .i64 x5.2)), SP.vl (rSl (rInt .i64)) O x5.1, SP.isv (.int .i64 x5.2), SP.vl (rSl (rInt .i64)) O x5.1, _] mixed hA hB hO (cn (fun hE hK => vO (r := (rSl zB)) (fun _ => rfl) ty27 rfl rfl (kn (hK 4 rfl) rfl q4) (yM (fun _ => rfl) (vx f2 hE))) (mv q1 (mv q2 (.cons (fun _ _ hE hK hg => yE (vY fn22 rfl (ks 1 hK 15 rfl) (ks 2 hK 16 rfl) (jK (OkO.ext hB.ok hE) (kp (SP.vl (rSl zB) O x_0) 0 hK 14 rfl) (vx h_1 hE) hx5)) (fun _ _ _ ⟨a_, b_, e0_, h0_, h1_⟩ => ⟨a_, b_, e0_, (fun h => (OwnR.val h (fun g hg => (OkO.ext hB.ok hE) g (OwnR.ge h g hg).1))) h0_, h1_⟩)) (cn (fun hE hK => vo (φ := SP.tup2 (SP.vl (rSl (rInt .i64)) O x5.1) (SP.isv (.int .i64 x5.2))) (kp _ 3 hK 17 rfl)) (cn (fun hE hK => jC (kp (SP.tup2 (SP.vl (rSl (rInt .i64)) O x5.1) (SP.isv (.int .i64 x5.2))) 4 hK 13 rfl)) (cn (fun hE hK => jB (kp (SP.tup2 (SP.vl (rSl (rInt .i64)) O x5.1) (SP.isv (.int .i64 x5.2))) 4 hK 13 rfl)) (cn (fun hE hK => yC (φ := SP.vl (rSl (rInt .i64)) O x5.1) (kp _ 5 hK 18 rfl)) (cn (fun hE hK => zE (ks 6 hK 19 rfl)) .nil))))))))) ?zk2
 intro a2 w2 hA hE hB HF; replace q4 := kf HF q4; replace q7 := kf HF q7; obtain ⟨u6, q10, f7⟩ := kx (HF 10) rfl rfl rfl; have q11 := ksv (HF 11) rfl rfl rfl; clear q1 q2 HF; replace h_1 := vx h_1 hE; replace f2 := vx f2 hE; replace f4 := vx f4 hE; clear hE; refine zG (zA (wp_seq (wp_seq ?_)))
 refine' rb [_, _] mixed hA hB hO (mv q11 (cn (fun hE hK => gm (ks 0 hK 20 rfl) rfl) .nil)) ?zk3
 intro a3 w3 hA hE hB HF; refine kr4 HF q4 q7 q10 q11 ?_; clear q4 q7 q10 q11; intro q4 q7 q10 q11; have q21 := ksv (HF 21) rfl rfl rfl; clear HF; replace f2 := vx f2 hE; replace f4 := vx f4 hE; replace f7 := vx f7 hE; clear hE; refine zG (zA ?_)
 revert h; refine cnd q21 (fun h => ?_) (fun h => ?_)
 ·
  refine wp_seq ?_
  refine' rb [_, _, _] mixed hA hB hO (mv q11 (cn (fun hE hK => zE rfl) (cn (fun hE hK => zE (ks 0 hK 22 rfl)) .nil))) ?zk4
  intro a4 w4 hA hE hB HF; have q8 := ksv (HF 8) rfl rfl rfl; have q9 := ksv (HF 9) rfl rfl rfl; clear q4 q7 q10 q11 q21 HF; replace f2 := vx f2 hE; replace f4 := vx f4 hE; replace f7 := vx f7 hE; clear hE; refine zG (zA (wp_ret (zn ?_)))
  have h := Comp.run_pure h; subst h
  exact gi Try.results17 hA q8 q9 hB.ext ⟨_, _, rfl, (OwnR.nil _ _ _ _ _), rfl⟩
 ·
  refine wp_skip (zA (wp_seq (wp_seq ?_)))
  refine' rb [SP.isv (.int .i64 x_3), _, _, SP.isv (.int .i64 x_3), _, _] mixed hA hB hO (cn (fun hE hK => yD (rInt .i64) (fun _ => rfl) ty3 rfl rfl (kn (hK 7 rfl) rfl q7) (yM (fun _ => rfl) (vx f4 hE)) (fun _ _ _ h => zd.1 h)) (cn (fun hE hK => yh (ks 0 hK 23 rfl) rfl) (cn (fun hE hK => zJ (ks 1 hK 24 rfl)) (cn (fun hE hK => yD (rInt .i64) (fun _ => rfl) ty3 rfl rfl (kn (hK 7 rfl) rfl q7) (yM (fun _ => rfl) (vx f4 hE)) (fun _ _ _ h => zd.1 h)) (.cons (fun _ _ hE hK hg => ok_gtr (kg 3 hK 26 rfl hg) rfl) (cn (fun hE hK => za (ks 2 hK 25 rfl) (fun _ => rfl) (fun hb => kg 4 hK 27 rfl (zv rfl rfl hb))) .nil)))))) ?zk5
  intro a5 w5 hA hE hB HF; refine kr3 HF q4 q7 q10 ?_; clear q4 q7 q10; intro q4 q7 q10; have q28 := ksv (HF 28) rfl rfl rfl; clear q11 q21 HF; replace f2 := vx f2 hE; replace f4 := vx f4 hE; replace f7 := vx f7 hE; clear hE
  obtain ⟨x8, hx_, h⟩ := Comp.run_bind h; replace hx_ := Comp.run_pure hx_; rw [hx_] at q28; clear hx_
  refine zG (zA ?_)
  revert h; refine cnd q28 (fun h => ?_) (fun h => ?_)
  ·
   refine wp_seq ?_
   refine' rb [_, _] mixed hA hB hO (cn (fun hE hK => zE rfl) (cn (fun hE hK => zE rfl) .nil)) ?zk6
   intro a6 w6 hA hE hB HF; have q8 := ksv (HF 8) rfl rfl rfl; have q9 := ksv (HF 9) rfl rfl rfl; clear q4 q7 q10 q28 HF; replace f2 := vx f2 hE; replace f4 := vx f4 hE; replace f7 := vx f7 hE; clear hE; refine zG (zA (wp_ret (zn ?_)))
   have h := Comp.run_pure h; subst h
   exact gi Try.results17 hA q8 q9 hB.ext ⟨_, _, rfl, (OwnR.nil _ _ _ _ _), rfl⟩
  ·
   refine wp_skip (zA (wp_seq ?_)); obtain ⟨x9, hx9, h⟩ := Comp.run_bind h
   refine' rg [_, SP.vl (rSl zB) O x_0, _, SP.tup2 (SP.ownr (rInt .i64) 3 w5.heap.size O x9.1) (SP.isv (.int .i64 x9.2)), SP.tup2 (SP.ownr (rInt .i64) 3 w5.heap.size O x9.1) (SP.isv (.int .i64 x9.2)), SP.ownr (rInt .i64) 3 w5.heap.size O x9.1, SP.isv (.int .i64 x9.2), SP.ownr (rInt .i64) 3 w5.heap.size O x9.1, _] mixed hA (mv q10 (cn (fun hE hK => vO (r := (rSl zB)) (fun _ => rfl) ty27 rfl rfl (kn (hK 4 rfl) rfl q4) (yM (fun _ => rfl) (vx f2 hE))) (cn (fun hE hK => zw (r := zB) ty27 rfl (rd_of (kp (SP.vl (rSl zB) O x_0) 1 hK 31 rfl))) (cn (fun hE hK => yE (yV fn43 (ks 0 hK 30 rfl) (ks 2 hK 32 rfl) (ok_core_Hitting (OkO.ext hB.ok hE) (vx f7 hE) hx9)) (fun _ _ _ ⟨a_, b_, e0_, h0_, h1_⟩ => ⟨a_, b_, e0_, (fun h => (OwnR.base h hE.size)) h0_, h1_⟩)) (cn (fun hE hK => vo (φ := SP.tup2 (SP.ownr (rInt .i64) 3 w5.heap.size O x9.1) (SP.isv (.int .i64 x9.2))) (kp _ 3 hK 33 rfl)) (cn (fun hE hK => jC (kp (SP.tup2 (SP.ownr (rInt .i64) 3 w5.heap.size O x9.1) (SP.isv (.int .i64 x9.2))) 4 hK 29 rfl)) (cn (fun hE hK => jB (kp (SP.tup2 (SP.ownr (rInt .i64) 3 w5.heap.size O x9.1) (SP.isv (.int .i64 x9.2))) 4 hK 29 rfl)) (cn (fun hE hK => yC (φ := SP.ownr (rInt .i64) 3 w5.heap.size O x9.1) (kp _ 5 hK 34 rfl)) (cn (fun hE hK => zE (ks 6 hK 35 rfl)) .nil))))))))) ?zk7
   intro a7 w7 hA hE HF; replace q4 := kf HF q4; replace q7 := kf HF q7; obtain ⟨u10, q12, f11⟩ := kx (HF 12) rfl rfl rfl; have q11 := ksv (HF 11) rfl rfl rfl; clear q10 q28 HF
   obtain ⟨O12, hB', hX, f13⟩ := ownNew hO hB hE f11 rfl 1 (by decide)
   clear hB f11; have hB := hB'; clear hB'; replace f2 := vk f2 hX; replace f4 := vk f4 hX; replace f7 := vk f7 hX; clear hX hE; refine zG (zA (wp_seq (wp_seq ?_)))
   refine' rb [_, _] mixed hA hB hO (mv q11 (cn (fun hE hK => gm (ks 0 hK 36 rfl) rfl) .nil)) ?zk8
   intro a8 w8 hA hE hB HF; refine kr4 HF q4 q7 q11 q12 ?_; clear q4 q7 q11 q12; intro q4 q7 q11 q12; have q37 := ksv (HF 37) rfl rfl rfl; clear HF; replace f2 := vx f2 hE; replace f4 := vx f4 hE; replace f13 := f13.ext hE; clear hE; refine zG (zA ?_)
   revert h; refine cnd q37 (fun h => ?_) (fun h => ?_)
   ·
    refine wp_seq ?_
    refine' rb [_, _, _] mixed hA hB hO (mv q11 (cn (fun hE hK => zE rfl) (cn (fun hE hK => zE (ks 0 hK 38 rfl)) .nil))) ?zk9
    intro a9 w9 hA hE hB HF; have q8 := ksv (HF 8) rfl rfl rfl; have q9 := ksv (HF 9) rfl rfl rfl; clear q4 q7 q11 q12 q37 HF; replace f2 := vx f2 hE; replace f4 := vx f4 hE; replace f13 := f13.ext hE; clear hE; refine zG (zA (wp_ret (zn ?_)))
    have h := Comp.run_pure h; subst h
    exact gi Try.results17 hA q8 q9 hB.ext ⟨_, _, rfl, (OwnR.nil _ _ _ _ _), rfl⟩
   ·
    refine wp_skip (zA (wp_seq ?_))
    refine' rbT [_, SP.isv (.func (.func 45) #[] #[u1, u3])] hA hB hO (mv q12 (cn (fun hE hK => jX map0 (map2 (kq hK q4) (kq hK q7))) .nil)) ?zk10
    intro a10 w10 hA hE hB HF; have q39 := ksv (HF 39) rfl rfl rfl; have q40 := ksv (HF 40) rfl rfl rfl; clear q4 q7 q11 q12 q37 HF; replace f2 := vx f2 hE; replace f4 := vx f4 hE; replace f13 := f13.ext hE; clear hE
    have f14 : (rF1 Try.prog (rInt .i64) (RS.c (fun x => .bool x))).v O12 w10 (.func (.func 45) #[] #[u1, u3]) (fun z0 => vd z0 x_0 x_3) := rF1_v.2 ⟨rfl, fun O' w' hO' hk v_0 x_0 hv_0 n_ y_ hy_ => by obtain rfl := zd.1 hv_0; exact jx fn45 (ok_court_Explains_f1 hO'  (GR.zI _ f2 hk) (GR.zI _ f4 hk) hy_)⟩
    obtain ⟨x15, hx15, h⟩ := Comp.run_bind h
    refine l_io (r := (rInt .i64)) (E := 3) (k := 1) hO hB (yI hB) fn44 (map2 q39 q40) (kt hB.ok (OwnL.argA f13 (by decide)) f14 hx15) f13 (by decide) fun u17 u16 w11 O18 f19 hB' hX hps => ?_
    clear hB; have hB := hB'; clear hB'; clear f13
    replace hps : _ = _ := hps; subst hps
    replace f14 := vk f14 hX; clear hX
    refine zQ hA (by decide) fun a12 hA q_ hfr => ?_
    replace q39 := (hfr _ rfl).trans q39; replace q40 := (hfr _ rfl).trans q40; have q41 := q_; clear q_ hfr
    refine l_ok (φ := SP.isv (u17)) hO hB (by exact zE q41) rfl fun u_ w13 hE hB' hv_ => ?_
    replace hv_ := Eq.symm hv_; subst hv_; clear hB; have hB := hB'; clear hB'
    replace f19 := f19.ext hE; clear hE
    refine zQ hA (by decide) fun a14 hA q_ hfr => ?_
    replace q41 := (hfr _ rfl).trans q41; have q8 := q_; clear q_ hfr
    refine l_ok (φ := SP.isv (.int .i64 0)) hO hB (by exact zE rfl) rfl fun u_ w15 hE hB' hv_ => ?_
    replace hv_ := Eq.symm hv_; subst hv_; clear hB; have hB := hB'; clear hB'
    replace f19 := f19.ext hE; clear hE
    refine zQ hA (by decide) fun a16 hA q_ hfr => ?_
    replace q8 := (hfr _ rfl).trans q8; have q9 := q_; clear q_ hfr; refine zG (zA (wp_ret ?_))
    have h := Comp.run_pure h; subst h
    exact gi Try.results17 hA q8 q9 hB.ext ⟨_, _, rfl, (OwnL.res f19 (by decide) hB.zero), rfl⟩
theorem gF {O : Tags} {w0 : World} (hO : OkO O w0) {v_0 : Value} {x_0 : List api_Sight} (h_0 : (rSl zF).v O w0 v_0 x_0) {x_1 : Int} {v_2 : Value} {x_2 : List Int} (h_2 : (rSl (rInt .i64)).v O w0 v_2 x_2) {n : Nat} {y : Bool} (h : (vU x_0 x_1 x_2).run n = some y) : Pure Try.prog 34 #[v_0, .int .i64 x_1, v_2] w0 (SP.isv (.bool y)).holds := by
 unfold vU at h
 refine zU Try.func34 rfl 23 Try.ntmps34 (by simp) fun a0 hA hs0 => ?_
 have q0 : a0.get 0 = v_0 := hs0 0 _ rfl
 have q1 : a0.get 1 = .int .i64 x_1 := hs0 1 _ rfl
 have q2 : a0.get 2 = v_2 := hs0 2 _ rfl
 clear hs0
 have hB : Base (Fr w0) O w0 O w0 := Base.start hO
 refine wp_seq ?_
 refine' rb [_] mixed hA hB hO (cn (fun hE hK => zE rfl) .nil) ?zk1
 intro a1 w1 hA hE hB HF; refine kr3 HF q0 q1 q2 ?_; clear q0 q1 q2; intro q0 q1 q2; clear HF; replace h_0 := vx h_0 hE; replace h_2 := vx h_2 hE; clear hE; refine zG (zA (wp_seq ?_)); obtain ⟨x1, hx1, h⟩ := Comp.run_bind h; obtain ⟨x2, hx2, h⟩ := Comp.run_bind h
 refine' rb [SP.vl (rSl zB) O x1, _, _, SP.tup2 (SP.vl (rSl (rInt .i64)) O x2.1) (SP.isv (.int .i64 x2.2)), SP.tup2 (SP.vl (rSl (rInt .i64)) O x2.1) (SP.isv (.int .i64 x2.2)), SP.vl (rSl (rInt .i64)) O x2.1, SP.isv (.int .i64 x2.2), SP.vl (rSl (rInt .i64)) O x2.1, _] mixed hA hB hO (.cons (fun _ _ hE hK hg => yE (jp fn32  (zt (OkO.ext hB.ok hE)  hx1)) (fun _ _ _ h => (OwnR.val h (fun g hg => (OkO.ext hB.ok hE) g (OwnR.ge h g hg).1)))) (mv q0 (mv q1 (.cons (fun _ _ hE hK hg => yE (kX fn17 rfl (ks 1 hK 11 rfl) rfl (ks 2 hK 12 rfl) (gn (OkO.ext hB.ok hE) (kp (SP.vl (rSl zB) O x1) 0 hK 10 rfl) (vx h_0 hE) hx2)) (fun _ _ _ ⟨a_, b_, e0_, h0_, h1_⟩ => ⟨a_, b_, e0_, (fun h => (OwnR.val h (fun g hg => (OkO.ext hB.ok hE) g (OwnR.ge h g hg).1))) h0_, h1_⟩)) (cn (fun hE hK => vo (φ := SP.tup2 (SP.vl (rSl (rInt .i64)) O x2.1) (SP.isv (.int .i64 x2.2))) (kp _ 3 hK 13 rfl)) (cn (fun hE hK => jC (kp (SP.tup2 (SP.vl (rSl (rInt .i64)) O x2.1) (SP.isv (.int .i64 x2.2))) 4 hK 9 rfl)) (cn (fun hE hK => jB (kp (SP.tup2 (SP.vl (rSl (rInt .i64)) O x2.1) (SP.isv (.int .i64 x2.2))) 4 hK 9 rfl)) (cn (fun hE hK => yC (φ := SP.vl (rSl (rInt .i64)) O x2.1) (kp _ 5 hK 14 rfl)) (cn (fun hE hK => zE (ks 6 hK 15 rfl)) .nil))))))))) ?zk2
 intro a2 w2 hA hE hB HF; replace q2 := kf HF q2; obtain ⟨u3, q7, f4⟩ := kx (HF 7) rfl rfl rfl; have q8 := ksv (HF 8) rfl rfl rfl; clear q0 q1 HF; replace h_0 := vx h_0 hE; replace h_2 := vx h_2 hE; clear hE; refine zG (zA (wp_seq ?_)); obtain ⟨x5, hx5, h⟩ := Comp.run_bind h
 refine' rb [_, _, _, _, _, SP.isv (.bool x5), _, _] mixed hA hB hO (mv q8 (cn (fun hE hK => yq (ks 0 hK 16 rfl) rfl) (cn (fun hE hK => zJ (ks 1 hK 17 rfl)) (mv q7 (mv q2 (.cons (fun _ _ hE hK hg => yV fn21 (kg 3 hK 19 rfl hg) (kg 4 hK 20 rfl hg) (vP (OkO.ext hB.ok hE) (vx f4 hE) (vx h_2 hE) (yd hx5 hg))) (cn (fun hE hK => za (ks 2 hK 18 rfl) (fun hb => kg 5 hK 21 rfl (zv rfl rfl hb)) (fun _ => rfl)) (cn (fun hE hK => zE (ks 6 hK 22 rfl)) .nil)))))))) ?zk3
 intro a3 w3 hA hE hB HF; have q6 := ksv (HF 6) rfl rfl rfl; clear q2 q7 q8 HF; replace h_2 := vx h_2 hE; replace f4 := vx f4 hE; clear hE
 obtain ⟨x6, hx_, h⟩ := Comp.run_bind h; replace hx_ := Comp.run_pure hx_; rw [hx_] at q6; clear hx_
 refine zG (zA (wp_ret ?_))
 have h := Comp.run_pure h; subst h
 exact zi Try.results34 hA q6 hB.ext rfl
theorem ok_court_Certain_f1 {O : Tags} {w0 : World} (hO : OkO O w0) {x_0 : Int} {v_1 : Value} {x_1 : Int} (h_1 : (rBox (rInt .i64)).v O w0 v_1 x_1) {n : Nat} {y : Bool} (h : (gU x_0 x_1).run n = some y) : Pure Try.prog 49 #[.int .i64 x_0, v_1] w0 (SP.isv (.bool y)).holds := by
 unfold gU at h
 refine zU Try.func49 rfl 8 Try.ntmps49 (by simp) fun a0 hA hs0 => ?_
 have q0 : a0.get 0 = .int .i64 x_0 := hs0 0 _ rfl
 have q1 : a0.get 1 = v_1 := hs0 1 _ rfl
 clear hs0
 have hB : Base (Fr w0) O w0 O w0 := Base.start hO
 refine wp_seq ?_
 refine' rb [_] mixed hA hB hO (cn (fun hE hK => zE rfl) .nil) ?zk1
 intro a1 w1 hA hE hB HF; replace q0 := kf HF q0; replace q1 := kf HF q1; clear HF; replace h_1 := vx h_1 hE; clear hE; refine zG (zA (wp_seq ?_))
 refine' rb [_, SP.isv (.int .i64 x_1), _, _, _] mixed hA hB hO (mv q0 (cn (fun hE hK => yD (rInt .i64) (fun _ => rfl) ty3 rfl rfl (kn (hK 1 rfl) rfl q1) (yM (fun _ => rfl) (vx h_1 hE)) (fun _ _ _ h => zd.1 h)) (cn (fun hE hK => okb_and (ks 0 hK 4 rfl) (ks 1 hK 5 rfl)) (cn (fun hE hK => yq (ks 2 hK 6 rfl) rfl) (cn (fun hE hK => zE (ks 3 hK 7 rfl)) .nil))))) ?zk2
 intro a2 w2 hA hE hB HF; have q3 := ksv (HF 3) rfl rfl rfl; clear q0 q1 HF; replace h_1 := vx h_1 hE; clear hE; refine zG (zA (wp_ret ?_))
 have h := Comp.run_pure h; subst h
 exact zi Try.results49 hA q3 hB.ext rfl
theorem kj {O : Tags} {w0 : World} (hO : OkO O w0) {v_0 : Value} {x_0 : List api_Claim} (h_0 : (rSl zB).v O w0 v_0 x_0) {v_1 : Value} {x_1 : List api_Sight} (h_1 : (rSl zF).v O w0 v_1 x_1) {x_2 : Int} {x_3 : Int} {n : Nat} {y : ((List Int) × Int)} (h : (jD x_0 x_1 x_2 x_3).run n = some y) : Pure Try.prog 19 #[v_0, v_1, .int .i64 x_2, .int .i64 x_3] w0 (SP.tup2 (SP.ownr (rInt .i64) 3 (w0.heap.size) O y.1) (SP.isv (.int .i64 y.2))).holds := by
 unfold jD at h
 refine zU Try.func19 rfl 60 Try.ntmps19 (by simp) fun a0 hA hs0 => ?_
 have q0 : a0.get 0 = v_0 := hs0 0 _ rfl
 have q1 : a0.get 1 = v_1 := hs0 1 _ rfl
 have q2 : a0.get 2 = .int .i64 x_2 := hs0 2 _ rfl
 have q3 : a0.get 3 = .int .i64 x_3 := hs0 3 _ rfl
 clear hs0
 have hB : Base (Fr w0) O w0 O w0 := Base.start hO
 refine wp_seq ?_
 refine' rb [_, _] mixed hA hB hO (cn (fun hE hK => zE rfl) (cn (fun hE hK => zE rfl) .nil)) ?zk1
 intro a1 w1 hA hE hB HF; refine kr4 HF q0 q1 q2 q3 ?_; clear q0 q1 q2 q3; intro q0 q1 q2 q3; clear HF; replace h_0 := vx h_0 hE; replace h_1 := vx h_1 hE; clear hE; refine zG (zA (wp_seq ?_)); obtain ⟨x1, hx1, h⟩ := Comp.run_bind h
 refine' rb [_, _, _, _, SP.tup2 (SP.vl (rSl (rInt .i64)) O x1.1) (SP.isv (.int .i64 x1.2)), SP.tup2 (SP.vl (rSl (rInt .i64)) O x1.1) (SP.isv (.int .i64 x1.2)), SP.vl (rSl (rInt .i64)) O x1.1, SP.isv (.int .i64 x1.2), SP.vl (rSl (rInt .i64)) O x1.1, _] mixed hA hB hO (mv q0 (mv q1 (mv q2 (mv q3 (.cons (fun _ _ hE hK hg => yE (kX fn17 (ks 0 hK 18 rfl) (ks 1 hK 19 rfl) (ks 2 hK 20 rfl) (ks 3 hK 21 rfl) (gn (OkO.ext hB.ok hE) (vx h_0 hE) (vx h_1 hE) hx1)) (fun _ _ _ ⟨a_, b_, e0_, h0_, h1_⟩ => ⟨a_, b_, e0_, (fun h => (OwnR.val h (fun g hg => (OkO.ext hB.ok hE) g (OwnR.ge h g hg).1))) h0_, h1_⟩)) (cn (fun hE hK => vo (φ := SP.tup2 (SP.vl (rSl (rInt .i64)) O x1.1) (SP.isv (.int .i64 x1.2))) (kp _ 4 hK 22 rfl)) (cn (fun hE hK => jC (kp (SP.tup2 (SP.vl (rSl (rInt .i64)) O x1.1) (SP.isv (.int .i64 x1.2))) 5 hK 17 rfl)) (cn (fun hE hK => jB (kp (SP.tup2 (SP.vl (rSl (rInt .i64)) O x1.1) (SP.isv (.int .i64 x1.2))) 5 hK 17 rfl)) (cn (fun hE hK => yC (φ := SP.vl (rSl (rInt .i64)) O x1.1) (kp _ 6 hK 23 rfl)) (cn (fun hE hK => zE (ks 7 hK 24 rfl)) .nil)))))))))) ?zk2
 intro a2 w2 hA hE hB HF; replace q0 := kf HF q0; obtain ⟨u2, q10, f3⟩ := kx (HF 10) rfl rfl rfl; have q11 := ksv (HF 11) rfl rfl rfl; clear q1 q2 q3 HF; replace h_0 := vx h_0 hE; replace h_1 := vx h_1 hE; clear hE; refine zG (zA (wp_seq (wp_seq ?_)))
 refine' rb [_, _] mixed hA hB hO (mv q11 (cn (fun hE hK => gm (ks 0 hK 25 rfl) rfl) .nil)) ?zk3
 intro a3 w3 hA hE hB HF; refine kr3 HF q0 q10 q11 ?_; clear q0 q10 q11; intro q0 q10 q11; have q26 := ksv (HF 26) rfl rfl rfl; clear HF; replace h_0 := vx h_0 hE; replace f3 := vx f3 hE; clear hE; refine zG (zA ?_)
 revert h; refine cnd q26 (fun h => ?_) (fun h => ?_)
 ·
  refine wp_seq ?_
  refine' rb [_, _, _] mixed hA hB hO (mv q11 (cn (fun hE hK => zE rfl) (cn (fun hE hK => zE (ks 0 hK 27 rfl)) .nil))) ?zk4
  intro a4 w4 hA hE hB HF; have q8 := ksv (HF 8) rfl rfl rfl; have q9 := ksv (HF 9) rfl rfl rfl; clear q0 q10 q11 q26 HF; replace h_0 := vx h_0 hE; replace f3 := vx f3 hE; clear hE; refine zG (zA (wp_ret (zn ?_)))
  have h := Comp.run_pure h; subst h
  exact gi Try.results19 hA q8 q9 hB.ext ⟨_, _, rfl, (OwnR.nil _ _ _ _ _), rfl⟩
 ·
  refine wp_skip (zA (wp_seq (wp_seq ?_)))
  refine' rb [_, _, _] mixed hA hB hO (mv q10 (cn (fun hE hK => zw (r := (rInt .i64)) ty23 (ks 0 hK 28 rfl) (rd_of (vx f3 hE))) (cn (fun hE hK => yq (ks 1 hK 29 rfl) rfl) .nil))) ?zk5
  intro a5 w5 hA hE hB HF; replace q0 := kf HF q0; replace q10 := kf HF q10; have q30 := ksv (HF 30) rfl rfl rfl; clear q11 q26 HF; replace h_0 := vx h_0 hE; replace f3 := vx f3 hE; clear hE; refine zG (zA ?_)
  revert h; refine cnd q30 (fun h => ?_) (fun h => ?_)
  ·
   refine wp_seq ?_
   refine' rb [_, _] mixed hA hB hO (cn (fun hE hK => zE rfl) (cn (fun hE hK => zE rfl) .nil)) ?zk6
   intro a6 w6 hA hE hB HF; have q8 := ksv (HF 8) rfl rfl rfl; have q9 := ksv (HF 9) rfl rfl rfl; clear q0 q10 q30 HF; replace h_0 := vx h_0 hE; replace f3 := vx f3 hE; clear hE; refine zG (zA (wp_ret (zn ?_)))
   have h := Comp.run_pure h; subst h
   exact gi Try.results19 hA q8 q9 hB.ext ⟨_, _, rfl, (OwnR.nil _ _ _ _ _), rfl⟩
  ·
   refine wp_skip (zA (wp_seq ?_))
   refine' rb [_] mixed hA hB hO (cn (fun hE hK => zE rfl) .nil) ?zk7
   intro a7 w7 hA hE hB HF; replace q0 := kf HF q0; replace q10 := kf HF q10; have q12 := ksv (HF 12) rfl rfl rfl; clear q30 HF; replace h_0 := vx h_0 hE; replace f3 := vx f3 hE; clear hE; refine zG (zA ?_)
   refine zh (fun a w => ∃ (O56 : Tags) (x53 : List Int) (u54 : Value), a.fit 60 ∧ Base (Fr w0) O w0 O56 w ∧ a.get 12 = u54 ∧ OwnL 1 (rInt .i64) 3 (Fr w0) O56 w u54 x53 ∧ (kl x53).run n = some y) ?_ ?_
   ·
    refine wp_seq ?_
    refine' rb [_] mixed hA hB hO (cn (fun hE hK => zE rfl) .nil) ?zk8
    intro a8 w8 hA hE hB HF; refine kr3 HF q0 q10 q12 ?_; clear q0 q10 q12; intro q0 q10 q12; have q13 := ksv (HF 13) rfl rfl rfl; clear HF; replace h_0 := vx h_0 hE; replace f3 := vx f3 hE; clear hE; refine zG (zA (wp_block ?_))
    obtain ⟨e2, he2, hk2⟩ := Comp.run_bind h; clear h
    refine gK (fun m a w => ∃ (O8 : Tags) (x4 : List Int) (x7 : Int) (u5 : Value), a.fit 60 ∧ Base (Fr w0) O w0 O8 w ∧ a.get 0 = v_0 ∧ (rSl zB).v O8 w v_0 x_0 ∧ a.get 10 = u2 ∧ (rSl (rInt .i64)).v O8 w u2 x1.1 ∧ a.get 12 = u5 ∧ OwnL 1 (rInt .i64) 3 (Fr w0) O8 w u5 x4 ∧ a.get 13 = .int .i64 x7 ∧ Comp.loopN (fun s => yj x_0 x1 s.1 s.2) n m (x4, x7) = some e2) (m := n) ?st2 ?_
    case st2 =>
     exact ⟨_, _, _, _, hA, hB, q0, h_0, q10, f3, q12, (OwnL.nil _ _ _ _ _ _), q13, Comp.yL he2⟩
    intro m_ a9 w9 hI
    clear hA hB he2 q0 q10 q12 q13 f3 h_0
    obtain ⟨O8, x4, x7, u5, hA, hB, q0, h_0, q10, f3, q12, f6, q13, hl⟩ := hI
    obtain ⟨m2, hlt2, st2, h, hnext2, hdone2⟩ := Comp.zm hl; clear hl
    replace h : (yj x_0 x1 x4 x7).run n = some st2 := h
    unfold yj at h; refine wp_seq (wp_seq ?_)
    refine' rb [_, _] mixed hA hB hO (mv q13 (cn (fun hE hK => yh (ks 0 hK 31 rfl) rfl) .nil)) ?zk9
    intro a10 w10 hA hE hB HF; refine kr4 HF q0 q10 q12 q13 ?_; clear q0 q10 q12 q13; intro q0 q10 q12 q13; have q32 := ksv (HF 32) rfl rfl rfl; clear HF; replace h_0 := vx h_0 hE; replace f3 := vx f3 hE; replace f6 := f6.ext hE; clear hE; refine zG (zA ?_)
    revert h; refine cnd q32 (fun h => ?_) (fun h => ?_)
    ·
     refine wp_skip (zA ?_)
     refine zh (fun a w => ∃ (O50 : Tags) (x47 : List Int) (u48 : Value), a.fit 60 ∧ Base (Fr w0) O w0 O50 w ∧ a.get 0 = v_0 ∧ (rSl zB).v O50 w v_0 x_0 ∧ a.get 10 = u2 ∧ (rSl (rInt .i64)).v O50 w u2 x1.1 ∧ a.get 12 = u48 ∧ OwnL 1 (rInt .i64) 3 (Fr w0) O50 w u48 x47 ∧ a.get 13 = .int .i64 x7 ∧ (jG x7 x47).run n = some st2) ?_ ?_
     ·
      refine wp_block (wp_seq ?_)
      refine' rgT [SP.box w10.heap.size #[.int .i64 0] 3] hA (cn (fun hE hK => gj hE.size ty3) .nil) ?zk10
      intro a11 w11 hA hE HF; refine kr4 HF q0 q10 q12 q13 ?_; clear q0 q10 q12 q13; intro q0 q10 q12 q13; obtain ⟨u9, q14, f10⟩ := kx (HF 14) rfl rfl rfl; clear q32 HF
      obtain ⟨O11, b12, hB', hX, e_, f13⟩ := kQ hO hB hE f10 2 (by decide)
      subst e_
      clear hB f10; have hB := hB'; clear hB'; replace h_0 := vk h_0 hX; replace f3 := vk f3 hX
      replace f6 := f6.kx hX (by decide) (by decide)
      clear hX hE
      refine jO (cs' := #[.int .i64 0]) hO hB (yI hB) ty3 q14 rfl rfl rfl f13 (by simp) rfl fun w12 f14 hB' hX => ?_
      clear hB f13; have hB := hB'; clear hB'; replace h_0 := vk h_0 hX; replace f3 := vk f3 hX
      replace f6 := f6.kx hX (by decide) (by decide)
      clear hX; refine zG (zA ?_)
      refine zh (fun a w => ∃ (O37 : Tags) (x36 : Int), a.fit 60 ∧ Base (Fr w0) O w0 O37 w ∧ a.get 0 = v_0 ∧ (rSl zB).v O37 w v_0 x_0 ∧ a.get 10 = u2 ∧ (rSl (rInt .i64)).v O37 w u2 x1.1 ∧ a.get 12 = u5 ∧ OwnL 1 (rInt .i64) 3 (Fr w0) O37 w u5 x4 ∧ a.get 13 = .int .i64 x7 ∧ a.get 14 = .pointer (some ⟨b12, 0, none⟩) ∧ OwnB 2 (Fr w0) O37 w b12 #[.int .i64 x36] 3 ∧ (jr x1 x4 x7 x36).run n = some st2) ?_ ?_
      ·
       refine wp_seq ?_
       refine' rb [_, _, _] mixed hA hB hO (mv q0 (cn (fun hE hK => zw (r := zB) ty27 (ks 0 hK 35 rfl) (rd_of (vx h_0 hE))) (cn (fun hE hK => zJ rfl) .nil))) ?zk11
       intro a13 w13 hA hE hB HF; refine kr5 HF q0 q10 q12 q13 q14 ?_; clear q0 q10 q12 q13 q14; intro q0 q10 q12 q13 q14; have q35 := ksv (HF 35) rfl rfl rfl; have q36 := ksv (HF 36) rfl rfl rfl; have q37 := ksv (HF 37) rfl rfl rfl; clear HF; replace h_0 := vx h_0 hE; replace f3 := vx f3 hE; replace f6 := f6.ext hE; replace f14 := f14.ext hE; clear hE; refine zG (zA (wp_block ?_))
       obtain ⟨e5, he5, hk5⟩ := Comp.run_bind h; clear h
       refine gK (fun m a w => ∃ (O17 : Tags) (x15 : Int) (x16 : Int), a.fit 60 ∧ Base (Fr w0) O w0 O17 w ∧ a.get 0 = v_0 ∧ (rSl zB).v O17 w v_0 x_0 ∧ a.get 10 = u2 ∧ (rSl (rInt .i64)).v O17 w u2 x1.1 ∧ a.get 12 = u5 ∧ OwnL 1 (rInt .i64) 3 (Fr w0) O17 w u5 x4 ∧ a.get 13 = .int .i64 x7 ∧ a.get 14 = .pointer (some ⟨b12, 0, none⟩) ∧ a.get 35 = v_0 ∧ a.get 36 = .int .i64 (x_0.length : Int) ∧ a.get 37 = .int .i64 x15 ∧ OwnB 2 (Fr w0) O17 w b12 #[.int .i64 x16] 3 ∧ Comp.loopN (fun s => yi x_0 x7 s.1 s.2) n m (x15, x16) = some e5) (m := n) ?st5 ?_
       case st5 =>
        exact ⟨_, _, _, hA, hB, q0, h_0, q10, f3, q12, f6, q13, q14, q35, q36, q37, f14, Comp.yL he5⟩
       intro m_ a14 w14 hI
       clear hA hB he5 q0 q10 q12 q13 q14 q35 q36 q37 f14 f3 f6 h_0
       obtain ⟨O17, x15, x16, hA, hB, q0, h_0, q10, f3, q12, f6, q13, q14, q35, q36, q37, f14, hl⟩ := hI
       obtain ⟨m5, hlt5, st5, h, hnext5, hdone5⟩ := Comp.zm hl; clear hl
       replace h : (yi x_0 x7 x15 x16).run n = some st5 := h
       unfold yi at h; refine wp_seq ?_
       refine' rb [_] mixed hA hB hO (cn (fun hE hK => yh (kq hK q37) (kq hK q36)) .nil) ?zk12
       intro a15 w15 hA hE hB HF; refine kr8 HF q0 q10 q12 q13 q14 q35 q36 q37 ?_; clear q0 q10 q12 q13 q14 q35 q36 q37; intro q0 q10 q12 q13 q14 q35 q36 q37; have q38 := ksv (HF 38) rfl rfl rfl; clear HF; replace h_0 := vx h_0 hE; replace f3 := vx f3 hE; replace f6 := f6.ext hE; replace f14 := f14.ext hE; clear hE; refine zG (zA (wp_seq ?_))
       revert h; refine cnd q38 (fun h => ?_) (fun h => ?_)
       ·
        refine wp_skip (zA ?_)
        refine zh (fun a w => ∃ (O34 : Tags) (x33 : Int), a.fit 60 ∧ Base (Fr w0) O w0 O34 w ∧ a.get 0 = v_0 ∧ (rSl zB).v O34 w v_0 x_0 ∧ a.get 10 = u2 ∧ (rSl (rInt .i64)).v O34 w u2 x1.1 ∧ a.get 12 = u5 ∧ OwnL 1 (rInt .i64) 3 (Fr w0) O34 w u5 x4 ∧ a.get 13 = .int .i64 x7 ∧ a.get 14 = .pointer (some ⟨b12, 0, none⟩) ∧ a.get 35 = v_0 ∧ a.get 36 = .int .i64 (x_0.length : Int) ∧ a.get 37 = .int .i64 x15 ∧ OwnB 2 (Fr w0) O34 w b12 #[.int .i64 x33] 3 ∧ (jF x15 x33).run n = some st5) ?_ ?_
        ·
         refine wp_block (wp_seq ?_); obtain ⟨x18, hx18, h⟩ := Comp.run_bind h
         refine' rbT [_, SP.ptr zB O17 x18, SP.vl zB O17 x18] hA hB hO (mv q37 (cn (fun hE hK => vC (r := zB) (O := O17) ty27 ty33 rfl (kq hK q35) (rd_of (vx h_0 hE)) (kq hK q37) hx18) (cn (fun hE hK => vO (r := zB) zO ty33 rfl rfl rfl (kp (SP.ptr zB O17 x18) 1 hK 40 rfl)) .nil))) ?zk13
         intro a16 w16 hA hE hB HF; refine kr8 HF q0 q10 q12 q13 q14 q35 q36 q37 ?_; clear q0 q10 q12 q13 q14 q35 q36 q37; intro q0 q10 q12 q13 q14 q35 q36 q37; obtain ⟨u19, q41, f20⟩ := kx (HF 41) rfl rfl rfl; have q39 := ksv (HF 39) rfl rfl rfl; clear q38 HF; replace h_0 := vx h_0 hE; replace f3 := vx f3 hE; replace f6 := f6.ext hE; replace f14 := f14.ext hE; clear hE
         refine l_ok (φ := SP.box w16.heap.size #[.int .i64 0, .int .i64 0, .int .i64 0, .slice none 0 0, .slice none 0 0] 33) hO hB (by exact gj (Nat.le_refl _) ty33) rfl fun u21 w17 hE hB' f22 => ?_
         clear hB'; obtain ⟨O23, b25, hB', hX, e_, f24⟩ := kQ hO hB hE f22 3 (by decide)
         subst e_; clear hB f22; have hB := hB'; clear hB'
         replace h_0 := vk h_0 hX; replace f3 := vk f3 hX
         replace f6 := f6.kx hX (by decide) (by decide)
         replace f20 := vk f20 hX
         replace f14 := f14.kx hX (by decide)
         clear hX hE
         refine zQ hA (by decide) fun a18 hA q_ hfr => ?_
         refine kd10 hfr q0 q10 q12 q13 q14 q35 q36 q37 q39 q41 ?_; clear q0 q10 q12 q13 q14 q35 q36 q37 q39 q41; intro q0 q10 q12 q13 q14 q35 q36 q37 q39 q41; have q16 := q_; clear q_ hfr
         refine l_ok (φ := SP.isv (.int .i64 x15)) hO hB (by exact zE q39) rfl fun u_ w19 hE hB' hv_ => ?_
         replace hv_ := Eq.symm hv_; subst hv_; clear hB; have hB := hB'; clear hB'
         replace h_0 := vx h_0 hE; replace f3 := vx f3 hE; replace f6 := f6.ext hE; replace f20 := vx f20 hE; replace f14 := f14.ext hE; replace f24 := f24.ext hE; clear hE
         refine zQ hA (by decide) fun a20 hA q_ hfr => ?_
         refine kd11 hfr q0 q10 q12 q13 q14 q16 q35 q36 q37 q39 q41 ?_; clear q0 q10 q12 q13 q14 q16 q35 q36 q37 q39 q41; intro q0 q10 q12 q13 q14 q16 q35 q36 q37 q39 q41; have q15 := q_; clear q_ hfr
         obtain ⟨u26, u28, e_, f27, f29⟩ := kB f20; subst e_
         refine gT (vs := [.int .i64 x18.Party, .int .i64 x18.Kind, .int .i64 x18.Gauge, u26, u28]) (cs' := #[.int .i64 x18.Party, .int .i64 x18.Kind, .int .i64 x18.Gauge, u26, u28]) hO hB (yI hB) ty33 q16 q41 rfl (by intro c_ hc_; simp only [List.mem_cons, List.not_mem_nil, or_false] at hc_; rcases hc_ with rfl | rfl | rfl | rfl | rfl <;> first | rfl | assumption | exact sl_one f27 rfl rfl | exact sl_one f29 rfl rfl) f24 (by simp) rfl fun w21 f30 hB' hX => ?_
         clear hB f24; have hB := hB'; clear hB'; replace h_0 := vk h_0 hX; replace f3 := vk f3 hX
         replace f6 := f6.kx hX (by decide) (by decide)
         replace f27 := vk f27 hX; replace f29 := vk f29 hX
         replace f14 := f14.kx hX (by decide)
         clear hX; refine zG (zA (wp_seq ?_))
         refine' rb [SP.isv (.pointer (some ⟨b25, 0, none⟩)), SP.isv (.int .i64 x18.Party), _, _] mixed hA hB hO (cn (fun hE hK => zK fl33_0 (kq hK q16)) (cn (fun hE hK => zg ty3 rfl (ks 0 hK 42 rfl) (OwnB.ext f30 hE).own rfl) (mv q13 (cn (fun hE hK => yq (ks 1 hK 43 rfl) (ks 2 hK 44 rfl)) .nil)))) ?zk14
         intro a22 w22 hA hE hB HF; refine kr9 HF q0 q10 q12 q13 q14 q15 q35 q36 q37 ?_; clear q0 q10 q12 q13 q14 q15 q35 q36 q37; intro q0 q10 q12 q13 q14 q15 q35 q36 q37; have q45 := ksv (HF 45) rfl rfl rfl; clear q16 HF; replace h_0 := vx h_0 hE; replace f3 := vx f3 hE; replace f6 := f6.ext hE; replace f14 := f14.ext hE; replace f30 := f30.ext hE; replace f27 := vx f27 hE; replace f29 := vx f29 hE; clear hE; refine zG (zA ?_)
         revert h; refine cnd q45 (fun h => ?_) (fun h => ?_)
         ·
          obtain ⟨x31, hx31, h⟩ := Comp.run_bind h
          refine' rb [SP.isv (.int .i64 x16), _, _, _] mixed hA hB hO (cn (fun hE hK => zg ty3 rfl (kq hK q14) (OwnB.ext f14 hE).own rfl) (mv q15 (cn (fun hE hK => okl_shl rfl (ks 1 hK 47 rfl) (vn hx31)) (cn (fun hE hK => okb_or (ks 0 hK 46 rfl) (ks 2 hK 48 rfl)) .nil)))) ?zk15
          intro a23 w23 hA hE hB HF; refine kr8 HF q0 q10 q12 q13 q14 q35 q36 q37 ?_; clear q0 q10 q12 q13 q14 q35 q36 q37; intro q0 q10 q12 q13 q14 q35 q36 q37; have q49 := ksv (HF 49) rfl rfl rfl; clear q15 q45 HF; replace h_0 := vx h_0 hE; replace f3 := vx f3 hE; replace f6 := f6.ext hE; replace f14 := f14.ext hE; clear hE
          refine jO (cs' := #[.int .i64 (orB .i64 x16 (shlF .i64 1 x15))]) hO hB (yI hB) ty3 q14 q49 rfl rfl f14 (by simp) rfl fun w24 f32 hB' hX => ?_
          clear hB f14; have hB := hB'; clear hB'; replace h_0 := vk h_0 hX; replace f3 := vk f3 hX
          replace f6 := f6.kx hX (by decide) (by decide)
          clear hX; refine zG (yJ (zA ?_))
          exact ⟨_, _, hA, hB, q0, h_0, q10, f3, q12, f6, q13, q14, q35, q36, q37, f32, h⟩
         ·
          refine wp_skip (yJ (zA ?_))
          exact ⟨_, _, hA, hB, q0, h_0, q10, f3, q12, f6, q13, q14, q35, q36, q37, f14, h⟩
        intro a25 w25 hI
        clear hA hB h q0 q10 q12 q13 q14 q35 q36 q37 q38 f14 f3 f6 h_0
        obtain ⟨O34, x33, hA, hB, q0, h_0, q10, f3, q12, f6, q13, q14, q35, q36, q37, f32, h⟩ := hI
        unfold jF at h
        refine' rb [_, _] mixed hA hB hO (cn (fun hE hK => yp (kq hK q37) rfl) (cn (fun hE hK => zJ (ks 0 hK 50 rfl)) .nil)) ?zk16
        intro a26 w26 hA hE hB HF; refine kr7 HF q0 q10 q12 q13 q14 q35 q36 ?_; clear q0 q10 q12 q13 q14 q35 q36; intro q0 q10 q12 q13 q14 q35 q36; replace q37 := ksv (HF 37) rfl rfl rfl; clear HF; replace h_0 := vx h_0 hE; replace f3 := vx f3 hE; replace f6 := f6.ext hE; replace f32 := f32.ext hE; clear hE; refine zG (zA ?_)
        have h := hnext5 _ (Comp.run_pure h).symm
        refine ⟨m5, hlt5, ?_⟩
        exact ⟨_, _, _, hA, hB, q0, h_0, q10, f3, q12, f6, q13, q14, q35, q36, q37, f32, h⟩
       ·
        refine wp_exit (zX (zX (ye ?_)))
        have hd_ := hdone5 _ (Comp.run_pure h).symm; clear h
        subst hd_; have h := hk5; clear hk5; try dsimp only at h
        refine zA ?_
        exact ⟨_, _, hA, hB, q0, h_0, q10, f3, q12, f6, q13, q14, f14, h⟩
      intro a27 w27 hI
      clear hA hB h q0 q10 q12 q13 q14 f14 f3 f6 h_0
      obtain ⟨O37, x36, hA, hB, q0, h_0, q10, f3, q12, f6, q13, q14, f14, h⟩ := hI
      unfold jr at h; refine wp_seq ?_
      obtain ⟨O38, hB', hX, f39⟩ := freezeB (r := (rInt .i64)) (x := x36) hO hB f14 (by decide) rfl
      clear f14 hB; have hB := hB'; clear hB'; replace h_0 := vk h_0 hX; replace f3 := vk f3 hX
      replace f6 := f6.kx hX (by decide) (by decide)
      clear hX; obtain ⟨x40, hx40, h⟩ := Comp.run_bind h
      refine' rb [_, SP.isv (.func (.func 49) #[] #[.pointer (some ⟨b12, 0, none⟩)]), SP.isv (.bool x40), _] mixed hA hB hO (mv q10 (cn (fun hE hK => jX map0 (map1 (kq hK q14))) (.cons ?z17_2 (cn (fun hE hK => kb (ks 2 hK 53 rfl)) .nil)))) ?zk17
      case z17_2 => intro a' w' hE hK hg; have c_ := yt (OkO.ext hB.ok hE) (vx f3 hE) (show (rF1 Try.prog (rInt .i64) (RS.c (fun x => .bool x))).v O38 _ (.func (.func 49) #[] #[.pointer (some ⟨b12, 0, none⟩)]) (fun z0 => gU z0 x36) from rF1_v.2 ⟨rfl, fun O' w' hO' hk v_0 x_0 hv_0 n_ y_ hy_ => by obtain rfl := zd.1 hv_0; exact jx fn49 (ok_court_Certain_f1 hO'  (GR.zI _ (vx f39 hE) hk) hy_)⟩) hx40; exact yV fn48 (ks 0 hK 51 rfl) (ks 1 hK 52 rfl) c_
      intro a28 w28 hA hE hB HF; refine kr4 HF q0 q10 q12 q13 ?_; clear q0 q10 q12 q13; intro q0 q10 q12 q13; have q54 := ksv (HF 54) rfl rfl rfl; clear q14 HF; replace h_0 := vx h_0 hE; replace f3 := vx f3 hE; replace f6 := f6.ext hE; replace f39 := vx f39 hE; clear hE; refine zG (zA ?_)
      revert h; refine cnd q54 (fun h => ?_) (fun h => ?_)
      ·
       refine' rbT [_, _, SP.vl (rSl (rInt .i64)) O38 [x7]] hA hB hO (mv q12 (mv q13 (cn (fun hE hK => zN (r := (rInt .i64)) (fun _ => rfl) rfl (OkO.ext hB.ok hE) ty23 ty3 (zR (ks 1 hK 56 rfl) zl) ⟨(by exact zd.2 rfl), trivial⟩ rfl (by decide)) .nil))) ?zk18
       intro a29 w29 hA hE hB HF; refine kr4 HF q0 q10 q12 q13 ?_; clear q0 q10 q12 q13; intro q0 q10 q12 q13; obtain ⟨u41, q57, f42⟩ := kx (HF 57) rfl rfl rfl; have q55 := ksv (HF 55) rfl rfl rfl; clear q54 HF; replace h_0 := vx h_0 hE; replace f3 := vx f3 hE; replace f6 := f6.ext hE; clear hE; obtain ⟨x43, hx43, h⟩ := Comp.run_bind h
       refine jP (r := (rInt .i64)) (fun _ => rfl) rfl ty23 ty3 rfl (by decide) hO hB (yI hB) q55 f6 q57 (rd_of f42) hx43 (by decide) fun u44 w30 O45 f46 hB' hX => ?_
       clear hB; have hB := hB'; clear hB'; clear f6; replace h_0 := vk h_0 hX; replace f3 := vk f3 hX; replace f42 := vk f42 hX; clear hX
       refine zQ hA (by decide) fun a31 hA q_ hfr => ?_
       refine kd6 hfr q0 q10 q12 q13 q55 q57 ?_; clear q0 q10 q12 q13 q55 q57; intro q0 q10 q12 q13 q55 q57; have q58 := q_; clear q_ hfr
       refine l_ok (φ := SP.isv (u44)) hO hB (by exact zE q58) rfl fun u_ w32 hE hB' hv_ => ?_
       replace hv_ := Eq.symm hv_; subst hv_; clear hB; have hB := hB'; clear hB'
       replace h_0 := vx h_0 hE; replace f3 := vx f3 hE; replace f46 := f46.ext hE; clear hE
       refine zQ hA (by decide) fun a33 hA q_ hfr => ?_
       replace q0 := (hfr 0 rfl).trans q0
       replace q10 := (hfr 10 rfl).trans q10
       replace q13 := (hfr 13 rfl).trans q13
       replace q58 := (hfr 58 rfl).trans q58
       clear q12; have q12 := q_; clear q_ hfr; refine zG (yJ (zA ?_))
       exact ⟨_, _, _, hA, hB, q0, h_0, q10, f3, q12, f46, q13, h⟩
      ·
       refine wp_skip (yJ (zA ?_))
       exact ⟨_, _, _, hA, hB, q0, h_0, q10, f3, q12, f6, q13, h⟩
     intro a34 w34 hI
     clear hA hB h q0 q10 q12 q13 q32 f3 f6 h_0
     obtain ⟨O50, x47, u48, hA, hB, q0, h_0, q10, f3, q12, f49, q13, h⟩ := hI
     unfold jG at h
     refine' rb [_, _, _] mixed hA hB hO (mv q13 (cn (fun hE hK => yp (ks 0 hK 33 rfl) rfl) (cn (fun hE hK => zE (ks 1 hK 34 rfl)) .nil))) ?zk19
     intro a35 w35 hA hE hB HF; refine kr3 HF q0 q10 q12 ?_; clear q0 q10 q12; intro q0 q10 q12; replace q13 := ksv (HF 13) rfl rfl rfl; clear HF; replace h_0 := vx h_0 hE; replace f3 := vx f3 hE; replace f49 := f49.ext hE; clear hE; refine zG (zA ?_)
     have h := hnext2 _ (Comp.run_pure h).symm
     refine ⟨m2, hlt2, ?_⟩
     exact ⟨_, _, _, _, hA, hB, q0, h_0, q10, f3, q12, f49, q13, h⟩
    ·
     refine wp_exit (zX (zX (ye ?_)))
     have hd_ := hdone2 _ (Comp.run_pure h).symm; clear h
     subst hd_; have h := hk2; clear hk2; try dsimp only at h
     refine zA ?_
     exact ⟨_, _, _, hA, hB, q12, f6, h⟩
   intro a36 w36 hI
   clear hA hB h q0 q10 q12 f3 h_0
   obtain ⟨O56, x53, u54, hA, hB, q12, f55, h⟩ := hI
   unfold kl at h; refine wp_seq ?_
   refine' rb [_, _, _] mixed hA hB hO (mv q12 (cn (fun hE hK => zE (ks 0 hK 59 rfl)) (cn (fun hE hK => zE rfl) .nil))) ?zk20
   intro a37 w37 hA hE hB HF; have q8 := ksv (HF 8) rfl rfl rfl; have q9 := ksv (HF 9) rfl rfl rfl; clear q12 HF; replace f55 := f55.ext hE; clear hE; refine zG (zA (wp_ret ?_))
   have h := Comp.run_pure h; subst h
   exact gi Try.results19 hA q8 q9 hB.ext ⟨_, _, rfl, (OwnL.res f55 (by decide) hB.zero), rfl⟩
theorem jJ {O : Tags} {w0 : World} (hO : OkO O w0) {v_0 : Value} {x_0 : List api_Sight} (h_0 : (rSl zF).v O w0 v_0 x_0) {x_1 : Int} {v_2 : Value} {x_2 : List Int} (h_2 : (rSl (rInt .i64)).v O w0 v_2 x_2) {n : Nat} {y : Bool} (h : (gQ x_0 x_1 x_2).run n = some y) : Pure Try.prog 35 #[v_0, .int .i64 x_1, v_2] w0 (SP.isv (.bool y)).holds := by
 unfold gQ at h
 refine zU Try.func35 rfl 23 Try.ntmps35 (by simp) fun a0 hA hs0 => ?_
 have q0 : a0.get 0 = v_0 := hs0 0 _ rfl
 have q1 : a0.get 1 = .int .i64 x_1 := hs0 1 _ rfl
 have q2 : a0.get 2 = v_2 := hs0 2 _ rfl
 clear hs0
 have hB : Base (Fr w0) O w0 O w0 := Base.start hO
 refine wp_seq ?_
 refine' rb [_] mixed hA hB hO (cn (fun hE hK => zE rfl) .nil) ?zk1
 intro a1 w1 hA hE hB HF; refine kr3 HF q0 q1 q2 ?_; clear q0 q1 q2; intro q0 q1 q2; clear HF; replace h_0 := vx h_0 hE; replace h_2 := vx h_2 hE; clear hE; refine zG (zA (wp_seq ?_)); obtain ⟨x1, hx1, h⟩ := Comp.run_bind h; obtain ⟨x2, hx2, h⟩ := Comp.run_bind h
 refine' rb [SP.vl (rSl zB) O x1, _, _, SP.tup2 (SP.vl (rSl (rInt .i64)) O x2.1) (SP.isv (.int .i64 x2.2)), SP.tup2 (SP.vl (rSl (rInt .i64)) O x2.1) (SP.isv (.int .i64 x2.2)), SP.vl (rSl (rInt .i64)) O x2.1, SP.isv (.int .i64 x2.2), SP.vl (rSl (rInt .i64)) O x2.1, _] mixed hA hB hO (.cons (fun _ _ hE hK hg => yE (jp fn32  (zt (OkO.ext hB.ok hE)  hx1)) (fun _ _ _ h => (OwnR.val h (fun g hg => (OkO.ext hB.ok hE) g (OwnR.ge h g hg).1)))) (mv q0 (mv q1 (.cons (fun _ _ hE hK hg => yE (kX fn19 rfl (ks 1 hK 11 rfl) rfl (ks 2 hK 12 rfl) (kj (OkO.ext hB.ok hE) (kp (SP.vl (rSl zB) O x1) 0 hK 10 rfl) (vx h_0 hE) hx2)) (fun _ _ _ ⟨a_, b_, e0_, h0_, h1_⟩ => ⟨a_, b_, e0_, (fun h => (OwnR.val h (fun g hg => (OkO.ext hB.ok hE) g (OwnR.ge h g hg).1))) h0_, h1_⟩)) (cn (fun hE hK => vo (φ := SP.tup2 (SP.vl (rSl (rInt .i64)) O x2.1) (SP.isv (.int .i64 x2.2))) (kp _ 3 hK 13 rfl)) (cn (fun hE hK => jC (kp (SP.tup2 (SP.vl (rSl (rInt .i64)) O x2.1) (SP.isv (.int .i64 x2.2))) 4 hK 9 rfl)) (cn (fun hE hK => jB (kp (SP.tup2 (SP.vl (rSl (rInt .i64)) O x2.1) (SP.isv (.int .i64 x2.2))) 4 hK 9 rfl)) (cn (fun hE hK => yC (φ := SP.vl (rSl (rInt .i64)) O x2.1) (kp _ 5 hK 14 rfl)) (cn (fun hE hK => zE (ks 6 hK 15 rfl)) .nil))))))))) ?zk2
 intro a2 w2 hA hE hB HF; replace q2 := kf HF q2; obtain ⟨u3, q7, f4⟩ := kx (HF 7) rfl rfl rfl; have q8 := ksv (HF 8) rfl rfl rfl; clear q0 q1 HF; replace h_0 := vx h_0 hE; replace h_2 := vx h_2 hE; clear hE; refine zG (zA (wp_seq ?_)); obtain ⟨x5, hx5, h⟩ := Comp.run_bind h
 refine' rb [_, _, _, _, _, SP.isv (.bool x5), _, _] mixed hA hB hO (mv q8 (cn (fun hE hK => yq (ks 0 hK 16 rfl) rfl) (cn (fun hE hK => zJ (ks 1 hK 17 rfl)) (mv q7 (mv q2 (.cons (fun _ _ hE hK hg => yV fn21 (kg 3 hK 19 rfl hg) (kg 4 hK 20 rfl hg) (vP (OkO.ext hB.ok hE) (vx f4 hE) (vx h_2 hE) (yd hx5 hg))) (cn (fun hE hK => za (ks 2 hK 18 rfl) (fun hb => kg 5 hK 21 rfl (zv rfl rfl hb)) (fun _ => rfl)) (cn (fun hE hK => zE (ks 6 hK 22 rfl)) .nil)))))))) ?zk3
 intro a3 w3 hA hE hB HF; have q6 := ksv (HF 6) rfl rfl rfl; clear q2 q7 q8 HF; replace h_2 := vx h_2 hE; replace f4 := vx f4 hE; clear hE
 obtain ⟨x6, hx_, h⟩ := Comp.run_bind h; replace hx_ := Comp.run_pure hx_; rw [hx_] at q6; clear hx_
 refine zG (zA (wp_ret ?_))
 have h := Comp.run_pure h; subst h
 exact zi Try.results35 hA q6 hB.ext rfl
theorem ok_colletlaw43_sanity {O : Tags} {w0 : World} (hO : OkO O w0)  {n : Nat} {y : Bool} (h : (jR).run n = some y) : Pure Try.prog 8 #[] w0 (SP.isv (.bool y)).holds := by
 unfold jR at h
 refine zU Try.func8 rfl 114 Try.ntmps8 (by simp) fun a0 hA hs0 => ?_
 clear hs0
 have hB : Base (Fr w0) O w0 O w0 := Base.start hO
 refine wp_seq ?_
 refine' rb [_] mixed hA hB hO (cn (fun hE hK => zE rfl) .nil) ?zk1
 intro a1 w1 hA hE hB HF; clear HF; clear hE; refine zG (zA (wp_seq ?_))
 refine' rgT [SP.isv (.agg #[.int .i64 0, .int .i64 0, .bool true]), SP.isv (.agg #[.int .i64 0, .int .i64 0, .bool false]), SP.box w1.heap.size #[.int .i64 0, .int .i64 0, .bool false] 64] hA (cn (fun hE hK => vg plc64 ty64 (yl (v := .bool true) rfl kP) rfl (.cons rfl rfl rfl (leb rfl) .nil) rfl) (cn (fun hE hK => vg plc64 ty64 kP rfl .nil rfl) (cn (fun hE hK => gj hE.size ty64) .nil))) ?zk2
 intro a2 w2 hA hE HF; obtain ⟨u1, q1, f2⟩ := kx (HF 1) rfl rfl rfl; have q13 := ksv (HF 13) rfl rfl rfl; have q14 := ksv (HF 14) rfl rfl rfl; clear HF
 obtain ⟨O3, b4, hB', hX, e_, f5⟩ := kQ hO hB hE f2 1 (by decide)
 subst e_
 clear hB f2; have hB := hB'; clear hB'; clear hX hE
 refine l_ok (φ := SP.box w2.heap.size #[.int .i64 0, .int .i64 0, .bool false] 64) hO hB (by exact gj (Nat.le_refl _) ty64) rfl fun u6 w3 hE hB' f7 => ?_
 clear hB'; obtain ⟨O8, b10, hB', hX, e_, f9⟩ := kQ hO hB hE f7 2 (by decide)
 subst e_; clear hB f7; have hB := hB'; clear hB'
 replace f5 := f5.kx hX (by decide)
 clear hX hE
 refine zQ hA (by decide) fun a4 hA q_ hfr => ?_
 refine kd3 hfr q1 q13 q14 ?_; clear q1 q13 q14; intro q1 q13 q14; have q2 := q_; clear q_ hfr
 refine gT (vs := [.int .i64 0, .int .i64 0, .bool true]) (cs' := #[.int .i64 0, .int .i64 0, .bool true]) hO hB (yI hB) ty64 q1 q13 rfl (by simp [Value.oneCell']) f5 (by simp) rfl fun w5 f11 hB' hX => ?_
 clear hB f5; have hB := hB'; clear hB'
 replace f9 := f9.kx hX (by decide)
 clear hX
 refine gT (vs := [.int .i64 0, .int .i64 0, .bool false]) (cs' := #[.int .i64 0, .int .i64 0, .bool false]) hO hB (yI hB) ty64 q2 q14 rfl (by simp [Value.oneCell']) f9 (by simp) rfl fun w6 f12 hB' hX => ?_
 clear hB f9; have hB := hB'; clear hB'
 replace f11 := f11.kx hX (by decide)
 clear hX; refine zG (zA (wp_seq ?_))
 refine' rb [SP.isv (.agg #[.int .i64 0, .int .i64 0, .bool false]), SP.isv (.agg #[.int .i64 0, .int .i64 1, .bool true]), SP.vl (rSl zF) O8 [(api_Sight.mk 0 0 false), (api_Sight.mk 0 1 true)], SP.vl (rSl zF) O8 [(api_Sight.mk 0 0 false), (api_Sight.mk 0 1 true)]] mixed hA hB hO (cn (fun hE hK => gE ty64 rfl (kq hK q2) (OwnB.ext f12 hE).own rfl) (cn (fun hE hK => vg plc64 ty64 (yl (v := .int .i64 1) rfl (yl (v := .bool true) rfl kP)) rfl (.cons rfl rfl rfl (leb rfl) (.cons rfl rfl rfl (leb rfl) .nil)) rfl) (.cons ?z3_2 (cn (fun hE hK => yC (φ := SP.vl (rSl zF) O8 [(api_Sight.mk 0 0 false), (api_Sight.mk 0 1 true)]) (kp _ 2 hK 17 rfl)) .nil)))) ?zk3
 case z3_2 => intro a' w' hE hK hg; exact zN (r := zF) yN rfl (OkO.ext hB.ok hE) ty28 ty64 (zR (ks 0 hK 15 rfl) (zR (ks 1 hK 16 rfl) zl)) ⟨(by first | exact (rC_v (x := (api_Sight.mk 0 0 false))).2 rfl | exact ⟨_, rfl, rfl⟩), ⟨(by first | exact (rC_v (x := (api_Sight.mk 0 1 true))).2 rfl | exact ⟨_, rfl, rfl⟩), trivial⟩⟩ rfl (by decide)
 intro a7 w7 hA hE hB HF; replace q1 := kf HF q1; replace q2 := kf HF q2; obtain ⟨u13, q3, f14⟩ := kx (HF 3) rfl rfl rfl; clear HF; replace f11 := f11.ext hE; replace f12 := f12.ext hE; clear hE; refine zG (zA (wp_seq ?_)); obtain ⟨x15, hx15, h⟩ := Comp.run_bind h; obtain ⟨x16, hx16, h⟩ := Comp.run_bind h; obtain ⟨x17, hx17, h⟩ := Comp.run_bind h; obtain ⟨x18, hx18, h⟩ := Comp.run_bind h; obtain ⟨x19, hx19, h⟩ := Comp.run_bind h; obtain ⟨x20, hx20, h⟩ := Comp.run_bind h
 refine' rb [SP.vl (rSl zB) O8 x15, _, SP.isv (.bool x16), _, SP.vl (rSl zB) O8 x17, _, SP.isv (.bool x18), _, _, _, SP.vl (rSl (rInt .i64)) O8 [0], SP.isv (.bool x19), _, _, _, SP.isv (.bool x20), _, _] mixed hA hB hO (.cons (fun _ _ hE hK hg => yE (jp fn32  (zt (OkO.ext hB.ok hE)  hx15)) (fun _ _ _ h => (OwnR.val h (fun g hg => (OkO.ext hB.ok hE) g (OwnR.ge h g hg).1)))) (mv q3 (cn (fun hE hK => kX fn15 rfl (ks 1 hK 19 rfl) rfl rfl (ok_court_Agrees (OkO.ext hB.ok hE) (kp (SP.vl (rSl zB) O8 x15) 0 hK 18 rfl) (vx f14 hE) hx16)) (cn (fun hE hK => zJ (ks 2 hK 20 rfl)) (.cons (fun _ _ hE hK hg => yE (jp fn32  (zt (OkO.ext hB.ok hE)  (yd hx17 hg))) (fun _ _ _ h => (OwnR.val h (fun g hg => (OkO.ext hB.ok hE) g (OwnR.ge h g hg).1)))) (mv q3 (.cons (fun _ _ hE hK hg => vY fn33 rfl (kg 5 hK 23 rfl hg) rfl (yf (OkO.ext hB.ok hE) (kspS (φ := SP.vl (rSl zB) O8 x17) (j := 4) (hK 22 rfl) rfl rfl hg) (vx f14 hE) (jA _ _ _ 0) (yd hx18 hg))) (cn (fun hE hK => za (ks 3 hK 21 rfl) (fun hb => kg 6 hK 24 rfl (zv rfl rfl hb)) (fun _ => rfl)) (cn (fun hE hK => zJ (ks 7 hK 25 rfl)) (mv q3 (cn (fun hE hK => zN (r := (rInt .i64)) (fun _ => rfl) rfl (OkO.ext hB.ok hE) ty23 ty3 (zR rfl zl) ⟨(by exact zd.2 rfl), trivial⟩ rfl (by decide)) (.cons (fun _ _ hE hK hg => vY fn34 (kg 9 hK 27 rfl hg) rfl rfl (gF (OkO.ext hB.ok hE) (vx f14 hE) (kspS (φ := SP.vl (rSl (rInt .i64)) O8 [0]) (j := 10) (hK 28 rfl) rfl rfl hg) (yd hx19 hg))) (cn (fun hE hK => za (ks 8 hK 26 rfl) (fun hb => kg 11 hK 29 rfl (zv rfl rfl hb)) (fun _ => rfl)) (cn (fun hE hK => zJ (ks 12 hK 30 rfl)) (mv q3 (.cons (fun _ _ hE hK hg => vY fn35 (kg 14 hK 32 rfl hg) rfl rfl (jJ (OkO.ext hB.ok hE) (vx f14 hE) (jA _ _ _ 0) (yd hx20 hg))) (cn (fun hE hK => za (ks 13 hK 31 rfl) (fun hb => kg 15 hK 33 rfl (zv rfl rfl hb)) (fun _ => rfl)) (cn (fun hE hK => zE (ks 16 hK 34 rfl)) .nil)))))))))))))))))) ?zk4
 intro a8 w8 hA hE hB HF; replace q1 := kf HF q1; replace q2 := kf HF q2; have q4 := ksv (HF 4) rfl rfl rfl; clear q3 HF; replace f14 := vx f14 hE; replace f11 := f11.ext hE; replace f12 := f12.ext hE; clear hE
 obtain ⟨x21, hx_, h⟩ := Comp.run_bind h; replace hx_ := Comp.run_pure hx_; rw [hx_] at q4; clear hx_
 refine zG (zA (wp_seq ?_))
 refine' rb [SP.isv (.agg #[.int .i64 0, .int .i64 0, .bool true]), SP.vl (rSl zF) O8 [(api_Sight.mk 0 0 true)], SP.vl (rSl zF) O8 [(api_Sight.mk 0 0 true)]] mixed hA hB hO (cn (fun hE hK => gE ty64 rfl (kq hK q1) (OwnB.ext f11 hE).own rfl) (.cons ?z5_1 (cn (fun hE hK => yC (φ := SP.vl (rSl zF) O8 [(api_Sight.mk 0 0 true)]) (kp _ 1 hK 36 rfl)) .nil))) ?zk5
 case z5_1 => intro a' w' hE hK hg; exact zN (r := zF) yN rfl (OkO.ext hB.ok hE) ty28 ty64 (zR (ks 0 hK 35 rfl) zl) ⟨(by first | exact (rC_v (x := (api_Sight.mk 0 0 true))).2 rfl | exact ⟨_, rfl, rfl⟩), trivial⟩ rfl (by decide)
 intro a9 w9 hA hE hB HF; refine kr3 HF q1 q2 q4 ?_; clear q1 q2 q4; intro q1 q2 q4; obtain ⟨u22, q5, f23⟩ := kx (HF 5) rfl rfl rfl; clear HF; replace f11 := f11.ext hE; replace f12 := f12.ext hE; clear hE; refine zG (zA (wp_seq ?_)); obtain ⟨x24, hx24, h⟩ := Comp.run_bind h; obtain ⟨x25, hx25, h⟩ := Comp.run_bind h; obtain ⟨x26, hx26, h⟩ := Comp.run_bind h; obtain ⟨x27, hx27, h⟩ := Comp.run_bind h; obtain ⟨x28, hx28, h⟩ := Comp.run_bind h; obtain ⟨x29, hx29, h⟩ := Comp.run_bind h
 refine' rb [SP.vl (rSl zB) O8 x24, _, SP.vl (rSl (rInt .i64)) O8 [10], SP.isv (.bool x25), _, _, SP.vl (rSl (rInt .i64)) O8 [2], SP.isv (.bool x26), _, _, _, SP.vl (rSl (rInt .i64)) O8 [2, 8], SP.isv (.bool x27), _, _, _, SP.vl (rSl (rInt .i64)) O8 [0], SP.isv (.bool x28), _, _, _, SP.isv (.bool x29), _, _] mixed hA hB hO (.cons (fun _ _ hE hK hg => yE (jp fn32  (zt (OkO.ext hB.ok hE)  hx24)) (fun _ _ _ h => (OwnR.val h (fun g hg => (OkO.ext hB.ok hE) g (OwnR.ge h g hg).1)))) (mv q5 (cn (fun hE hK => zN (r := (rInt .i64)) (fun _ => rfl) rfl (OkO.ext hB.ok hE) ty23 ty3 (zR rfl zl) ⟨(by exact zd.2 rfl), trivial⟩ rfl (by decide)) (cn (fun hE hK => vY fn33 rfl (ks 1 hK 38 rfl) rfl (yf (OkO.ext hB.ok hE) (kp (SP.vl (rSl zB) O8 x24) 0 hK 37 rfl) (vx f23 hE) (kp (SP.vl (rSl (rInt .i64)) O8 [10]) 2 hK 39 rfl) hx25)) (cn (fun hE hK => zJ (ks 3 hK 40 rfl)) (mv q5 (cn (fun hE hK => zN (r := (rInt .i64)) (fun _ => rfl) rfl (OkO.ext hB.ok hE) ty23 ty3 (zR rfl zl) ⟨(by exact zd.2 rfl), trivial⟩ rfl (by decide)) (.cons (fun _ _ hE hK hg => vY fn34 (kg 5 hK 42 rfl hg) rfl rfl (gF (OkO.ext hB.ok hE) (vx f23 hE) (kspS (φ := SP.vl (rSl (rInt .i64)) O8 [2]) (j := 6) (hK 43 rfl) rfl rfl hg) (yd hx26 hg))) (cn (fun hE hK => za (ks 4 hK 41 rfl) (fun hb => kg 7 hK 44 rfl (zv rfl rfl hb)) (fun _ => rfl)) (cn (fun hE hK => zJ (ks 8 hK 45 rfl)) (mv q5 (cn (fun hE hK => zN (r := (rInt .i64)) (fun _ => rfl) rfl (OkO.ext hB.ok hE) ty23 ty3 (zR rfl (zR rfl zl)) ⟨(by exact zd.2 rfl), ⟨(by exact zd.2 rfl), trivial⟩⟩ rfl (by decide)) (.cons (fun _ _ hE hK hg => vY fn34 (kg 10 hK 47 rfl hg) rfl rfl (gF (OkO.ext hB.ok hE) (vx f23 hE) (kspS (φ := SP.vl (rSl (rInt .i64)) O8 [2, 8]) (j := 11) (hK 48 rfl) rfl rfl hg) (yd hx27 hg))) (cn (fun hE hK => za (ks 9 hK 46 rfl) (fun hb => kg 12 hK 49 rfl (zv rfl rfl hb)) (fun _ => rfl)) (cn (fun hE hK => zJ (ks 13 hK 50 rfl)) (mv q5 (cn (fun hE hK => zN (r := (rInt .i64)) (fun _ => rfl) rfl (OkO.ext hB.ok hE) ty23 ty3 (zR rfl zl) ⟨(by exact zd.2 rfl), trivial⟩ rfl (by decide)) (.cons (fun _ _ hE hK hg => vY fn35 (kg 15 hK 52 rfl hg) rfl rfl (jJ (OkO.ext hB.ok hE) (vx f23 hE) (kspS (φ := SP.vl (rSl (rInt .i64)) O8 [0]) (j := 16) (hK 53 rfl) rfl rfl hg) (yd hx28 hg))) (cn (fun hE hK => za (ks 14 hK 51 rfl) (fun hb => kg 17 hK 54 rfl (zv rfl rfl hb)) (fun _ => rfl)) (cn (fun hE hK => zJ (ks 18 hK 55 rfl)) (mv q5 (.cons (fun _ _ hE hK hg => vY fn35 (kg 20 hK 57 rfl hg) rfl rfl (jJ (OkO.ext hB.ok hE) (vx f23 hE) (jA _ _ _ 0) (yd hx29 hg))) (cn (fun hE hK => za (ks 19 hK 56 rfl) (fun hb => kg 21 hK 58 rfl (zv rfl rfl hb)) (fun _ => rfl)) (cn (fun hE hK => zE (ks 22 hK 59 rfl)) .nil)))))))))))))))))))))))) ?zk6
 intro a10 w10 hA hE hB HF; refine kr3 HF q1 q2 q4 ?_; clear q1 q2 q4; intro q1 q2 q4; have q6 := ksv (HF 6) rfl rfl rfl; clear q5 HF; replace f23 := vx f23 hE; replace f11 := f11.ext hE; replace f12 := f12.ext hE; clear hE
 obtain ⟨x30, hx_, h⟩ := Comp.run_bind h; replace hx_ := Comp.run_pure hx_; rw [hx_] at q6; clear hx_
 refine zG (zA (wp_seq ?_))
 refine' rb [SP.isv (.agg #[.int .i64 0, .int .i64 0, .bool true]), SP.isv (.agg #[.int .i64 0, .int .i64 0, .bool false]), SP.vl (rSl zF) O8 [(api_Sight.mk 0 0 true), (api_Sight.mk 0 0 false)], SP.vl (rSl zF) O8 [(api_Sight.mk 0 0 true), (api_Sight.mk 0 0 false)]] mixed hA hB hO (cn (fun hE hK => gE ty64 rfl (kq hK q1) (OwnB.ext f11 hE).own rfl) (cn (fun hE hK => gE ty64 rfl (kq hK q2) (OwnB.ext f12 hE).own rfl) (.cons ?z7_2 (cn (fun hE hK => yC (φ := SP.vl (rSl zF) O8 [(api_Sight.mk 0 0 true), (api_Sight.mk 0 0 false)]) (kp _ 2 hK 62 rfl)) .nil)))) ?zk7
 case z7_2 => intro a' w' hE hK hg; exact zN (r := zF) yN rfl (OkO.ext hB.ok hE) ty28 ty64 (zR (ks 0 hK 60 rfl) (zR (ks 1 hK 61 rfl) zl)) ⟨(by first | exact (rC_v (x := (api_Sight.mk 0 0 true))).2 rfl | exact ⟨_, rfl, rfl⟩), ⟨(by first | exact (rC_v (x := (api_Sight.mk 0 0 false))).2 rfl | exact ⟨_, rfl, rfl⟩), trivial⟩⟩ rfl (by decide)
 intro a11 w11 hA hE hB HF; replace q4 := kf HF q4; replace q6 := kf HF q6; obtain ⟨u31, q7, f32⟩ := kx (HF 7) rfl rfl rfl; clear q1 q2 HF; replace f11 := f11.ext hE; replace f12 := f12.ext hE; clear hE; refine zG (zA (wp_seq ?_)); obtain ⟨x33, hx33, h⟩ := Comp.run_bind h; obtain ⟨x34, hx34, h⟩ := Comp.run_bind h
 refine' rb [SP.vl (rSl zB) O8 x33, _, SP.tup2 (SP.vl (rSl (rInt .i64)) O8 x34.1) (SP.isv (.int .i64 x34.2)), SP.tup2 (SP.vl (rSl (rInt .i64)) O8 x34.1) (SP.isv (.int .i64 x34.2)), SP.vl (rSl (rInt .i64)) O8 x34.1, SP.isv (.int .i64 x34.2), SP.vl (rSl (rInt .i64)) O8 x34.1, _] mixed hA hB hO (.cons (fun _ _ hE hK hg => yE (jp fn32  (zt (OkO.ext hB.ok hE)  hx33)) (fun _ _ _ h => (OwnR.val h (fun g hg => (OkO.ext hB.ok hE) g (OwnR.ge h g hg).1)))) (mv q7 (.cons (fun _ _ hE hK hg => yE (kX fn19 rfl (ks 1 hK 65 rfl) rfl rfl (kj (OkO.ext hB.ok hE) (kp (SP.vl (rSl zB) O8 x33) 0 hK 64 rfl) (vx f32 hE) hx34)) (fun _ _ _ ⟨a_, b_, e0_, h0_, h1_⟩ => ⟨a_, b_, e0_, (fun h => (OwnR.val h (fun g hg => (OkO.ext hB.ok hE) g (OwnR.ge h g hg).1))) h0_, h1_⟩)) (cn (fun hE hK => vo (φ := SP.tup2 (SP.vl (rSl (rInt .i64)) O8 x34.1) (SP.isv (.int .i64 x34.2))) (kp _ 2 hK 66 rfl)) (cn (fun hE hK => jC (kp (SP.tup2 (SP.vl (rSl (rInt .i64)) O8 x34.1) (SP.isv (.int .i64 x34.2))) 3 hK 63 rfl)) (cn (fun hE hK => jB (kp (SP.tup2 (SP.vl (rSl (rInt .i64)) O8 x34.1) (SP.isv (.int .i64 x34.2))) 3 hK 63 rfl)) (cn (fun hE hK => yC (φ := SP.vl (rSl (rInt .i64)) O8 x34.1) (kp _ 4 hK 67 rfl)) (cn (fun hE hK => zE (ks 5 hK 68 rfl)) .nil)))))))) ?zk8
 intro a12 w12 hA hE hB HF; refine kr3 HF q4 q6 q7 ?_; clear q4 q6 q7; intro q4 q6 q7; have q9 := ksv (HF 9) rfl rfl rfl; clear HF; replace f32 := vx f32 hE; clear hE; refine zG (zA (wp_seq ?_)); obtain ⟨x35, hx35, h⟩ := Comp.run_bind h; obtain ⟨x36, hx36, h⟩ := Comp.run_bind h; obtain ⟨x37, hx37, h⟩ := Comp.run_bind h
 refine' rb [SP.vl (rSl zB) O8 x35, _, SP.vl (rSl (rInt .i64)) O8 [8], SP.isv (.bool x36), _, _, SP.isv (.bool x37), _, _, _, _, _, _] mixed hA hB hO (.cons (fun _ _ hE hK hg => yE (jp fn32  (zt (OkO.ext hB.ok hE)  hx35)) (fun _ _ _ h => (OwnR.val h (fun g hg => (OkO.ext hB.ok hE) g (OwnR.ge h g hg).1)))) (mv q7 (cn (fun hE hK => zN (r := (rInt .i64)) (fun _ => rfl) rfl (OkO.ext hB.ok hE) ty23 ty3 (zR rfl zl) ⟨(by exact zd.2 rfl), trivial⟩ rfl (by decide)) (cn (fun hE hK => vY fn33 rfl (ks 1 hK 70 rfl) rfl (yf (OkO.ext hB.ok hE) (kp (SP.vl (rSl zB) O8 x35) 0 hK 69 rfl) (vx f32 hE) (kp (SP.vl (rSl (rInt .i64)) O8 [8]) 2 hK 71 rfl) hx36)) (cn (fun hE hK => zJ (ks 3 hK 72 rfl)) (mv q7 (.cons (fun _ _ hE hK hg => vY fn34 (kg 5 hK 74 rfl hg) rfl rfl (gF (OkO.ext hB.ok hE) (vx f32 hE) (jA _ _ _ 0) (yd hx37 hg))) (cn (fun hE hK => za (ks 4 hK 73 rfl) (fun hb => kg 6 hK 75 rfl (zv rfl rfl hb)) (fun _ => rfl)) (cn (fun hE hK => zJ (ks 7 hK 76 rfl)) (mv q9 (.cons (fun _ _ hE hK hg => yq (kg 9 hK 78 rfl hg) rfl) (cn (fun hE hK => za (ks 8 hK 77 rfl) (fun hb => kg 10 hK 79 rfl (zv rfl rfl hb)) (fun _ => rfl)) (cn (fun hE hK => zE (ks 11 hK 80 rfl)) .nil))))))))))))) ?zk9
 intro a13 w13 hA hE hB HF; replace q4 := kf HF q4; replace q6 := kf HF q6; have q10 := ksv (HF 10) rfl rfl rfl; clear q7 q9 HF; replace f32 := vx f32 hE; clear hE
 obtain ⟨x38, hx_, h⟩ := Comp.run_bind h; replace hx_ := Comp.run_pure hx_; rw [hx_] at q10; clear hx_
 refine zG (zA (wp_seq ?_))
 refine' rb [SP.isv (.agg #[.int .i64 0, .int .i64 1, .bool false]), SP.vl (rSl zF) O8 [(api_Sight.mk 0 1 false)], SP.vl (rSl zF) O8 [(api_Sight.mk 0 1 false)]] mixed hA hB hO (cn (fun hE hK => vg plc64 ty64 (yl (v := .int .i64 1) rfl kP) rfl (.cons rfl rfl rfl (leb rfl) .nil) rfl) (.cons ?z10_1 (cn (fun hE hK => yC (φ := SP.vl (rSl zF) O8 [(api_Sight.mk 0 1 false)]) (kp _ 1 hK 82 rfl)) .nil))) ?zk10
 case z10_1 => intro a' w' hE hK hg; exact zN (r := zF) yN rfl (OkO.ext hB.ok hE) ty28 ty64 (zR (ks 0 hK 81 rfl) zl) ⟨(by first | exact (rC_v (x := (api_Sight.mk 0 1 false))).2 rfl | exact ⟨_, rfl, rfl⟩), trivial⟩ rfl (by decide)
 intro a14 w14 hA hE hB HF; refine kr3 HF q4 q6 q10 ?_; clear q4 q6 q10; intro q4 q6 q10; obtain ⟨u39, q11, f40⟩ := kx (HF 11) rfl rfl rfl; clear HF; clear hE; refine zG (zA (wp_seq ?_)); obtain ⟨x41, hx41, h⟩ := Comp.run_bind h; obtain ⟨x42, hx42, h⟩ := Comp.run_bind h; obtain ⟨x43, hx43, h⟩ := Comp.run_bind h; obtain ⟨x44, hx44, h⟩ := Comp.run_bind h; obtain ⟨x45, hx45, h⟩ := Comp.run_bind h
 refine' regionX (draw := true) (fun S_ a_ w_ => ∃ O_ : Tags, Base (Fr w0) O w0 O_ w_ ∧ Keep 0 O8 w14 O_ w_ ∧ (S_ 2 = true → (rSl zB).v O_ w_ (a_.get 85) x43) ∧ (S_ 3 = true → PtrZ zB O_ w_ (a_.get 86) x44) ∧ (S_ 4 = true → zB.v O_ w_ (a_.get 87) x44) ∧ (S_ 5 = true → (rSl zB).v O_ w_ (a_.get 88) [x44]) ∧ (S_ 6 = true → (rSl zB).v O_ w_ (a_.get 89) x45) ∧ (S_ 7 = true → (rSl zB).v O_ w_ (a_.get 12) x45) ∧ (S_ 0 = true → S_ 1 = false → OwnL 3 zB 33 (Fr w0) O_ w_ (a_.get 83) x41) ∧ (S_ 1 = true → S_ 6 = false → OwnL 3 zB 33 (Fr w0) O_ w_ (a_.get 84) x42) ∧ (S_ 6 = true → OwnL 3 zB 33 (Fr w0) O_ w_ (.slice none 0 0) [])) [SP.tt, SP.tt, SP.tt, SP.tt, SP.tt, SP.tt, SP.tt, SP.tt] mixed hA (.cons (vK _) (.cons (vK _) (.cons (vK _) (.cons (vK _) (.cons (vK _) (.cons (vK _) (.cons (vK _) (.cons (vK _) .nil)))))))) (.cons ?z11_0 (.cons ?z11_1 (.cons ?z11_2 (.cons ?z11_3 (.cons ?z11_4 (.cons ?z11_5 (.cons ?z11_6 (.cons ?z11_7 .nil)))))))) ?zsk11 ?zst11 ?zok11 ?zgd11 ?zk11
 case z11_0 =>
  intro S_ a' w' hA_ hJ_ hS_ hafter_ hbef_ hK hg K_ Q_ hK_
  obtain ⟨O_, hB_, k0_, m2_, m3_, m4_, m5_, m6_, m7_, v0_0_, v0_1_, v0_2_⟩ := hJ_
  refine x_ok (φ := SP.ownr zB 33 w'.heap.size O_ x41) (by have c_ := zt hB_.ok  hx41; exact yE (jp fn32  c_) (fun _ _ _ h => h)) fun v_ w2 hE hv_ => ?_
  obtain ⟨O2_, hB2_, hX_, f_⟩ := ownNew hO hB_ hE hv_ rfl 3 (by decide)
  exact hK_ v_ w2 ⟨O2_, hB2_, (k0_.trans (KX.keep hX_ (by decide))), fun h_ => zC (d := some 83) (t := 85) (φ := fun u_ => (rSl zB).v O2_ w2 u_ x43) ((GR.zI _ (m2_ (zD rfl h_)) (KX.keep hX_ (by decide)))) (by decide), fun h_ => zC (d := some 83) (t := 86) (φ := fun u_ => PtrZ zB O2_ w2 u_ x44) ((PtrZ.keep (m3_ (zD rfl h_)) (KX.keep hX_ (by decide)) (by decide) zO)) (by decide), fun h_ => zC (d := some 83) (t := 87) (φ := fun u_ => zB.v O2_ w2 u_ x44) ((GR.zI _ (m4_ (zD rfl h_)) (KX.keep hX_ (by decide)))) (by decide), fun h_ => zC (d := some 83) (t := 88) (φ := fun u_ => (rSl zB).v O2_ w2 u_ [x44]) ((GR.zI _ (m5_ (zD rfl h_)) (KX.keep hX_ (by decide)))) (by decide), fun h_ => zC (d := some 83) (t := 89) (φ := fun u_ => (rSl zB).v O2_ w2 u_ x45) ((GR.zI _ (m6_ (zD rfl h_)) (KX.keep hX_ (by decide)))) (by decide), fun h_ => zC (d := some 83) (t := 12) (φ := fun u_ => (rSl zB).v O2_ w2 u_ x45) ((GR.zI _ (m7_ (zD rfl h_)) (KX.keep hX_ (by decide)))) (by decide), fun hp_ hq_ => va (φ := fun u_ => OwnL 3 zB 33 (Fr w0) O2_ w2 (u_) x41) hA_ (by decide) f_, fun hp_ hq_ => no_tf (zD rfl hp_) (hafter_ 1 (by kernel_rfl)), fun hp_ => no_tf (zD rfl hp_) (hafter_ 6 (by kernel_rfl))⟩ trivial
 case z11_1 =>
  intro S_ a' w' hA_ hJ_ hS_ hafter_ hbef_ hK hg K_ Q_ hK_
  obtain ⟨O_, hB_, k0_, m2_, m3_, m4_, m5_, m6_, m7_, v0_0_, v0_1_, v0_2_⟩ := hJ_
  refine x_ok (φ := SP.isv (preV (a'.get 83) x42.length)) (okl_slice_p (r := zB) ty27 ty33 rfl rfl (OwnL.lend (v0_0_ (zD rfl (hbef_ 0 (by kernel_rfl))) hS_)) rfl hx42) fun v_ w2 hE hv_ => ?_
  replace hv_ : v_ = preV (a'.get 83) x42.length := hv_
  have hB2_ := Base.step hB_ hE hO
  exact hK_ v_ w2 ⟨O_, hB2_, (k0_.trans (KX.keep (KX.ext hE) (by decide))), fun h_ => zC (d := some 84) (t := 85) (φ := fun u_ => (rSl zB).v O_ w2 u_ x43) ((GR.zI _ (m2_ (zD rfl h_)) (KX.keep (KX.ext hE) (by decide)))) (by decide), fun h_ => zC (d := some 84) (t := 86) (φ := fun u_ => PtrZ zB O_ w2 u_ x44) ((PtrZ.keep (m3_ (zD rfl h_)) (KX.keep (KX.ext hE) (by decide)) (by decide) zO)) (by decide), fun h_ => zC (d := some 84) (t := 87) (φ := fun u_ => zB.v O_ w2 u_ x44) ((GR.zI _ (m4_ (zD rfl h_)) (KX.keep (KX.ext hE) (by decide)))) (by decide), fun h_ => zC (d := some 84) (t := 88) (φ := fun u_ => (rSl zB).v O_ w2 u_ [x44]) ((GR.zI _ (m5_ (zD rfl h_)) (KX.keep (KX.ext hE) (by decide)))) (by decide), fun h_ => zC (d := some 84) (t := 89) (φ := fun u_ => (rSl zB).v O_ w2 u_ x45) ((GR.zI _ (m6_ (zD rfl h_)) (KX.keep (KX.ext hE) (by decide)))) (by decide), fun h_ => zC (d := some 84) (t := 12) (φ := fun u_ => (rSl zB).v O_ w2 u_ x45) ((GR.zI _ (m7_ (zD rfl h_)) (KX.keep (KX.ext hE) (by decide)))) (by decide), fun hp_ hq_ => jk hq_, fun hp_ hq_ => va (φ := fun u_ => OwnL 3 zB 33 (Fr w0) O_ w2 (u_) x42) hA_ (by decide) (by rw [hv_]; exact OwnL.pre (OwnL.ext (v0_0_ (zD rfl (hbef_ 0 (by kernel_rfl))) hS_) hE) hx42), fun hp_ => no_tf (zD rfl hp_) (hafter_ 6 (by kernel_rfl))⟩ trivial
 case z11_2 =>
  intro S_ a' w' hA_ hJ_ hS_ hafter_ hbef_ hK hg K_ Q_ hK_
  obtain ⟨O_, hB_, k0_, m2_, m3_, m4_, m5_, m6_, m7_, v0_0_, v0_1_, v0_2_⟩ := hJ_
  refine x_ok (φ := SP.vl (rSl zB) O_ x43) (by have c_ := zt hB_.ok  hx43; exact yE (jp fn32  c_) (fun _ _ _ h => (OwnR.val h (fun g hg => hB_.ok g (OwnR.ge h g hg).1)))) fun v_ w2 hE hv_ => ?_
  have hB2_ := Base.step hB_ hE hO
  exact hK_ v_ w2 ⟨O_, hB2_, (k0_.trans (KX.keep (KX.ext hE) (by decide))), fun _ => va (φ := fun u_ => (rSl zB).v O_ w2 u_ x43) hA_ (by decide) hv_, fun h_ => zC (d := some 85) (t := 86) (φ := fun u_ => PtrZ zB O_ w2 u_ x44) ((PtrZ.keep (m3_ (zD rfl h_)) (KX.keep (KX.ext hE) (by decide)) (by decide) zO)) (by decide), fun h_ => zC (d := some 85) (t := 87) (φ := fun u_ => zB.v O_ w2 u_ x44) ((GR.zI _ (m4_ (zD rfl h_)) (KX.keep (KX.ext hE) (by decide)))) (by decide), fun h_ => zC (d := some 85) (t := 88) (φ := fun u_ => (rSl zB).v O_ w2 u_ [x44]) ((GR.zI _ (m5_ (zD rfl h_)) (KX.keep (KX.ext hE) (by decide)))) (by decide), fun h_ => zC (d := some 85) (t := 89) (φ := fun u_ => (rSl zB).v O_ w2 u_ x45) ((GR.zI _ (m6_ (zD rfl h_)) (KX.keep (KX.ext hE) (by decide)))) (by decide), fun h_ => zC (d := some 85) (t := 12) (φ := fun u_ => (rSl zB).v O_ w2 u_ x45) ((GR.zI _ (m7_ (zD rfl h_)) (KX.keep (KX.ext hE) (by decide)))) (by decide), fun hp_ hq_ => zC (d := some 85) (t := 83) (φ := fun u_ => OwnL 3 zB 33 (Fr w0) O_ w2 (u_) x41) (OwnL.kx (v0_0_ (zD rfl hp_) (zP hq_)) (KX.ext hE) (by decide) (by decide)) (by decide), fun hp_ hq_ => zC (d := some 85) (t := 84) (φ := fun u_ => OwnL 3 zB 33 (Fr w0) O_ w2 (u_) x42) (OwnL.kx (v0_1_ (zD rfl hp_) (zP hq_)) (KX.ext hE) (by decide) (by decide)) (by decide), fun hp_ => OwnL.kx (v0_2_ (zD rfl hp_)) (KX.ext hE) (by decide) (by decide)⟩ trivial
 case z11_3 =>
  intro S_ a' w' hA_ hJ_ hS_ hafter_ hbef_ hK hg K_ Q_ hK_
  obtain ⟨O_, hB_, k0_, m2_, m3_, m4_, m5_, m6_, m7_, v0_0_, v0_1_, v0_2_⟩ := hJ_
  refine x_ok (φ := SP.ptrz zB O_ x44 (of_decide_eq_true rfl) zO) (by exact okl_idxZ (r := zB) (by decide) zO ty27 ty33 rfl rfl (m2_ (zD rfl (hbef_ 2 (by kernel_rfl)))) rfl hx44) fun v_ w2 hE hv_ => ?_
  have hB2_ := Base.step hB_ hE hO
  exact hK_ v_ w2 ⟨O_, hB2_, (k0_.trans (KX.keep (KX.ext hE) (by decide))), fun h_ => zC (d := some 86) (t := 85) (φ := fun u_ => (rSl zB).v O_ w2 u_ x43) ((GR.zI _ (m2_ (zD rfl h_)) (KX.keep (KX.ext hE) (by decide)))) (by decide), fun _ => va (φ := fun u_ => PtrZ zB O_ w2 u_ x44) hA_ (by decide) hv_, fun h_ => zC (d := some 86) (t := 87) (φ := fun u_ => zB.v O_ w2 u_ x44) ((GR.zI _ (m4_ (zD rfl h_)) (KX.keep (KX.ext hE) (by decide)))) (by decide), fun h_ => zC (d := some 86) (t := 88) (φ := fun u_ => (rSl zB).v O_ w2 u_ [x44]) ((GR.zI _ (m5_ (zD rfl h_)) (KX.keep (KX.ext hE) (by decide)))) (by decide), fun h_ => zC (d := some 86) (t := 89) (φ := fun u_ => (rSl zB).v O_ w2 u_ x45) ((GR.zI _ (m6_ (zD rfl h_)) (KX.keep (KX.ext hE) (by decide)))) (by decide), fun h_ => zC (d := some 86) (t := 12) (φ := fun u_ => (rSl zB).v O_ w2 u_ x45) ((GR.zI _ (m7_ (zD rfl h_)) (KX.keep (KX.ext hE) (by decide)))) (by decide), fun hp_ hq_ => zC (d := some 86) (t := 83) (φ := fun u_ => OwnL 3 zB 33 (Fr w0) O_ w2 (u_) x41) (OwnL.kx (v0_0_ (zD rfl hp_) (zP hq_)) (KX.ext hE) (by decide) (by decide)) (by decide), fun hp_ hq_ => zC (d := some 86) (t := 84) (φ := fun u_ => OwnL 3 zB 33 (Fr w0) O_ w2 (u_) x42) (OwnL.kx (v0_1_ (zD rfl hp_) (zP hq_)) (KX.ext hE) (by decide) (by decide)) (by decide), fun hp_ => OwnL.kx (v0_2_ (zD rfl hp_)) (KX.ext hE) (by decide) (by decide)⟩ trivial
 case z11_4 =>
  intro S_ a' w' hA_ hJ_ hS_ hafter_ hbef_ hK hg K_ Q_ hK_
  obtain ⟨O_, hB_, k0_, m2_, m3_, m4_, m5_, m6_, m7_, v0_0_, v0_1_, v0_2_⟩ := hJ_
  refine x_ok (φ := SP.vl zB O_ x44) (by exact vO (r := zB) zO ty33 rfl rfl rfl (PtrZ.ptr (m3_ (zD rfl (hbef_ 3 (by kernel_rfl)))))) fun v_ w2 hE hv_ => ?_
  have hB2_ := Base.step hB_ hE hO
  exact hK_ v_ w2 ⟨O_, hB2_, (k0_.trans (KX.keep (KX.ext hE) (by decide))), fun h_ => zC (d := some 87) (t := 85) (φ := fun u_ => (rSl zB).v O_ w2 u_ x43) ((GR.zI _ (m2_ (zD rfl h_)) (KX.keep (KX.ext hE) (by decide)))) (by decide), fun h_ => zC (d := some 87) (t := 86) (φ := fun u_ => PtrZ zB O_ w2 u_ x44) ((PtrZ.keep (m3_ (zD rfl h_)) (KX.keep (KX.ext hE) (by decide)) (by decide) zO)) (by decide), fun _ => va (φ := fun u_ => zB.v O_ w2 u_ x44) hA_ (by decide) hv_, fun h_ => zC (d := some 87) (t := 88) (φ := fun u_ => (rSl zB).v O_ w2 u_ [x44]) ((GR.zI _ (m5_ (zD rfl h_)) (KX.keep (KX.ext hE) (by decide)))) (by decide), fun h_ => zC (d := some 87) (t := 89) (φ := fun u_ => (rSl zB).v O_ w2 u_ x45) ((GR.zI _ (m6_ (zD rfl h_)) (KX.keep (KX.ext hE) (by decide)))) (by decide), fun h_ => zC (d := some 87) (t := 12) (φ := fun u_ => (rSl zB).v O_ w2 u_ x45) ((GR.zI _ (m7_ (zD rfl h_)) (KX.keep (KX.ext hE) (by decide)))) (by decide), fun hp_ hq_ => zC (d := some 87) (t := 83) (φ := fun u_ => OwnL 3 zB 33 (Fr w0) O_ w2 (u_) x41) (OwnL.kx (v0_0_ (zD rfl hp_) (zP hq_)) (KX.ext hE) (by decide) (by decide)) (by decide), fun hp_ hq_ => zC (d := some 87) (t := 84) (φ := fun u_ => OwnL 3 zB 33 (Fr w0) O_ w2 (u_) x42) (OwnL.kx (v0_1_ (zD rfl hp_) (zP hq_)) (KX.ext hE) (by decide) (by decide)) (by decide), fun hp_ => OwnL.kx (v0_2_ (zD rfl hp_)) (KX.ext hE) (by decide) (by decide)⟩ trivial
 case z11_5 =>
  intro S_ a' w' hA_ hJ_ hS_ hafter_ hbef_ hK hg K_ Q_ hK_
  obtain ⟨O_, hB_, k0_, m2_, m3_, m4_, m5_, m6_, m7_, v0_0_, v0_1_, v0_2_⟩ := hJ_
  refine x_ok (φ := SP.vl (rSl zB) O_ [x44]) (by exact zN (r := zB) zO rfl hB_.ok ty27 ty33 (zR rfl zl) ⟨(m4_ (zD rfl (hbef_ 4 (by kernel_rfl)))), trivial⟩ rfl (by decide)) fun v_ w2 hE hv_ => ?_
  have hB2_ := Base.step hB_ hE hO
  exact hK_ v_ w2 ⟨O_, hB2_, (k0_.trans (KX.keep (KX.ext hE) (by decide))), fun h_ => zC (d := some 88) (t := 85) (φ := fun u_ => (rSl zB).v O_ w2 u_ x43) ((GR.zI _ (m2_ (zD rfl h_)) (KX.keep (KX.ext hE) (by decide)))) (by decide), fun h_ => zC (d := some 88) (t := 86) (φ := fun u_ => PtrZ zB O_ w2 u_ x44) ((PtrZ.keep (m3_ (zD rfl h_)) (KX.keep (KX.ext hE) (by decide)) (by decide) zO)) (by decide), fun h_ => zC (d := some 88) (t := 87) (φ := fun u_ => zB.v O_ w2 u_ x44) ((GR.zI _ (m4_ (zD rfl h_)) (KX.keep (KX.ext hE) (by decide)))) (by decide), fun _ => va (φ := fun u_ => (rSl zB).v O_ w2 u_ [x44]) hA_ (by decide) hv_, fun h_ => zC (d := some 88) (t := 89) (φ := fun u_ => (rSl zB).v O_ w2 u_ x45) ((GR.zI _ (m6_ (zD rfl h_)) (KX.keep (KX.ext hE) (by decide)))) (by decide), fun h_ => zC (d := some 88) (t := 12) (φ := fun u_ => (rSl zB).v O_ w2 u_ x45) ((GR.zI _ (m7_ (zD rfl h_)) (KX.keep (KX.ext hE) (by decide)))) (by decide), fun hp_ hq_ => zC (d := some 88) (t := 83) (φ := fun u_ => OwnL 3 zB 33 (Fr w0) O_ w2 (u_) x41) (OwnL.kx (v0_0_ (zD rfl hp_) (zP hq_)) (KX.ext hE) (by decide) (by decide)) (by decide), fun hp_ hq_ => zC (d := some 88) (t := 84) (φ := fun u_ => OwnL 3 zB 33 (Fr w0) O_ w2 (u_) x42) (OwnL.kx (v0_1_ (zD rfl hp_) (zP hq_)) (KX.ext hE) (by decide) (by decide)) (by decide), fun hp_ => OwnL.kx (v0_2_ (zD rfl hp_)) (KX.ext hE) (by decide) (by decide)⟩ trivial
 case z11_6 =>
  intro S_ a' w' hA_ hJ_ hS_ hafter_ hbef_ hK hg K_ Q_ hK_
  obtain ⟨O_, hB_, k0_, m2_, m3_, m4_, m5_, m6_, m7_, v0_0_, v0_1_, v0_2_⟩ := hJ_
  refine x_append (r := zB) zO rfl ty27 ty33 rfl (by decide) hO hB_ (yI hB_) rfl (v0_1_ (zD rfl (hbef_ 1 (by kernel_rfl))) hS_) rfl (rd_of (m5_ (zD rfl (hbef_ 5 (by kernel_rfl))))) hx45 (by decide) fun u_ w2 O2_ f_ hB2_ hX_ => ?_
  obtain ⟨O3_, hB3_, hX3_, f3_⟩ := freezeL hO hB2_ f_ (by decide)
  have hX4_ := KX.trans_same hX_ hX3_
  exact hK_ u_ w2 ⟨O3_, hB3_, (k0_.trans (KX.keep hX4_ (by decide))), fun h_ => zC (d := some 89) (t := 85) (φ := fun u_ => (rSl zB).v O3_ w2 u_ x43) ((GR.zI _ (m2_ (zD rfl h_)) (KX.keep hX4_ (by decide)))) (by decide), fun h_ => zC (d := some 89) (t := 86) (φ := fun u_ => PtrZ zB O3_ w2 u_ x44) ((PtrZ.keep (m3_ (zD rfl h_)) (KX.keep hX4_ (by decide)) (by decide) zO)) (by decide), fun h_ => zC (d := some 89) (t := 87) (φ := fun u_ => zB.v O3_ w2 u_ x44) ((GR.zI _ (m4_ (zD rfl h_)) (KX.keep hX4_ (by decide)))) (by decide), fun h_ => zC (d := some 89) (t := 88) (φ := fun u_ => (rSl zB).v O3_ w2 u_ [x44]) ((GR.zI _ (m5_ (zD rfl h_)) (KX.keep hX4_ (by decide)))) (by decide), fun _ => va (φ := fun u_ => (rSl zB).v O3_ w2 u_ x45) hA_ (by decide) f3_, fun h_ => zC (d := some 89) (t := 12) (φ := fun u_ => (rSl zB).v O3_ w2 u_ x45) ((GR.zI _ (m7_ (zD rfl h_)) (KX.keep hX4_ (by decide)))) (by decide), fun hp_ hq_ => no_tf (hbef_ 1 (by kernel_rfl)) hq_, fun hp_ hq_ => jk hq_, fun hp_ => (OwnL.nil _ _ _ _ _ _)⟩ trivial
 case z11_7 =>
  intro S_ a' w' hA_ hJ_ hS_ hafter_ hbef_ hK hg K_ Q_ hK_
  obtain ⟨O_, hB_, k0_, m2_, m3_, m4_, m5_, m6_, m7_, v0_0_, v0_1_, v0_2_⟩ := hJ_
  refine x_ok (φ := SP.isv (a'.get 89)) (zE rfl) fun v_ w2 hE hv_ => ?_
  replace hv_ : v_ = a'.get 89 := hv_
  have hB2_ := Base.step hB_ hE hO
  exact hK_ v_ w2 ⟨O_, hB2_, (k0_.trans (KX.keep (KX.ext hE) (by decide))), fun h_ => zC (d := some 12) (t := 85) (φ := fun u_ => (rSl zB).v O_ w2 u_ x43) ((GR.zI _ (m2_ (zD rfl h_)) (KX.keep (KX.ext hE) (by decide)))) (by decide), fun h_ => zC (d := some 12) (t := 86) (φ := fun u_ => PtrZ zB O_ w2 u_ x44) ((PtrZ.keep (m3_ (zD rfl h_)) (KX.keep (KX.ext hE) (by decide)) (by decide) zO)) (by decide), fun h_ => zC (d := some 12) (t := 87) (φ := fun u_ => zB.v O_ w2 u_ x44) ((GR.zI _ (m4_ (zD rfl h_)) (KX.keep (KX.ext hE) (by decide)))) (by decide), fun h_ => zC (d := some 12) (t := 88) (φ := fun u_ => (rSl zB).v O_ w2 u_ [x44]) ((GR.zI _ (m5_ (zD rfl h_)) (KX.keep (KX.ext hE) (by decide)))) (by decide), fun h_ => zC (d := some 12) (t := 89) (φ := fun u_ => (rSl zB).v O_ w2 u_ x45) ((GR.zI _ (m6_ (zD rfl h_)) (KX.keep (KX.ext hE) (by decide)))) (by decide), fun _ => va (φ := fun u_ => (rSl zB).v O_ w2 u_ x45) hA_ (by decide) (by rw [hv_]; exact (GR.zI _ (m6_ (zD rfl (hbef_ 6 (by kernel_rfl)))) (KX.keep (KX.ext hE) (by decide)))), fun hp_ hq_ => zC (d := some 12) (t := 83) (φ := fun u_ => OwnL 3 zB 33 (Fr w0) O_ w2 (u_) x41) (OwnL.kx (v0_0_ (zD rfl hp_) (zP hq_)) (KX.ext hE) (by decide) (by decide)) (by decide), fun hp_ hq_ => zC (d := some 12) (t := 84) (φ := fun u_ => OwnL 3 zB 33 (Fr w0) O_ w2 (u_) x42) (OwnL.kx (v0_1_ (zD rfl hp_) (zP hq_)) (KX.ext hE) (by decide) (by decide)) (by decide), fun hp_ => OwnL.kx (v0_2_ (zD rfl hp_)) (KX.ext hE) (by decide) (by decide)⟩ trivial
 case zsk11 =>
  intro i_ o_ S_ a_ w_ ho_ hact_ hA_ hS_ hbef_ hJ_
  obtain ⟨O_, hB_, k0_, m2_, m3_, m4_, m5_, m6_, m7_, v0_0_, v0_1_, v0_2_⟩ := hJ_
  exact ⟨O_, hB_, k0_, fun h_ => by obtain ⟨h1_, h2_⟩ := zj (j := 2) hact_ rfl h_; exact zC (t := 85) (φ := fun u_ => (rSl zB).v O_ w_ u_ x43) (m2_ h1_) (zb (j := 2) (by kernel_rfl) ho_ h2_), fun h_ => by obtain ⟨h1_, h2_⟩ := zj (j := 3) hact_ rfl h_; exact zC (t := 86) (φ := fun u_ => PtrZ zB O_ w_ u_ x44) (m3_ h1_) (zb (j := 3) (by kernel_rfl) ho_ h2_), fun h_ => by obtain ⟨h1_, h2_⟩ := zj (j := 4) hact_ rfl h_; exact zC (t := 87) (φ := fun u_ => zB.v O_ w_ u_ x44) (m4_ h1_) (zb (j := 4) (by kernel_rfl) ho_ h2_), fun h_ => by obtain ⟨h1_, h2_⟩ := zj (j := 5) hact_ rfl h_; exact zC (t := 88) (φ := fun u_ => (rSl zB).v O_ w_ u_ [x44]) (m5_ h1_) (zb (j := 5) (by kernel_rfl) ho_ h2_), fun h_ => by obtain ⟨h1_, h2_⟩ := zj (j := 6) hact_ rfl h_; exact zC (t := 89) (φ := fun u_ => (rSl zB).v O_ w_ u_ x45) (m6_ h1_) (zb (j := 6) (by kernel_rfl) ho_ h2_), fun h_ => by obtain ⟨h1_, h2_⟩ := zj (j := 7) hact_ rfl h_; exact zC (t := 12) (φ := fun u_ => (rSl zB).v O_ w_ u_ x45) (m7_ h1_) (zb (j := 7) (by kernel_rfl) ho_ h2_), fun hp_ hq_ => by obtain ⟨h1_, h2_⟩ := zj (j := 0) hact_ rfl hp_; exact zC (t := 83) (φ := fun u_ => OwnL 3 zB 33 (Fr w0) O_ w_ (u_) x41) (v0_0_ h1_ (zP hq_)) (zb (j := 0) (by kernel_rfl) ho_ h2_), fun hp_ hq_ => by obtain ⟨h1_, h2_⟩ := zj (j := 1) hact_ rfl hp_; exact zC (t := 84) (φ := fun u_ => OwnL 3 zB 33 (Fr w0) O_ w_ (u_) x42) (v0_1_ h1_ (zP hq_)) (zb (j := 1) (by kernel_rfl) ho_ h2_), fun hp_ => by obtain ⟨h1_, h2_⟩ := zj (j := 6) hact_ rfl hp_; exact (v0_2_ h1_)⟩
 case zst11 => exact fun w1_ hE_ => ⟨O8, (Base.step hB hE_ hO), (Keep.ext hE_), fun h_ => no_ft h_, fun h_ => no_ft h_, fun h_ => no_ft h_, fun h_ => no_ft h_, fun h_ => no_ft h_, fun h_ => no_ft h_, fun hp_ => no_ft hp_, fun hp_ => no_ft hp_, fun hp_ => no_ft hp_⟩
 case zok11 | zgd11 => kernel_rfl
 intro a15 w15 hA HF hJ_
 obtain ⟨O46, hB_, k0_, m2_, m3_, m4_, m5_, m6_, m7_, v0_0_, v0_1_, v0_2_⟩ := hJ_
 replace q4 := kn (HF 4) rfl q4
 replace q6 := kn (HF 6) rfl q6
 replace q10 := kn (HF 10) rfl q10
 replace q11 := kn (HF 11) rfl q11
 have f48 := m7_ rfl
 obtain ⟨u47, q12'⟩ : ∃ u, a15.get 12 = u := ⟨_, rfl⟩
 rw [q12'] at f48
 have q12 := q12'; clear q12'
 clear HF
 replace f40 := GR.zI _ f40 k0_
 clear hB; have hB := hB_; clear hB_; clear k0_ m2_ m3_ m4_ m5_ m6_ m7_ v0_0_ v0_1_ v0_2_; refine zA (wp_seq ?_); obtain ⟨x49, hx49, h⟩ := Comp.run_bind h; obtain ⟨x50, hx50, h⟩ := Comp.run_bind h; obtain ⟨x51, hx51, h⟩ := Comp.run_bind h; obtain ⟨x52, hx52, h⟩ := Comp.run_bind h; obtain ⟨x53, hx53, h⟩ := Comp.run_bind h
 refine' rb [_, _, _, _, _, _, _, _, SP.vl (rSl zB) O46 x49, _, SP.isv (.bool x50), _, _, _, _, SP.vl (rSl (rInt .i64)) O46 [7], SP.isv (.bool x51), _, _, SP.vl (rSl zB) O46 x52, SP.isv (.agg #[.int .i64 5, .int .i64 0, .bool true]), SP.vl (rSl zF) O46 [(api_Sight.mk 5 0 true)], SP.isv (.bool x53), _, _] mixed hA hB hO (mv q4 (cn (fun hE hK => zJ (ks 0 hK 90 rfl)) (mv q6 (cn (fun hE hK => za (ks 1 hK 91 rfl) (fun hb => kg 2 hK 92 rfl (zv rfl rfl hb)) (fun _ => rfl)) (cn (fun hE hK => zJ (ks 3 hK 93 rfl)) (mv q10 (cn (fun hE hK => za (ks 4 hK 94 rfl) (fun hb => kg 5 hK 95 rfl (zv rfl rfl hb)) (fun _ => rfl)) (cn (fun hE hK => zJ (ks 6 hK 96 rfl)) (.cons (fun _ _ hE hK hg => yE (jp fn32  (zt (OkO.ext hB.ok hE)  (yd hx49 hg))) (fun _ _ _ h => (OwnR.val h (fun g hg => (OkO.ext hB.ok hE) g (OwnR.ge h g hg).1)))) (mv q11 (.cons (fun _ _ hE hK hg => vY fn33 rfl (kg 9 hK 99 rfl hg) rfl (yf (OkO.ext hB.ok hE) (kspS (φ := SP.vl (rSl zB) O46 x49) (j := 8) (hK 98 rfl) rfl rfl hg) (vx f40 hE) (jA _ _ _ 0) (yd hx50 hg))) (cn (fun hE hK => za (ks 7 hK 97 rfl) (fun hb => kg 10 hK 100 rfl (zv rfl rfl hb)) (fun _ => rfl)) (cn (fun hE hK => zJ (ks 11 hK 101 rfl)) (mv q12 (mv q11 (cn (fun hE hK => zN (r := (rInt .i64)) (fun _ => rfl) rfl (OkO.ext hB.ok hE) ty23 ty3 (zR rfl zl) ⟨(by exact zd.2 rfl), trivial⟩ rfl (by decide)) (.cons (fun _ _ hE hK hg => vY fn33 (kg 13 hK 103 rfl hg) (kg 14 hK 104 rfl hg) rfl (yf (OkO.ext hB.ok hE) (vx f48 hE) (vx f40 hE) (kspS (φ := SP.vl (rSl (rInt .i64)) O46 [7]) (j := 15) (hK 105 rfl) rfl rfl hg) (yd hx51 hg))) (cn (fun hE hK => za (ks 12 hK 102 rfl) (fun hb => kg 16 hK 106 rfl (zv rfl rfl hb)) (fun _ => rfl)) (cn (fun hE hK => zJ (ks 17 hK 107 rfl)) (.cons (fun _ _ hE hK hg => yE (jp fn32  (zt (OkO.ext hB.ok hE)  (yd hx52 hg))) (fun _ _ _ h => (OwnR.val h (fun g hg => (OkO.ext hB.ok hE) g (OwnR.ge h g hg).1)))) (cn (fun hE hK => vg plc64 ty64 (yl (v := .int .i64 5) rfl (yl (v := .bool true) rfl kP)) rfl (.cons rfl rfl rfl (leb rfl) (.cons rfl rfl rfl (leb rfl) .nil)) rfl) (.cons ?z12_21 (.cons (fun _ _ hE hK hg => vY fn33 rfl rfl rfl (yf (OkO.ext hB.ok hE) (kspS (φ := SP.vl (rSl zB) O46 x52) (j := 19) (hK 109 rfl) rfl rfl hg) (kspS (φ := SP.vl (rSl zF) O46 [(api_Sight.mk 5 0 true)]) (j := 21) (hK 111 rfl) rfl rfl hg) (jA _ _ _ 0) (yd hx53 hg))) (cn (fun hE hK => za (ks 18 hK 108 rfl) (fun hb => kg 22 hK 112 rfl (zv rfl rfl hb)) (fun _ => rfl)) (cn (fun hE hK => zE (ks 23 hK 113 rfl)) .nil))))))))))))))))))))))))) ?zk12
 case z12_21 => intro a' w' hE hK hg; exact zN (r := zF) yN rfl (OkO.ext hB.ok hE) ty28 ty64 (zR (kg 20 hK 110 rfl hg) zl) ⟨(by first | exact (rC_v (x := (api_Sight.mk 5 0 true))).2 rfl | exact ⟨_, rfl, rfl⟩), trivial⟩ rfl (by decide)
 intro a16 w16 hA hE hB HF; have q0 := ksv (HF 0) rfl rfl rfl; clear q4 q6 q10 q11 q12 HF; replace f40 := vx f40 hE; replace f48 := vx f48 hE; clear hE
 obtain ⟨x54, hx_, h⟩ := Comp.run_bind h; replace hx_ := Comp.run_pure hx_; rw [hx_] at q0; clear hx_
 refine zG (zA (wp_ret ?_))
 have h := Comp.run_pure h; subst h
 exact zi Try.results8 hA q0 hB.ext rfl
theorem ok_colletref01_Mod {O : Tags} {w0 : World} (hO : OkO O w0) {x_0 : Int} {x_1 : Int} {n : Nat} {y : Int} (h : (je x_0 x_1).run n = some y) : Pure Try.prog 12 #[.int .i64 x_0, .int .i64 x_1] w0 (SP.isv (.int .i64 y)).holds := by
 unfold je at h
 refine zU Try.func12 rfl 14 Try.ntmps12 (by simp) fun a0 hA hs0 => ?_
 have q0 : a0.get 0 = .int .i64 x_0 := hs0 0 _ rfl
 have q1 : a0.get 1 = .int .i64 x_1 := hs0 1 _ rfl
 clear hs0
 have hB : Base (Fr w0) O w0 O w0 := Base.start hO
 refine wp_seq ?_
 refine' rb [_] mixed hA hB hO (cn (fun hE hK => zE rfl) .nil) ?zk1
 intro a1 w1 hA hE hB HF; replace q0 := kf HF q0; replace q1 := kf HF q1; clear HF; clear hE; refine zG (zA (wp_seq (wp_seq ?_)))
 refine' rb [_, _] mixed hA hB hO (mv q1 (cn (fun hE hK => yh (ks 0 hK 5 rfl) rfl) .nil)) ?zk2
 intro a2 w2 hA hE hB HF; replace q0 := kf HF q0; replace q1 := kf HF q1; have q6 := ksv (HF 6) rfl rfl rfl; clear HF; clear hE; refine zG (zA ?_)
 revert h; refine cnd q6 (fun h => ?_) (fun h => ?_)
 ·
  refine wp_seq ?_
  refine' rb [_] mixed hA hB hO (cn (fun hE hK => zE rfl) .nil) ?zk3
  intro a3 w3 hA hE hB HF; have q4 := ksv (HF 4) rfl rfl rfl; clear q0 q1 q6 HF; clear hE; refine zG (zA (wp_ret (zn ?_)))
  have h := Comp.run_pure h; subst h
  exact zi Try.results12 hA q4 hB.ext rfl
 ·
  refine wp_skip (zA (wp_seq ?_)); obtain ⟨x1, hx1, h⟩ := Comp.run_bind h; obtain ⟨x2, hx2, h⟩ := Comp.run_bind h
  refine' rb [_, _, SP.isv (.int .i64 x1), _, _, _, SP.isv (.int .i64 x2), _] mixed hA hB hO (mv q0 (mv q1 (cn (fun hE hK => ok_isv (ok_rem (ks 0 hK 7 rfl) (ks 1 hK 8 rfl) (run_rem hx1).1) (congrArg _ (run_rem hx1).2)) (mv q1 (cn (fun hE hK => yp (ks 2 hK 9 rfl) (ks 3 hK 10 rfl)) (mv q1 (cn (fun hE hK => ok_isv (ok_rem (ks 4 hK 11 rfl) (ks 5 hK 12 rfl) (run_rem hx2).1) (congrArg _ (run_rem hx2).2)) (cn (fun hE hK => zE (ks 6 hK 13 rfl)) .nil)))))))) ?zk4
  intro a4 w4 hA hE hB HF; have q4 := ksv (HF 4) rfl rfl rfl; clear q0 q1 q6 HF; clear hE; refine zG (zA (wp_ret ?_))
  have h := Comp.run_pure h; subst h
  exact zi Try.results12 hA q4 hB.ext rfl
theorem yP {O : Tags} {w0 : World} (hO : OkO O w0) {b_0 : Nat} {x_0 : colletref01_Draw} (h_0 : BoxA zW 88 O w0 b_0 x_0) {x_1 : Int} {n : Nat} {y : (colletref01_Draw × Int)} (h : (zZ x_0 x_1).run n = some y) : Calls Try.prog 54 #[.pointer (some ⟨b_0, 0, none⟩), .int .i64 x_1] w0 (BioPost zW 88 O w0 b_0 y.1 (SP.isv (.int .i64 y.2))) := by
 unfold zZ at h
 refine bio_of_wp Try.func54 rfl 35 Try.ntmps54 (by simp) fun a0 hA hs0 => ?_
 have q0 : a0.get 0 = .pointer (some ⟨b_0, 0, none⟩) := hs0 0 _ rfl
 have q1 : a0.get 1 = .int .i64 x_1 := hs0 1 _ rfl
 clear hs0
 obtain ⟨Oi_, cs_, hB, hb_, hr_, hk_⟩ := bioStart hO h_0
 clear hk_ h_0
 obtain ⟨u1, e_, f2⟩ := vb hr_; subst e_
 refine wp_seq ?_
 refine' rb [_] mixed hA hB hO (cn (fun hE hK => zE rfl) .nil) ?zk1
 intro a1 w1 hA hE hB HF; replace q0 := kf HF q0; replace q1 := kf HF q1; clear HF; replace hb_ := hb_.ext hE; replace f2 := vx f2 hE; clear hE; refine zG (zA (wp_seq (wp_seq ?_)))
 refine' rb [_, SP.isv (.pointer (some ⟨b_0, 0, none⟩)), SP.isv (.pointer (some ⟨b_0, 1, none⟩)), SP.isv (.int .i64 x_0.At), _, SP.isv (.pointer (some ⟨b_0, 0, none⟩)), SP.isv (.pointer (some ⟨b_0, 0, none⟩)), SP.isv (u1), _, _] mixed hA hB hO (mv q0 (cn (fun hE hK => vw (ks 0 hK 5 rfl)) (cn (fun hE hK => zK fl88_1 (ks 1 hK 6 rfl)) (cn (fun hE hK => zg ty3 rfl (ks 2 hK 7 rfl) (OwnB.ext hb_ hE).own rfl) (mv q0 (cn (fun hE hK => vw (ks 4 hK 9 rfl)) (cn (fun hE hK => zK fl88_0 (ks 5 hK 10 rfl)) (cn (fun hE hK => zg ty23 rfl (ks 6 hK 11 rfl) (OwnB.ext hb_ hE).own rfl) (cn (fun hE hK => zw (r := (rInt .i64)) ty23 (ks 7 hK 12 rfl) (rd_of (vx f2 hE))) (cn (fun hE hK => ok_geq (ks 3 hK 8 rfl) (ks 8 hK 13 rfl)) .nil)))))))))) ?zk2
 intro a2 w2 hA hE hB HF; replace q0 := kf HF q0; replace q1 := kf HF q1; have q14 := ksv (HF 14) rfl rfl rfl; clear HF; replace hb_ := hb_.ext hE; replace f2 := vx f2 hE; clear hE; refine zG (zA ?_)
 revert h; refine cnd q14 (fun h => ?_) (fun h => ?_)
 ·
  refine wp_seq ?_
  refine' rb [_] mixed hA hB hO (cn (fun hE hK => zE rfl) .nil) ?zk3
  intro a3 w3 hA hE hB HF; have q4 := ksv (HF 4) rfl rfl rfl; clear q0 q1 q14 HF; replace hb_ := hb_.ext hE; replace f2 := vx f2 hE; clear hE; refine zG (zA (wp_ret (zn ?_)))
  have h := Comp.run_pure h; subst h
  exact retG1 Try.results54 hA (.tmp q4) (bioEnd hB hb_ ⟨_, _, rfl, (vJ (r := (rSl (rInt .i64))) f2 rfl rfl), ⟨_, _, rfl, rfl, rfl⟩⟩ rfl)
 ·
  refine wp_skip (zA (wp_seq ?_))
  refine' rbT [_, SP.isv (.pointer (some ⟨b_0, 0, none⟩)), SP.isv (.pointer (some ⟨b_0, 1, none⟩)), SP.isv (.int .i64 x_0.At), _, SP.isv (.pointer (some ⟨b_0, 0, none⟩)), SP.isv (.pointer (some ⟨b_0, 1, none⟩))] hA hB hO (mv q0 (cn (fun hE hK => vw (ks 0 hK 15 rfl)) (cn (fun hE hK => zK fl88_1 (ks 1 hK 16 rfl)) (cn (fun hE hK => zg ty3 rfl (ks 2 hK 17 rfl) (OwnB.ext hb_ hE).own rfl) (cn (fun hE hK => yp (ks 3 hK 18 rfl) rfl) (cn (fun hE hK => vw (ks 0 hK 15 rfl)) (cn (fun hE hK => zK fl88_1 (ks 5 hK 20 rfl)) .nil))))))) ?zk4
  intro a4 w4 hA hE hB HF; replace q0 := kf HF q0; replace q1 := kf HF q1; have q19 := ksv (HF 19) rfl rfl rfl; have q21 := ksv (HF 21) rfl rfl rfl; clear q14 HF; replace hb_ := hb_.ext hE; replace f2 := vx f2 hE; clear hE
  refine jO (cs' := #[u1, .int .i64 (IntKind.wrap .i64 (x_0.At + 1))]) hO hB (ku hB) ty3 q21 q19 rfl rfl hb_ (by simp) rfl fun w5 f3 hB' hX => ?_
  clear hB hb_; have hB := hB'; clear hB'; replace f2 := vk f2 hX; clear hX; refine zG (zA (wp_seq ?_)); obtain ⟨x4, hx4, h⟩ := Comp.run_bind h; obtain ⟨x5, hx5, h⟩ := Comp.run_bind h
  refine' rb [_, SP.isv (.pointer (some ⟨b_0, 0, none⟩)), SP.isv (.pointer (some ⟨b_0, 0, none⟩)), SP.isv (u1), _, SP.isv (.pointer (some ⟨b_0, 0, none⟩)), SP.isv (.pointer (some ⟨b_0, 1, none⟩)), SP.isv (.int .i64 (IntKind.wrap .i64 (x_0.At + 1))), _, SP.ptr (rInt .i64) Oi_ x4, SP.isv (.int .i64 x4), _, SP.isv (.int .i64 x5), _] mixed hA hB hO (mv q0 (cn (fun hE hK => vw (ks 0 hK 22 rfl)) (cn (fun hE hK => zK fl88_0 (ks 1 hK 23 rfl)) (cn (fun hE hK => zg ty23 rfl (ks 2 hK 24 rfl) (OwnB.ext f3 hE).own rfl) (mv q0 (cn (fun hE hK => vw (ks 4 hK 26 rfl)) (cn (fun hE hK => zK fl88_1 (ks 5 hK 27 rfl)) (cn (fun hE hK => zg ty3 rfl (ks 6 hK 28 rfl) (OwnB.ext f3 hE).own rfl) (cn (fun hE hK => ok_sub (ks 7 hK 29 rfl) rfl) (cn (fun hE hK => vC (r := (rInt .i64)) (O := Oi_) ty23 ty3 rfl (ks 3 hK 25 rfl) (rd_of (vx f2 hE)) (ks 8 hK 30 rfl) hx4) (cn (fun hE hK => yD (rInt .i64) (fun _ => rfl) ty3 rfl rfl rfl (kp (SP.ptr (rInt .i64) Oi_ x4) 9 hK 31 rfl) (fun _ _ _ h => zd.1 h)) (mv q1 (cn (fun hE hK => yV fn12 (ks 10 hK 32 rfl) (ks 11 hK 33 rfl) (ok_colletref01_Mod (OkO.ext hB.ok hE)  hx5)) (cn (fun hE hK => zE (ks 12 hK 34 rfl)) .nil)))))))))))))) ?zk5
  intro a6 w6 hA hE hB HF; have q4 := ksv (HF 4) rfl rfl rfl; clear q0 q1 HF; replace f3 := f3.ext hE; replace f2 := vx f2 hE; clear hE; refine zG (zA (wp_ret ?_))
  have h := Comp.run_pure h; subst h
  exact retG1 Try.results54 hA (.tmp q4) (bioEnd hB f3 ⟨_, _, rfl, (vJ (r := (rSl (rInt .i64))) f2 rfl rfl), ⟨_, _, rfl, rfl, rfl⟩⟩ rfl)
theorem jY {O : Tags} {w0 : World} (hO : OkO O w0) {x_0 : Int} {x_1 : Int} {n : Nat} {y : (List Int)} (h : (yu x_0 x_1).run n = some y) : Pure Try.prog 55 #[.int .i64 x_0, .int .i64 x_1] w0 (SP.ownr (rInt .i64) 3 (w0.heap.size) O y).holds := by
 unfold yu at h
 refine zU Try.func55 rfl 22 Try.ntmps55 (by simp) fun a0 hA hs0 => ?_
 have q0 : a0.get 0 = .int .i64 x_0 := hs0 0 _ rfl
 have q1 : a0.get 1 = .int .i64 x_1 := hs0 1 _ rfl
 clear hs0
 have hB : Base (Fr w0) O w0 O w0 := Base.start hO
 refine wp_seq ?_
 refine' rb [_] mixed hA hB hO (cn (fun hE hK => zE rfl) .nil) ?zk1
 intro a1 w1 hA hE hB HF; replace q0 := kf HF q0; replace q1 := kf HF q1; clear HF; clear hE; refine zG (zA (wp_seq ?_))
 refine' rb [_] mixed hA hB hO (cn (fun hE hK => zE rfl) .nil) ?zk2
 intro a2 w2 hA hE hB HF; replace q0 := kf HF q0; replace q1 := kf HF q1; have q5 := ksv (HF 5) rfl rfl rfl; clear HF; clear hE; refine zG (zA ?_)
 refine zh (fun a w => ∃ (O23 : Tags) (x20 : List Int) (u21 : Value), a.fit 22 ∧ Base (Fr w0) O w0 O23 w ∧ a.get 5 = u21 ∧ OwnL 1 (rInt .i64) 3 (Fr w0) O23 w u21 x20 ∧ (gW x20).run n = some y) ?_ ?_
 ·
  refine wp_seq ?_
  refine' rb [_] mixed hA hB hO (cn (fun hE hK => zE rfl) .nil) ?zk3
  intro a3 w3 hA hE hB HF; refine kr3 HF q0 q1 q5 ?_; clear q0 q1 q5; intro q0 q1 q5; have q6 := ksv (HF 6) rfl rfl rfl; clear HF; clear hE; refine zG (zA (wp_block ?_))
  obtain ⟨e2, he2, hk2⟩ := Comp.run_bind h; clear h
  refine gK (fun m a w => ∃ (O5 : Tags) (x1 : List Int) (x4 : Int) (u2 : Value), a.fit 22 ∧ Base (Fr w0) O w0 O5 w ∧ a.get 0 = .int .i64 x_0 ∧ a.get 1 = .int .i64 x_1 ∧ a.get 5 = u2 ∧ OwnL 1 (rInt .i64) 3 (Fr w0) O5 w u2 x1 ∧ a.get 6 = .int .i64 x4 ∧ Comp.loopN (fun s => yR x_1 x_0 s.1 s.2) n m (x1, x4) = some e2) (m := n) ?st2 ?_
  case st2 =>
   exact ⟨_, _, _, _, hA, hB, q0, q1, q5, (OwnL.nil _ _ _ _ _ _), q6, Comp.yL he2⟩
  intro m_ a4 w4 hI
  clear hA hB he2 q0 q1 q5 q6
  obtain ⟨O5, x1, x4, u2, hA, hB, q0, q1, q5, f3, q6, hl⟩ := hI
  obtain ⟨m2, hlt2, st2, h, hnext2, hdone2⟩ := Comp.zm hl; clear hl
  replace h : (yR x_1 x_0 x1 x4).run n = some st2 := h
  unfold yR at h; refine wp_seq (wp_seq ?_)
  refine' rb [_, _, _] mixed hA hB hO (mv q6 (mv q1 (cn (fun hE hK => yh (ks 0 hK 7 rfl) (ks 1 hK 8 rfl)) .nil))) ?zk4
  intro a5 w5 hA hE hB HF; refine kr4 HF q0 q1 q5 q6 ?_; clear q0 q1 q5 q6; intro q0 q1 q5 q6; have q9 := ksv (HF 9) rfl rfl rfl; clear HF; replace f3 := f3.ext hE; clear hE; refine zG (zA ?_)
  revert h; refine cnd q9 (fun h => ?_) (fun h => ?_)
  ·
   refine wp_skip (zA ?_)
   refine zh (fun a w => ∃ (O17 : Tags) (x14 : List Int) (u15 : Value), a.fit 22 ∧ Base (Fr w0) O w0 O17 w ∧ a.get 0 = .int .i64 x_0 ∧ a.get 1 = .int .i64 x_1 ∧ a.get 5 = u15 ∧ OwnL 1 (rInt .i64) 3 (Fr w0) O17 w u15 x14 ∧ a.get 6 = .int .i64 x4 ∧ (vm x4 x14).run n = some st2) ?_ ?_
   ·
    refine wp_block (wp_seq ?_); obtain ⟨x6, hx6, h⟩ := Comp.run_bind h
    refine' rb [_, _, _, _, _] mixed hA hB hO (mv q0 (mv q6 (cn (fun hE hK => okl_shr (ks 0 hK 12 rfl) (ks 1 hK 13 rfl) (vn hx6)) (cn (fun hE hK => okb_and (ks 2 hK 14 rfl) rfl) (cn (fun hE hK => yq (ks 3 hK 15 rfl) rfl) .nil))))) ?zk5
    intro a6 w6 hA hE hB HF; refine kr4 HF q0 q1 q5 q6 ?_; clear q0 q1 q5 q6; intro q0 q1 q5 q6; have q16 := ksv (HF 16) rfl rfl rfl; clear q9 HF; replace f3 := f3.ext hE; clear hE
    obtain ⟨x7, hx_, h⟩ := Comp.run_bind h; replace hx_ := Comp.run_pure hx_; rw [hx_] at q16; clear hx_
    refine zG (zA ?_)
    revert h; refine cnd q16 (fun h => ?_) (fun h => ?_)
    ·
     refine' rbT [_, _, SP.vl (rSl (rInt .i64)) O5 [x4]] hA hB hO (mv q5 (mv q6 (cn (fun hE hK => zN (r := (rInt .i64)) (fun _ => rfl) rfl (OkO.ext hB.ok hE) ty23 ty3 (zR (ks 1 hK 18 rfl) zl) ⟨(by exact zd.2 rfl), trivial⟩ rfl (by decide)) .nil))) ?zk6
     intro a7 w7 hA hE hB HF; refine kr4 HF q0 q1 q5 q6 ?_; clear q0 q1 q5 q6; intro q0 q1 q5 q6; obtain ⟨u8, q19, f9⟩ := kx (HF 19) rfl rfl rfl; have q17 := ksv (HF 17) rfl rfl rfl; clear q16 HF; replace f3 := f3.ext hE; clear hE; obtain ⟨x10, hx10, h⟩ := Comp.run_bind h
     refine jP (r := (rInt .i64)) (fun _ => rfl) rfl ty23 ty3 rfl (by decide) hO hB (yI hB) q17 f3 q19 (rd_of f9) hx10 (by decide) fun u11 w8 O12 f13 hB' hX => ?_
     clear hB; have hB := hB'; clear hB'; clear f3; replace f9 := vk f9 hX; clear hX
     refine zQ hA (by decide) fun a9 hA q_ hfr => ?_
     refine kd6 hfr q0 q1 q5 q6 q17 q19 ?_; clear q0 q1 q5 q6 q17 q19; intro q0 q1 q5 q6 q17 q19; have q20 := q_; clear q_ hfr
     refine l_ok (φ := SP.isv (u11)) hO hB (by exact zE q20) rfl fun u_ w10 hE hB' hv_ => ?_
     replace hv_ := Eq.symm hv_; subst hv_; clear hB; have hB := hB'; clear hB'
     replace f13 := f13.ext hE; clear hE
     refine zQ hA (by decide) fun a11 hA q_ hfr => ?_
     replace q0 := (hfr 0 rfl).trans q0
     replace q1 := (hfr 1 rfl).trans q1
     replace q6 := (hfr 6 rfl).trans q6
     replace q20 := (hfr 20 rfl).trans q20
     clear q5; have q5 := q_; clear q_ hfr; refine zG (yJ (zA ?_))
     exact ⟨_, _, _, hA, hB, q0, q1, q5, f13, q6, h⟩
    ·
     refine wp_skip (yJ (zA ?_))
     exact ⟨_, _, _, hA, hB, q0, q1, q5, f3, q6, h⟩
   intro a12 w12 hI
   clear hA hB h q0 q1 q5 q6 q9 f3
   obtain ⟨O17, x14, u15, hA, hB, q0, q1, q5, f16, q6, h⟩ := hI
   unfold vm at h
   refine' rb [_, _, _] mixed hA hB hO (mv q6 (cn (fun hE hK => yp (ks 0 hK 10 rfl) rfl) (cn (fun hE hK => zE (ks 1 hK 11 rfl)) .nil))) ?zk7
   intro a13 w13 hA hE hB HF; refine kr3 HF q0 q1 q5 ?_; clear q0 q1 q5; intro q0 q1 q5; replace q6 := ksv (HF 6) rfl rfl rfl; clear HF; replace f16 := f16.ext hE; clear hE; refine zG (zA ?_)
   have h := hnext2 _ (Comp.run_pure h).symm
   refine ⟨m2, hlt2, ?_⟩
   exact ⟨_, _, _, _, hA, hB, q0, q1, q5, f16, q6, h⟩
  ·
   refine wp_exit (zX (zX (ye ?_)))
   have hd_ := hdone2 _ (Comp.run_pure h).symm; clear h
   subst hd_; have h := hk2; clear hk2; try dsimp only at h
   refine zA ?_
   exact ⟨_, _, _, hA, hB, q5, f3, h⟩
 intro a14 w14 hI
 clear hA hB h q0 q1 q5
 obtain ⟨O23, x20, u21, hA, hB, q5, f22, h⟩ := hI
 unfold gW at h; refine wp_seq ?_
 refine' rb [_, _] mixed hA hB hO (mv q5 (cn (fun hE hK => zE (ks 0 hK 21 rfl)) .nil)) ?zk8
 intro a15 w15 hA hE hB HF; have q4 := ksv (HF 4) rfl rfl rfl; clear q5 HF; replace f22 := f22.ext hE; clear hE; refine zG (zA (wp_ret ?_))
 have h := Comp.run_pure h; subst h
 exact zi Try.results55 hA q4 hB.ext (OwnL.res f22 (by decide) hB.zero)
end Go.Proofs.Ytebmpjdegajhgaa
end
