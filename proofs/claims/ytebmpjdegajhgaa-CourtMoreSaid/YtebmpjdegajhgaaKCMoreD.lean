/- Lemmas behind a claim of this seat. No statement of the program stands here. -/
import Derived.Test.YtebmpjdegajhgaaKCMoreC
set_option linter.unusedSimpArgs false
set_option linter.unusedVariables false
section
namespace Go.Proofs.Ytebmpjdegajhgaa
open Go Go.RowKit Go.Eng Go.Lift Go.F
set_option linter.unusedVariables false
set_option linter.unusedSimpArgs false
set_option maxRecDepth 100000
set_option maxHeartbeats 4000000 in
theorem ok_colletref43_Claims {O : Tags} {w0 : World} (hO : OkO O w0) {v_0 : Value} {x_0 : List (List Int)} (h_0 : (rSl (rSl (rInt .i64))).v O w0 v_0 x_0) {x_1 : Int} {x_2 : Int} {n : Nat} {y : (List api_Claim)} (h : (vq x_0 x_1 x_2).run n = some y) : Pure Try.prog 36 #[v_0, .int .i64 x_1, .int .i64 x_2] w0 (SP.ownr zB 33 (w0.heap.size) O y).holds := by
 unfold vq at h
 refine zU Try.func36 rfl 84 Try.ntmps36 (by simp) fun a0 hA hs0 => ?_
 have q0 : a0.get 0 = v_0 := hs0 0 _ rfl
 have q1 : a0.get 1 = .int .i64 x_1 := hs0 1 _ rfl
 have q2 : a0.get 2 = .int .i64 x_2 := hs0 2 _ rfl
 clear hs0
 have hB : Base (Fr w0) O w0 O w0 := Base.start hO
 refine wp_seq ?_
 refine' rb [_] mixed hA hB hO (cn (fun hE hK => zE rfl) .nil) ?zk1
 intro a1 w1 hA hE hB HF; refine kr3 HF q0 q1 q2 ?_; clear q0 q1 q2; intro q0 q1 q2; clear HF; replace h_0 := vx h_0 hE; clear hE; refine zG (zA (wp_seq ?_))
 refine' rb [_] mixed hA hB hO (cn (fun hE hK => zE rfl) .nil) ?zk2
 intro a2 w2 hA hE hB HF; refine kr3 HF q0 q1 q2 ?_; clear q0 q1 q2; intro q0 q1 q2; have q7 := ksv (HF 7) rfl rfl rfl; clear HF; replace h_0 := vx h_0 hE; clear hE; refine zG (zA (wp_seq ?_))
 refine' rb [_] mixed hA hB hO (cn (fun hE hK => zE rfl) .nil) ?zk3
 intro a3 w3 hA hE hB HF; refine kr4 HF q0 q1 q2 q7 ?_; clear q0 q1 q2 q7; intro q0 q1 q2 q7; have q8 := ksv (HF 8) rfl rfl rfl; clear HF; replace h_0 := vx h_0 hE; clear hE; refine zG (zA (wp_seq ?_))
 refine' rb [_] mixed hA hB hO (cn (fun hE hK => zE rfl) .nil) ?zk4
 intro a4 w4 hA hE hB HF; refine kr5 HF q0 q1 q2 q7 q8 ?_; clear q0 q1 q2 q7 q8; intro q0 q1 q2 q7 q8; have q9 := ksv (HF 9) rfl rfl rfl; clear HF; replace h_0 := vx h_0 hE; clear hE; refine zG (zA ?_)
 refine zh (fun a w => ∃ (O85 : Tags) (x82 : List api_Claim) (u83 : Value), a.fit 84 ∧ Base (Fr w0) O w0 O85 w ∧ a.get 7 = u83 ∧ OwnL 1 zB 33 (Fr w0) O85 w u83 x82 ∧ (gY x82).run n = some y) ?_ ?_
 ·
  refine wp_seq ?_
  refine' rb [_] mixed hA hB hO (cn (fun hE hK => zE rfl) .nil) ?zk5
  intro a5 w5 hA hE hB HF; refine kr6 HF q0 q1 q2 q7 q8 q9 ?_; clear q0 q1 q2 q7 q8 q9; intro q0 q1 q2 q7 q8 q9; have q10 := ksv (HF 10) rfl rfl rfl; clear HF; replace h_0 := vx h_0 hE; clear hE; refine zG (zA (wp_block ?_))
  obtain ⟨e2, he2, hk2⟩ := Comp.run_bind h; clear h
  refine gK (fun m a w => ∃ (O7 : Tags) (x1 : List api_Claim) (x4 : Bool) (x5 : Int) (x6 : Int) (u2 : Value), a.fit 84 ∧ Base (Fr w0) O w0 O7 w ∧ a.get 0 = v_0 ∧ (rSl (rSl (rInt .i64))).v O7 w v_0 x_0 ∧ a.get 1 = .int .i64 x_1 ∧ a.get 2 = .int .i64 x_2 ∧ a.get 7 = u2 ∧ OwnL 1 zB 33 (Fr w0) O7 w u2 x1 ∧ a.get 8 = .bool x4 ∧ a.get 9 = .int .i64 x5 ∧ a.get 10 = .int .i64 x6 ∧ Comp.loopN (fun s => vE x_0 x_2 x_1 s.1 s.2.1 s.2.2.1 s.2.2.2) n m (x1, x4, x5, x6) = some e2) (m := n) ?st2 ?_
  case st2 =>
   exact ⟨_, _, _, _, _, _, hA, hB, q0, h_0, q1, q2, q7, (OwnL.nil _ _ _ _ _ _), q8, q9, q10, Comp.yL he2⟩
  intro m_ a6 w6 hI
  clear hA hB he2 q0 q1 q2 q7 q8 q9 q10 h_0
  obtain ⟨O7, x1, x4, x5, x6, u2, hA, hB, q0, h_0, q1, q2, q7, f3, q8, q9, q10, hl⟩ := hI
  obtain ⟨m2, hlt2, st2, h, hnext2, hdone2⟩ := Comp.zm hl; clear hl
  replace h : (vE x_0 x_2 x_1 x1 x4 x5 x6).run n = some st2 := h
  unfold vE at h; refine wp_seq (wp_seq ?_)
  refine' rb [_, _, _, _, _, _, _, _, _, _] mixed hA hB hO (mv q10 (mv q0 (cn (fun hE hK => zw (r := (rSl (rInt .i64))) ty22 (ks 1 hK 16 rfl) (rd_of (vx h_0 hE))) (cn (fun hE hK => yh (ks 0 hK 15 rfl) (ks 2 hK 17 rfl)) (cn (fun hE hK => zJ (ks 3 hK 18 rfl)) (mv q7 (.cons (fun _ _ hE hK hg => zw (r := zB) ty27 (kg 5 hK 20 rfl hg) (OwnL.rd (OwnL.ext f3 hE))) (mv q2 (.cons (fun _ _ hE hK hg => yh (kg 6 hK 21 rfl hg) (kg 7 hK 22 rfl hg)) (cn (fun hE hK => za (ks 4 hK 19 rfl) (fun hb => kg 8 hK 23 rfl (zv rfl rfl hb)) (fun _ => rfl)) .nil)))))))))) ?zk6
  intro a7 w7 hA hE hB HF; refine kr7 HF q0 q1 q2 q7 q8 q9 q10 ?_; clear q0 q1 q2 q7 q8 q9 q10; intro q0 q1 q2 q7 q8 q9 q10; have q24 := ksv (HF 24) rfl rfl rfl; clear HF; replace h_0 := vx h_0 hE; replace f3 := f3.ext hE; clear hE
  obtain ⟨x8, hx_, h⟩ := Comp.run_bind h; replace hx_ := Comp.run_pure hx_; rw [hx_] at q24; clear hx_
  refine zG (zA ?_)
  revert h; refine cnd q24 (fun h => ?_) (fun h => ?_)
  ·
   refine wp_skip (zA ?_)
   refine zh (fun a w => ∃ (O79 : Tags) (x43 : List api_Claim) (x46 : Bool) (x47 : Int) (u44 : Value), a.fit 84 ∧ Base (Fr w0) O w0 O79 w ∧ a.get 0 = v_0 ∧ (rSl (rSl (rInt .i64))).v O79 w v_0 x_0 ∧ a.get 1 = .int .i64 x_1 ∧ a.get 2 = .int .i64 x_2 ∧ a.get 7 = u44 ∧ OwnL 1 zB 33 (Fr w0) O79 w u44 x43 ∧ a.get 8 = .bool x46 ∧ a.get 9 = .int .i64 x47 ∧ a.get 10 = .int .i64 x6 ∧ (vF x6 x43 x46 x47).run n = some st2) ?_ ?_
   ·
    refine wp_block (wp_seq ?_); obtain ⟨x9, hx9, h⟩ := Comp.run_bind h
    refine' rbT [_, _, SP.ptr (rSl (rInt .i64)) O7 x9, SP.vl (rSl (rInt .i64)) O7 x9] hA hB hO (mv q0 (mv q10 (cn (fun hE hK => vC (r := (rSl (rInt .i64))) (O := O7) ty22 ty23 rfl (ks 0 hK 27 rfl) (rd_of (vx h_0 hE)) (ks 1 hK 28 rfl) hx9) (cn (fun hE hK => vO (r := (rSl (rInt .i64))) (fun _ => rfl) ty23 rfl rfl rfl (kp (SP.ptr (rSl (rInt .i64)) O7 x9) 2 hK 29 rfl)) .nil)))) ?zk7
    intro a8 w8 hA hE hB HF; refine kr7 HF q0 q1 q2 q7 q8 q9 q10 ?_; clear q0 q1 q2 q7 q8 q9 q10; intro q0 q1 q2 q7 q8 q9 q10; obtain ⟨u10, q30, f11⟩ := kx (HF 30) rfl rfl rfl; clear q24 HF; replace h_0 := vx h_0 hE; replace f3 := f3.ext hE; clear hE
    refine l_ok (φ := SP.isv (.agg #[u10, .int .i64 0])) hO hB (by refine vg (vals := [(0, u10)]) (out := [u10, .int .i64 0]) plc88 ty88 ?_ rfl ?_ rfl; exact (yl (v := u10) q30 kP); exact (.cons rfl (jf f11 rfl rfl) rfl (leb rfl) .nil)) rfl fun u_ w9 hE hB' hv_ => ?_
    replace hv_ := Eq.symm hv_; subst hv_; clear hB; have hB := hB'; clear hB'
    replace h_0 := vx h_0 hE; replace f3 := f3.ext hE; replace f11 := vx f11 hE; clear hE
    refine zQ hA (by decide) fun a10 hA q_ hfr => ?_
    refine kd8 hfr q0 q1 q2 q7 q8 q9 q10 q30 ?_; clear q0 q1 q2 q7 q8 q9 q10 q30; intro q0 q1 q2 q7 q8 q9 q10 q30; have q31 := q_; clear q_ hfr
    refine l_ok (φ := SP.box w9.heap.size #[u10, .int .i64 0] 88) hO hB (by exact ok_box (v := .agg #[u10, .int .i64 0]) (Nat.le_refl _) q31) rfl fun u12 w11 hE hB' f13 => ?_
    clear hB'; obtain ⟨O14, b16, hB', hX, e_, f15⟩ := kQ hO hB hE f13 2 (by decide)
    subst e_; clear hB f13; have hB := hB'; clear hB'
    replace h_0 := vk h_0 hX
    replace f3 := f3.kx hX (by decide) (by decide)
    replace f11 := vk f11 hX; clear hX hE
    refine zQ hA (by decide) fun a12 hA q_ hfr => ?_
    refine kd8 hfr q0 q1 q2 q7 q8 q9 q10 q31 ?_; clear q0 q1 q2 q7 q8 q9 q10 q31; intro q0 q1 q2 q7 q8 q9 q10 q31; have q32 := q_; clear q_ hfr
    refine l_ok (φ := SP.isv (.pointer (some ⟨b16, 0, none⟩))) hO hB (by exact zE q32) rfl fun u_ w13 hE hB' hv_ => ?_
    replace hv_ := Eq.symm hv_; subst hv_; clear hB; have hB := hB'; clear hB'
    replace h_0 := vx h_0 hE; replace f3 := f3.ext hE; replace f15 := f15.ext hE; replace f11 := vx f11 hE; clear hE
    refine zQ hA (by decide) fun a14 hA q_ hfr => ?_
    refine kd8 hfr q0 q1 q2 q7 q8 q9 q10 q32 ?_; clear q0 q1 q2 q7 q8 q9 q10 q32; intro q0 q1 q2 q7 q8 q9 q10 q32; have q11 := q_; clear q_ hfr; refine zG (zA (wp_seq ?_)); obtain ⟨x17, hx17, h⟩ := Comp.run_bind h; obtain ⟨x18, hx18, h⟩ := Comp.run_bind h; obtain ⟨x19, hx19, h⟩ := Comp.run_bind h
    obtain ⟨J_, eJ_⟩ : ∃ J_ : (Nat → Bool) → Act → World → Prop, J_ = (fun S_ a_ w_ => ∃ O_ : Tags, Base (Fr w0) O w0 O_ w_ ∧ Keep 0 O14 w13 O_ w_ ∧ Keep 1 O14 w13 O_ w_ ∧ (S_ 0 = true → (rSl (rInt .i64)).v O_ w_ (a_.get 33) [2, 2, 3, 1]) ∧ (S_ 3 = true → PtrZ (rInt .i64) O_ w_ (a_.get 36) x18) ∧ (S_ 2 = false → BoxO 2 (Fr w0) O_ w_ b16 88 zW (colletref01_Draw.mk x9 0)) ∧ (S_ 2 = true → S_ 6 = false → BoxO 2 (Fr w0) O_ w_ b16 88 zW x17.1) ∧ (S_ 6 = true → BoxO 2 (Fr w0) O_ w_ b16 88 zW x19.1) ∧ (S_ 9 = true → S_ 10 = false → OwnBP 3 (Fr w0) O_ w_ (a_.get 12) #[.int .i64 0, .int .i64 0, .int .i64 0, .slice none 0 0, .slice none 0 0] 33) ∧ (S_ 10 = true → OwnBP 3 (Fr w0) O_ w_ (a_.get 12) #[.int .i64 (IntKind.wrap .i64 (x19.2 - 1)), .int .i64 x18, .int .i64 0, .slice none 0 0, .slice none 0 0] 33)) := ⟨_, rfl⟩
    have T_ : ∀ {i_ : Nat} {d_ : Option Tmp} {v_ : Value} {S_ a' w' w2}, Nat.beq 0 i_ = false → Nat.beq 2 i_ = false → Nat.beq 3 i_ = false → Nat.beq 6 i_ = false → Nat.beq 9 i_ = false → Nat.beq 10 i_ = false → d_ ≠ some 12 → d_ ≠ some 33 → d_ ≠ some 36 → Ext w' w2 → J_ S_ a' w' → J_ (addS S_ i_) (a'.put d_ v_) w2 := by
     subst eJ_; intro i_ d_ v_ S_ a' w' w2 n0_ n2_ n3_ n6_ n9_ n10_ s12_ s33_ s36_ hE hJ_
     obtain ⟨O_, hB_, k0_, kk0_, m0_, m3_, v1_0_, v1_1_, v1_2_, v2_0_, v2_1_⟩ := hJ_
     exact ⟨O_, (Base.step hB_ hE hO), (k0_.trans (KX.keep (KX.ext hE) (by decide))), (kk0_.trans (KX.keep (KX.ext hE) (by decide))), fun h_ => zC (d := d_) (t := 33) (φ := fun u_ => (rSl (rInt .i64)).v O_ w2 u_ [2, 2, 3, 1]) ((GR.zI _ (m0_ (zD n0_ h_)) (KX.keep (KX.ext hE) (by decide)))) s33_, fun h_ => zC (d := d_) (t := 36) (φ := fun u_ => PtrZ (rInt .i64) O_ w2 u_ x18) ((PtrZ.keep (m3_ (zD n3_ h_)) (KX.keep (KX.ext hE) (by decide)) (by decide) (fun _ => rfl))) s36_, fun hq_ => BoxO.kx (v1_0_ (zP hq_)) (KX.ext hE) (by decide) (by decide), fun hp_ hq_ => BoxO.kx (v1_1_ (zD n2_ hp_) (zP hq_)) (KX.ext hE) (by decide) (by decide), fun hp_ => BoxO.kx (v1_2_ (zD n6_ hp_)) (KX.ext hE) (by decide) (by decide), fun hp_ hq_ => zC (d := d_) (t := 12) (φ := fun u_ => OwnBP 3 (Fr w0) O_ w2 (u_) #[.int .i64 0, .int .i64 0, .int .i64 0, .slice none 0 0, .slice none 0 0] 33) (OwnBP.kx (v2_0_ (zD n9_ hp_) (zP hq_)) (KX.ext hE) (by decide)) s12_, fun hp_ => zC (d := d_) (t := 12) (φ := fun u_ => OwnBP 3 (Fr w0) O_ w2 (u_) #[.int .i64 (IntKind.wrap .i64 (x19.2 - 1)), .int .i64 x18, .int .i64 0, .slice none 0 0, .slice none 0 0] 33) (OwnBP.kx (v2_1_ (zD n10_ hp_)) (KX.ext hE) (by decide)) s12_⟩
    refine' regionX (draw := true) J_ [SP.tt, SP.isv (.pointer (some ⟨b16, 0, none⟩)), SP.isv (.int .i64 x17.2), SP.tt, SP.isv (.int .i64 x18), SP.isv (.pointer (some ⟨b16, 0, none⟩)), SP.isv (.int .i64 x19.2), SP.isv (.int .i64 (IntKind.wrap .i64 (x19.2 - 1))), SP.isv (.agg #[.int .i64 (IntKind.wrap .i64 (x19.2 - 1)), .int .i64 x18, .int .i64 0, .slice none 0 0, .slice none 0 0]), SP.tt, SP.tt] mixed hA (.cons (vK _) (.cons (zV _) (.cons (zV _) (.cons (vK _) (.cons (zV _) (.cons (zV _) (.cons (zV _) (.cons (zV _) (.cons (zV _) (.cons (vK _) (.cons (vK _) .nil))))))))))) (.cons ?z8_0 (.cons ?z8_1 (.cons ?z8_2 (.cons ?z8_3 (.cons ?z8_4 (.cons ?z8_5 (.cons ?z8_6 (.cons ?z8_7 (.cons ?z8_8 (.cons ?z8_9 (.cons ?z8_10 .nil))))))))))) ?zsk8 ?zst8 ?zok8 ?zgd8 ?zk8
    case z8_0 =>
     intro S_ a' w' hA_ hJ_ hS_ hafter_ hbef_ hK hg K_ Q_ hK_
     subst eJ_
     obtain ⟨O_, hB_, k0_, kk0_, m0_, m3_, v1_0_, v1_1_, v1_2_, v2_0_, v2_1_⟩ := hJ_
     refine x_ok (φ := SP.vl (rSl (rInt .i64)) O_ [2, 2, 3, 1]) (by exact zN (r := (rInt .i64)) (fun _ => rfl) rfl hB_.ok ty23 ty3 (zR rfl (zR rfl (zR rfl (zR rfl zl)))) ⟨(by exact zd.2 rfl), ⟨(by exact zd.2 rfl), ⟨(by exact zd.2 rfl), ⟨(by exact zd.2 rfl), trivial⟩⟩⟩⟩ rfl (by decide)) fun v_ w2 hE hv_ => ?_
     have hB2_ := Base.step hB_ hE hO
     exact hK_ v_ w2 ⟨O_, hB2_, (k0_.trans (KX.keep (KX.ext hE) (by decide))), (kk0_.trans (KX.keep (KX.ext hE) (by decide))), fun _ => va (φ := fun u_ => (rSl (rInt .i64)).v O_ w2 u_ [2, 2, 3, 1]) hA_ (by decide) hv_, fun h_ => zC (d := some 33) (t := 36) (φ := fun u_ => PtrZ (rInt .i64) O_ w2 u_ x18) ((PtrZ.keep (m3_ (zD rfl h_)) (KX.keep (KX.ext hE) (by decide)) (by decide) (fun _ => rfl))) (by decide), fun hq_ => BoxO.kx (v1_0_ (zP hq_)) (KX.ext hE) (by decide) (by decide), fun hp_ hq_ => BoxO.kx (v1_1_ (zD rfl hp_) (zP hq_)) (KX.ext hE) (by decide) (by decide), fun hp_ => BoxO.kx (v1_2_ (zD rfl hp_)) (KX.ext hE) (by decide) (by decide), fun hp_ hq_ => zC (d := some 33) (t := 12) (φ := fun u_ => OwnBP 3 (Fr w0) O_ w2 (u_) #[.int .i64 0, .int .i64 0, .int .i64 0, .slice none 0 0, .slice none 0 0] 33) (OwnBP.kx (v2_0_ (zD rfl hp_) (zP hq_)) (KX.ext hE) (by decide)) (by decide), fun hp_ => zC (d := some 33) (t := 12) (φ := fun u_ => OwnBP 3 (Fr w0) O_ w2 (u_) #[.int .i64 (IntKind.wrap .i64 (x19.2 - 1)), .int .i64 x18, .int .i64 0, .slice none 0 0, .slice none 0 0] 33) (OwnBP.kx (v2_1_ (zD rfl hp_)) (KX.ext hE) (by decide)) (by decide)⟩ trivial
    case z8_1 =>
     intro S_ a' w' hA_ hJ_ hS_ hafter_ hbef_ hK hg K_ Q_ hK_
     refine x_ok (φ := SP.isv (.pointer (some ⟨b16, 0, none⟩))) (by exact zJ (kq hK q11)) fun v_ w2 hE hv_ => hK_ v_ w2 (T_ rfl rfl rfl rfl rfl rfl (by decide) (by decide) (by decide) hE hJ_) hv_
    case z8_2 =>
     intro S_ a' w' hA_ hJ_ hS_ hafter_ hbef_ hK hg K_ Q_ hK_
     subst eJ_
     obtain ⟨O_, hB_, k0_, kk0_, m0_, m3_, v1_0_, v1_1_, v1_2_, v2_0_, v2_1_⟩ := hJ_
     refine x_pio (r := zW) hO hB_ (yI hB_) fn54 (map2 (ks 1 hK 34 rfl) rfl) (yP hB_.ok (BoxO.arg (v1_0_ hS_) (by decide)) hx17) (v1_0_ hS_) fun v_ w2 f_ hB2_ hX_ hv_ => ?_
     exact hK_ v_ w2 ⟨O_, hB2_, (k0_.trans (KX.keep hX_ (by decide))), (kk0_.trans (KX.keep hX_ (by decide))), fun h_ => zC (d := some 35) (t := 33) (φ := fun u_ => (rSl (rInt .i64)).v O_ w2 u_ [2, 2, 3, 1]) ((GR.zI _ (m0_ (zD rfl h_)) (KX.keep hX_ (by decide)))) (by decide), fun h_ => zC (d := some 35) (t := 36) (φ := fun u_ => PtrZ (rInt .i64) O_ w2 u_ x18) ((PtrZ.keep (m3_ (zD rfl h_)) (KX.keep hX_ (by decide)) (by decide) (fun _ => rfl))) (by decide), fun hq_ => jk hq_, fun hp_ hq_ => f_, fun hp_ => no_tf (zD rfl hp_) (hafter_ 6 (by kernel_rfl)), fun hp_ hq_ => zC (d := some 35) (t := 12) (φ := fun u_ => OwnBP 3 (Fr w0) O_ w2 (u_) #[.int .i64 0, .int .i64 0, .int .i64 0, .slice none 0 0, .slice none 0 0] 33) (OwnBP.kx (v2_0_ (zD rfl hp_) (zP hq_)) hX_ (by decide)) (by decide), fun hp_ => zC (d := some 35) (t := 12) (φ := fun u_ => OwnBP 3 (Fr w0) O_ w2 (u_) #[.int .i64 (IntKind.wrap .i64 (x19.2 - 1)), .int .i64 x18, .int .i64 0, .slice none 0 0, .slice none 0 0] 33) (OwnBP.kx (v2_1_ (zD rfl hp_)) hX_ (by decide)) (by decide)⟩ hv_
    case z8_3 =>
     intro S_ a' w' hA_ hJ_ hS_ hafter_ hbef_ hK hg K_ Q_ hK_
     subst eJ_
     obtain ⟨O_, hB_, k0_, kk0_, m0_, m3_, v1_0_, v1_1_, v1_2_, v2_0_, v2_1_⟩ := hJ_
     refine x_ok (φ := SP.ptrz (rInt .i64) O_ x18 (of_decide_eq_true rfl) (fun _ => rfl)) (by exact okl_idxZ (r := (rInt .i64)) (by decide) (fun _ => rfl) ty23 ty3 rfl rfl (m0_ (zD rfl (hbef_ 0 (by kernel_rfl)))) (ks 2 hK 35 rfl) hx18) fun v_ w2 hE hv_ => ?_
     have hB2_ := Base.step hB_ hE hO
     exact hK_ v_ w2 ⟨O_, hB2_, (k0_.trans (KX.keep (KX.ext hE) (by decide))), (kk0_.trans (KX.keep (KX.ext hE) (by decide))), fun h_ => zC (d := some 36) (t := 33) (φ := fun u_ => (rSl (rInt .i64)).v O_ w2 u_ [2, 2, 3, 1]) ((GR.zI _ (m0_ (zD rfl h_)) (KX.keep (KX.ext hE) (by decide)))) (by decide), fun _ => va (φ := fun u_ => PtrZ (rInt .i64) O_ w2 u_ x18) hA_ (by decide) hv_, fun hq_ => BoxO.kx (v1_0_ (zP hq_)) (KX.ext hE) (by decide) (by decide), fun hp_ hq_ => BoxO.kx (v1_1_ (zD rfl hp_) (zP hq_)) (KX.ext hE) (by decide) (by decide), fun hp_ => BoxO.kx (v1_2_ (zD rfl hp_)) (KX.ext hE) (by decide) (by decide), fun hp_ hq_ => zC (d := some 36) (t := 12) (φ := fun u_ => OwnBP 3 (Fr w0) O_ w2 (u_) #[.int .i64 0, .int .i64 0, .int .i64 0, .slice none 0 0, .slice none 0 0] 33) (OwnBP.kx (v2_0_ (zD rfl hp_) (zP hq_)) (KX.ext hE) (by decide)) (by decide), fun hp_ => zC (d := some 36) (t := 12) (φ := fun u_ => OwnBP 3 (Fr w0) O_ w2 (u_) #[.int .i64 (IntKind.wrap .i64 (x19.2 - 1)), .int .i64 x18, .int .i64 0, .slice none 0 0, .slice none 0 0] 33) (OwnBP.kx (v2_1_ (zD rfl hp_)) (KX.ext hE) (by decide)) (by decide)⟩ trivial
    case z8_4 =>
     intro S_ a' w' hA_ hJ_ hS_ hafter_ hbef_ hK hg K_ Q_ hK_
     have hJ2_ := hJ_; rw [eJ_] at hJ2_; obtain ⟨O_, hB_, k0_, kk0_, m0_, m3_, v1_0_, v1_1_, v1_2_, v2_0_, v2_1_⟩ := hJ2_
     refine x_ok (φ := SP.isv (.int .i64 x18)) (by exact yD (rInt .i64) (fun _ => rfl) ty3 rfl rfl rfl (PtrZ.ptr (m3_ (zD rfl (hbef_ 3 (by kernel_rfl))))) (fun _ _ _ h => zd.1 h)) fun v_ w2 hE hv_ => hK_ v_ w2 (T_ rfl rfl rfl rfl rfl rfl (by decide) (by decide) (by decide) hE hJ_) hv_
    case z8_5 =>
     intro S_ a' w' hA_ hJ_ hS_ hafter_ hbef_ hK hg K_ Q_ hK_
     refine x_ok (φ := SP.isv (.pointer (some ⟨b16, 0, none⟩))) (by exact zJ (kq hK q11)) fun v_ w2 hE hv_ => hK_ v_ w2 (T_ rfl rfl rfl rfl rfl rfl (by decide) (by decide) (by decide) hE hJ_) hv_
    case z8_6 =>
     intro S_ a' w' hA_ hJ_ hS_ hafter_ hbef_ hK hg K_ Q_ hK_
     subst eJ_
     obtain ⟨O_, hB_, k0_, kk0_, m0_, m3_, v1_0_, v1_1_, v1_2_, v2_0_, v2_1_⟩ := hJ_
     refine x_pio (r := zW) hO hB_ (yI hB_) fn54 (map2 (ks 5 hK 38 rfl) rfl) (yP hB_.ok (BoxO.arg (v1_1_ (zD rfl (hbef_ 2 (by kernel_rfl))) hS_) (by decide)) hx19) (v1_1_ (zD rfl (hbef_ 2 (by kernel_rfl))) hS_) fun v_ w2 f_ hB2_ hX_ hv_ => ?_
     exact hK_ v_ w2 ⟨O_, hB2_, (k0_.trans (KX.keep hX_ (by decide))), (kk0_.trans (KX.keep hX_ (by decide))), fun h_ => zC (d := some 39) (t := 33) (φ := fun u_ => (rSl (rInt .i64)).v O_ w2 u_ [2, 2, 3, 1]) ((GR.zI _ (m0_ (zD rfl h_)) (KX.keep hX_ (by decide)))) (by decide), fun h_ => zC (d := some 39) (t := 36) (φ := fun u_ => PtrZ (rInt .i64) O_ w2 u_ x18) ((PtrZ.keep (m3_ (zD rfl h_)) (KX.keep hX_ (by decide)) (by decide) (fun _ => rfl))) (by decide), fun hq_ => no_tf (hbef_ 2 (by kernel_rfl)) hq_, fun hp_ hq_ => jk hq_, fun hp_ => f_, fun hp_ hq_ => zC (d := some 39) (t := 12) (φ := fun u_ => OwnBP 3 (Fr w0) O_ w2 (u_) #[.int .i64 0, .int .i64 0, .int .i64 0, .slice none 0 0, .slice none 0 0] 33) (OwnBP.kx (v2_0_ (zD rfl hp_) (zP hq_)) hX_ (by decide)) (by decide), fun hp_ => zC (d := some 39) (t := 12) (φ := fun u_ => OwnBP 3 (Fr w0) O_ w2 (u_) #[.int .i64 (IntKind.wrap .i64 (x19.2 - 1)), .int .i64 x18, .int .i64 0, .slice none 0 0, .slice none 0 0] 33) (OwnBP.kx (v2_1_ (zD rfl hp_)) hX_ (by decide)) (by decide)⟩ hv_
    case z8_7 =>
     intro S_ a' w' hA_ hJ_ hS_ hafter_ hbef_ hK hg K_ Q_ hK_
     refine x_ok (φ := SP.isv (.int .i64 (IntKind.wrap .i64 (x19.2 - 1)))) (by exact ok_sub (ks 6 hK 39 rfl) rfl) fun v_ w2 hE hv_ => hK_ v_ w2 (T_ rfl rfl rfl rfl rfl rfl (by decide) (by decide) (by decide) hE hJ_) hv_
    case z8_8 =>
     intro S_ a' w' hA_ hJ_ hS_ hafter_ hbef_ hK hg K_ Q_ hK_
     refine x_ok (φ := SP.isv (.agg #[.int .i64 (IntKind.wrap .i64 (x19.2 - 1)), .int .i64 x18, .int .i64 0, .slice none 0 0, .slice none 0 0])) (by exact vg plc33 ty33 (yl (v := .int .i64 x18) (ksv (j := 4) (hK 37 rfl) rfl rfl rfl) (yl (v := .int .i64 (IntKind.wrap .i64 (x19.2 - 1))) (ksv (j := 7) (hK 40 rfl) rfl rfl rfl) kP)) rfl (.cons rfl rfl rfl (leb rfl) (.cons rfl rfl rfl (leb rfl) .nil)) rfl) fun v_ w2 hE hv_ => hK_ v_ w2 (T_ rfl rfl rfl rfl rfl rfl (by decide) (by decide) (by decide) hE hJ_) hv_
    case z8_9 =>
     intro S_ a' w' hA_ hJ_ hS_ hafter_ hbef_ hK hg K_ Q_ hK_
     subst eJ_
     obtain ⟨O_, hB_, k0_, kk0_, m0_, m3_, v1_0_, v1_1_, v1_2_, v2_0_, v2_1_⟩ := hJ_
     refine x_ok (φ := SP.box w'.heap.size #[.int .i64 0, .int .i64 0, .int .i64 0, .slice none 0 0, .slice none 0 0] 33) (by exact gj (Nat.le_refl _) ty33) fun v_ w2 hE hv_ => ?_
     obtain ⟨O2_, b_, hB2_, hX_, e_, f_⟩ := kQ hO hB_ hE hv_ 3 (by decide)
     exact hK_ v_ w2 ⟨O2_, hB2_, (k0_.trans (KX.keep hX_ (by decide))), (kk0_.trans (KX.keep hX_ (by decide))), fun h_ => zC (d := some 12) (t := 33) (φ := fun u_ => (rSl (rInt .i64)).v O2_ w2 u_ [2, 2, 3, 1]) ((GR.zI _ (m0_ (zD rfl h_)) (KX.keep hX_ (by decide)))) (by decide), fun h_ => zC (d := some 12) (t := 36) (φ := fun u_ => PtrZ (rInt .i64) O2_ w2 u_ x18) ((PtrZ.keep (m3_ (zD rfl h_)) (KX.keep hX_ (by decide)) (by decide) (fun _ => rfl))) (by decide), fun hq_ => BoxO.kx (v1_0_ (zP hq_)) hX_ (by decide) (by decide), fun hp_ hq_ => BoxO.kx (v1_1_ (zD rfl hp_) (zP hq_)) hX_ (by decide) (by decide), fun hp_ => BoxO.kx (v1_2_ (zD rfl hp_)) hX_ (by decide) (by decide), fun hp_ hq_ => va (φ := fun u_ => OwnBP 3 (Fr w0) O2_ w2 (u_) #[.int .i64 0, .int .i64 0, .int .i64 0, .slice none 0 0, .slice none 0 0] 33) hA_ (by decide) ⟨b_, e_, f_⟩, fun hp_ => no_tf (zD rfl hp_) (hafter_ 10 (by kernel_rfl))⟩ trivial
    case z8_10 =>
     intro S_ a' w' hA_ hJ_ hS_ hafter_ hbef_ hK hg K_ Q_ hK_
     subst eJ_
     obtain ⟨O_, hB_, k0_, kk0_, m0_, m3_, v1_0_, v1_1_, v1_2_, v2_0_, v2_1_⟩ := hJ_
     obtain ⟨b_, eb_, fb_⟩ := (v2_0_ (zD rfl (hbef_ 9 (by kernel_rfl))) hS_)
     refine x_storeSub (vs := [.int .i64 (IntKind.wrap .i64 (x19.2 - 1)), .int .i64 x18, .int .i64 0, .slice none 0 0, .slice none 0 0]) (cs' := #[.int .i64 (IntKind.wrap .i64 (x19.2 - 1)), .int .i64 x18, .int .i64 0, .slice none 0 0, .slice none 0 0]) hO hB_ (yI hB_) ty33 eb_ (ks 8 hK 41 rfl) rfl (by simp [Value.oneCell']) fb_ (by simp) rfl fun w2 f_ hB2_ hX_ => ?_
     exact hK_ undef w2 ⟨O_, hB2_, (k0_.trans (KX.keep hX_ (by decide))), (kk0_.trans (KX.keep hX_ (by decide))), fun h_ => zC (d := none) (t := 33) (φ := fun u_ => (rSl (rInt .i64)).v O_ w2 u_ [2, 2, 3, 1]) ((GR.zI _ (m0_ (zD rfl h_)) (KX.keep hX_ (by decide)))) (by decide), fun h_ => zC (d := none) (t := 36) (φ := fun u_ => PtrZ (rInt .i64) O_ w2 u_ x18) ((PtrZ.keep (m3_ (zD rfl h_)) (KX.keep hX_ (by decide)) (by decide) (fun _ => rfl))) (by decide), fun hq_ => BoxO.kx (v1_0_ (zP hq_)) hX_ (by decide) (by decide), fun hp_ hq_ => BoxO.kx (v1_1_ (zD rfl hp_) (zP hq_)) hX_ (by decide) (by decide), fun hp_ => BoxO.kx (v1_2_ (zD rfl hp_)) hX_ (by decide) (by decide), fun hp_ hq_ => jk hq_, fun hp_ => zC (d := none) (t := 12) (φ := fun u_ => OwnBP 3 (Fr w0) O_ w2 (u_) #[.int .i64 (IntKind.wrap .i64 (x19.2 - 1)), .int .i64 x18, .int .i64 0, .slice none 0 0, .slice none 0 0] 33) (⟨b_, eb_, f_⟩) (by decide)⟩ trivial
    case zsk8 =>
     subst eJ_
     intro i_ o_ S_ a_ w_ ho_ hact_ hA_ hS_ hbef_ hJ_
     obtain ⟨O_, hB_, k0_, kk0_, m0_, m3_, v1_0_, v1_1_, v1_2_, v2_0_, v2_1_⟩ := hJ_
     exact ⟨O_, hB_, k0_, kk0_, fun h_ => by obtain ⟨h1_, h2_⟩ := zj (j := 0) hact_ rfl h_; exact zC (t := 33) (φ := fun u_ => (rSl (rInt .i64)).v O_ w_ u_ [2, 2, 3, 1]) (m0_ h1_) (zb (j := 0) (by kernel_rfl) ho_ h2_), fun h_ => by obtain ⟨h1_, h2_⟩ := zj (j := 3) hact_ rfl h_; exact zC (t := 36) (φ := fun u_ => PtrZ (rInt .i64) O_ w_ u_ x18) (m3_ h1_) (zb (j := 3) (by kernel_rfl) ho_ h2_), fun hq_ => (v1_0_ (zP hq_)), fun hp_ hq_ => by obtain ⟨h1_, h2_⟩ := zj (j := 2) hact_ rfl hp_; exact (v1_1_ h1_ (zP hq_)), fun hp_ => by obtain ⟨h1_, h2_⟩ := zj (j := 6) hact_ rfl hp_; exact (v1_2_ h1_), fun hp_ hq_ => by obtain ⟨h1_, h2_⟩ := zj (j := 9) hact_ rfl hp_; exact zC (t := 12) (φ := fun u_ => OwnBP 3 (Fr w0) O_ w_ (u_) #[.int .i64 0, .int .i64 0, .int .i64 0, .slice none 0 0, .slice none 0 0] 33) (v2_0_ h1_ (zP hq_)) (zb (j := 9) (by kernel_rfl) ho_ h2_), fun hp_ => by obtain ⟨h1_, h2_⟩ := zj (j := 10) hact_ rfl hp_; exact zC (t := 12) (φ := fun u_ => OwnBP 3 (Fr w0) O_ w_ (u_) #[.int .i64 (IntKind.wrap .i64 (x19.2 - 1)), .int .i64 x18, .int .i64 0, .slice none 0 0, .slice none 0 0] 33) (v2_1_ h1_) (zb (j := 9) (by kernel_rfl) ho_ (skip_ne hact_ rfl))⟩
    case zst8 => subst eJ_; exact fun w1_ hE_ => ⟨O14, (Base.step hB hE_ hO), (Keep.ext hE_), (Keep.ext hE_), fun h_ => no_ft h_, fun h_ => no_ft h_, fun _ => BoxO.ext ⟨_, f15, ⟨_, _, rfl, (vJ (r := (rSl (rInt .i64))) f11 rfl rfl), ⟨_, _, rfl, rfl, rfl⟩⟩⟩ hE_, fun hp_ => no_ft hp_, fun hp_ => no_ft hp_, fun hp_ => no_ft hp_, fun hp_ => no_ft hp_⟩
    case zok8 | zgd8 => kernel_rfl
    subst eJ_; clear T_
    intro a15 w15 hA HF hJ_
    obtain ⟨O20, hB_, k0_, kk0_, m0_, m3_, v1_0_, v1_1_, v1_2_, v2_0_, v2_1_⟩ := hJ_
    replace q0 := kn (HF 0) rfl q0
    replace q1 := kn (HF 1) rfl q1
    replace q2 := kn (HF 2) rfl q2
    replace q7 := kn (HF 7) rfl q7
    replace q8 := kn (HF 8) rfl q8
    replace q9 := kn (HF 9) rfl q9
    replace q10 := kn (HF 10) rfl q10
    replace q11 := kn (HF 11) rfl q11
    obtain ⟨b21, q12', f22⟩ := (v2_1_ rfl)
    have q12 := q12'; clear q12'
    clear HF
    replace h_0 := GR.zI _ h_0 k0_
    replace f3 := OwnL.keep f3 k0_ kk0_
    have f23 := (v1_2_ rfl)
    clear f15; clear hB; have hB := hB_; clear hB_
    have hz_ := f23; clear f23; obtain ⟨cs_, f24, hr_⟩ := hz_
    obtain ⟨u25, e_, f26⟩ := vb hr_; subst e_
    clear k0_ kk0_ m0_ m3_ v1_0_ v1_1_ v1_2_ v2_0_ v2_1_; refine zA (wp_seq ?_); obtain ⟨x27, hx27, h⟩ := Comp.run_bind h
    refine' rbT [_, _, _] hA hB hO (mv q11 (mv q1 (cn (fun hE hK => okl_shl rfl (ks 1 hK 43 rfl) (vn hx27)) .nil))) ?zk9
    intro a16 w16 hA hE hB HF; refine kr9 HF q0 q1 q2 q7 q8 q9 q10 q11 q12 ?_; clear q0 q1 q2 q7 q8 q9 q10 q11 q12; intro q0 q1 q2 q7 q8 q9 q10 q11 q12; have q42 := ksv (HF 42) rfl rfl rfl; have q44 := ksv (HF 44) rfl rfl rfl; clear HF; replace h_0 := vx h_0 hE; replace f3 := f3.ext hE; replace f24 := f24.ext hE; replace f26 := vx f26 hE; replace f22 := f22.ext hE; clear hE; obtain ⟨x28, hx28, h⟩ := Comp.run_bind h
    refine l_pio (r := zW) (x := x19.1) hO hB (yI hB) fn54 (map2 q42 q44) (yP hB.ok (BoxO.arg (show BoxO 2 (Fr w0) O20 w16 b16 88 zW x19.1 from ⟨_, f24, ⟨_, _, rfl, (vJ (r := (rSl (rInt .i64))) f26 rfl rfl), ⟨_, _, rfl, rfl, rfl⟩⟩⟩) (by decide)) hx28) ⟨_, f24, ⟨_, _, rfl, (vJ (r := (rSl (rInt .i64))) f26 rfl rfl), ⟨_, _, rfl, rfl, rfl⟩⟩⟩ fun u29 w17 f31 hB' hX f30 => ?_
    clear hB f24; have hB := hB'; clear hB'; replace h_0 := vk h_0 hX
    replace f3 := f3.kx hX (by decide) (by decide)
    replace f26 := vk f26 hX
    replace f22 := f22.kx hX (by decide)
    clear hX
    have hz_ := f31; clear f31; obtain ⟨cs_, f32, hr_⟩ := hz_
    obtain ⟨u33, e_, f34⟩ := vb hr_; subst e_
    replace f30 : _ = _ := f30; subst f30
    refine zQ hA (by decide) fun a18 hA q_ hfr => ?_
    refine kd11 hfr q0 q1 q2 q7 q8 q9 q10 q11 q12 q42 q44 ?_; clear q0 q1 q2 q7 q8 q9 q10 q11 q12 q42 q44; intro q0 q1 q2 q7 q8 q9 q10 q11 q12 q42 q44; have q45 := q_; clear q_ hfr
    refine l_ok (φ := SP.isv (.int .i64 x28.2)) hO hB (by exact zE q45) rfl fun u_ w19 hE hB' hv_ => ?_
    replace hv_ := Eq.symm hv_; subst hv_; clear hB; have hB := hB'; clear hB'
    replace h_0 := vx h_0 hE; replace f3 := f3.ext hE; replace f32 := f32.ext hE; replace f34 := vx f34 hE; replace f22 := f22.ext hE; clear hE
    refine zQ hA (by decide) fun a20 hA q_ hfr => ?_
    refine kd10 hfr q0 q1 q2 q7 q8 q9 q10 q11 q12 q45 ?_; clear q0 q1 q2 q7 q8 q9 q10 q11 q12 q45; intro q0 q1 q2 q7 q8 q9 q10 q11 q12 q45; have q13 := q_; clear q_ hfr; refine zG (zA (wp_seq ?_)); obtain ⟨x35, hx35, h⟩ := Comp.run_bind h
    refine' rbT [_, _, _] hA hB hO (mv q11 (mv q1 (cn (fun hE hK => okl_shl rfl (ks 1 hK 47 rfl) (vn hx35)) .nil))) ?zk10
    intro a21 w21 hA hE hB HF; refine kr9 HF q0 q1 q2 q7 q8 q9 q10 q12 q13 ?_; clear q0 q1 q2 q7 q8 q9 q10 q12 q13; intro q0 q1 q2 q7 q8 q9 q10 q12 q13; have q46 := ksv (HF 46) rfl rfl rfl; have q48 := ksv (HF 48) rfl rfl rfl; clear q11 HF; replace h_0 := vx h_0 hE; replace f3 := f3.ext hE; replace f32 := f32.ext hE; replace f34 := vx f34 hE; replace f22 := f22.ext hE; clear hE; obtain ⟨x36, hx36, h⟩ := Comp.run_bind h
    refine l_pio (r := zW) (x := x28.1) hO hB (yI hB) fn54 (map2 q46 q48) (yP hB.ok (BoxO.arg (show BoxO 2 (Fr w0) O20 w21 b16 88 zW x28.1 from ⟨_, f32, ⟨_, _, rfl, (vJ (r := (rSl (rInt .i64))) f34 rfl rfl), ⟨_, _, rfl, rfl, rfl⟩⟩⟩) (by decide)) hx36) ⟨_, f32, ⟨_, _, rfl, (vJ (r := (rSl (rInt .i64))) f34 rfl rfl), ⟨_, _, rfl, rfl, rfl⟩⟩⟩ fun u37 w22 f39 hB' hX f38 => ?_
    clear hB f32; have hB := hB'; clear hB'; replace h_0 := vk h_0 hX
    replace f3 := f3.kx hX (by decide) (by decide)
    replace f34 := vk f34 hX
    replace f22 := f22.kx hX (by decide)
    clear hX
    have hz_ := f39; clear f39; obtain ⟨cs_, f40, hr_⟩ := hz_
    obtain ⟨u41, e_, f42⟩ := vb hr_; subst e_
    replace f38 : _ = _ := f38; subst f38
    refine zQ hA (by decide) fun a23 hA q_ hfr => ?_
    refine kd11 hfr q0 q1 q2 q7 q8 q9 q10 q12 q13 q46 q48 ?_; clear q0 q1 q2 q7 q8 q9 q10 q12 q13 q46 q48; intro q0 q1 q2 q7 q8 q9 q10 q12 q13 q46 q48; have q49 := q_; clear q_ hfr
    refine l_ok (φ := SP.isv (.int .i64 x36.2)) hO hB (by exact zE q49) rfl fun u_ w24 hE hB' hv_ => ?_
    replace hv_ := Eq.symm hv_; subst hv_; clear hB; have hB := hB'; clear hB'
    replace h_0 := vx h_0 hE; replace f3 := f3.ext hE; replace f22 := f22.ext hE; clear hE
    refine zQ hA (by decide) fun a25 hA q_ hfr => ?_
    refine kd10 hfr q0 q1 q2 q7 q8 q9 q10 q12 q13 q49 ?_; clear q0 q1 q2 q7 q8 q9 q10 q12 q13 q49; intro q0 q1 q2 q7 q8 q9 q10 q12 q13 q49; have q14 := q_; clear q_ hfr; refine zG (zA ?_)
    refine zh (fun a w => ∃ (O72 : Tags) (x52 : Bool) (x53 : Int) (x54 : Int) (x55 : Int) (x56 : Int) (x57 : List Int) (x60 : List Int) (u58 : Value) (u61 : Value), a.fit 84 ∧ Base (Fr w0) O w0 O72 w ∧ a.get 0 = v_0 ∧ (rSl (rSl (rInt .i64))).v O72 w v_0 x_0 ∧ a.get 1 = .int .i64 x_1 ∧ a.get 2 = .int .i64 x_2 ∧ a.get 7 = u2 ∧ OwnL 1 zB 33 (Fr w0) O72 w u2 x1 ∧ a.get 8 = .bool x52 ∧ a.get 9 = .int .i64 x53 ∧ a.get 10 = .int .i64 x6 ∧ a.get 12 = .pointer (some ⟨b21, 0, none⟩) ∧ OwnB 3 (Fr w0) O72 w b21 #[.int .i64 x54, .int .i64 x55, .int .i64 x56, u58, u61] 33 ∧ (rSl (rInt .i64)).v O72 w u58 x57 ∧ (rSl (rInt .i64)).v O72 w u61 x60 ∧ (yS x1 x6 x52 x53 x54 x55 x56 x57 x60).run n = some st2) ?_ ?_
    ·
     refine wp_seq ?_
     refine' rb [SP.isv (.pointer (some ⟨b21, 1, none⟩)), SP.isv (.int .i64 x18)] mixed hA hB hO (cn (fun hE hK => zK fl33_1 (kq hK q12)) (cn (fun hE hK => zg ty3 rfl (ks 0 hK 50 rfl) (OwnB.ext f22 hE).own rfl) .nil)) ?zk11
     intro a26 w26 hA hE hB HF; refine kr10 HF q0 q1 q2 q7 q8 q9 q10 q12 q13 q14 ?_; clear q0 q1 q2 q7 q8 q9 q10 q12 q13 q14; intro q0 q1 q2 q7 q8 q9 q10 q12 q13 q14; have q51 := ksv (HF 51) rfl rfl rfl; clear HF; replace h_0 := vx h_0 hE; replace f3 := f3.ext hE; replace f22 := f22.ext hE; clear hE; refine zG (zA (wp_block (wp_seq ?_)))
     refine' rb [_, _] mixed hA hB hO (cn (fun hE hK => yq (kq hK q51) rfl) (cn (fun hE hK => zE (ks 0 hK 53 rfl)) .nil)) ?zk12
     intro a27 w27 hA hE hB HF; refine kr11 HF q0 q1 q2 q7 q8 q9 q10 q12 q13 q14 q51 ?_; clear q0 q1 q2 q7 q8 q9 q10 q12 q13 q14 q51; intro q0 q1 q2 q7 q8 q9 q10 q12 q13 q14 q51; have q52 := ksv (HF 52) rfl rfl rfl; clear HF; replace h_0 := vx h_0 hE; replace f3 := f3.ext hE; replace f22 := f22.ext hE; clear hE; refine zG (zA ?_)
     revert h; refine cnd q52 (fun h => ?_) (fun h => ?_)
     ·
      refine wp_seq (wp_seq ?_)
      refine' rb [_] mixed hA hB hO (mv q8 .nil) ?zk13
      intro a28 w28 hA hE hB HF; refine kr10 HF q0 q1 q2 q7 q8 q9 q10 q12 q13 q14 ?_; clear q0 q1 q2 q7 q8 q9 q10 q12 q13 q14; intro q0 q1 q2 q7 q8 q9 q10 q12 q13 q14; have q54 := ksv (HF 54) rfl rfl rfl; clear q51 q52 HF; replace h_0 := vx h_0 hE; replace f3 := f3.ext hE; replace f22 := f22.ext hE; clear hE; refine zG (zA ?_)
      revert h; refine cnd q54 (fun h => ?_) (fun h => ?_)
      ·
       refine wp_exit ?_
       refine (zX (ex_other rfl (zX (ye ?_))))
       refine zA ?_
       exact ⟨_, _, _, _, _, hA, hB, q0, h_0, q1, q2, q7, f3, q8, q9, q10, h⟩
      ·
       refine wp_skip (zA (wp_seq ?_))
       refine' rb [_] mixed hA hB hO (cn (fun hE hK => zE rfl) .nil) ?zk14
       intro a29 w29 hA hE hB HF; refine kr9 HF q0 q1 q2 q7 q9 q10 q12 q13 q14 ?_; clear q0 q1 q2 q7 q9 q10 q12 q13 q14; intro q0 q1 q2 q7 q9 q10 q12 q13 q14; replace q8 := ksv (HF 8) rfl rfl rfl; clear q54 HF; replace h_0 := vx h_0 hE; replace f3 := f3.ext hE; replace f22 := f22.ext hE; clear hE; refine zG (zA ?_); obtain ⟨x48, hx48, h⟩ := Comp.run_bind h
       refine' rbT [_, _, _, _, SP.vl (rSl (rInt .i64)) O20 x48, SP.isv (.pointer (some ⟨b21, 4, none⟩))] hA hB hO (mv q13 (mv q14 (cn (fun hE hK => okb_or (ks 0 hK 55 rfl) (ks 1 hK 56 rfl)) (mv q1 (.cons (fun _ _ hE hK hg => yE (yV fn55 (ks 2 hK 57 rfl) (ks 3 hK 58 rfl) (jY (OkO.ext hB.ok hE)  hx48)) (fun _ _ _ h => (OwnR.val h (fun g hg => (OkO.ext hB.ok hE) g (OwnR.ge h g hg).1)))) (cn (fun hE hK => zK fl33_4 (kq hK q12)) .nil)))))) ?zk15
       intro a30 w30 hA hE hB HF; refine kr8 HF q0 q1 q2 q7 q8 q9 q10 q12 ?_; clear q0 q1 q2 q7 q8 q9 q10 q12; intro q0 q1 q2 q7 q8 q9 q10 q12; obtain ⟨u49, q59, f50⟩ := kx (HF 59) rfl rfl rfl; have q60 := ksv (HF 60) rfl rfl rfl; clear q13 q14 HF; replace h_0 := vx h_0 hE; replace f3 := f3.ext hE; replace f22 := f22.ext hE; clear hE
       refine jO (cs' := #[.int .i64 (IntKind.wrap .i64 (x19.2 - 1)), .int .i64 x18, .int .i64 0, .slice none 0 0, u49]) hO hB (yI hB) ty23 q60 q59 (jf f50 rfl rfl) (sl_one f50 rfl rfl) f22 (by simp) rfl fun w31 f51 hB' hX => ?_
       clear hB f22; have hB := hB'; clear hB'; replace h_0 := vk h_0 hX
       replace f3 := f3.kx hX (by decide) (by decide)
       replace f50 := vk f50 hX; clear hX; refine zG (yJ (zA ?_))
       exact ⟨_, _, _, _, _, _, _, _, _, _, hA, hB, q0, h_0, q1, q2, q7, f3, q8, q9, q10, q12, f51, (jA _ _ _ 0), f50, h⟩
     ·
      refine wp_seq ?_
      refine' rb [_, _] mixed hA hB hO (cn (fun hE hK => yq (kq hK q51) rfl) (cn (fun hE hK => zE (ks 0 hK 62 rfl)) .nil)) ?zk16
      intro a32 w32 hA hE hB HF; refine kr11 HF q0 q1 q2 q7 q8 q9 q10 q12 q13 q14 q51 ?_; clear q0 q1 q2 q7 q8 q9 q10 q12 q13 q14 q51; intro q0 q1 q2 q7 q8 q9 q10 q12 q13 q14 q51; have q61 := ksv (HF 61) rfl rfl rfl; clear q52 HF; replace h_0 := vx h_0 hE; replace f3 := f3.ext hE; replace f22 := f22.ext hE; clear hE; refine zG (zA ?_)
      revert h; refine cnd q61 (fun h => ?_) (fun h => ?_)
      ·
       obtain ⟨x63, hx63, h⟩ := Comp.run_bind h; obtain ⟨x64, hx64, h⟩ := Comp.run_bind h
       refine' rbT [_, _, _, _, SP.vl (rSl (rInt .i64)) O20 x63, _, _, SP.vl (rSl (rInt .i64)) O20 x64, SP.isv (.pointer (some ⟨b21, 3, none⟩))] hA hB hO (mv q13 (mv q14 (cn (fun hE hK => okb_and (ks 0 hK 63 rfl) (ks 1 hK 64 rfl)) (mv q1 (.cons (fun _ _ hE hK hg => yE (yV fn55 (ks 2 hK 65 rfl) (ks 3 hK 66 rfl) (jY (OkO.ext hB.ok hE)  hx63)) (fun _ _ _ h => (OwnR.val h (fun g hg => (OkO.ext hB.ok hE) g (OwnR.ge h g hg).1)))) (mv q13 (mv q1 (.cons (fun _ _ hE hK hg => yE (yV fn55 (ks 5 hK 68 rfl) (ks 6 hK 69 rfl) (jY (OkO.ext hB.ok hE)  hx64)) (fun _ _ _ h => (OwnR.val h (fun g hg => (OkO.ext hB.ok hE) g (OwnR.ge h g hg).1)))) (cn (fun hE hK => zK fl33_3 (kq hK q12)) .nil))))))))) ?zk17
       intro a33 w33 hA hE hB HF; refine kr8 HF q0 q1 q2 q7 q8 q9 q10 q12 ?_; clear q0 q1 q2 q7 q8 q9 q10 q12; intro q0 q1 q2 q7 q8 q9 q10 q12; obtain ⟨u65, q67, f66⟩ := kx (HF 67) rfl rfl rfl; obtain ⟨u67, q70, f68⟩ := kx (HF 70) rfl rfl rfl; have q71 := ksv (HF 71) rfl rfl rfl; clear q13 q14 q51 q61 HF; replace h_0 := vx h_0 hE; replace f3 := f3.ext hE; replace f22 := f22.ext hE; clear hE
       refine jO (cs' := #[.int .i64 (IntKind.wrap .i64 (x19.2 - 1)), .int .i64 x18, .int .i64 0, u65, .slice none 0 0]) hO hB (yI hB) ty23 q71 q67 (jf f66 rfl rfl) (sl_one f66 rfl rfl) f22 (by simp) rfl fun w34 f69 hB' hX => ?_
       clear hB f22; have hB := hB'; clear hB'; replace h_0 := vk h_0 hX
       replace f3 := f3.kx hX (by decide) (by decide)
       replace f66 := vk f66 hX; replace f68 := vk f68 hX; clear hX
       refine l_ok (φ := SP.isv (.pointer (some ⟨b21, 4, none⟩))) hO hB (by exact zK fl33_4 q12) rfl fun u_ w35 hE hB' hv_ => ?_
       replace hv_ := Eq.symm hv_; subst hv_; clear hB; have hB := hB'; clear hB'
       replace h_0 := vx h_0 hE; replace f3 := f3.ext hE; replace f68 := vx f68 hE; replace f69 := f69.ext hE; replace f66 := vx f66 hE; clear hE
       refine zQ hA (by decide) fun a36 hA q_ hfr => ?_
       refine kd9 hfr q0 q1 q2 q7 q8 q9 q10 q12 q70 ?_; clear q0 q1 q2 q7 q8 q9 q10 q12 q70; intro q0 q1 q2 q7 q8 q9 q10 q12 q70; have q72 := q_; clear q_ hfr
       refine jO (cs' := #[.int .i64 (IntKind.wrap .i64 (x19.2 - 1)), .int .i64 x18, .int .i64 0, u65, u67]) hO hB (yI hB) ty23 q72 q70 (jf f68 rfl rfl) (sl_one f68 rfl rfl) f69 (by simp) rfl fun w37 f70 hB' hX => ?_
       clear hB f69; have hB := hB'; clear hB'; replace h_0 := vk h_0 hX
       replace f3 := f3.kx hX (by decide) (by decide)
       replace f68 := vk f68 hX; replace f66 := vk f66 hX; clear hX; refine zG (yJ (zA ?_))
       exact ⟨_, _, _, _, _, _, _, _, _, _, hA, hB, q0, h_0, q1, q2, q7, f3, q8, q9, q10, q12, f70, f66, f68, h⟩
      ·
       refine wp_seq ?_
       refine' rb [_, _] mixed hA hB hO (cn (fun hE hK => yq (kq hK q51) rfl) (cn (fun hE hK => zE (ks 0 hK 74 rfl)) .nil)) ?zk18
       intro a38 w38 hA hE hB HF; refine kr8 HF q0 q1 q2 q7 q8 q9 q10 q12 ?_; clear q0 q1 q2 q7 q8 q9 q10 q12; intro q0 q1 q2 q7 q8 q9 q10 q12; have q73 := ksv (HF 73) rfl rfl rfl; clear q13 q14 q51 q61 HF; replace h_0 := vx h_0 hE; replace f3 := f3.ext hE; replace f22 := f22.ext hE; clear hE; refine zG (zA ?_)
       revert h; refine cnd q73 (fun h => ?_) (fun h => ?_)
       ·
        refine wp_seq ?_
        refine' rbT [_, SP.isv (.pointer (some ⟨b21, 2, none⟩))] hA hB hO (mv q9 (cn (fun hE hK => zK fl33_2 (kq hK q12)) .nil)) ?zk19
        intro a39 w39 hA hE hB HF; refine kr8 HF q0 q1 q2 q7 q8 q9 q10 q12 ?_; clear q0 q1 q2 q7 q8 q9 q10 q12; intro q0 q1 q2 q7 q8 q9 q10 q12; have q75 := ksv (HF 75) rfl rfl rfl; have q76 := ksv (HF 76) rfl rfl rfl; clear q73 HF; replace h_0 := vx h_0 hE; replace f3 := f3.ext hE; replace f22 := f22.ext hE; clear hE
        refine jO (cs' := #[.int .i64 (IntKind.wrap .i64 (x19.2 - 1)), .int .i64 x18, .int .i64 x5, .slice none 0 0, .slice none 0 0]) hO hB (yI hB) ty3 q76 q75 rfl rfl f22 (by simp) rfl fun w40 f71 hB' hX => ?_
        clear hB f22; have hB := hB'; clear hB'; replace h_0 := vk h_0 hX
        replace f3 := f3.kx hX (by decide) (by decide)
        clear hX; refine zG (zA ?_)
        refine' rb [_, _, _] mixed hA hB hO (mv q9 (cn (fun hE hK => yp (ks 0 hK 77 rfl) rfl) (cn (fun hE hK => zE (ks 1 hK 78 rfl)) .nil))) ?zk20
        intro a41 w41 hA hE hB HF; refine kr7 HF q0 q1 q2 q7 q8 q10 q12 ?_; clear q0 q1 q2 q7 q8 q10 q12; intro q0 q1 q2 q7 q8 q10 q12; replace q9 := ksv (HF 9) rfl rfl rfl; clear HF; replace h_0 := vx h_0 hE; replace f3 := f3.ext hE; replace f71 := f71.ext hE; clear hE; refine zG (yJ (zA ?_))
        exact ⟨_, _, _, _, _, _, _, _, _, _, hA, hB, q0, h_0, q1, q2, q7, f3, q8, q9, q10, q12, f71, (jA _ _ _ 0), (jA _ _ _ 0), h⟩
       ·
        refine wp_skip (yJ (zA ?_))
        exact ⟨_, _, _, _, _, _, _, _, _, _, hA, hB, q0, h_0, q1, q2, q7, f3, q8, q9, q10, q12, f22, (jA _ _ _ 0), (jA _ _ _ 0), h⟩
    intro a42 w42 hI
    clear hA hB h q0 q1 q2 q7 q8 q9 q10 q12 q13 q14 f22 f3 h_0
    obtain ⟨O72, x52, x53, x54, x55, x56, x57, x60, u58, u61, hA, hB, q0, h_0, q1, q2, q7, f3, q8, q9, q10, q12, f51, f59, f62, h⟩ := hI
    unfold yS at h
    refine' rbT [_, SP.isv (.agg #[.int .i64 x54, .int .i64 x55, .int .i64 x56, u58, u61]), SP.vl (rSl zB) O72 [(api_Claim.mk x54 x55 x56 x57 x60)]] hA hB hO (mv q7 (cn (fun hE hK => gE ty33 rfl (kq hK q12) (OwnB.ext f51 hE).own rfl) (cn (fun hE hK => zN (r := zB) zO rfl (OkO.ext hB.ok hE) ty27 ty33 (zR (ks 1 hK 80 rfl) zl) ⟨⟨_, ⟨_, _, rfl, rfl, ⟨_, _, rfl, rfl, ⟨_, _, rfl, rfl, ⟨_, _, rfl, (vJ (r := (rSl (rInt .i64))) (vx f59 hE) rfl rfl), ⟨_, _, rfl, (vJ (r := (rSl (rInt .i64))) (vx f62 hE) rfl rfl), rfl⟩⟩⟩⟩⟩, rfl⟩, trivial⟩ rfl (by decide)) .nil))) ?zk21
    intro a43 w43 hA hE hB HF; refine kr7 HF q0 q1 q2 q7 q8 q9 q10 ?_; clear q0 q1 q2 q7 q8 q9 q10; intro q0 q1 q2 q7 q8 q9 q10; obtain ⟨u73, q81, f74⟩ := kx (HF 81) rfl rfl rfl; have q79 := ksv (HF 79) rfl rfl rfl; clear q12 HF; replace h_0 := vx h_0 hE; replace f3 := f3.ext hE; replace f51 := f51.ext hE; replace f59 := vx f59 hE; replace f62 := vx f62 hE; clear hE; obtain ⟨x75, hx75, h⟩ := Comp.run_bind h
    refine jP (r := zB) zO rfl ty27 ty33 rfl (by decide) hO hB (yI hB) q79 f3 q81 (rd_of f74) hx75 (by decide) fun u76 w44 O77 f78 hB' hX => ?_
    clear hB; have hB := hB'; clear hB'; clear f3; replace h_0 := vk h_0 hX; replace f74 := vk f74 hX; clear hX
    refine zQ hA (by decide) fun a45 hA q_ hfr => ?_
    refine kd9 hfr q0 q1 q2 q7 q8 q9 q10 q79 q81 ?_; clear q0 q1 q2 q7 q8 q9 q10 q79 q81; intro q0 q1 q2 q7 q8 q9 q10 q79 q81; have q82 := q_; clear q_ hfr
    refine l_ok (φ := SP.isv (u76)) hO hB (by exact zE q82) rfl fun u_ w46 hE hB' hv_ => ?_
    replace hv_ := Eq.symm hv_; subst hv_; clear hB; have hB := hB'; clear hB'
    replace h_0 := vx h_0 hE; replace f78 := f78.ext hE; clear hE
    refine zQ hA (by decide) fun a47 hA q_ hfr => ?_
    replace q0 := (hfr 0 rfl).trans q0
    replace q1 := (hfr 1 rfl).trans q1
    replace q2 := (hfr 2 rfl).trans q2
    replace q8 := (hfr 8 rfl).trans q8
    replace q9 := (hfr 9 rfl).trans q9
    replace q10 := (hfr 10 rfl).trans q10
    replace q82 := (hfr 82 rfl).trans q82
    clear q7; have q7 := q_; clear q_ hfr; refine zG (yJ (zA ?_))
    exact ⟨_, _, _, _, _, hA, hB, q0, h_0, q1, q2, q7, f78, q8, q9, q10, h⟩
   intro a48 w48 hI
   clear hA hB h q0 q1 q2 q7 q8 q9 q10 q24 f3 h_0
   obtain ⟨O79, x43, x46, x47, u44, hA, hB, q0, h_0, q1, q2, q7, f45, q8, q9, q10, h⟩ := hI
   unfold vF at h
   refine' rb [_, _, _] mixed hA hB hO (mv q10 (cn (fun hE hK => yp (ks 0 hK 25 rfl) rfl) (cn (fun hE hK => zE (ks 1 hK 26 rfl)) .nil))) ?zk22
   intro a49 w49 hA hE hB HF; refine kr6 HF q0 q1 q2 q7 q8 q9 ?_; clear q0 q1 q2 q7 q8 q9; intro q0 q1 q2 q7 q8 q9; replace q10 := ksv (HF 10) rfl rfl rfl; clear HF; replace h_0 := vx h_0 hE; replace f45 := f45.ext hE; clear hE; refine zG (zA ?_)
   have h := hnext2 _ (Comp.run_pure h).symm
   refine ⟨m2, hlt2, ?_⟩
   exact ⟨_, _, _, _, _, _, hA, hB, q0, h_0, q1, q2, q7, f45, q8, q9, q10, h⟩
  ·
   refine wp_exit (zX (zX (ye ?_)))
   have hd_ := hdone2 _ (Comp.run_pure h).symm; clear h
   subst hd_; have h := hk2; clear hk2; try dsimp only at h
   refine zA ?_
   exact ⟨_, _, _, hA, hB, q7, f3, h⟩
 intro a50 w50 hI
 clear hA hB h q0 q1 q2 q7 q8 q9 h_0
 obtain ⟨O85, x82, u83, hA, hB, q7, f84, h⟩ := hI
 unfold gY at h; refine wp_seq ?_
 refine' rb [_, _] mixed hA hB hO (mv q7 (cn (fun hE hK => zE (ks 0 hK 83 rfl)) .nil)) ?zk23
 intro a51 w51 hA hE hB HF; have q6 := ksv (HF 6) rfl rfl rfl; clear q7 HF; replace f84 := f84.ext hE; clear hE; refine zG (zA (wp_ret ?_))
 have h := Comp.run_pure h; subst h
 exact zi Try.results36 hA q6 hB.ext (OwnL.res f84 (by decide) hB.zero)
theorem ok_colletref43_Sights {O : Tags} {w0 : World} (hO : OkO O w0) {v_0 : Value} {x_0 : List Int} (h_0 : (rSl (rInt .i64)).v O w0 v_0 x_0) {x_1 : Int} {n : Nat} {y : (List api_Sight)} (h : (vp x_0 x_1).run n = some y) : Pure Try.prog 37 #[v_0, .int .i64 x_1] w0 (SP.ownr zF 64 (w0.heap.size) O y).holds := by
 unfold vp at h
 refine zU Try.func37 rfl 38 Try.ntmps37 (by simp) fun a0 hA hs0 => ?_
 have q0 : a0.get 0 = v_0 := hs0 0 _ rfl
 have q1 : a0.get 1 = .int .i64 x_1 := hs0 1 _ rfl
 clear hs0
 have hB : Base (Fr w0) O w0 O w0 := Base.start hO
 refine wp_seq ?_
 refine' rb [_] mixed hA hB hO (cn (fun hE hK => zE rfl) .nil) ?zk1
 intro a1 w1 hA hE hB HF; replace q0 := kf HF q0; replace q1 := kf HF q1; clear HF; replace h_0 := vx h_0 hE; clear hE; refine zG (zA (wp_seq ?_))
 refine' rbT [_] hA hB hO (mv q0 .nil) ?zk2
 intro a2 w2 hA hE hB HF; replace q0 := kf HF q0; replace q1 := kf HF q1; have q8 := ksv (HF 8) rfl rfl rfl; clear HF; replace h_0 := vx h_0 hE; clear hE
 refine l_ok (φ := SP.isv (.agg #[v_0, .int .i64 0])) hO hB (by refine vg (vals := [(0, v_0)]) (out := [v_0, .int .i64 0]) plc88 ty88 ?_ rfl ?_ rfl; exact (yl (v := v_0) q8 kP); exact (.cons rfl (jf h_0 rfl rfl) rfl (leb rfl) .nil)) rfl fun u_ w3 hE hB' hv_ => ?_
 replace hv_ := Eq.symm hv_; subst hv_; clear hB; have hB := hB'; clear hB'
 replace h_0 := vx h_0 hE; clear hE
 refine zQ hA (by decide) fun a4 hA q_ hfr => ?_
 refine kd3 hfr q0 q1 q8 ?_; clear q0 q1 q8; intro q0 q1 q8; have q9 := q_; clear q_ hfr
 refine l_ok (φ := SP.box w3.heap.size #[v_0, .int .i64 0] 88) hO hB (by exact ok_box (v := .agg #[v_0, .int .i64 0]) (Nat.le_refl _) q9) rfl fun u1 w5 hE hB' f2 => ?_
 clear hB'; obtain ⟨O3, b5, hB', hX, e_, f4⟩ := kQ hO hB hE f2 1 (by decide)
 subst e_; clear hB f2; have hB := hB'; clear hB'
 replace h_0 := vk h_0 hX; clear hX hE
 refine zQ hA (by decide) fun a6 hA q_ hfr => ?_
 refine kd3 hfr q0 q1 q9 ?_; clear q0 q1 q9; intro q0 q1 q9; have q10 := q_; clear q_ hfr
 refine l_ok (φ := SP.isv (.pointer (some ⟨b5, 0, none⟩))) hO hB (by exact zE q10) rfl fun u_ w7 hE hB' hv_ => ?_
 replace hv_ := Eq.symm hv_; subst hv_; clear hB; have hB := hB'; clear hB'
 replace h_0 := vx h_0 hE; replace f4 := f4.ext hE; clear hE
 refine zQ hA (by decide) fun a8 hA q_ hfr => ?_
 refine kd3 hfr q0 q1 q10 ?_; clear q0 q1 q10; intro q0 q1 q10; have q5 := q_; clear q_ hfr; refine zG (zA (wp_seq ?_))
 refine' rb [_] mixed hA hB hO (cn (fun hE hK => zE rfl) .nil) ?zk3
 intro a9 w9 hA hE hB HF; refine kr3 HF q0 q1 q5 ?_; clear q0 q1 q5; intro q0 q1 q5; have q6 := ksv (HF 6) rfl rfl rfl; clear HF; replace h_0 := vx h_0 hE; replace f4 := f4.ext hE; clear hE; refine zG (zA ?_)
 refine zh (fun a w => ∃ (O33 : Tags) (x30 : List api_Sight) (u31 : Value), a.fit 38 ∧ Base (Fr w0) O w0 O33 w ∧ a.get 6 = u31 ∧ OwnL 2 zF 64 (Fr w0) O33 w u31 x30 ∧ (gX x30).run n = some y) ?_ ?_
 ·
  refine wp_seq ?_
  refine' rb [_] mixed hA hB hO (cn (fun hE hK => zE rfl) .nil) ?zk4
  intro a10 w10 hA hE hB HF; refine kr4 HF q0 q1 q5 q6 ?_; clear q0 q1 q5 q6; intro q0 q1 q5 q6; have q7 := ksv (HF 7) rfl rfl rfl; clear HF; replace h_0 := vx h_0 hE; replace f4 := f4.ext hE; clear hE; refine zG (zA (wp_block ?_))
  obtain ⟨e2, he2, hk2⟩ := Comp.run_bind h; clear h
  refine gK (fun m a w => ∃ (O14 : Tags) (x6 : List api_Sight) (x9 : Int) (x10 : List Int) (x13 : Int) (u7 : Value) (u11 : Value), a.fit 38 ∧ Base (Fr w0) O w0 O14 w ∧ a.get 0 = v_0 ∧ (rSl (rInt .i64)).v O14 w v_0 x_0 ∧ a.get 1 = .int .i64 x_1 ∧ a.get 5 = .pointer (some ⟨b5, 0, none⟩) ∧ a.get 6 = u7 ∧ OwnL 2 zF 64 (Fr w0) O14 w u7 x6 ∧ a.get 7 = .int .i64 x9 ∧ OwnB 1 (Fr w0) O14 w b5 #[u11, .int .i64 x13] 88 ∧ (rSl (rInt .i64)).v O14 w u11 x10 ∧ Comp.loopN (fun s => vD x_0 x_1 s.1 s.2.1 s.2.2.1 s.2.2.2) n m (x6, x9, x10, x13) = some e2) (m := n) ?st2 ?_
  case st2 =>
   exact ⟨_, _, _, _, _, _, _, hA, hB, q0, h_0, q1, q5, q6, (OwnL.nil _ _ _ _ _ _), q7, f4, h_0, Comp.yL he2⟩
  intro m_ a11 w11 hI
  clear hA hB he2 q0 q1 q5 q6 q7 f4 h_0
  obtain ⟨O14, x6, x9, x10, x13, u7, u11, hA, hB, q0, h_0, q1, q5, q6, f8, q7, f4, f12, hl⟩ := hI
  obtain ⟨m2, hlt2, st2, h, hnext2, hdone2⟩ := Comp.zm hl; clear hl
  replace h : (vD x_0 x_1 x6 x9 x10 x13).run n = some st2 := h
  unfold vD at h; refine wp_seq (wp_seq ?_)
  refine' rb [_, _, _, _, _, _, _, _, _] mixed hA hB hO (mv q7 (cn (fun hE hK => yp (ks 0 hK 11 rfl) rfl) (mv q0 (cn (fun hE hK => zw (r := (rInt .i64)) ty23 (ks 2 hK 13 rfl) (rd_of (vx h_0 hE))) (cn (fun hE hK => yh (ks 1 hK 12 rfl) (ks 3 hK 14 rfl)) (cn (fun hE hK => zJ (ks 4 hK 15 rfl)) (mv q7 (.cons (fun _ _ hE hK hg => yh (kg 6 hK 17 rfl hg) rfl) (cn (fun hE hK => za (ks 5 hK 16 rfl) (fun hb => kg 7 hK 18 rfl (zv rfl rfl hb)) (fun _ => rfl)) .nil))))))))) ?zk5
  intro a12 w12 hA hE hB HF; refine kr5 HF q0 q1 q5 q6 q7 ?_; clear q0 q1 q5 q6 q7; intro q0 q1 q5 q6 q7; have q19 := ksv (HF 19) rfl rfl rfl; clear HF; replace h_0 := vx h_0 hE; replace f8 := f8.ext hE; replace f4 := f4.ext hE; replace f12 := vx f12 hE; clear hE
  obtain ⟨x15, hx_, h⟩ := Comp.run_bind h; replace hx_ := Comp.run_pure hx_; rw [hx_] at q19; clear hx_
  refine zG (zA ?_)
  revert h; refine cnd q19 (fun h => ?_) (fun h => ?_)
  ·
   refine wp_skip (zA (wp_seq (wp_block ?_))); obtain ⟨x16, hx16, h⟩ := Comp.run_bind h; obtain ⟨x17, hx17, h⟩ := Comp.run_bind h; obtain ⟨x18, hx18, h⟩ := Comp.run_bind h; obtain ⟨x19, hx19, h⟩ := Comp.run_bind h; obtain ⟨x20, hx20, h⟩ := Comp.run_bind h
   obtain ⟨J_, eJ_⟩ : ∃ J_ : (Nat → Bool) → Act → World → Prop, J_ = (fun S_ a_ w_ => ∃ O_ : Tags, Base (Fr w0) O w0 O_ w_ ∧ Keep 0 O14 w12 O_ w_ ∧ (S_ 1 = true → (rSl (rInt .i64)).v O_ w_ (a_.get 23) [0, 0, 1, 2]) ∧ (S_ 4 = true → PtrZ (rInt .i64) O_ w_ (a_.get 26) x17) ∧ (S_ 13 = true → (rSl zF).v O_ w_ (a_.get 35) [(api_Sight.mk x17 x18.2 (decide (x19.2 = 1)))]) ∧ (S_ 14 = false → OwnL 2 zF 64 (Fr w0) O_ w_ u7 x6) ∧ (S_ 14 = true → S_ 15 = false → OwnL 2 zF 64 (Fr w0) O_ w_ (a_.get 36) x20) ∧ (S_ 15 = true → OwnL 2 zF 64 (Fr w0) O_ w_ (a_.get 6) x20) ∧ (S_ 3 = false → BoxO 1 (Fr w0) O_ w_ b5 88 zW (colletref01_Draw.mk x10 x13)) ∧ (S_ 3 = true → S_ 8 = false → BoxO 1 (Fr w0) O_ w_ b5 88 zW x16.1) ∧ (S_ 8 = true → S_ 10 = false → BoxO 1 (Fr w0) O_ w_ b5 88 zW x18.1) ∧ (S_ 10 = true → BoxO 1 (Fr w0) O_ w_ b5 88 zW x19.1)) := ⟨_, rfl⟩
   have T_ : ∀ {i_ : Nat} {d_ : Option Tmp} {v_ : Value} {S_ a' w' w2}, Nat.beq 1 i_ = false → Nat.beq 3 i_ = false → Nat.beq 4 i_ = false → Nat.beq 8 i_ = false → Nat.beq 10 i_ = false → Nat.beq 13 i_ = false → Nat.beq 14 i_ = false → Nat.beq 15 i_ = false → d_ ≠ some 6 → d_ ≠ some 23 → d_ ≠ some 26 → d_ ≠ some 35 → d_ ≠ some 36 → Ext w' w2 → J_ S_ a' w' → J_ (addS S_ i_) (a'.put d_ v_) w2 := by
    subst eJ_; intro i_ d_ v_ S_ a' w' w2 n1_ n3_ n4_ n8_ n10_ n13_ n14_ n15_ s6_ s23_ s26_ s35_ s36_ hE hJ_
    obtain ⟨O_, hB_, k0_, m1_, m4_, m13_, v0_0_, v0_1_, v0_2_, v1_0_, v1_1_, v1_2_, v1_3_⟩ := hJ_
    exact ⟨O_, (Base.step hB_ hE hO), (k0_.trans (KX.keep (KX.ext hE) (by decide))), fun h_ => zC (d := d_) (t := 23) (φ := fun u_ => (rSl (rInt .i64)).v O_ w2 u_ [0, 0, 1, 2]) ((GR.zI _ (m1_ (zD n1_ h_)) (KX.keep (KX.ext hE) (by decide)))) s23_, fun h_ => zC (d := d_) (t := 26) (φ := fun u_ => PtrZ (rInt .i64) O_ w2 u_ x17) ((PtrZ.keep (m4_ (zD n4_ h_)) (KX.keep (KX.ext hE) (by decide)) (by decide) (fun _ => rfl))) s26_, fun h_ => zC (d := d_) (t := 35) (φ := fun u_ => (rSl zF).v O_ w2 u_ [(api_Sight.mk x17 x18.2 (decide (x19.2 = 1)))]) ((GR.zI _ (m13_ (zD n13_ h_)) (KX.keep (KX.ext hE) (by decide)))) s35_, fun hq_ => OwnL.kx (v0_0_ (zP hq_)) (KX.ext hE) (by decide) (by decide), fun hp_ hq_ => zC (d := d_) (t := 36) (φ := fun u_ => OwnL 2 zF 64 (Fr w0) O_ w2 (u_) x20) (OwnL.kx (v0_1_ (zD n14_ hp_) (zP hq_)) (KX.ext hE) (by decide) (by decide)) s36_, fun hp_ => zC (d := d_) (t := 6) (φ := fun u_ => OwnL 2 zF 64 (Fr w0) O_ w2 (u_) x20) (OwnL.kx (v0_2_ (zD n15_ hp_)) (KX.ext hE) (by decide) (by decide)) s6_, fun hq_ => BoxO.kx (v1_0_ (zP hq_)) (KX.ext hE) (by decide) (by decide), fun hp_ hq_ => BoxO.kx (v1_1_ (zD n3_ hp_) (zP hq_)) (KX.ext hE) (by decide) (by decide), fun hp_ hq_ => BoxO.kx (v1_2_ (zD n8_ hp_) (zP hq_)) (KX.ext hE) (by decide) (by decide), fun hp_ => BoxO.kx (v1_3_ (zD n10_ hp_)) (KX.ext hE) (by decide) (by decide)⟩
   refine' regionX (draw := true) J_ [SP.isv (u7), SP.tt, SP.isv (.pointer (some ⟨b5, 0, none⟩)), SP.isv (.int .i64 x16.2), SP.tt, SP.isv (.int .i64 x17), SP.isv (.pointer (some ⟨b5, 0, none⟩)), SP.isv (.int .i64 x_1), SP.isv (.int .i64 x18.2), SP.isv (.pointer (some ⟨b5, 0, none⟩)), SP.isv (.int .i64 x19.2), SP.isv (.bool (decide (x19.2 = 1))), SP.isv (.agg #[.int .i64 x17, .int .i64 x18.2, .bool (decide (x19.2 = 1))]), SP.tt, SP.tt, SP.tt] mixed hA (.cons (zV _) (.cons (vK _) (.cons (zV _) (.cons (zV _) (.cons (vK _) (.cons (zV _) (.cons (zV _) (.cons (zV _) (.cons (zV _) (.cons (zV _) (.cons (zV _) (.cons (zV _) (.cons (zV _) (.cons (vK _) (.cons (vK _) (.cons (vK _) .nil)))))))))))))))) (.cons ?z6_0 (.cons ?z6_1 (.cons ?z6_2 (.cons ?z6_3 (.cons ?z6_4 (.cons ?z6_5 (.cons ?z6_6 (.cons ?z6_7 (.cons ?z6_8 (.cons ?z6_9 (.cons ?z6_10 (.cons ?z6_11 (.cons ?z6_12 (.cons ?z6_13 (.cons ?z6_14 (.cons ?z6_15 .nil)))))))))))))))) ?zsk6 ?zst6 ?zok6 ?zgd6 ?zk6
   case z6_0 =>
    intro S_ a' w' hA_ hJ_ hS_ hafter_ hbef_ hK hg K_ Q_ hK_
    refine x_ok (φ := SP.isv (u7)) (by exact zJ (kq hK q6)) fun v_ w2 hE hv_ => hK_ v_ w2 (T_ rfl rfl rfl rfl rfl rfl rfl rfl (by decide) (by decide) (by decide) (by decide) (by decide) hE hJ_) hv_
   case z6_1 =>
    intro S_ a' w' hA_ hJ_ hS_ hafter_ hbef_ hK hg K_ Q_ hK_
    subst eJ_
    obtain ⟨O_, hB_, k0_, m1_, m4_, m13_, v0_0_, v0_1_, v0_2_, v1_0_, v1_1_, v1_2_, v1_3_⟩ := hJ_
    refine x_ok (φ := SP.vl (rSl (rInt .i64)) O_ [0, 0, 1, 2]) (by exact zN (r := (rInt .i64)) (fun _ => rfl) rfl hB_.ok ty23 ty3 (zR rfl (zR rfl (zR rfl (zR rfl zl)))) ⟨(by exact zd.2 rfl), ⟨(by exact zd.2 rfl), ⟨(by exact zd.2 rfl), ⟨(by exact zd.2 rfl), trivial⟩⟩⟩⟩ rfl (by decide)) fun v_ w2 hE hv_ => ?_
    have hB2_ := Base.step hB_ hE hO
    exact hK_ v_ w2 ⟨O_, hB2_, (k0_.trans (KX.keep (KX.ext hE) (by decide))), fun _ => va (φ := fun u_ => (rSl (rInt .i64)).v O_ w2 u_ [0, 0, 1, 2]) hA_ (by decide) hv_, fun h_ => zC (d := some 23) (t := 26) (φ := fun u_ => PtrZ (rInt .i64) O_ w2 u_ x17) ((PtrZ.keep (m4_ (zD rfl h_)) (KX.keep (KX.ext hE) (by decide)) (by decide) (fun _ => rfl))) (by decide), fun h_ => zC (d := some 23) (t := 35) (φ := fun u_ => (rSl zF).v O_ w2 u_ [(api_Sight.mk x17 x18.2 (decide (x19.2 = 1)))]) ((GR.zI _ (m13_ (zD rfl h_)) (KX.keep (KX.ext hE) (by decide)))) (by decide), fun hq_ => OwnL.kx (v0_0_ (zP hq_)) (KX.ext hE) (by decide) (by decide), fun hp_ hq_ => zC (d := some 23) (t := 36) (φ := fun u_ => OwnL 2 zF 64 (Fr w0) O_ w2 (u_) x20) (OwnL.kx (v0_1_ (zD rfl hp_) (zP hq_)) (KX.ext hE) (by decide) (by decide)) (by decide), fun hp_ => zC (d := some 23) (t := 6) (φ := fun u_ => OwnL 2 zF 64 (Fr w0) O_ w2 (u_) x20) (OwnL.kx (v0_2_ (zD rfl hp_)) (KX.ext hE) (by decide) (by decide)) (by decide), fun hq_ => BoxO.kx (v1_0_ (zP hq_)) (KX.ext hE) (by decide) (by decide), fun hp_ hq_ => BoxO.kx (v1_1_ (zD rfl hp_) (zP hq_)) (KX.ext hE) (by decide) (by decide), fun hp_ hq_ => BoxO.kx (v1_2_ (zD rfl hp_) (zP hq_)) (KX.ext hE) (by decide) (by decide), fun hp_ => BoxO.kx (v1_3_ (zD rfl hp_)) (KX.ext hE) (by decide) (by decide)⟩ trivial
   case z6_2 =>
    intro S_ a' w' hA_ hJ_ hS_ hafter_ hbef_ hK hg K_ Q_ hK_
    refine x_ok (φ := SP.isv (.pointer (some ⟨b5, 0, none⟩))) (by exact zJ (kq hK q5)) fun v_ w2 hE hv_ => hK_ v_ w2 (T_ rfl rfl rfl rfl rfl rfl rfl rfl (by decide) (by decide) (by decide) (by decide) (by decide) hE hJ_) hv_
   case z6_3 =>
    intro S_ a' w' hA_ hJ_ hS_ hafter_ hbef_ hK hg K_ Q_ hK_
    subst eJ_
    obtain ⟨O_, hB_, k0_, m1_, m4_, m13_, v0_0_, v0_1_, v0_2_, v1_0_, v1_1_, v1_2_, v1_3_⟩ := hJ_
    refine x_pio (r := zW) hO hB_ (yI hB_) fn54 (map2 (ks 2 hK 24 rfl) rfl) (yP hB_.ok (BoxO.arg (v1_0_ hS_) (by decide)) hx16) (v1_0_ hS_) fun v_ w2 f_ hB2_ hX_ hv_ => ?_
    exact hK_ v_ w2 ⟨O_, hB2_, (k0_.trans (KX.keep hX_ (by decide))), fun h_ => zC (d := some 25) (t := 23) (φ := fun u_ => (rSl (rInt .i64)).v O_ w2 u_ [0, 0, 1, 2]) ((GR.zI _ (m1_ (zD rfl h_)) (KX.keep hX_ (by decide)))) (by decide), fun h_ => zC (d := some 25) (t := 26) (φ := fun u_ => PtrZ (rInt .i64) O_ w2 u_ x17) ((PtrZ.keep (m4_ (zD rfl h_)) (KX.keep hX_ (by decide)) (by decide) (fun _ => rfl))) (by decide), fun h_ => zC (d := some 25) (t := 35) (φ := fun u_ => (rSl zF).v O_ w2 u_ [(api_Sight.mk x17 x18.2 (decide (x19.2 = 1)))]) ((GR.zI _ (m13_ (zD rfl h_)) (KX.keep hX_ (by decide)))) (by decide), fun hq_ => OwnL.kx (v0_0_ (zP hq_)) hX_ (by decide) (by decide), fun hp_ hq_ => zC (d := some 25) (t := 36) (φ := fun u_ => OwnL 2 zF 64 (Fr w0) O_ w2 (u_) x20) (OwnL.kx (v0_1_ (zD rfl hp_) (zP hq_)) hX_ (by decide) (by decide)) (by decide), fun hp_ => zC (d := some 25) (t := 6) (φ := fun u_ => OwnL 2 zF 64 (Fr w0) O_ w2 (u_) x20) (OwnL.kx (v0_2_ (zD rfl hp_)) hX_ (by decide) (by decide)) (by decide), fun hq_ => jk hq_, fun hp_ hq_ => f_, fun hp_ hq_ => no_tf (zD rfl hp_) (hafter_ 8 (by kernel_rfl)), fun hp_ => no_tf (zD rfl hp_) (hafter_ 10 (by kernel_rfl))⟩ hv_
   case z6_4 =>
    intro S_ a' w' hA_ hJ_ hS_ hafter_ hbef_ hK hg K_ Q_ hK_
    subst eJ_
    obtain ⟨O_, hB_, k0_, m1_, m4_, m13_, v0_0_, v0_1_, v0_2_, v1_0_, v1_1_, v1_2_, v1_3_⟩ := hJ_
    refine x_ok (φ := SP.ptrz (rInt .i64) O_ x17 (of_decide_eq_true rfl) (fun _ => rfl)) (by exact okl_idxZ (r := (rInt .i64)) (by decide) (fun _ => rfl) ty23 ty3 rfl rfl (m1_ (zD rfl (hbef_ 1 (by kernel_rfl)))) (ks 3 hK 25 rfl) hx17) fun v_ w2 hE hv_ => ?_
    have hB2_ := Base.step hB_ hE hO
    exact hK_ v_ w2 ⟨O_, hB2_, (k0_.trans (KX.keep (KX.ext hE) (by decide))), fun h_ => zC (d := some 26) (t := 23) (φ := fun u_ => (rSl (rInt .i64)).v O_ w2 u_ [0, 0, 1, 2]) ((GR.zI _ (m1_ (zD rfl h_)) (KX.keep (KX.ext hE) (by decide)))) (by decide), fun _ => va (φ := fun u_ => PtrZ (rInt .i64) O_ w2 u_ x17) hA_ (by decide) hv_, fun h_ => zC (d := some 26) (t := 35) (φ := fun u_ => (rSl zF).v O_ w2 u_ [(api_Sight.mk x17 x18.2 (decide (x19.2 = 1)))]) ((GR.zI _ (m13_ (zD rfl h_)) (KX.keep (KX.ext hE) (by decide)))) (by decide), fun hq_ => OwnL.kx (v0_0_ (zP hq_)) (KX.ext hE) (by decide) (by decide), fun hp_ hq_ => zC (d := some 26) (t := 36) (φ := fun u_ => OwnL 2 zF 64 (Fr w0) O_ w2 (u_) x20) (OwnL.kx (v0_1_ (zD rfl hp_) (zP hq_)) (KX.ext hE) (by decide) (by decide)) (by decide), fun hp_ => zC (d := some 26) (t := 6) (φ := fun u_ => OwnL 2 zF 64 (Fr w0) O_ w2 (u_) x20) (OwnL.kx (v0_2_ (zD rfl hp_)) (KX.ext hE) (by decide) (by decide)) (by decide), fun hq_ => BoxO.kx (v1_0_ (zP hq_)) (KX.ext hE) (by decide) (by decide), fun hp_ hq_ => BoxO.kx (v1_1_ (zD rfl hp_) (zP hq_)) (KX.ext hE) (by decide) (by decide), fun hp_ hq_ => BoxO.kx (v1_2_ (zD rfl hp_) (zP hq_)) (KX.ext hE) (by decide) (by decide), fun hp_ => BoxO.kx (v1_3_ (zD rfl hp_)) (KX.ext hE) (by decide) (by decide)⟩ trivial
   case z6_5 =>
    intro S_ a' w' hA_ hJ_ hS_ hafter_ hbef_ hK hg K_ Q_ hK_
    have hJ2_ := hJ_; rw [eJ_] at hJ2_; obtain ⟨O_, hB_, k0_, m1_, m4_, m13_, v0_0_, v0_1_, v0_2_, v1_0_, v1_1_, v1_2_, v1_3_⟩ := hJ2_
    refine x_ok (φ := SP.isv (.int .i64 x17)) (by exact yD (rInt .i64) (fun _ => rfl) ty3 rfl rfl rfl (PtrZ.ptr (m4_ (zD rfl (hbef_ 4 (by kernel_rfl))))) (fun _ _ _ h => zd.1 h)) fun v_ w2 hE hv_ => hK_ v_ w2 (T_ rfl rfl rfl rfl rfl rfl rfl rfl (by decide) (by decide) (by decide) (by decide) (by decide) hE hJ_) hv_
   case z6_6 =>
    intro S_ a' w' hA_ hJ_ hS_ hafter_ hbef_ hK hg K_ Q_ hK_
    refine x_ok (φ := SP.isv (.pointer (some ⟨b5, 0, none⟩))) (by exact zJ (kq hK q5)) fun v_ w2 hE hv_ => hK_ v_ w2 (T_ rfl rfl rfl rfl rfl rfl rfl rfl (by decide) (by decide) (by decide) (by decide) (by decide) hE hJ_) hv_
   case z6_7 =>
    intro S_ a' w' hA_ hJ_ hS_ hafter_ hbef_ hK hg K_ Q_ hK_
    refine x_ok (φ := SP.isv (.int .i64 x_1)) (by exact zJ (kq hK q1)) fun v_ w2 hE hv_ => hK_ v_ w2 (T_ rfl rfl rfl rfl rfl rfl rfl rfl (by decide) (by decide) (by decide) (by decide) (by decide) hE hJ_) hv_
   case z6_8 =>
    intro S_ a' w' hA_ hJ_ hS_ hafter_ hbef_ hK hg K_ Q_ hK_
    subst eJ_
    obtain ⟨O_, hB_, k0_, m1_, m4_, m13_, v0_0_, v0_1_, v0_2_, v1_0_, v1_1_, v1_2_, v1_3_⟩ := hJ_
    refine x_pio (r := zW) hO hB_ (yI hB_) fn54 (map2 (ks 6 hK 28 rfl) (ks 7 hK 29 rfl)) (yP hB_.ok (BoxO.arg (v1_1_ (zD rfl (hbef_ 3 (by kernel_rfl))) hS_) (by decide)) hx18) (v1_1_ (zD rfl (hbef_ 3 (by kernel_rfl))) hS_) fun v_ w2 f_ hB2_ hX_ hv_ => ?_
    exact hK_ v_ w2 ⟨O_, hB2_, (k0_.trans (KX.keep hX_ (by decide))), fun h_ => zC (d := some 30) (t := 23) (φ := fun u_ => (rSl (rInt .i64)).v O_ w2 u_ [0, 0, 1, 2]) ((GR.zI _ (m1_ (zD rfl h_)) (KX.keep hX_ (by decide)))) (by decide), fun h_ => zC (d := some 30) (t := 26) (φ := fun u_ => PtrZ (rInt .i64) O_ w2 u_ x17) ((PtrZ.keep (m4_ (zD rfl h_)) (KX.keep hX_ (by decide)) (by decide) (fun _ => rfl))) (by decide), fun h_ => zC (d := some 30) (t := 35) (φ := fun u_ => (rSl zF).v O_ w2 u_ [(api_Sight.mk x17 x18.2 (decide (x19.2 = 1)))]) ((GR.zI _ (m13_ (zD rfl h_)) (KX.keep hX_ (by decide)))) (by decide), fun hq_ => OwnL.kx (v0_0_ (zP hq_)) hX_ (by decide) (by decide), fun hp_ hq_ => zC (d := some 30) (t := 36) (φ := fun u_ => OwnL 2 zF 64 (Fr w0) O_ w2 (u_) x20) (OwnL.kx (v0_1_ (zD rfl hp_) (zP hq_)) hX_ (by decide) (by decide)) (by decide), fun hp_ => zC (d := some 30) (t := 6) (φ := fun u_ => OwnL 2 zF 64 (Fr w0) O_ w2 (u_) x20) (OwnL.kx (v0_2_ (zD rfl hp_)) hX_ (by decide) (by decide)) (by decide), fun hq_ => no_tf (hbef_ 3 (by kernel_rfl)) hq_, fun hp_ hq_ => jk hq_, fun hp_ hq_ => f_, fun hp_ => no_tf (zD rfl hp_) (hafter_ 10 (by kernel_rfl))⟩ hv_
   case z6_9 =>
    intro S_ a' w' hA_ hJ_ hS_ hafter_ hbef_ hK hg K_ Q_ hK_
    refine x_ok (φ := SP.isv (.pointer (some ⟨b5, 0, none⟩))) (by exact zJ (kq hK q5)) fun v_ w2 hE hv_ => hK_ v_ w2 (T_ rfl rfl rfl rfl rfl rfl rfl rfl (by decide) (by decide) (by decide) (by decide) (by decide) hE hJ_) hv_
   case z6_10 =>
    intro S_ a' w' hA_ hJ_ hS_ hafter_ hbef_ hK hg K_ Q_ hK_
    subst eJ_
    obtain ⟨O_, hB_, k0_, m1_, m4_, m13_, v0_0_, v0_1_, v0_2_, v1_0_, v1_1_, v1_2_, v1_3_⟩ := hJ_
    refine x_pio (r := zW) hO hB_ (yI hB_) fn54 (map2 (ks 9 hK 31 rfl) rfl) (yP hB_.ok (BoxO.arg (v1_2_ (zD rfl (hbef_ 8 (by kernel_rfl))) hS_) (by decide)) hx19) (v1_2_ (zD rfl (hbef_ 8 (by kernel_rfl))) hS_) fun v_ w2 f_ hB2_ hX_ hv_ => ?_
    exact hK_ v_ w2 ⟨O_, hB2_, (k0_.trans (KX.keep hX_ (by decide))), fun h_ => zC (d := some 32) (t := 23) (φ := fun u_ => (rSl (rInt .i64)).v O_ w2 u_ [0, 0, 1, 2]) ((GR.zI _ (m1_ (zD rfl h_)) (KX.keep hX_ (by decide)))) (by decide), fun h_ => zC (d := some 32) (t := 26) (φ := fun u_ => PtrZ (rInt .i64) O_ w2 u_ x17) ((PtrZ.keep (m4_ (zD rfl h_)) (KX.keep hX_ (by decide)) (by decide) (fun _ => rfl))) (by decide), fun h_ => zC (d := some 32) (t := 35) (φ := fun u_ => (rSl zF).v O_ w2 u_ [(api_Sight.mk x17 x18.2 (decide (x19.2 = 1)))]) ((GR.zI _ (m13_ (zD rfl h_)) (KX.keep hX_ (by decide)))) (by decide), fun hq_ => OwnL.kx (v0_0_ (zP hq_)) hX_ (by decide) (by decide), fun hp_ hq_ => zC (d := some 32) (t := 36) (φ := fun u_ => OwnL 2 zF 64 (Fr w0) O_ w2 (u_) x20) (OwnL.kx (v0_1_ (zD rfl hp_) (zP hq_)) hX_ (by decide) (by decide)) (by decide), fun hp_ => zC (d := some 32) (t := 6) (φ := fun u_ => OwnL 2 zF 64 (Fr w0) O_ w2 (u_) x20) (OwnL.kx (v0_2_ (zD rfl hp_)) hX_ (by decide) (by decide)) (by decide), fun hq_ => no_tf (hbef_ 3 (by kernel_rfl)) hq_, fun hp_ hq_ => no_tf (hbef_ 8 (by kernel_rfl)) hq_, fun hp_ hq_ => jk hq_, fun hp_ => f_⟩ hv_
   case z6_11 =>
    intro S_ a' w' hA_ hJ_ hS_ hafter_ hbef_ hK hg K_ Q_ hK_
    refine x_ok (φ := SP.isv (.bool (decide (x19.2 = 1)))) (by exact yq (ks 10 hK 32 rfl) rfl) fun v_ w2 hE hv_ => hK_ v_ w2 (T_ rfl rfl rfl rfl rfl rfl rfl rfl (by decide) (by decide) (by decide) (by decide) (by decide) hE hJ_) hv_
   case z6_12 =>
    intro S_ a' w' hA_ hJ_ hS_ hafter_ hbef_ hK hg K_ Q_ hK_
    refine x_ok (φ := SP.isv (.agg #[.int .i64 x17, .int .i64 x18.2, .bool (decide (x19.2 = 1))])) (by exact vg plc64 ty64 (yl (v := .int .i64 x17) (ksv (j := 5) (hK 27 rfl) rfl rfl rfl) (yl (v := .int .i64 x18.2) (ksv (j := 8) (hK 30 rfl) rfl rfl rfl) (yl (v := .bool (decide (x19.2 = 1))) (ksv (j := 11) (hK 33 rfl) rfl rfl rfl) kP))) rfl (.cons rfl rfl rfl (leb rfl) (.cons rfl rfl rfl (leb rfl) (.cons rfl rfl rfl (leb rfl) .nil))) rfl) fun v_ w2 hE hv_ => hK_ v_ w2 (T_ rfl rfl rfl rfl rfl rfl rfl rfl (by decide) (by decide) (by decide) (by decide) (by decide) hE hJ_) hv_
   case z6_13 =>
    intro S_ a' w' hA_ hJ_ hS_ hafter_ hbef_ hK hg K_ Q_ hK_
    subst eJ_
    obtain ⟨O_, hB_, k0_, m1_, m4_, m13_, v0_0_, v0_1_, v0_2_, v1_0_, v1_1_, v1_2_, v1_3_⟩ := hJ_
    refine x_ok (φ := SP.vl (rSl zF) O_ [(api_Sight.mk x17 x18.2 (decide (x19.2 = 1)))]) (by exact zN (r := zF) yN rfl hB_.ok ty28 ty64 (zR (ks 12 hK 34 rfl) zl) ⟨(by first | exact (rC_v (x := (api_Sight.mk x17 x18.2 (decide (x19.2 = 1))))).2 rfl | exact ⟨_, rfl, rfl⟩), trivial⟩ rfl (by decide)) fun v_ w2 hE hv_ => ?_
    have hB2_ := Base.step hB_ hE hO
    exact hK_ v_ w2 ⟨O_, hB2_, (k0_.trans (KX.keep (KX.ext hE) (by decide))), fun h_ => zC (d := some 35) (t := 23) (φ := fun u_ => (rSl (rInt .i64)).v O_ w2 u_ [0, 0, 1, 2]) ((GR.zI _ (m1_ (zD rfl h_)) (KX.keep (KX.ext hE) (by decide)))) (by decide), fun h_ => zC (d := some 35) (t := 26) (φ := fun u_ => PtrZ (rInt .i64) O_ w2 u_ x17) ((PtrZ.keep (m4_ (zD rfl h_)) (KX.keep (KX.ext hE) (by decide)) (by decide) (fun _ => rfl))) (by decide), fun _ => va (φ := fun u_ => (rSl zF).v O_ w2 u_ [(api_Sight.mk x17 x18.2 (decide (x19.2 = 1)))]) hA_ (by decide) hv_, fun hq_ => OwnL.kx (v0_0_ (zP hq_)) (KX.ext hE) (by decide) (by decide), fun hp_ hq_ => zC (d := some 35) (t := 36) (φ := fun u_ => OwnL 2 zF 64 (Fr w0) O_ w2 (u_) x20) (OwnL.kx (v0_1_ (zD rfl hp_) (zP hq_)) (KX.ext hE) (by decide) (by decide)) (by decide), fun hp_ => zC (d := some 35) (t := 6) (φ := fun u_ => OwnL 2 zF 64 (Fr w0) O_ w2 (u_) x20) (OwnL.kx (v0_2_ (zD rfl hp_)) (KX.ext hE) (by decide) (by decide)) (by decide), fun hq_ => BoxO.kx (v1_0_ (zP hq_)) (KX.ext hE) (by decide) (by decide), fun hp_ hq_ => BoxO.kx (v1_1_ (zD rfl hp_) (zP hq_)) (KX.ext hE) (by decide) (by decide), fun hp_ hq_ => BoxO.kx (v1_2_ (zD rfl hp_) (zP hq_)) (KX.ext hE) (by decide) (by decide), fun hp_ => BoxO.kx (v1_3_ (zD rfl hp_)) (KX.ext hE) (by decide) (by decide)⟩ trivial
   case z6_14 =>
    intro S_ a' w' hA_ hJ_ hS_ hafter_ hbef_ hK hg K_ Q_ hK_
    subst eJ_
    obtain ⟨O_, hB_, k0_, m1_, m4_, m13_, v0_0_, v0_1_, v0_2_, v1_0_, v1_1_, v1_2_, v1_3_⟩ := hJ_
    refine x_append (r := zF) yN rfl ty28 ty64 rfl (by decide) hO hB_ (yI hB_) (ks 0 hK 22 rfl) (v0_0_ hS_) rfl (rd_of (m13_ (zD rfl (hbef_ 13 (by kernel_rfl))))) hx20 (by decide) fun u_ w2 O2_ f_ hB2_ hX_ => ?_
    exact hK_ u_ w2 ⟨O2_, hB2_, (k0_.trans (KX.keep hX_ (by decide))), fun h_ => zC (d := some 36) (t := 23) (φ := fun u_ => (rSl (rInt .i64)).v O2_ w2 u_ [0, 0, 1, 2]) ((GR.zI _ (m1_ (zD rfl h_)) (KX.keep hX_ (by decide)))) (by decide), fun h_ => zC (d := some 36) (t := 26) (φ := fun u_ => PtrZ (rInt .i64) O2_ w2 u_ x17) ((PtrZ.keep (m4_ (zD rfl h_)) (KX.keep hX_ (by decide)) (by decide) (fun _ => rfl))) (by decide), fun h_ => zC (d := some 36) (t := 35) (φ := fun u_ => (rSl zF).v O2_ w2 u_ [(api_Sight.mk x17 x18.2 (decide (x19.2 = 1)))]) ((GR.zI _ (m13_ (zD rfl h_)) (KX.keep hX_ (by decide)))) (by decide), fun hq_ => jk hq_, fun hp_ hq_ => va (φ := fun u_ => OwnL 2 zF 64 (Fr w0) O2_ w2 (u_) x20) hA_ (by decide) f_, fun hp_ => no_tf (zD rfl hp_) (hafter_ 15 (by kernel_rfl)), fun hq_ => BoxO.kx (v1_0_ (zP hq_)) hX_ (by decide) (by decide), fun hp_ hq_ => BoxO.kx (v1_1_ (zD rfl hp_) (zP hq_)) hX_ (by decide) (by decide), fun hp_ hq_ => BoxO.kx (v1_2_ (zD rfl hp_) (zP hq_)) hX_ (by decide) (by decide), fun hp_ => BoxO.kx (v1_3_ (zD rfl hp_)) hX_ (by decide) (by decide)⟩ trivial
   case z6_15 =>
    intro S_ a' w' hA_ hJ_ hS_ hafter_ hbef_ hK hg K_ Q_ hK_
    subst eJ_
    obtain ⟨O_, hB_, k0_, m1_, m4_, m13_, v0_0_, v0_1_, v0_2_, v1_0_, v1_1_, v1_2_, v1_3_⟩ := hJ_
    refine x_ok (φ := SP.isv (a'.get 36)) (zE rfl) fun v_ w2 hE hv_ => ?_
    replace hv_ : v_ = a'.get 36 := hv_
    have hB2_ := Base.step hB_ hE hO
    exact hK_ v_ w2 ⟨O_, hB2_, (k0_.trans (KX.keep (KX.ext hE) (by decide))), fun h_ => zC (d := some 6) (t := 23) (φ := fun u_ => (rSl (rInt .i64)).v O_ w2 u_ [0, 0, 1, 2]) ((GR.zI _ (m1_ (zD rfl h_)) (KX.keep (KX.ext hE) (by decide)))) (by decide), fun h_ => zC (d := some 6) (t := 26) (φ := fun u_ => PtrZ (rInt .i64) O_ w2 u_ x17) ((PtrZ.keep (m4_ (zD rfl h_)) (KX.keep (KX.ext hE) (by decide)) (by decide) (fun _ => rfl))) (by decide), fun h_ => zC (d := some 6) (t := 35) (φ := fun u_ => (rSl zF).v O_ w2 u_ [(api_Sight.mk x17 x18.2 (decide (x19.2 = 1)))]) ((GR.zI _ (m13_ (zD rfl h_)) (KX.keep (KX.ext hE) (by decide)))) (by decide), fun hq_ => no_tf (hbef_ 14 (by kernel_rfl)) hq_, fun hp_ hq_ => jk hq_, fun hp_ => va (φ := fun u_ => OwnL 2 zF 64 (Fr w0) O_ w2 (u_) x20) hA_ (by decide) (by rw [hv_]; exact OwnL.ext (v0_1_ (zD rfl (hbef_ 14 (by kernel_rfl))) hS_) hE), fun hq_ => BoxO.kx (v1_0_ (zP hq_)) (KX.ext hE) (by decide) (by decide), fun hp_ hq_ => BoxO.kx (v1_1_ (zD rfl hp_) (zP hq_)) (KX.ext hE) (by decide) (by decide), fun hp_ hq_ => BoxO.kx (v1_2_ (zD rfl hp_) (zP hq_)) (KX.ext hE) (by decide) (by decide), fun hp_ => BoxO.kx (v1_3_ (zD rfl hp_)) (KX.ext hE) (by decide) (by decide)⟩ trivial
   case zsk6 =>
    subst eJ_
    intro i_ o_ S_ a_ w_ ho_ hact_ hA_ hS_ hbef_ hJ_
    obtain ⟨O_, hB_, k0_, m1_, m4_, m13_, v0_0_, v0_1_, v0_2_, v1_0_, v1_1_, v1_2_, v1_3_⟩ := hJ_
    exact ⟨O_, hB_, k0_, fun h_ => by obtain ⟨h1_, h2_⟩ := zj (j := 1) hact_ rfl h_; exact zC (t := 23) (φ := fun u_ => (rSl (rInt .i64)).v O_ w_ u_ [0, 0, 1, 2]) (m1_ h1_) (zb (j := 1) (by kernel_rfl) ho_ h2_), fun h_ => by obtain ⟨h1_, h2_⟩ := zj (j := 4) hact_ rfl h_; exact zC (t := 26) (φ := fun u_ => PtrZ (rInt .i64) O_ w_ u_ x17) (m4_ h1_) (zb (j := 4) (by kernel_rfl) ho_ h2_), fun h_ => by obtain ⟨h1_, h2_⟩ := zj (j := 13) hact_ rfl h_; exact zC (t := 35) (φ := fun u_ => (rSl zF).v O_ w_ u_ [(api_Sight.mk x17 x18.2 (decide (x19.2 = 1)))]) (m13_ h1_) (zb (j := 13) (by kernel_rfl) ho_ h2_), fun hq_ => (v0_0_ (zP hq_)), fun hp_ hq_ => by obtain ⟨h1_, h2_⟩ := zj (j := 14) hact_ rfl hp_; exact zC (t := 36) (φ := fun u_ => OwnL 2 zF 64 (Fr w0) O_ w_ (u_) x20) (v0_1_ h1_ (zP hq_)) (zb (j := 14) (by kernel_rfl) ho_ h2_), fun hp_ => by obtain ⟨h1_, h2_⟩ := zj (j := 15) hact_ rfl hp_; exact zC (t := 6) (φ := fun u_ => OwnL 2 zF 64 (Fr w0) O_ w_ (u_) x20) (v0_2_ h1_) (zb (j := 15) (by kernel_rfl) ho_ h2_), fun hq_ => (v1_0_ (zP hq_)), fun hp_ hq_ => by obtain ⟨h1_, h2_⟩ := zj (j := 3) hact_ rfl hp_; exact (v1_1_ h1_ (zP hq_)), fun hp_ hq_ => by obtain ⟨h1_, h2_⟩ := zj (j := 8) hact_ rfl hp_; exact (v1_2_ h1_ (zP hq_)), fun hp_ => by obtain ⟨h1_, h2_⟩ := zj (j := 10) hact_ rfl hp_; exact (v1_3_ h1_)⟩
   case zst6 => subst eJ_; exact fun w1_ hE_ => ⟨O14, (Base.step hB hE_ hO), (Keep.ext hE_), fun h_ => no_ft h_, fun h_ => no_ft h_, fun h_ => no_ft h_, fun _ => OwnL.ext f8 hE_, fun hp_ => no_ft hp_, fun hp_ => no_ft hp_, fun _ => BoxO.ext ⟨_, f4, ⟨_, _, rfl, (vJ (r := (rSl (rInt .i64))) f12 rfl rfl), ⟨_, _, rfl, rfl, rfl⟩⟩⟩ hE_, fun hp_ => no_ft hp_, fun hp_ => no_ft hp_, fun hp_ => no_ft hp_⟩
   case zok6 | zgd6 => kernel_rfl
   subst eJ_; clear T_
   intro a13 w13 hA HF hJ_
   obtain ⟨O21, hB_, k0_, m1_, m4_, m13_, v0_0_, v0_1_, v0_2_, v1_0_, v1_1_, v1_2_, v1_3_⟩ := hJ_
   replace q0 := kn (HF 0) rfl q0
   replace q1 := kn (HF 1) rfl q1
   replace q5 := kn (HF 5) rfl q5
   have f23 := (v0_2_ rfl)
   obtain ⟨u22, q6'⟩ : ∃ u, a13.get 6 = u := ⟨_, rfl⟩
   rw [q6'] at f23
   clear q6
   have q6 := q6'; clear q6'
   replace q7 := kn (HF 7) rfl q7
   clear q19; clear HF
   replace h_0 := GR.zI _ h_0 k0_
   have f24 := (v1_3_ rfl)
   clear f8; clear f4; clear hB; have hB := hB_; clear hB_
   have hz_ := f24; clear f24; obtain ⟨cs_, f25, hr_⟩ := hz_
   obtain ⟨u26, e_, f27⟩ := vb hr_; subst e_
   clear k0_ m1_ m4_ m13_ v0_0_ v0_1_ v0_2_ v1_0_ v1_1_ v1_2_ v1_3_; refine yJ (zA ?_)
   refine' rb [_, _, _] mixed hA hB hO (mv q7 (cn (fun hE hK => yp (ks 0 hK 20 rfl) rfl) (cn (fun hE hK => zE (ks 1 hK 21 rfl)) .nil))) ?zk7
   intro a14 w14 hA hE hB HF; refine kr4 HF q0 q1 q5 q6 ?_; clear q0 q1 q5 q6; intro q0 q1 q5 q6; replace q7 := ksv (HF 7) rfl rfl rfl; clear HF; replace h_0 := vx h_0 hE; replace f23 := f23.ext hE; replace f25 := f25.ext hE; replace f27 := vx f27 hE; clear hE; refine zG (zA ?_)
   have h := hnext2 _ (Comp.run_pure h).symm
   refine ⟨m2, hlt2, ?_⟩
   exact ⟨_, _, _, _, _, _, _, hA, hB, q0, h_0, q1, q5, q6, f23, q7, f25, f27, h⟩
  ·
   refine wp_exit (zX (zX (ye ?_)))
   have hd_ := hdone2 _ (Comp.run_pure h).symm; clear h
   subst hd_; have h := hk2; clear hk2; try dsimp only at h
   refine zA ?_
   exact ⟨_, _, _, hA, hB, q6, f8, h⟩
 intro a15 w15 hI
 clear hA hB h q0 q1 q5 q6 f4 h_0
 obtain ⟨O33, x30, u31, hA, hB, q6, f32, h⟩ := hI
 unfold gX at h; refine wp_seq ?_
 refine' rb [_, _] mixed hA hB hO (mv q6 (cn (fun hE hK => zE (ks 0 hK 37 rfl)) .nil)) ?zk8
 intro a16 w16 hA hE hB HF; have q4 := ksv (HF 4) rfl rfl rfl; clear q6 HF; replace f32 := f32.ext hE; clear hE; refine zG (zA (wp_ret ?_))
 have h := Comp.run_pure h; subst h
 exact zi Try.results37 hA q4 hB.ext (OwnL.res f32 (by decide) hB.zero)
theorem ok_colletlaw43_Case_made {O : Tags} {w0 : World} (hO : OkO O w0) {v_0 : Value} {x_0 : colletlaw43_Case} (h_0 : zS.v O w0 v_0 x_0) {x_1 : Int} {n : Nat} {y : ((List api_Claim) × (List api_Sight) × Int)} (h : (vI x_0 x_1).run n = some y) : Pure Try.prog 9 #[v_0, .int .i64 x_1] w0 (SP.tup3 (SP.ownr zB 33 (w0.heap.size) O y.1) (SP.vl (rSl zF) O y.2.1) (SP.isv (.int .i64 y.2.2))).holds := by
 unfold vI at h
 refine zU Try.func9 rfl 56 Try.ntmps9 (by simp) fun a0 hA hs0 => ?_
 have q0 : a0.get 0 = v_0 := hs0 0 _ rfl
 have q1 : a0.get 1 = .int .i64 x_1 := hs0 1 _ rfl
 clear hs0
 have hB : Base (Fr w0) O w0 O w0 := Base.start hO
 refine wp_seq ?_
 refine' rb [SP.vl (rBox zS) O x_0, _, _, _] mixed hA hB hO (cn (fun hE hK => kC (r := zS) zy (OkO.ext hB.ok hE) (kq hK q0) (vx h_0 hE)) (cn (fun hE hK => zE rfl) (cn (fun hE hK => zE rfl) (cn (fun hE hK => zE rfl) .nil)))) ?zk1
 intro a1 w1 hA hE hB HF; replace q1 := kf HF q1; obtain ⟨u1, q2, f2⟩ := kx (HF 2) rfl rfl rfl; clear q0 HF; replace h_0 := vx h_0 hE; clear hE; refine zG (zA (wp_seq ?_))
 refine' rb [SP.ptr (rInt .u8) O x_0.Cells, SP.isv (.int .u8 x_0.Cells), _, _, _, _] mixed hA hB hO (cn (fun hE hK => vB (S := zS) zy rfl (fun _ => rfl) sb_colletlaw43_Case_1 fl25_1 (kq hK q2) (vx f2 hE)) (cn (fun hE hK => yD (rInt .u8) (fun _ => rfl) ty5 rfl rfl rfl (kp (SP.ptr (rInt .u8) O x_0.Cells) 0 hK 10 rfl) (fun _ _ _ h => zd.1 h)) (cn (fun hE hK => ok_convI ty5 ty3 (ks 1 hK 11 rfl)) (cn (fun hE hK => ok_rem (ks 2 hK 12 rfl) rfl (by decide)) (cn (fun hE hK => yp rfl (ks 3 hK 13 rfl)) (cn (fun hE hK => zE (ks 4 hK 14 rfl)) .nil)))))) ?zk2
 intro a2 w2 hA hE hB HF; replace q1 := kf HF q1; replace q2 := kf HF q2; have q7 := ksv (HF 7) rfl rfl rfl; clear HF; replace f2 := vx f2 hE; clear hE
 obtain ⟨x3, hx_, h⟩ := Comp.run_bind h; replace hx_ := Comp.run_pure hx_; rw [hx_] at q7; clear hx_
 refine zG (zA (wp_seq ?_))
 refine' rb [_] mixed hA hB hO (cn (fun hE hK => zE rfl) .nil) ?zk3
 intro a3 w3 hA hE hB HF; refine kr3 HF q1 q2 q7 ?_; clear q1 q2 q7; intro q1 q2 q7; have q8 := ksv (HF 8) rfl rfl rfl; clear HF; replace f2 := vx f2 hE; clear hE; refine zG (zA ?_)
 refine zh (fun a w => ∃ (O26 : Tags) (x21 : List (List Int)) (u22 : Value), a.fit 56 ∧ Base (Fr w0) O w0 O26 w ∧ a.get 1 = .int .i64 x_1 ∧ a.get 2 = u1 ∧ (rBox zS).v O26 w u1 x_0 ∧ a.get 7 = .int .i64 x3 ∧ a.get 8 = u22 ∧ (rSl (rSl (rInt .i64))).v O26 w u22 x21 ∧ (vv x3 x_1 x_0 x21).run n = some y) ?_ ?_
 ·
  refine wp_seq ?_
  refine' rb [_] mixed hA hB hO (cn (fun hE hK => zE rfl) .nil) ?zk4
  intro a4 w4 hA hE hB HF; refine kr4 HF q1 q2 q7 q8 ?_; clear q1 q2 q7 q8; intro q1 q2 q7 q8; have q9 := ksv (HF 9) rfl rfl rfl; clear HF; replace f2 := vx f2 hE; clear hE; refine zG (zA (wp_block ?_))
  obtain ⟨e2, he2, hk2⟩ := Comp.run_bind h; clear h
  refine gK (fun m a w => ∃ (O8 : Tags) (x4 : List (List Int)) (x7 : Int) (u5 : Value), a.fit 56 ∧ Base (Fr w0) O w0 O8 w ∧ a.get 1 = .int .i64 x_1 ∧ a.get 2 = u1 ∧ (rBox zS).v O8 w u1 x_0 ∧ a.get 7 = .int .i64 x3 ∧ a.get 8 = u5 ∧ OwnL 1 (rSl (rInt .i64)) 23 (Fr w0) O8 w u5 x4 ∧ a.get 9 = .int .i64 x7 ∧ Comp.loopN (fun s => yQ x_0 s.1 s.2) n m (x4, x7) = some e2) (m := n) ?st2 ?_
  case st2 =>
   exact ⟨_, _, _, _, hA, hB, q1, q2, f2, q7, q8, (OwnL.nil _ _ _ _ _ _), q9, Comp.yL he2⟩
  intro m_ a5 w5 hI
  clear hA hB he2 q1 q2 q7 q8 q9 f2
  obtain ⟨O8, x4, x7, u5, hA, hB, q1, q2, f2, q7, q8, f6, q9, hl⟩ := hI
  obtain ⟨m2, hlt2, st2, h, hnext2, hdone2⟩ := Comp.zm hl; clear hl
  replace h : (yQ x_0 x4 x7).run n = some st2 := h
  unfold yQ at h; refine wp_seq (wp_seq ?_)
  refine' rb [_, SP.ptr (rSl (rSl (rInt .i64))) O8 x_0.Claims, SP.vl (rSl (rSl (rInt .i64))) O8 x_0.Claims, _, _, _, _, _, _] mixed hA hB hO (mv q9 (cn (fun hE hK => vB (S := zS) zy rfl (fun _ => rfl) jU fl25_0 (kq hK q2) (vx f2 hE)) (cn (fun hE hK => vO (r := (rSl (rSl (rInt .i64)))) (fun _ => rfl) ty22 rfl rfl rfl (kp (SP.ptr (rSl (rSl (rInt .i64))) O8 x_0.Claims) 1 hK 16 rfl)) (cn (fun hE hK => zw (r := (rSl (rInt .i64))) ty22 rfl (rd_of (kp (SP.vl (rSl (rSl (rInt .i64))) O8 x_0.Claims) 2 hK 17 rfl))) (cn (fun hE hK => yh (ks 0 hK 15 rfl) (ks 3 hK 18 rfl)) (cn (fun hE hK => zJ (ks 4 hK 19 rfl)) (mv q9 (.cons (fun _ _ hE hK hg => yh (kg 6 hK 21 rfl hg) rfl) (cn (fun hE hK => za (ks 5 hK 20 rfl) (fun hb => kg 7 hK 22 rfl (zv rfl rfl hb)) (fun _ => rfl)) .nil))))))))) ?zk5
  intro a6 w6 hA hE hB HF; refine kr5 HF q1 q2 q7 q8 q9 ?_; clear q1 q2 q7 q8 q9; intro q1 q2 q7 q8 q9; have q23 := ksv (HF 23) rfl rfl rfl; clear HF; replace f2 := vx f2 hE; replace f6 := f6.ext hE; clear hE
  obtain ⟨x9, hx_, h⟩ := Comp.run_bind h; replace hx_ := Comp.run_pure hx_; rw [hx_] at q23; clear hx_
  refine zG (zA ?_)
  revert h; refine cnd q23 (fun h => ?_) (fun h => ?_)
  ·
   refine wp_skip (zA (wp_seq (wp_block ?_))); obtain ⟨x10, hx10, h⟩ := Comp.run_bind h; obtain ⟨x11, hx11, h⟩ := Comp.run_bind h; obtain ⟨x12, hx12, h⟩ := Comp.run_bind h
   refine' rb [_, SP.ptr (rSl (rSl (rInt .i64))) O8 x_0.Claims, SP.vl (rSl (rSl (rInt .i64))) O8 x_0.Claims, _, SP.ptr (rSl (rInt .i64)) O8 x10, SP.vl (rSl (rInt .i64)) O8 x10, SP.ptr (rSl (rSl (rInt .i64))) O8 x_0.Claims, SP.vl (rSl (rSl (rInt .i64))) O8 x_0.Claims, _, SP.ptr (rSl (rInt .i64)) O8 x11, SP.vl (rSl (rInt .i64)) O8 x11, _, _, SP.vl (rSl (rInt .i64)) O8 x12, SP.vl (rSl (rSl (rInt .i64))) O8 [x12]] mixed hA hB hO (mv q8 (cn (fun hE hK => vB (S := zS) zy rfl (fun _ => rfl) jU fl25_0 (kq hK q2) (vx f2 hE)) (cn (fun hE hK => vO (r := (rSl (rSl (rInt .i64)))) (fun _ => rfl) ty22 rfl rfl rfl (kp (SP.ptr (rSl (rSl (rInt .i64))) O8 x_0.Claims) 1 hK 27 rfl)) (mv q9 (cn (fun hE hK => vC (r := (rSl (rInt .i64))) (O := O8) ty22 ty23 rfl rfl (rd_of (kp (SP.vl (rSl (rSl (rInt .i64))) O8 x_0.Claims) 2 hK 28 rfl)) (ks 3 hK 29 rfl) hx10) (cn (fun hE hK => vO (r := (rSl (rInt .i64))) (fun _ => rfl) ty23 rfl rfl rfl (kp (SP.ptr (rSl (rInt .i64)) O8 x10) 4 hK 30 rfl)) (cn (fun hE hK => vB (S := zS) zy rfl (fun _ => rfl) jU fl25_0 (kq hK q2) (vx f2 hE)) (cn (fun hE hK => vO (r := (rSl (rSl (rInt .i64)))) (fun _ => rfl) ty22 rfl rfl rfl (kp (SP.ptr (rSl (rSl (rInt .i64))) O8 x_0.Claims) 6 hK 32 rfl)) (mv q9 (cn (fun hE hK => vC (r := (rSl (rInt .i64))) (O := O8) ty22 ty23 rfl rfl (rd_of (kp (SP.vl (rSl (rSl (rInt .i64))) O8 x_0.Claims) 7 hK 33 rfl)) (ks 8 hK 34 rfl) hx11) (cn (fun hE hK => vO (r := (rSl (rInt .i64))) (fun _ => rfl) ty23 rfl rfl rfl (kp (SP.ptr (rSl (rInt .i64)) O8 x11) 9 hK 35 rfl)) (cn (fun hE hK => zw (r := (rInt .i64)) ty23 rfl (rd_of (kp (SP.vl (rSl (rInt .i64)) O8 x11) 10 hK 36 rfl))) (cn (fun hE hK => ok_min (ks 11 hK 37 rfl) rfl) (cn (fun hE hK => okl_slice_h (r := (rInt .i64)) ty23 ty3 rfl rfl (kp (SP.vl (rSl (rInt .i64)) O8 x10) 5 hK 31 rfl) (ks 12 hK 38 rfl) hx12) (cn (fun hE hK => zN (r := (rSl (rInt .i64))) (fun _ => rfl) rfl (OkO.ext hB.ok hE) ty22 ty23 (zR rfl zl) ⟨(kp (SP.vl (rSl (rInt .i64)) O8 x12) 13 hK 39 rfl), trivial⟩ rfl (by decide)) .nil))))))))))))))) ?zk6
   intro a7 w7 hA hE hB HF; refine kr5 HF q1 q2 q7 q8 q9 ?_; clear q1 q2 q7 q8 q9; intro q1 q2 q7 q8 q9; obtain ⟨u13, q40, f14⟩ := kx (HF 40) rfl rfl rfl; have q26 := ksv (HF 26) rfl rfl rfl; clear q23 HF; replace f2 := vx f2 hE; replace f6 := f6.ext hE; clear hE; obtain ⟨x15, hx15, h⟩ := Comp.run_bind h
   refine jP (r := (rSl (rInt .i64))) (fun _ => rfl) rfl ty22 ty23 rfl (by decide) hO hB (yI hB) q26 f6 q40 (rd_of f14) hx15 (by decide) fun u16 w8 O17 f18 hB' hX => ?_
   clear hB; have hB := hB'; clear hB'; clear f6; replace f2 := vk f2 hX; replace f14 := vk f14 hX; clear hX
   refine zQ hA (by decide) fun a9 hA q_ hfr => ?_
   refine kd7 hfr q1 q2 q7 q8 q9 q26 q40 ?_; clear q1 q2 q7 q8 q9 q26 q40; intro q1 q2 q7 q8 q9 q26 q40; have q41 := q_; clear q_ hfr
   refine l_ok (φ := SP.isv (u16)) hO hB (by exact zE q41) rfl fun u_ w10 hE hB' hv_ => ?_
   replace hv_ := Eq.symm hv_; subst hv_; clear hB; have hB := hB'; clear hB'
   replace f2 := vx f2 hE; replace f18 := f18.ext hE; clear hE
   refine zQ hA (by decide) fun a11 hA q_ hfr => ?_
   replace q1 := (hfr 1 rfl).trans q1
   replace q2 := (hfr 2 rfl).trans q2
   replace q7 := (hfr 7 rfl).trans q7
   replace q9 := (hfr 9 rfl).trans q9
   replace q41 := (hfr 41 rfl).trans q41
   clear q8; have q8 := q_; clear q_ hfr; refine zG (yJ (zA ?_))
   refine' rb [_, _, _] mixed hA hB hO (mv q9 (cn (fun hE hK => yp (ks 0 hK 24 rfl) rfl) (cn (fun hE hK => zE (ks 1 hK 25 rfl)) .nil))) ?zk7
   intro a12 w12 hA hE hB HF; refine kr4 HF q1 q2 q7 q8 ?_; clear q1 q2 q7 q8; intro q1 q2 q7 q8; replace q9 := ksv (HF 9) rfl rfl rfl; clear HF; replace f2 := vx f2 hE; replace f18 := f18.ext hE; clear hE; refine zG (zA ?_)
   have h := hnext2 _ (Comp.run_pure h).symm
   refine ⟨m2, hlt2, ?_⟩
   exact ⟨_, _, _, _, hA, hB, q1, q2, f2, q7, q8, f18, q9, h⟩
  ·
   refine wp_exit (zX (zX (ye ?_)))
   have hd_ := hdone2 _ (Comp.run_pure h).symm; clear h
   subst hd_; have h := hk2; clear hk2; try dsimp only at h
   refine zA ?_
   obtain ⟨O24, hB', hX, f25⟩ := freezeL hO hB f6 (by decide)
   clear f6 hB; have hB := hB'; clear hB'; replace f2 := vk f2 hX; clear hX
   exact ⟨_, _, _, hA, hB, q1, q2, f2, q7, q8, f25, h⟩
 intro a13 w13 hI
 clear hA hB h q1 q2 q7 q8 f2
 obtain ⟨O26, x21, u22, hA, hB, q1, q2, f2, q7, q8, f23, h⟩ := hI
 unfold vv at h; refine wp_seq ?_; obtain ⟨x27, hx27, h⟩ := Comp.run_bind h; obtain ⟨x28, hx28, h⟩ := Comp.run_bind h; obtain ⟨x29, hx29, h⟩ := Comp.run_bind h
 obtain ⟨J_, eJ_⟩ : ∃ J_ : (Nat → Bool) → Act → World → Prop, J_ = (fun S_ a_ w_ => ∃ O_ : Tags, Base (Fr w0) O w0 O_ w_ ∧ Keep 0 O26 w13 O_ w_ ∧ (S_ 4 = true → PtrZ (rSl (rInt .i64)) O_ w_ (a_.get 46) x_0.Sights) ∧ (S_ 5 = true → (rSl (rInt .i64)).v O_ w_ (a_.get 47) x_0.Sights) ∧ (S_ 6 = true → PtrZ (rSl (rInt .i64)) O_ w_ (a_.get 48) x_0.Sights) ∧ (S_ 7 = true → (rSl (rInt .i64)).v O_ w_ (a_.get 49) x_0.Sights) ∧ (S_ 10 = true → (rSl (rInt .i64)).v O_ w_ (a_.get 52) x28) ∧ (S_ 12 = true → (rSl zF).v O_ w_ (a_.get 54) x29) ∧ (S_ 15 = true → (rSl zF).v O_ w_ (a_.get 5) x29) ∧ (S_ 3 = true → S_ 14 = false → OwnL 2 zB 33 (Fr w0) O_ w_ (a_.get 45) x27) ∧ (S_ 14 = true → OwnL 2 zB 33 (Fr w0) O_ w_ (a_.get 4) x27)) := ⟨_, rfl⟩
 have T_ : ∀ {i_ : Nat} {d_ : Option Tmp} {v_ : Value} {S_ a' w' w2}, Nat.beq 3 i_ = false → Nat.beq 4 i_ = false → Nat.beq 5 i_ = false → Nat.beq 6 i_ = false → Nat.beq 7 i_ = false → Nat.beq 10 i_ = false → Nat.beq 12 i_ = false → Nat.beq 14 i_ = false → Nat.beq 15 i_ = false → d_ ≠ some 4 → d_ ≠ some 5 → d_ ≠ some 45 → d_ ≠ some 46 → d_ ≠ some 47 → d_ ≠ some 48 → d_ ≠ some 49 → d_ ≠ some 52 → d_ ≠ some 54 → Ext w' w2 → J_ S_ a' w' → J_ (addS S_ i_) (a'.put d_ v_) w2 := by
  subst eJ_; intro i_ d_ v_ S_ a' w' w2 n3_ n4_ n5_ n6_ n7_ n10_ n12_ n14_ n15_ s4_ s5_ s45_ s46_ s47_ s48_ s49_ s52_ s54_ hE hJ_
  obtain ⟨O_, hB_, k0_, m4_, m5_, m6_, m7_, m10_, m12_, m15_, v0_0_, v0_1_⟩ := hJ_
  exact ⟨O_, (Base.step hB_ hE hO), (k0_.trans (KX.keep (KX.ext hE) (by decide))), fun h_ => zC (d := d_) (t := 46) (φ := fun u_ => PtrZ (rSl (rInt .i64)) O_ w2 u_ x_0.Sights) ((PtrZ.keep (m4_ (zD n4_ h_)) (KX.keep (KX.ext hE) (by decide)) (by decide) (fun _ => rfl))) s46_, fun h_ => zC (d := d_) (t := 47) (φ := fun u_ => (rSl (rInt .i64)).v O_ w2 u_ x_0.Sights) ((GR.zI _ (m5_ (zD n5_ h_)) (KX.keep (KX.ext hE) (by decide)))) s47_, fun h_ => zC (d := d_) (t := 48) (φ := fun u_ => PtrZ (rSl (rInt .i64)) O_ w2 u_ x_0.Sights) ((PtrZ.keep (m6_ (zD n6_ h_)) (KX.keep (KX.ext hE) (by decide)) (by decide) (fun _ => rfl))) s48_, fun h_ => zC (d := d_) (t := 49) (φ := fun u_ => (rSl (rInt .i64)).v O_ w2 u_ x_0.Sights) ((GR.zI _ (m7_ (zD n7_ h_)) (KX.keep (KX.ext hE) (by decide)))) s49_, fun h_ => zC (d := d_) (t := 52) (φ := fun u_ => (rSl (rInt .i64)).v O_ w2 u_ x28) ((GR.zI _ (m10_ (zD n10_ h_)) (KX.keep (KX.ext hE) (by decide)))) s52_, fun h_ => zC (d := d_) (t := 54) (φ := fun u_ => (rSl zF).v O_ w2 u_ x29) ((GR.zI _ (m12_ (zD n12_ h_)) (KX.keep (KX.ext hE) (by decide)))) s54_, fun h_ => zC (d := d_) (t := 5) (φ := fun u_ => (rSl zF).v O_ w2 u_ x29) ((GR.zI _ (m15_ (zD n15_ h_)) (KX.keep (KX.ext hE) (by decide)))) s5_, fun hp_ hq_ => zC (d := d_) (t := 45) (φ := fun u_ => OwnL 2 zB 33 (Fr w0) O_ w2 (u_) x27) (OwnL.kx (v0_0_ (zD n3_ hp_) (zP hq_)) (KX.ext hE) (by decide) (by decide)) s45_, fun hp_ => zC (d := d_) (t := 4) (φ := fun u_ => OwnL 2 zB 33 (Fr w0) O_ w2 (u_) x27) (OwnL.kx (v0_1_ (zD n14_ hp_)) (KX.ext hE) (by decide) (by decide)) s4_⟩
 refine' regionX (draw := true) J_ [SP.isv (u22), SP.isv (.int .i64 x3), SP.isv (.int .i64 x_1), SP.tt, SP.tt, SP.tt, SP.tt, SP.tt, SP.isv (.int .i64 (x_0.Sights.length : Int)), SP.isv (.int .i64 (min (x_0.Sights.length : Int) 30)), SP.tt, SP.isv (.int .i64 x3), SP.tt, SP.isv (.int .i64 x3), SP.tt, SP.tt, SP.isv (.int .i64 x3)] mixed hA (.cons (zV _) (.cons (zV _) (.cons (zV _) (.cons (vK _) (.cons (vK _) (.cons (vK _) (.cons (vK _) (.cons (vK _) (.cons (zV _) (.cons (zV _) (.cons (vK _) (.cons (zV _) (.cons (vK _) (.cons (zV _) (.cons (vK _) (.cons (vK _) (.cons (zV _) .nil))))))))))))))))) (.cons ?z8_0 (.cons ?z8_1 (.cons ?z8_2 (.cons ?z8_3 (.cons ?z8_4 (.cons ?z8_5 (.cons ?z8_6 (.cons ?z8_7 (.cons ?z8_8 (.cons ?z8_9 (.cons ?z8_10 (.cons ?z8_11 (.cons ?z8_12 (.cons ?z8_13 (.cons ?z8_14 (.cons ?z8_15 (.cons ?z8_16 .nil))))))))))))))))) ?zsk8 ?zst8 ?zok8 ?zgd8 ?zk8
 case z8_0 =>
  intro S_ a' w' hA_ hJ_ hS_ hafter_ hbef_ hK hg K_ Q_ hK_
  refine x_ok (φ := SP.isv (u22)) (by exact zJ (kq hK q8)) fun v_ w2 hE hv_ => hK_ v_ w2 (T_ rfl rfl rfl rfl rfl rfl rfl rfl rfl (by decide) (by decide) (by decide) (by decide) (by decide) (by decide) (by decide) (by decide) (by decide) hE hJ_) hv_
 case z8_1 =>
  intro S_ a' w' hA_ hJ_ hS_ hafter_ hbef_ hK hg K_ Q_ hK_
  refine x_ok (φ := SP.isv (.int .i64 x3)) (by exact zJ (kq hK q7)) fun v_ w2 hE hv_ => hK_ v_ w2 (T_ rfl rfl rfl rfl rfl rfl rfl rfl rfl (by decide) (by decide) (by decide) (by decide) (by decide) (by decide) (by decide) (by decide) (by decide) hE hJ_) hv_
 case z8_2 =>
  intro S_ a' w' hA_ hJ_ hS_ hafter_ hbef_ hK hg K_ Q_ hK_
  refine x_ok (φ := SP.isv (.int .i64 x_1)) (by exact zJ (kq hK q1)) fun v_ w2 hE hv_ => hK_ v_ w2 (T_ rfl rfl rfl rfl rfl rfl rfl rfl rfl (by decide) (by decide) (by decide) (by decide) (by decide) (by decide) (by decide) (by decide) (by decide) hE hJ_) hv_
 case z8_3 =>
  intro S_ a' w' hA_ hJ_ hS_ hafter_ hbef_ hK hg K_ Q_ hK_
  subst eJ_
  obtain ⟨O_, hB_, k0_, m4_, m5_, m6_, m7_, m10_, m12_, m15_, v0_0_, v0_1_⟩ := hJ_
  refine x_ok (φ := SP.ownr zB 33 w'.heap.size O_ x27) (by have c_ := ok_colletref43_Claims hB_.ok (GR.zI _ f23 k0_) hx27; exact yE (vY fn36 (ks 0 hK 42 rfl) (ks 1 hK 43 rfl) (ks 2 hK 44 rfl) c_) (fun _ _ _ h => h)) fun v_ w2 hE hv_ => ?_
  obtain ⟨O2_, hB2_, hX_, f_⟩ := ownNew hO hB_ hE hv_ rfl 2 (by decide)
  exact hK_ v_ w2 ⟨O2_, hB2_, (k0_.trans (KX.keep hX_ (by decide))), fun h_ => zC (d := some 45) (t := 46) (φ := fun u_ => PtrZ (rSl (rInt .i64)) O2_ w2 u_ x_0.Sights) ((PtrZ.keep (m4_ (zD rfl h_)) (KX.keep hX_ (by decide)) (by decide) (fun _ => rfl))) (by decide), fun h_ => zC (d := some 45) (t := 47) (φ := fun u_ => (rSl (rInt .i64)).v O2_ w2 u_ x_0.Sights) ((GR.zI _ (m5_ (zD rfl h_)) (KX.keep hX_ (by decide)))) (by decide), fun h_ => zC (d := some 45) (t := 48) (φ := fun u_ => PtrZ (rSl (rInt .i64)) O2_ w2 u_ x_0.Sights) ((PtrZ.keep (m6_ (zD rfl h_)) (KX.keep hX_ (by decide)) (by decide) (fun _ => rfl))) (by decide), fun h_ => zC (d := some 45) (t := 49) (φ := fun u_ => (rSl (rInt .i64)).v O2_ w2 u_ x_0.Sights) ((GR.zI _ (m7_ (zD rfl h_)) (KX.keep hX_ (by decide)))) (by decide), fun h_ => zC (d := some 45) (t := 52) (φ := fun u_ => (rSl (rInt .i64)).v O2_ w2 u_ x28) ((GR.zI _ (m10_ (zD rfl h_)) (KX.keep hX_ (by decide)))) (by decide), fun h_ => zC (d := some 45) (t := 54) (φ := fun u_ => (rSl zF).v O2_ w2 u_ x29) ((GR.zI _ (m12_ (zD rfl h_)) (KX.keep hX_ (by decide)))) (by decide), fun h_ => zC (d := some 45) (t := 5) (φ := fun u_ => (rSl zF).v O2_ w2 u_ x29) ((GR.zI _ (m15_ (zD rfl h_)) (KX.keep hX_ (by decide)))) (by decide), fun hp_ hq_ => va (φ := fun u_ => OwnL 2 zB 33 (Fr w0) O2_ w2 (u_) x27) hA_ (by decide) f_, fun hp_ => no_tf (zD rfl hp_) (hafter_ 14 (by kernel_rfl))⟩ trivial
 case z8_4 =>
  intro S_ a' w' hA_ hJ_ hS_ hafter_ hbef_ hK hg K_ Q_ hK_
  subst eJ_
  obtain ⟨O_, hB_, k0_, m4_, m5_, m6_, m7_, m10_, m12_, m15_, v0_0_, v0_1_⟩ := hJ_
  refine x_ok (φ := SP.ptrz (rSl (rInt .i64)) O_ x_0.Sights (of_decide_eq_true rfl) (fun _ => rfl)) (by exact okl_fldZ (S := zS) rfl (by decide) (fun _ => rfl) ka fl25_2 (kq hK q2) (ptrz_of_box zy (GR.zI _ f2 k0_))) fun v_ w2 hE hv_ => ?_
  have hB2_ := Base.step hB_ hE hO
  exact hK_ v_ w2 ⟨O_, hB2_, (k0_.trans (KX.keep (KX.ext hE) (by decide))), fun _ => va (φ := fun u_ => PtrZ (rSl (rInt .i64)) O_ w2 u_ x_0.Sights) hA_ (by decide) hv_, fun h_ => zC (d := some 46) (t := 47) (φ := fun u_ => (rSl (rInt .i64)).v O_ w2 u_ x_0.Sights) ((GR.zI _ (m5_ (zD rfl h_)) (KX.keep (KX.ext hE) (by decide)))) (by decide), fun h_ => zC (d := some 46) (t := 48) (φ := fun u_ => PtrZ (rSl (rInt .i64)) O_ w2 u_ x_0.Sights) ((PtrZ.keep (m6_ (zD rfl h_)) (KX.keep (KX.ext hE) (by decide)) (by decide) (fun _ => rfl))) (by decide), fun h_ => zC (d := some 46) (t := 49) (φ := fun u_ => (rSl (rInt .i64)).v O_ w2 u_ x_0.Sights) ((GR.zI _ (m7_ (zD rfl h_)) (KX.keep (KX.ext hE) (by decide)))) (by decide), fun h_ => zC (d := some 46) (t := 52) (φ := fun u_ => (rSl (rInt .i64)).v O_ w2 u_ x28) ((GR.zI _ (m10_ (zD rfl h_)) (KX.keep (KX.ext hE) (by decide)))) (by decide), fun h_ => zC (d := some 46) (t := 54) (φ := fun u_ => (rSl zF).v O_ w2 u_ x29) ((GR.zI _ (m12_ (zD rfl h_)) (KX.keep (KX.ext hE) (by decide)))) (by decide), fun h_ => zC (d := some 46) (t := 5) (φ := fun u_ => (rSl zF).v O_ w2 u_ x29) ((GR.zI _ (m15_ (zD rfl h_)) (KX.keep (KX.ext hE) (by decide)))) (by decide), fun hp_ hq_ => zC (d := some 46) (t := 45) (φ := fun u_ => OwnL 2 zB 33 (Fr w0) O_ w2 (u_) x27) (OwnL.kx (v0_0_ (zD rfl hp_) (zP hq_)) (KX.ext hE) (by decide) (by decide)) (by decide), fun hp_ => zC (d := some 46) (t := 4) (φ := fun u_ => OwnL 2 zB 33 (Fr w0) O_ w2 (u_) x27) (OwnL.kx (v0_1_ (zD rfl hp_)) (KX.ext hE) (by decide) (by decide)) (by decide)⟩ trivial
 case z8_5 =>
  intro S_ a' w' hA_ hJ_ hS_ hafter_ hbef_ hK hg K_ Q_ hK_
  subst eJ_
  obtain ⟨O_, hB_, k0_, m4_, m5_, m6_, m7_, m10_, m12_, m15_, v0_0_, v0_1_⟩ := hJ_
  refine x_ok (φ := SP.vl (rSl (rInt .i64)) O_ x_0.Sights) (by exact vO (r := (rSl (rInt .i64))) (fun _ => rfl) ty23 rfl rfl rfl (PtrZ.ptr (m4_ (zD rfl (hbef_ 4 (by kernel_rfl)))))) fun v_ w2 hE hv_ => ?_
  have hB2_ := Base.step hB_ hE hO
  exact hK_ v_ w2 ⟨O_, hB2_, (k0_.trans (KX.keep (KX.ext hE) (by decide))), fun h_ => zC (d := some 47) (t := 46) (φ := fun u_ => PtrZ (rSl (rInt .i64)) O_ w2 u_ x_0.Sights) ((PtrZ.keep (m4_ (zD rfl h_)) (KX.keep (KX.ext hE) (by decide)) (by decide) (fun _ => rfl))) (by decide), fun _ => va (φ := fun u_ => (rSl (rInt .i64)).v O_ w2 u_ x_0.Sights) hA_ (by decide) hv_, fun h_ => zC (d := some 47) (t := 48) (φ := fun u_ => PtrZ (rSl (rInt .i64)) O_ w2 u_ x_0.Sights) ((PtrZ.keep (m6_ (zD rfl h_)) (KX.keep (KX.ext hE) (by decide)) (by decide) (fun _ => rfl))) (by decide), fun h_ => zC (d := some 47) (t := 49) (φ := fun u_ => (rSl (rInt .i64)).v O_ w2 u_ x_0.Sights) ((GR.zI _ (m7_ (zD rfl h_)) (KX.keep (KX.ext hE) (by decide)))) (by decide), fun h_ => zC (d := some 47) (t := 52) (φ := fun u_ => (rSl (rInt .i64)).v O_ w2 u_ x28) ((GR.zI _ (m10_ (zD rfl h_)) (KX.keep (KX.ext hE) (by decide)))) (by decide), fun h_ => zC (d := some 47) (t := 54) (φ := fun u_ => (rSl zF).v O_ w2 u_ x29) ((GR.zI _ (m12_ (zD rfl h_)) (KX.keep (KX.ext hE) (by decide)))) (by decide), fun h_ => zC (d := some 47) (t := 5) (φ := fun u_ => (rSl zF).v O_ w2 u_ x29) ((GR.zI _ (m15_ (zD rfl h_)) (KX.keep (KX.ext hE) (by decide)))) (by decide), fun hp_ hq_ => zC (d := some 47) (t := 45) (φ := fun u_ => OwnL 2 zB 33 (Fr w0) O_ w2 (u_) x27) (OwnL.kx (v0_0_ (zD rfl hp_) (zP hq_)) (KX.ext hE) (by decide) (by decide)) (by decide), fun hp_ => zC (d := some 47) (t := 4) (φ := fun u_ => OwnL 2 zB 33 (Fr w0) O_ w2 (u_) x27) (OwnL.kx (v0_1_ (zD rfl hp_)) (KX.ext hE) (by decide) (by decide)) (by decide)⟩ trivial
 case z8_6 =>
  intro S_ a' w' hA_ hJ_ hS_ hafter_ hbef_ hK hg K_ Q_ hK_
  subst eJ_
  obtain ⟨O_, hB_, k0_, m4_, m5_, m6_, m7_, m10_, m12_, m15_, v0_0_, v0_1_⟩ := hJ_
  refine x_ok (φ := SP.ptrz (rSl (rInt .i64)) O_ x_0.Sights (of_decide_eq_true rfl) (fun _ => rfl)) (by exact okl_fldZ (S := zS) rfl (by decide) (fun _ => rfl) ka fl25_2 (kq hK q2) (ptrz_of_box zy (GR.zI _ f2 k0_))) fun v_ w2 hE hv_ => ?_
  have hB2_ := Base.step hB_ hE hO
  exact hK_ v_ w2 ⟨O_, hB2_, (k0_.trans (KX.keep (KX.ext hE) (by decide))), fun h_ => zC (d := some 48) (t := 46) (φ := fun u_ => PtrZ (rSl (rInt .i64)) O_ w2 u_ x_0.Sights) ((PtrZ.keep (m4_ (zD rfl h_)) (KX.keep (KX.ext hE) (by decide)) (by decide) (fun _ => rfl))) (by decide), fun h_ => zC (d := some 48) (t := 47) (φ := fun u_ => (rSl (rInt .i64)).v O_ w2 u_ x_0.Sights) ((GR.zI _ (m5_ (zD rfl h_)) (KX.keep (KX.ext hE) (by decide)))) (by decide), fun _ => va (φ := fun u_ => PtrZ (rSl (rInt .i64)) O_ w2 u_ x_0.Sights) hA_ (by decide) hv_, fun h_ => zC (d := some 48) (t := 49) (φ := fun u_ => (rSl (rInt .i64)).v O_ w2 u_ x_0.Sights) ((GR.zI _ (m7_ (zD rfl h_)) (KX.keep (KX.ext hE) (by decide)))) (by decide), fun h_ => zC (d := some 48) (t := 52) (φ := fun u_ => (rSl (rInt .i64)).v O_ w2 u_ x28) ((GR.zI _ (m10_ (zD rfl h_)) (KX.keep (KX.ext hE) (by decide)))) (by decide), fun h_ => zC (d := some 48) (t := 54) (φ := fun u_ => (rSl zF).v O_ w2 u_ x29) ((GR.zI _ (m12_ (zD rfl h_)) (KX.keep (KX.ext hE) (by decide)))) (by decide), fun h_ => zC (d := some 48) (t := 5) (φ := fun u_ => (rSl zF).v O_ w2 u_ x29) ((GR.zI _ (m15_ (zD rfl h_)) (KX.keep (KX.ext hE) (by decide)))) (by decide), fun hp_ hq_ => zC (d := some 48) (t := 45) (φ := fun u_ => OwnL 2 zB 33 (Fr w0) O_ w2 (u_) x27) (OwnL.kx (v0_0_ (zD rfl hp_) (zP hq_)) (KX.ext hE) (by decide) (by decide)) (by decide), fun hp_ => zC (d := some 48) (t := 4) (φ := fun u_ => OwnL 2 zB 33 (Fr w0) O_ w2 (u_) x27) (OwnL.kx (v0_1_ (zD rfl hp_)) (KX.ext hE) (by decide) (by decide)) (by decide)⟩ trivial
 case z8_7 =>
  intro S_ a' w' hA_ hJ_ hS_ hafter_ hbef_ hK hg K_ Q_ hK_
  subst eJ_
  obtain ⟨O_, hB_, k0_, m4_, m5_, m6_, m7_, m10_, m12_, m15_, v0_0_, v0_1_⟩ := hJ_
  refine x_ok (φ := SP.vl (rSl (rInt .i64)) O_ x_0.Sights) (by exact vO (r := (rSl (rInt .i64))) (fun _ => rfl) ty23 rfl rfl rfl (PtrZ.ptr (m6_ (zD rfl (hbef_ 6 (by kernel_rfl)))))) fun v_ w2 hE hv_ => ?_
  have hB2_ := Base.step hB_ hE hO
  exact hK_ v_ w2 ⟨O_, hB2_, (k0_.trans (KX.keep (KX.ext hE) (by decide))), fun h_ => zC (d := some 49) (t := 46) (φ := fun u_ => PtrZ (rSl (rInt .i64)) O_ w2 u_ x_0.Sights) ((PtrZ.keep (m4_ (zD rfl h_)) (KX.keep (KX.ext hE) (by decide)) (by decide) (fun _ => rfl))) (by decide), fun h_ => zC (d := some 49) (t := 47) (φ := fun u_ => (rSl (rInt .i64)).v O_ w2 u_ x_0.Sights) ((GR.zI _ (m5_ (zD rfl h_)) (KX.keep (KX.ext hE) (by decide)))) (by decide), fun h_ => zC (d := some 49) (t := 48) (φ := fun u_ => PtrZ (rSl (rInt .i64)) O_ w2 u_ x_0.Sights) ((PtrZ.keep (m6_ (zD rfl h_)) (KX.keep (KX.ext hE) (by decide)) (by decide) (fun _ => rfl))) (by decide), fun _ => va (φ := fun u_ => (rSl (rInt .i64)).v O_ w2 u_ x_0.Sights) hA_ (by decide) hv_, fun h_ => zC (d := some 49) (t := 52) (φ := fun u_ => (rSl (rInt .i64)).v O_ w2 u_ x28) ((GR.zI _ (m10_ (zD rfl h_)) (KX.keep (KX.ext hE) (by decide)))) (by decide), fun h_ => zC (d := some 49) (t := 54) (φ := fun u_ => (rSl zF).v O_ w2 u_ x29) ((GR.zI _ (m12_ (zD rfl h_)) (KX.keep (KX.ext hE) (by decide)))) (by decide), fun h_ => zC (d := some 49) (t := 5) (φ := fun u_ => (rSl zF).v O_ w2 u_ x29) ((GR.zI _ (m15_ (zD rfl h_)) (KX.keep (KX.ext hE) (by decide)))) (by decide), fun hp_ hq_ => zC (d := some 49) (t := 45) (φ := fun u_ => OwnL 2 zB 33 (Fr w0) O_ w2 (u_) x27) (OwnL.kx (v0_0_ (zD rfl hp_) (zP hq_)) (KX.ext hE) (by decide) (by decide)) (by decide), fun hp_ => zC (d := some 49) (t := 4) (φ := fun u_ => OwnL 2 zB 33 (Fr w0) O_ w2 (u_) x27) (OwnL.kx (v0_1_ (zD rfl hp_)) (KX.ext hE) (by decide) (by decide)) (by decide)⟩ trivial
 case z8_8 =>
  intro S_ a' w' hA_ hJ_ hS_ hafter_ hbef_ hK hg K_ Q_ hK_
  have hJ2_ := hJ_; rw [eJ_] at hJ2_; obtain ⟨O_, hB_, k0_, m4_, m5_, m6_, m7_, m10_, m12_, m15_, v0_0_, v0_1_⟩ := hJ2_
  refine x_ok (φ := SP.isv (.int .i64 (x_0.Sights.length : Int))) (by exact zw (r := (rInt .i64)) ty23 rfl (rd_of (m7_ (zD rfl (hbef_ 7 (by kernel_rfl)))))) fun v_ w2 hE hv_ => hK_ v_ w2 (T_ rfl rfl rfl rfl rfl rfl rfl rfl rfl (by decide) (by decide) (by decide) (by decide) (by decide) (by decide) (by decide) (by decide) (by decide) hE hJ_) hv_
 case z8_9 =>
  intro S_ a' w' hA_ hJ_ hS_ hafter_ hbef_ hK hg K_ Q_ hK_
  refine x_ok (φ := SP.isv (.int .i64 (min (x_0.Sights.length : Int) 30))) (by exact ok_min (ks 8 hK 50 rfl) rfl) fun v_ w2 hE hv_ => hK_ v_ w2 (T_ rfl rfl rfl rfl rfl rfl rfl rfl rfl (by decide) (by decide) (by decide) (by decide) (by decide) (by decide) (by decide) (by decide) (by decide) hE hJ_) hv_
 case z8_10 =>
  intro S_ a' w' hA_ hJ_ hS_ hafter_ hbef_ hK hg K_ Q_ hK_
  subst eJ_
  obtain ⟨O_, hB_, k0_, m4_, m5_, m6_, m7_, m10_, m12_, m15_, v0_0_, v0_1_⟩ := hJ_
  refine x_ok (φ := SP.vl (rSl (rInt .i64)) O_ x28) (by exact okl_slice_h (r := (rInt .i64)) ty23 ty3 rfl rfl (m5_ (zD rfl (hbef_ 5 (by kernel_rfl)))) (ks 9 hK 51 rfl) hx28) fun v_ w2 hE hv_ => ?_
  have hB2_ := Base.step hB_ hE hO
  exact hK_ v_ w2 ⟨O_, hB2_, (k0_.trans (KX.keep (KX.ext hE) (by decide))), fun h_ => zC (d := some 52) (t := 46) (φ := fun u_ => PtrZ (rSl (rInt .i64)) O_ w2 u_ x_0.Sights) ((PtrZ.keep (m4_ (zD rfl h_)) (KX.keep (KX.ext hE) (by decide)) (by decide) (fun _ => rfl))) (by decide), fun h_ => zC (d := some 52) (t := 47) (φ := fun u_ => (rSl (rInt .i64)).v O_ w2 u_ x_0.Sights) ((GR.zI _ (m5_ (zD rfl h_)) (KX.keep (KX.ext hE) (by decide)))) (by decide), fun h_ => zC (d := some 52) (t := 48) (φ := fun u_ => PtrZ (rSl (rInt .i64)) O_ w2 u_ x_0.Sights) ((PtrZ.keep (m6_ (zD rfl h_)) (KX.keep (KX.ext hE) (by decide)) (by decide) (fun _ => rfl))) (by decide), fun h_ => zC (d := some 52) (t := 49) (φ := fun u_ => (rSl (rInt .i64)).v O_ w2 u_ x_0.Sights) ((GR.zI _ (m7_ (zD rfl h_)) (KX.keep (KX.ext hE) (by decide)))) (by decide), fun _ => va (φ := fun u_ => (rSl (rInt .i64)).v O_ w2 u_ x28) hA_ (by decide) hv_, fun h_ => zC (d := some 52) (t := 54) (φ := fun u_ => (rSl zF).v O_ w2 u_ x29) ((GR.zI _ (m12_ (zD rfl h_)) (KX.keep (KX.ext hE) (by decide)))) (by decide), fun h_ => zC (d := some 52) (t := 5) (φ := fun u_ => (rSl zF).v O_ w2 u_ x29) ((GR.zI _ (m15_ (zD rfl h_)) (KX.keep (KX.ext hE) (by decide)))) (by decide), fun hp_ hq_ => zC (d := some 52) (t := 45) (φ := fun u_ => OwnL 2 zB 33 (Fr w0) O_ w2 (u_) x27) (OwnL.kx (v0_0_ (zD rfl hp_) (zP hq_)) (KX.ext hE) (by decide) (by decide)) (by decide), fun hp_ => zC (d := some 52) (t := 4) (φ := fun u_ => OwnL 2 zB 33 (Fr w0) O_ w2 (u_) x27) (OwnL.kx (v0_1_ (zD rfl hp_)) (KX.ext hE) (by decide) (by decide)) (by decide)⟩ trivial
 case z8_11 =>
  intro S_ a' w' hA_ hJ_ hS_ hafter_ hbef_ hK hg K_ Q_ hK_
  refine x_ok (φ := SP.isv (.int .i64 x3)) (by exact zJ (kq hK q7)) fun v_ w2 hE hv_ => hK_ v_ w2 (T_ rfl rfl rfl rfl rfl rfl rfl rfl rfl (by decide) (by decide) (by decide) (by decide) (by decide) (by decide) (by decide) (by decide) (by decide) hE hJ_) hv_
 case z8_12 =>
  intro S_ a' w' hA_ hJ_ hS_ hafter_ hbef_ hK hg K_ Q_ hK_
  subst eJ_
  obtain ⟨O_, hB_, k0_, m4_, m5_, m6_, m7_, m10_, m12_, m15_, v0_0_, v0_1_⟩ := hJ_
  refine x_ok (φ := SP.vl (rSl zF) O_ x29) (by have c_ := ok_colletref43_Sights hB_.ok (m10_ (zD rfl (hbef_ 10 (by kernel_rfl)))) hx29; exact yE (yV fn37 rfl (ks 11 hK 53 rfl) c_) (fun _ _ _ h => (OwnR.val h (fun g hg => hB_.ok g (OwnR.ge h g hg).1)))) fun v_ w2 hE hv_ => ?_
  have hB2_ := Base.step hB_ hE hO
  exact hK_ v_ w2 ⟨O_, hB2_, (k0_.trans (KX.keep (KX.ext hE) (by decide))), fun h_ => zC (d := some 54) (t := 46) (φ := fun u_ => PtrZ (rSl (rInt .i64)) O_ w2 u_ x_0.Sights) ((PtrZ.keep (m4_ (zD rfl h_)) (KX.keep (KX.ext hE) (by decide)) (by decide) (fun _ => rfl))) (by decide), fun h_ => zC (d := some 54) (t := 47) (φ := fun u_ => (rSl (rInt .i64)).v O_ w2 u_ x_0.Sights) ((GR.zI _ (m5_ (zD rfl h_)) (KX.keep (KX.ext hE) (by decide)))) (by decide), fun h_ => zC (d := some 54) (t := 48) (φ := fun u_ => PtrZ (rSl (rInt .i64)) O_ w2 u_ x_0.Sights) ((PtrZ.keep (m6_ (zD rfl h_)) (KX.keep (KX.ext hE) (by decide)) (by decide) (fun _ => rfl))) (by decide), fun h_ => zC (d := some 54) (t := 49) (φ := fun u_ => (rSl (rInt .i64)).v O_ w2 u_ x_0.Sights) ((GR.zI _ (m7_ (zD rfl h_)) (KX.keep (KX.ext hE) (by decide)))) (by decide), fun h_ => zC (d := some 54) (t := 52) (φ := fun u_ => (rSl (rInt .i64)).v O_ w2 u_ x28) ((GR.zI _ (m10_ (zD rfl h_)) (KX.keep (KX.ext hE) (by decide)))) (by decide), fun _ => va (φ := fun u_ => (rSl zF).v O_ w2 u_ x29) hA_ (by decide) hv_, fun h_ => zC (d := some 54) (t := 5) (φ := fun u_ => (rSl zF).v O_ w2 u_ x29) ((GR.zI _ (m15_ (zD rfl h_)) (KX.keep (KX.ext hE) (by decide)))) (by decide), fun hp_ hq_ => zC (d := some 54) (t := 45) (φ := fun u_ => OwnL 2 zB 33 (Fr w0) O_ w2 (u_) x27) (OwnL.kx (v0_0_ (zD rfl hp_) (zP hq_)) (KX.ext hE) (by decide) (by decide)) (by decide), fun hp_ => zC (d := some 54) (t := 4) (φ := fun u_ => OwnL 2 zB 33 (Fr w0) O_ w2 (u_) x27) (OwnL.kx (v0_1_ (zD rfl hp_)) (KX.ext hE) (by decide) (by decide)) (by decide)⟩ trivial
 case z8_13 =>
  intro S_ a' w' hA_ hJ_ hS_ hafter_ hbef_ hK hg K_ Q_ hK_
  refine x_ok (φ := SP.isv (.int .i64 x3)) (by exact zJ (kq hK q7)) fun v_ w2 hE hv_ => hK_ v_ w2 (T_ rfl rfl rfl rfl rfl rfl rfl rfl rfl (by decide) (by decide) (by decide) (by decide) (by decide) (by decide) (by decide) (by decide) (by decide) hE hJ_) hv_
 case z8_14 =>
  intro S_ a' w' hA_ hJ_ hS_ hafter_ hbef_ hK hg K_ Q_ hK_
  subst eJ_
  obtain ⟨O_, hB_, k0_, m4_, m5_, m6_, m7_, m10_, m12_, m15_, v0_0_, v0_1_⟩ := hJ_
  refine x_ok (φ := SP.isv (a'.get 45)) (zE rfl) fun v_ w2 hE hv_ => ?_
  replace hv_ : v_ = a'.get 45 := hv_
  have hB2_ := Base.step hB_ hE hO
  exact hK_ v_ w2 ⟨O_, hB2_, (k0_.trans (KX.keep (KX.ext hE) (by decide))), fun h_ => zC (d := some 4) (t := 46) (φ := fun u_ => PtrZ (rSl (rInt .i64)) O_ w2 u_ x_0.Sights) ((PtrZ.keep (m4_ (zD rfl h_)) (KX.keep (KX.ext hE) (by decide)) (by decide) (fun _ => rfl))) (by decide), fun h_ => zC (d := some 4) (t := 47) (φ := fun u_ => (rSl (rInt .i64)).v O_ w2 u_ x_0.Sights) ((GR.zI _ (m5_ (zD rfl h_)) (KX.keep (KX.ext hE) (by decide)))) (by decide), fun h_ => zC (d := some 4) (t := 48) (φ := fun u_ => PtrZ (rSl (rInt .i64)) O_ w2 u_ x_0.Sights) ((PtrZ.keep (m6_ (zD rfl h_)) (KX.keep (KX.ext hE) (by decide)) (by decide) (fun _ => rfl))) (by decide), fun h_ => zC (d := some 4) (t := 49) (φ := fun u_ => (rSl (rInt .i64)).v O_ w2 u_ x_0.Sights) ((GR.zI _ (m7_ (zD rfl h_)) (KX.keep (KX.ext hE) (by decide)))) (by decide), fun h_ => zC (d := some 4) (t := 52) (φ := fun u_ => (rSl (rInt .i64)).v O_ w2 u_ x28) ((GR.zI _ (m10_ (zD rfl h_)) (KX.keep (KX.ext hE) (by decide)))) (by decide), fun h_ => zC (d := some 4) (t := 54) (φ := fun u_ => (rSl zF).v O_ w2 u_ x29) ((GR.zI _ (m12_ (zD rfl h_)) (KX.keep (KX.ext hE) (by decide)))) (by decide), fun h_ => zC (d := some 4) (t := 5) (φ := fun u_ => (rSl zF).v O_ w2 u_ x29) ((GR.zI _ (m15_ (zD rfl h_)) (KX.keep (KX.ext hE) (by decide)))) (by decide), fun hp_ hq_ => jk hq_, fun hp_ => va (φ := fun u_ => OwnL 2 zB 33 (Fr w0) O_ w2 (u_) x27) hA_ (by decide) (by rw [hv_]; exact OwnL.ext (v0_0_ (zD rfl (hbef_ 3 (by kernel_rfl))) hS_) hE)⟩ trivial
 case z8_15 =>
  intro S_ a' w' hA_ hJ_ hS_ hafter_ hbef_ hK hg K_ Q_ hK_
  subst eJ_
  obtain ⟨O_, hB_, k0_, m4_, m5_, m6_, m7_, m10_, m12_, m15_, v0_0_, v0_1_⟩ := hJ_
  refine x_ok (φ := SP.isv (a'.get 54)) (zE rfl) fun v_ w2 hE hv_ => ?_
  replace hv_ : v_ = a'.get 54 := hv_
  have hB2_ := Base.step hB_ hE hO
  exact hK_ v_ w2 ⟨O_, hB2_, (k0_.trans (KX.keep (KX.ext hE) (by decide))), fun h_ => zC (d := some 5) (t := 46) (φ := fun u_ => PtrZ (rSl (rInt .i64)) O_ w2 u_ x_0.Sights) ((PtrZ.keep (m4_ (zD rfl h_)) (KX.keep (KX.ext hE) (by decide)) (by decide) (fun _ => rfl))) (by decide), fun h_ => zC (d := some 5) (t := 47) (φ := fun u_ => (rSl (rInt .i64)).v O_ w2 u_ x_0.Sights) ((GR.zI _ (m5_ (zD rfl h_)) (KX.keep (KX.ext hE) (by decide)))) (by decide), fun h_ => zC (d := some 5) (t := 48) (φ := fun u_ => PtrZ (rSl (rInt .i64)) O_ w2 u_ x_0.Sights) ((PtrZ.keep (m6_ (zD rfl h_)) (KX.keep (KX.ext hE) (by decide)) (by decide) (fun _ => rfl))) (by decide), fun h_ => zC (d := some 5) (t := 49) (φ := fun u_ => (rSl (rInt .i64)).v O_ w2 u_ x_0.Sights) ((GR.zI _ (m7_ (zD rfl h_)) (KX.keep (KX.ext hE) (by decide)))) (by decide), fun h_ => zC (d := some 5) (t := 52) (φ := fun u_ => (rSl (rInt .i64)).v O_ w2 u_ x28) ((GR.zI _ (m10_ (zD rfl h_)) (KX.keep (KX.ext hE) (by decide)))) (by decide), fun h_ => zC (d := some 5) (t := 54) (φ := fun u_ => (rSl zF).v O_ w2 u_ x29) ((GR.zI _ (m12_ (zD rfl h_)) (KX.keep (KX.ext hE) (by decide)))) (by decide), fun _ => va (φ := fun u_ => (rSl zF).v O_ w2 u_ x29) hA_ (by decide) (by rw [hv_]; exact (GR.zI _ (m12_ (zD rfl (hbef_ 12 (by kernel_rfl)))) (KX.keep (KX.ext hE) (by decide)))), fun hp_ hq_ => zC (d := some 5) (t := 45) (φ := fun u_ => OwnL 2 zB 33 (Fr w0) O_ w2 (u_) x27) (OwnL.kx (v0_0_ (zD rfl hp_) (zP hq_)) (KX.ext hE) (by decide) (by decide)) (by decide), fun hp_ => zC (d := some 5) (t := 4) (φ := fun u_ => OwnL 2 zB 33 (Fr w0) O_ w2 (u_) x27) (OwnL.kx (v0_1_ (zD rfl hp_)) (KX.ext hE) (by decide) (by decide)) (by decide)⟩ trivial
 case z8_16 =>
  intro S_ a' w' hA_ hJ_ hS_ hafter_ hbef_ hK hg K_ Q_ hK_
  refine x_ok (φ := SP.isv (.int .i64 x3)) (by exact zE (ks 13 hK 55 rfl)) fun v_ w2 hE hv_ => hK_ v_ w2 (T_ rfl rfl rfl rfl rfl rfl rfl rfl rfl (by decide) (by decide) (by decide) (by decide) (by decide) (by decide) (by decide) (by decide) (by decide) hE hJ_) hv_
 case zsk8 =>
  subst eJ_
  intro i_ o_ S_ a_ w_ ho_ hact_ hA_ hS_ hbef_ hJ_
  obtain ⟨O_, hB_, k0_, m4_, m5_, m6_, m7_, m10_, m12_, m15_, v0_0_, v0_1_⟩ := hJ_
  exact ⟨O_, hB_, k0_, fun h_ => by obtain ⟨h1_, h2_⟩ := zj (j := 4) hact_ rfl h_; exact zC (t := 46) (φ := fun u_ => PtrZ (rSl (rInt .i64)) O_ w_ u_ x_0.Sights) (m4_ h1_) (zb (j := 4) (by kernel_rfl) ho_ h2_), fun h_ => by obtain ⟨h1_, h2_⟩ := zj (j := 5) hact_ rfl h_; exact zC (t := 47) (φ := fun u_ => (rSl (rInt .i64)).v O_ w_ u_ x_0.Sights) (m5_ h1_) (zb (j := 5) (by kernel_rfl) ho_ h2_), fun h_ => by obtain ⟨h1_, h2_⟩ := zj (j := 6) hact_ rfl h_; exact zC (t := 48) (φ := fun u_ => PtrZ (rSl (rInt .i64)) O_ w_ u_ x_0.Sights) (m6_ h1_) (zb (j := 6) (by kernel_rfl) ho_ h2_), fun h_ => by obtain ⟨h1_, h2_⟩ := zj (j := 7) hact_ rfl h_; exact zC (t := 49) (φ := fun u_ => (rSl (rInt .i64)).v O_ w_ u_ x_0.Sights) (m7_ h1_) (zb (j := 7) (by kernel_rfl) ho_ h2_), fun h_ => by obtain ⟨h1_, h2_⟩ := zj (j := 10) hact_ rfl h_; exact zC (t := 52) (φ := fun u_ => (rSl (rInt .i64)).v O_ w_ u_ x28) (m10_ h1_) (zb (j := 10) (by kernel_rfl) ho_ h2_), fun h_ => by obtain ⟨h1_, h2_⟩ := zj (j := 12) hact_ rfl h_; exact zC (t := 54) (φ := fun u_ => (rSl zF).v O_ w_ u_ x29) (m12_ h1_) (zb (j := 12) (by kernel_rfl) ho_ h2_), fun h_ => by obtain ⟨h1_, h2_⟩ := zj (j := 15) hact_ rfl h_; exact zC (t := 5) (φ := fun u_ => (rSl zF).v O_ w_ u_ x29) (m15_ h1_) (zb (j := 15) (by kernel_rfl) ho_ h2_), fun hp_ hq_ => by obtain ⟨h1_, h2_⟩ := zj (j := 3) hact_ rfl hp_; exact zC (t := 45) (φ := fun u_ => OwnL 2 zB 33 (Fr w0) O_ w_ (u_) x27) (v0_0_ h1_ (zP hq_)) (zb (j := 3) (by kernel_rfl) ho_ h2_), fun hp_ => by obtain ⟨h1_, h2_⟩ := zj (j := 14) hact_ rfl hp_; exact zC (t := 4) (φ := fun u_ => OwnL 2 zB 33 (Fr w0) O_ w_ (u_) x27) (v0_1_ h1_) (zb (j := 14) (by kernel_rfl) ho_ h2_)⟩
 case zst8 => subst eJ_; exact fun w1_ hE_ => ⟨O26, (Base.step hB hE_ hO), (Keep.ext hE_), fun h_ => no_ft h_, fun h_ => no_ft h_, fun h_ => no_ft h_, fun h_ => no_ft h_, fun h_ => no_ft h_, fun h_ => no_ft h_, fun h_ => no_ft h_, fun hp_ => no_ft hp_, fun hp_ => no_ft hp_⟩
 case zok8 | zgd8 => kernel_rfl
 subst eJ_; clear T_
 intro a14 w14 hA HF hJ_
 obtain ⟨O30, hB_, k0_, m4_, m5_, m6_, m7_, m10_, m12_, m15_, v0_0_, v0_1_⟩ := hJ_
 have f32 := (v0_1_ rfl)
 obtain ⟨u31, q4'⟩ : ∃ u, a14.get 4 = u := ⟨_, rfl⟩
 rw [q4'] at f32
 have q4 := q4'; clear q4'
 have f34 := m15_ rfl
 obtain ⟨u33, q5'⟩ : ∃ u, a14.get 5 = u := ⟨_, rfl⟩
 rw [q5'] at f34
 have q5 := q5'; clear q5'
 have q6' := ksv (j := 16) (HF 6) rfl rfl rfl
 have q6 := q6'; clear q6'
 clear q1; clear q2; clear q7; clear q8; clear HF
 replace f2 := GR.zI _ f2 k0_
 replace f23 := GR.zI _ f23 k0_
 clear hB; have hB := hB_; clear hB_; clear k0_ m4_ m5_ m6_ m7_ m10_ m12_ m15_ v0_0_ v0_1_; refine zA (wp_ret ?_)
 have h := Comp.run_pure h; subst h
 exact retPure3 Try.results9 hA q4 q5 q6 hB.ext ⟨_, _, _, rfl, (OwnL.res f32 (by decide) hB.zero), (hB.res (rSl zF) f34), rfl⟩
end Go.Proofs.Ytebmpjdegajhgaa
end
section
namespace Go.Proofs.Ytebmpjdegajhgaa
open Go Go.RowKit Go.Eng Go.Lift Go.F
set_option linter.unusedVariables false
set_option linter.unusedSimpArgs false
set_option maxRecDepth 100000
set_option maxHeartbeats 4000000 in
theorem ok_colletlaw43_CourtMore {O : Tags} {w0 : World} (hO : OkO O w0) {v_0 : Value} {x_0 : colletlaw43_Case} (h_0 : zS.v O w0 v_0 x_0) {x_1 : Vector Int 2} {x_2 : Bool} {x_3 : Int} {x_4 : Int} {n : Nat} {y : Bool} (h : (gZ x_0 x_1 x_2 x_3 x_4).run n = some y) : Pure Try.prog 7 #[v_0, .agg (gg (fun x => [.int .u8 x]) x_1).toArray, .bool x_2, .int .u8 x_3, .int .u8 x_4] w0 (SP.isv (.bool y)).holds := by
 unfold gZ at h
 refine zU Try.func7 rfl 243 Try.ntmps7 (by simp) fun a0 hA hs0 => ?_
 have q0 : a0.get 0 = v_0 := hs0 0 _ rfl
 have q1 : a0.get 1 = .agg (gg (fun x => [.int .u8 x]) x_1).toArray := hs0 1 _ rfl
 have q2 : a0.get 2 = .bool x_2 := hs0 2 _ rfl
 have q3 : a0.get 3 = .int .u8 x_3 := hs0 3 _ rfl
 have q4 : a0.get 4 = .int .u8 x_4 := hs0 4 _ rfl
 clear hs0
 have hB : Base (Fr w0) O w0 O w0 := Base.start hO
 refine wp_seq ?_
 refine' rb [SP.vl (rBox zS) O x_0, SP.vl (rBox (rVec 2 1 (fun x => [.int .u8 x]) (fun _ => rfl) (fun _ => by simp [Value.oneCell']))) O x_1, _] mixed hA hB hO (cn (fun hE hK => kC (r := zS) zy (OkO.ext hB.ok hE) (kq hK q0) (vx h_0 hE)) (.cons ?z1_1 (cn (fun hE hK => zE rfl) .nil))) ?zk1
 case z1_1 => intro a' w' hE hK hg; exact kC (r := (rVec 2 1 (fun x => [.int .u8 x]) (fun _ => rfl) (fun _ => by simp [Value.oneCell']))) (by intro h; cases h) (OkO.ext hB.ok hE) (kq hK q1) (by first | exact (rC_v (x := x_1)).2 rfl | exact ⟨_, rfl, rfl⟩)
 intro a1 w1 hA hE hB HF; refine kr3 HF q2 q3 q4 ?_; clear q2 q3 q4; intro q2 q3 q4; obtain ⟨u1, q5, f2⟩ := kx (HF 5) rfl rfl rfl; obtain ⟨u3, q6, f4⟩ := kx (HF 6) rfl rfl rfl; clear q0 q1 HF; replace h_0 := vx h_0 hE; clear hE; refine zG (zA (wp_seq ?_)); obtain ⟨x5, hx5, h⟩ := Comp.run_bind h
 refine' rb [SP.isv (.bool x5), _] mixed hA hB hO (cn (fun hE hK => jp fn8  (ok_colletlaw43_sanity (OkO.ext hB.ok hE)  hx5)) (cn (fun hE hK => zE (ks 0 hK 41 rfl)) .nil)) ?zk2
 intro a2 w2 hA hE hB HF; refine kr5 HF q2 q3 q4 q5 q6 ?_; clear q2 q3 q4 q5 q6; intro q2 q3 q4 q5 q6; have q11 := ksv (HF 11) rfl rfl rfl; clear HF; replace f2 := vx f2 hE; replace f4 := vx f4 hE; clear hE; refine zG (zA (wp_seq ?_)); obtain ⟨x6, hx6, h⟩ := Comp.run_bind h
 refine' rb [SP.vl zS O x_0, SP.tup3 (SP.vl (rSl zB) O x6.1) (SP.vl (rSl zF) O x6.2.1) (SP.isv (.int .i64 x6.2.2)), SP.tup3 (SP.vl (rSl zB) O x6.1) (SP.vl (rSl zF) O x6.2.1) (SP.isv (.int .i64 x6.2.2)), SP.vl (rSl zB) O x6.1, SP.vl (rSl zF) O x6.2.1, SP.isv (.int .i64 x6.2.2), SP.vl (rSl zB) O x6.1, SP.vl (rSl zF) O x6.2.1, _] mixed hA hB hO (cn (fun hE hK => vO (r := zS) zy ty25 rfl rfl (kn (hK 5 rfl) rfl q5) (yM zy (vx f2 hE))) (.cons (fun _ _ hE hK hg => yE (yV fn9 rfl rfl (ok_colletlaw43_Case_made (OkO.ext hB.ok hE) (kp (SP.vl zS O x_0) 0 hK 43 rfl) hx6)) (fun _ _ _ ⟨a_, b_, d_, e0_, h0_, h1_, h2_⟩ => ⟨a_, b_, d_, e0_, (fun h => (OwnR.val h (fun g hg => (OkO.ext hB.ok hE) g (OwnR.ge h g hg).1))) h0_, h1_, h2_⟩)) (cn (fun hE hK => vo (φ := SP.tup3 (SP.vl (rSl zB) O x6.1) (SP.vl (rSl zF) O x6.2.1) (SP.isv (.int .i64 x6.2.2))) (kp _ 1 hK 44 rfl)) (cn (fun hE hK => okl_ext3_0 (kp (SP.tup3 (SP.vl (rSl zB) O x6.1) (SP.vl (rSl zF) O x6.2.1) (SP.isv (.int .i64 x6.2.2))) 2 hK 42 rfl)) (cn (fun hE hK => okl_ext3_1 (kp (SP.tup3 (SP.vl (rSl zB) O x6.1) (SP.vl (rSl zF) O x6.2.1) (SP.isv (.int .i64 x6.2.2))) 2 hK 42 rfl)) (cn (fun hE hK => okl_ext3_2 (kp (SP.tup3 (SP.vl (rSl zB) O x6.1) (SP.vl (rSl zF) O x6.2.1) (SP.isv (.int .i64 x6.2.2))) 2 hK 42 rfl)) (cn (fun hE hK => yC (φ := SP.vl (rSl zB) O x6.1) (kp _ 3 hK 45 rfl)) (cn (fun hE hK => yC (φ := SP.vl (rSl zF) O x6.2.1) (kp _ 4 hK 46 rfl)) (cn (fun hE hK => zE (ks 5 hK 47 rfl)) .nil))))))))) ?zk3
 intro a3 w3 hA hE hB HF; refine kr5 HF q2 q3 q4 q6 q11 ?_; clear q2 q3 q4 q6 q11; intro q2 q3 q4 q6 q11; obtain ⟨u7, q12, f8⟩ := kx (HF 12) rfl rfl rfl; obtain ⟨u9, q13, f10⟩ := kx (HF 13) rfl rfl rfl; have q14 := ksv (HF 14) rfl rfl rfl; clear q5 HF; replace f2 := vx f2 hE; replace f4 := vx f4 hE; clear hE; refine zG (zA (wp_seq ?_))
 refine' rb [_, _, _, _] mixed hA hB hO (mv q3 (cn (fun hE hK => ok_convI ty5 ty3 (ks 0 hK 48 rfl)) (cn (fun hE hK => ok_rem (ks 1 hK 49 rfl) rfl (by decide)) (cn (fun hE hK => zE (ks 2 hK 50 rfl)) .nil)))) ?zk4
 intro a4 w4 hA hE hB HF; refine kr7 HF q2 q4 q6 q11 q12 q13 q14 ?_; clear q2 q4 q6 q11 q12 q13 q14; intro q2 q4 q6 q11 q12 q13 q14; have q15 := ksv (HF 15) rfl rfl rfl; clear q3 HF; replace f4 := vx f4 hE; replace f8 := vx f8 hE; replace f10 := vx f10 hE; clear hE; refine zG (zA (wp_seq ?_)); obtain ⟨x11, hx11, h⟩ := Comp.run_bind h
 refine' rb [_, _, _, SP.tup2 (SP.vl (rSl (rInt .i64)) O x11.1) (SP.isv (.int .i64 x11.2)), SP.tup2 (SP.vl (rSl (rInt .i64)) O x11.1) (SP.isv (.int .i64 x11.2)), SP.vl (rSl (rInt .i64)) O x11.1, SP.isv (.int .i64 x11.2), SP.vl (rSl (rInt .i64)) O x11.1, _] mixed hA hB hO (mv q12 (mv q13 (mv q14 (.cons (fun _ _ hE hK hg => yE (vY fn22 (ks 0 hK 52 rfl) (ks 1 hK 53 rfl) (ks 2 hK 54 rfl) (jK (OkO.ext hB.ok hE) (vx f8 hE) (vx f10 hE) hx11)) (fun _ _ _ ⟨a_, b_, e0_, h0_, h1_⟩ => ⟨a_, b_, e0_, (fun h => (OwnR.val h (fun g hg => (OkO.ext hB.ok hE) g (OwnR.ge h g hg).1))) h0_, h1_⟩)) (cn (fun hE hK => vo (φ := SP.tup2 (SP.vl (rSl (rInt .i64)) O x11.1) (SP.isv (.int .i64 x11.2))) (kp _ 3 hK 55 rfl)) (cn (fun hE hK => jC (kp (SP.tup2 (SP.vl (rSl (rInt .i64)) O x11.1) (SP.isv (.int .i64 x11.2))) 4 hK 51 rfl)) (cn (fun hE hK => jB (kp (SP.tup2 (SP.vl (rSl (rInt .i64)) O x11.1) (SP.isv (.int .i64 x11.2))) 4 hK 51 rfl)) (cn (fun hE hK => yC (φ := SP.vl (rSl (rInt .i64)) O x11.1) (kp _ 5 hK 56 rfl)) (cn (fun hE hK => zE (ks 6 hK 57 rfl)) .nil))))))))) ?zk5
 intro a5 w5 hA hE hB HF; refine kr8 HF q2 q4 q6 q11 q12 q13 q14 q15 ?_; clear q2 q4 q6 q11 q12 q13 q14 q15; intro q2 q4 q6 q11 q12 q13 q14 q15; obtain ⟨u12, q16, f13⟩ := kx (HF 16) rfl rfl rfl; have q17 := ksv (HF 17) rfl rfl rfl; clear HF; replace f4 := vx f4 hE; replace f8 := vx f8 hE; replace f10 := vx f10 hE; clear hE; refine zG (zA (wp_seq ?_)); obtain ⟨x14, hx14, h⟩ := Comp.run_bind h; obtain ⟨x15, hx15, h⟩ := Comp.run_bind h; obtain ⟨x16, hx16, h⟩ := Comp.run_bind h; obtain ⟨x17, hx17, h⟩ := Comp.run_bind h; obtain ⟨x18, hx18, h⟩ := Comp.run_bind h; obtain ⟨x19, hx19, h⟩ := Comp.run_bind h
 obtain ⟨J_, eJ_⟩ : ∃ J_ : (Nat → Bool) → Act → World → Prop, J_ = (fun S_ a_ w_ => ∃ O_ : Tags, Base (Fr w0) O w0 O_ w_ ∧ Keep 0 O w5 O_ w_ ∧ (S_ 4 = true → PtrZ (rInt .u8) O_ w_ (a_.get 63) x15) ∧ (S_ 8 = true → PtrZ (rInt .u8) O_ w_ (a_.get 67) x16) ∧ (S_ 15 = true → (rSl zF).v O_ w_ (a_.get 74) [(api_Sight.mk (Int.tmod (IntKind.wrap .i64 x15) 3) x17 x_2)]) ∧ (S_ 16 = true → (rSl zF).v O_ w_ (a_.get 75) x18) ∧ (S_ 18 = true → ∃ e0_ e1_ : Value, a_.get 77 = .tuple #[e0_, e1_] ∧ (rSl (rInt .i64)).v O_ w_ e0_ x19.1 ∧ e1_ = .int .i64 x19.2) ∧ (S_ 19 = true → ∃ e0_ e1_ : Value, a_.get 58 = .tuple #[e0_, e1_] ∧ (rSl (rInt .i64)).v O_ w_ e0_ x19.1 ∧ e1_ = .int .i64 x19.2) ∧ (S_ 20 = true → (rSl (rInt .i64)).v O_ w_ (a_.get 78) x19.1) ∧ (S_ 22 = true → (rSl (rInt .i64)).v O_ w_ (a_.get 18) x19.1) ∧ (S_ 1 = true → S_ 3 = false → OwnL 1 zF 64 (Fr w0) O_ w_ (a_.get 60) []) ∧ (S_ 3 = true → S_ 16 = false → OwnL 1 zF 64 (Fr w0) O_ w_ (a_.get 62) x14) ∧ (S_ 16 = true → OwnL 1 zF 64 (Fr w0) O_ w_ (.slice none 0 0) [])) := ⟨_, rfl⟩
 have T_ : ∀ {i_ : Nat} {d_ : Option Tmp} {v_ : Value} {S_ a' w' w2}, Nat.beq 1 i_ = false → Nat.beq 3 i_ = false → Nat.beq 4 i_ = false → Nat.beq 8 i_ = false → Nat.beq 15 i_ = false → Nat.beq 16 i_ = false → Nat.beq 18 i_ = false → Nat.beq 19 i_ = false → Nat.beq 20 i_ = false → Nat.beq 22 i_ = false → d_ ≠ some 18 → d_ ≠ some 58 → d_ ≠ some 60 → d_ ≠ some 62 → d_ ≠ some 63 → d_ ≠ some 67 → d_ ≠ some 74 → d_ ≠ some 75 → d_ ≠ some 77 → d_ ≠ some 78 → Ext w' w2 → J_ S_ a' w' → J_ (addS S_ i_) (a'.put d_ v_) w2 := by
  subst eJ_; intro i_ d_ v_ S_ a' w' w2 n1_ n3_ n4_ n8_ n15_ n16_ n18_ n19_ n20_ n22_ s18_ s58_ s60_ s62_ s63_ s67_ s74_ s75_ s77_ s78_ hE hJ_
  obtain ⟨O_, hB_, k0_, m4_, m8_, m15_, m16_, m18_, m19_, m20_, m22_, v0_0_, v0_1_, v0_2_⟩ := hJ_
  exact ⟨O_, (Base.step hB_ hE hO), (k0_.trans (KX.keep (KX.ext hE) (by decide))), fun h_ => zC (d := d_) (t := 63) (φ := fun u_ => PtrZ (rInt .u8) O_ w2 u_ x15) ((PtrZ.keep (m4_ (zD n4_ h_)) (KX.keep (KX.ext hE) (by decide)) (by decide) (fun _ => rfl))) s63_, fun h_ => zC (d := d_) (t := 67) (φ := fun u_ => PtrZ (rInt .u8) O_ w2 u_ x16) ((PtrZ.keep (m8_ (zD n8_ h_)) (KX.keep (KX.ext hE) (by decide)) (by decide) (fun _ => rfl))) s67_, fun h_ => zC (d := d_) (t := 74) (φ := fun u_ => (rSl zF).v O_ w2 u_ [(api_Sight.mk (Int.tmod (IntKind.wrap .i64 x15) 3) x17 x_2)]) ((GR.zI _ (m15_ (zD n15_ h_)) (KX.keep (KX.ext hE) (by decide)))) s74_, fun h_ => zC (d := d_) (t := 75) (φ := fun u_ => (rSl zF).v O_ w2 u_ x18) ((GR.zI _ (m16_ (zD n16_ h_)) (KX.keep (KX.ext hE) (by decide)))) s75_, fun h_ => zC (d := d_) (t := 77) (φ := fun u_ => ∃ e0_ e1_ : Value, u_ = .tuple #[e0_, e1_] ∧ (rSl (rInt .i64)).v O_ w2 e0_ x19.1 ∧ e1_ = .int .i64 x19.2) ((by obtain ⟨e0_, e1_, e_, h0_, h1_⟩ := (m18_ (zD n18_ h_)); exact ⟨e0_, e1_, e_, GR.zI _ h0_ (KX.keep (KX.ext hE) (by decide)), h1_⟩)) s77_, fun h_ => zC (d := d_) (t := 58) (φ := fun u_ => ∃ e0_ e1_ : Value, u_ = .tuple #[e0_, e1_] ∧ (rSl (rInt .i64)).v O_ w2 e0_ x19.1 ∧ e1_ = .int .i64 x19.2) ((by obtain ⟨e0_, e1_, e_, h0_, h1_⟩ := (m19_ (zD n19_ h_)); exact ⟨e0_, e1_, e_, GR.zI _ h0_ (KX.keep (KX.ext hE) (by decide)), h1_⟩)) s58_, fun h_ => zC (d := d_) (t := 78) (φ := fun u_ => (rSl (rInt .i64)).v O_ w2 u_ x19.1) ((GR.zI _ (m20_ (zD n20_ h_)) (KX.keep (KX.ext hE) (by decide)))) s78_, fun h_ => zC (d := d_) (t := 18) (φ := fun u_ => (rSl (rInt .i64)).v O_ w2 u_ x19.1) ((GR.zI _ (m22_ (zD n22_ h_)) (KX.keep (KX.ext hE) (by decide)))) s18_, fun hp_ hq_ => zC (d := d_) (t := 60) (φ := fun u_ => OwnL 1 zF 64 (Fr w0) O_ w2 (u_) []) (OwnL.kx (v0_0_ (zD n1_ hp_) (zP hq_)) (KX.ext hE) (by decide) (by decide)) s60_, fun hp_ hq_ => zC (d := d_) (t := 62) (φ := fun u_ => OwnL 1 zF 64 (Fr w0) O_ w2 (u_) x14) (OwnL.kx (v0_1_ (zD n3_ hp_) (zP hq_)) (KX.ext hE) (by decide) (by decide)) s62_, fun hp_ => OwnL.kx (v0_2_ (zD n16_ hp_)) (KX.ext hE) (by decide) (by decide)⟩
 refine' regionX (draw := true) J_ [SP.isv (u7), SP.tt, SP.isv (u9), SP.tt, SP.tt, SP.isv (.int .u8 x15), SP.isv (.int .i64 (IntKind.wrap .i64 x15)), SP.isv (.int .i64 (Int.tmod (IntKind.wrap .i64 x15) 3)), SP.tt, SP.isv (.int .u8 x16), SP.isv (.int .i64 (IntKind.wrap .i64 x16)), SP.isv (.int .i64 x6.2.2), SP.isv (.int .i64 x17), SP.isv (.bool x_2), SP.isv (.agg #[.int .i64 (Int.tmod (IntKind.wrap .i64 x15) 3), .int .i64 x17, .bool x_2]), SP.tt, SP.tt, SP.isv (.int .i64 x6.2.2), SP.tt, SP.tt, SP.tt, SP.isv (.int .i64 x19.2), SP.tt, SP.isv (.int .i64 x19.2)] mixed hA (.cons (zV _) (.cons (vK _) (.cons (zV _) (.cons (vK _) (.cons (vK _) (.cons (zV _) (.cons (zV _) (.cons (zV _) (.cons (vK _) (.cons (zV _) (.cons (zV _) (.cons (zV _) (.cons (zV _) (.cons (zV _) (.cons (zV _) (.cons (vK _) (.cons (vK _) (.cons (zV _) (.cons (vK _) (.cons (vK _) (.cons (vK _) (.cons (zV _) (.cons (vK _) (.cons (zV _) .nil)))))))))))))))))))))))) (.cons ?z6_0 (.cons ?z6_1 (.cons ?z6_2 (.cons ?z6_3 (.cons ?z6_4 (.cons ?z6_5 (.cons ?z6_6 (.cons ?z6_7 (.cons ?z6_8 (.cons ?z6_9 (.cons ?z6_10 (.cons ?z6_11 (.cons ?z6_12 (.cons ?z6_13 (.cons ?z6_14 (.cons ?z6_15 (.cons ?z6_16 (.cons ?z6_17 (.cons ?z6_18 (.cons ?z6_19 (.cons ?z6_20 (.cons ?z6_21 (.cons ?z6_22 (.cons ?z6_23 .nil)))))))))))))))))))))))) ?zsk6 ?zst6 ?zok6 ?zgd6 ?zk6
 case z6_0 =>
  intro S_ a' w' hA_ hJ_ hS_ hafter_ hbef_ hK hg K_ Q_ hK_
  refine x_ok (φ := SP.isv (u7)) (by exact zJ (kq hK q12)) fun v_ w2 hE hv_ => hK_ v_ w2 (T_ rfl rfl rfl rfl rfl rfl rfl rfl rfl rfl (by decide) (by decide) (by decide) (by decide) (by decide) (by decide) (by decide) (by decide) (by decide) (by decide) hE hJ_) hv_
 case z6_1 =>
  intro S_ a' w' hA_ hJ_ hS_ hafter_ hbef_ hK hg K_ Q_ hK_
  subst eJ_
  obtain ⟨O_, hB_, k0_, m4_, m8_, m15_, m16_, m18_, m19_, m20_, m22_, v0_0_, v0_1_, v0_2_⟩ := hJ_
  refine x_ok (φ := SP.ownr zF 64 w'.heap.size O_ []) (by exact jH (r := zF) yN rfl hB_.ok ty28 ty64 (Nat.le_refl _) zl trivial rfl (by decide)) fun v_ w2 hE hv_ => ?_
  obtain ⟨O2_, hB2_, hX_, f_⟩ := ownNew hO hB_ hE hv_ rfl 1 (by decide)
  exact hK_ v_ w2 ⟨O2_, hB2_, (k0_.trans (KX.keep hX_ (by decide))), fun h_ => zC (d := some 60) (t := 63) (φ := fun u_ => PtrZ (rInt .u8) O2_ w2 u_ x15) ((PtrZ.keep (m4_ (zD rfl h_)) (KX.keep hX_ (by decide)) (by decide) (fun _ => rfl))) (by decide), fun h_ => zC (d := some 60) (t := 67) (φ := fun u_ => PtrZ (rInt .u8) O2_ w2 u_ x16) ((PtrZ.keep (m8_ (zD rfl h_)) (KX.keep hX_ (by decide)) (by decide) (fun _ => rfl))) (by decide), fun h_ => zC (d := some 60) (t := 74) (φ := fun u_ => (rSl zF).v O2_ w2 u_ [(api_Sight.mk (Int.tmod (IntKind.wrap .i64 x15) 3) x17 x_2)]) ((GR.zI _ (m15_ (zD rfl h_)) (KX.keep hX_ (by decide)))) (by decide), fun h_ => zC (d := some 60) (t := 75) (φ := fun u_ => (rSl zF).v O2_ w2 u_ x18) ((GR.zI _ (m16_ (zD rfl h_)) (KX.keep hX_ (by decide)))) (by decide), fun h_ => zC (d := some 60) (t := 77) (φ := fun u_ => ∃ e0_ e1_ : Value, u_ = .tuple #[e0_, e1_] ∧ (rSl (rInt .i64)).v O2_ w2 e0_ x19.1 ∧ e1_ = .int .i64 x19.2) ((by obtain ⟨e0_, e1_, e_, h0_, h1_⟩ := (m18_ (zD rfl h_)); exact ⟨e0_, e1_, e_, GR.zI _ h0_ (KX.keep hX_ (by decide)), h1_⟩)) (by decide), fun h_ => zC (d := some 60) (t := 58) (φ := fun u_ => ∃ e0_ e1_ : Value, u_ = .tuple #[e0_, e1_] ∧ (rSl (rInt .i64)).v O2_ w2 e0_ x19.1 ∧ e1_ = .int .i64 x19.2) ((by obtain ⟨e0_, e1_, e_, h0_, h1_⟩ := (m19_ (zD rfl h_)); exact ⟨e0_, e1_, e_, GR.zI _ h0_ (KX.keep hX_ (by decide)), h1_⟩)) (by decide), fun h_ => zC (d := some 60) (t := 78) (φ := fun u_ => (rSl (rInt .i64)).v O2_ w2 u_ x19.1) ((GR.zI _ (m20_ (zD rfl h_)) (KX.keep hX_ (by decide)))) (by decide), fun h_ => zC (d := some 60) (t := 18) (φ := fun u_ => (rSl (rInt .i64)).v O2_ w2 u_ x19.1) ((GR.zI _ (m22_ (zD rfl h_)) (KX.keep hX_ (by decide)))) (by decide), fun hp_ hq_ => va (φ := fun u_ => OwnL 1 zF 64 (Fr w0) O2_ w2 (u_) []) hA_ (by decide) f_, fun hp_ hq_ => no_tf (zD rfl hp_) (hafter_ 3 (by kernel_rfl)), fun hp_ => no_tf (zD rfl hp_) (hafter_ 16 (by kernel_rfl))⟩ trivial
 case z6_2 =>
  intro S_ a' w' hA_ hJ_ hS_ hafter_ hbef_ hK hg K_ Q_ hK_
  refine x_ok (φ := SP.isv (u9)) (by exact zJ (kq hK q13)) fun v_ w2 hE hv_ => hK_ v_ w2 (T_ rfl rfl rfl rfl rfl rfl rfl rfl rfl rfl (by decide) (by decide) (by decide) (by decide) (by decide) (by decide) (by decide) (by decide) (by decide) (by decide) hE hJ_) hv_
 case z6_3 =>
  intro S_ a' w' hA_ hJ_ hS_ hafter_ hbef_ hK hg K_ Q_ hK_
  subst eJ_
  obtain ⟨O_, hB_, k0_, m4_, m8_, m15_, m16_, m18_, m19_, m20_, m22_, v0_0_, v0_1_, v0_2_⟩ := hJ_
  refine x_append (r := zF) yN rfl ty28 ty64 rfl (by decide) hO hB_ (yI hB_) rfl (v0_0_ (zD rfl (hbef_ 1 (by kernel_rfl))) hS_) (ks 2 hK 61 rfl) (rd_of (GR.zI _ f10 k0_)) hx14 (by decide) fun u_ w2 O2_ f_ hB2_ hX_ => ?_
  exact hK_ u_ w2 ⟨O2_, hB2_, (k0_.trans (KX.keep hX_ (by decide))), fun h_ => zC (d := some 62) (t := 63) (φ := fun u_ => PtrZ (rInt .u8) O2_ w2 u_ x15) ((PtrZ.keep (m4_ (zD rfl h_)) (KX.keep hX_ (by decide)) (by decide) (fun _ => rfl))) (by decide), fun h_ => zC (d := some 62) (t := 67) (φ := fun u_ => PtrZ (rInt .u8) O2_ w2 u_ x16) ((PtrZ.keep (m8_ (zD rfl h_)) (KX.keep hX_ (by decide)) (by decide) (fun _ => rfl))) (by decide), fun h_ => zC (d := some 62) (t := 74) (φ := fun u_ => (rSl zF).v O2_ w2 u_ [(api_Sight.mk (Int.tmod (IntKind.wrap .i64 x15) 3) x17 x_2)]) ((GR.zI _ (m15_ (zD rfl h_)) (KX.keep hX_ (by decide)))) (by decide), fun h_ => zC (d := some 62) (t := 75) (φ := fun u_ => (rSl zF).v O2_ w2 u_ x18) ((GR.zI _ (m16_ (zD rfl h_)) (KX.keep hX_ (by decide)))) (by decide), fun h_ => zC (d := some 62) (t := 77) (φ := fun u_ => ∃ e0_ e1_ : Value, u_ = .tuple #[e0_, e1_] ∧ (rSl (rInt .i64)).v O2_ w2 e0_ x19.1 ∧ e1_ = .int .i64 x19.2) ((by obtain ⟨e0_, e1_, e_, h0_, h1_⟩ := (m18_ (zD rfl h_)); exact ⟨e0_, e1_, e_, GR.zI _ h0_ (KX.keep hX_ (by decide)), h1_⟩)) (by decide), fun h_ => zC (d := some 62) (t := 58) (φ := fun u_ => ∃ e0_ e1_ : Value, u_ = .tuple #[e0_, e1_] ∧ (rSl (rInt .i64)).v O2_ w2 e0_ x19.1 ∧ e1_ = .int .i64 x19.2) ((by obtain ⟨e0_, e1_, e_, h0_, h1_⟩ := (m19_ (zD rfl h_)); exact ⟨e0_, e1_, e_, GR.zI _ h0_ (KX.keep hX_ (by decide)), h1_⟩)) (by decide), fun h_ => zC (d := some 62) (t := 78) (φ := fun u_ => (rSl (rInt .i64)).v O2_ w2 u_ x19.1) ((GR.zI _ (m20_ (zD rfl h_)) (KX.keep hX_ (by decide)))) (by decide), fun h_ => zC (d := some 62) (t := 18) (φ := fun u_ => (rSl (rInt .i64)).v O2_ w2 u_ x19.1) ((GR.zI _ (m22_ (zD rfl h_)) (KX.keep hX_ (by decide)))) (by decide), fun hp_ hq_ => jk hq_, fun hp_ hq_ => va (φ := fun u_ => OwnL 1 zF 64 (Fr w0) O2_ w2 (u_) x14) hA_ (by decide) f_, fun hp_ => no_tf (zD rfl hp_) (hafter_ 16 (by kernel_rfl))⟩ trivial
 case z6_4 =>
  intro S_ a' w' hA_ hJ_ hS_ hafter_ hbef_ hK hg K_ Q_ hK_
  subst eJ_
  obtain ⟨O_, hB_, k0_, m4_, m8_, m15_, m16_, m18_, m19_, m20_, m22_, v0_0_, v0_1_, v0_2_⟩ := hJ_
  refine x_ok (φ := SP.ptrz (rInt .u8) O_ x15 (of_decide_eq_true rfl) (fun _ => rfl)) (by exact okl_idxArrZ (r := (rInt .u8)) (f := (fun x => [.int .u8 x])) (hl := (fun _ => rfl)) (ho := (fun _ => by simp [Value.oneCell'])) (by decide) (fun _ => rfl) (fun _ _ _ => rfl) ty62 ty5 (kq hK q6) (ptrz_of_box (by intro h; cases h) (GR.zI _ f4 k0_)) rfl hx15) fun v_ w2 hE hv_ => ?_
  have hB2_ := Base.step hB_ hE hO
  exact hK_ v_ w2 ⟨O_, hB2_, (k0_.trans (KX.keep (KX.ext hE) (by decide))), fun _ => va (φ := fun u_ => PtrZ (rInt .u8) O_ w2 u_ x15) hA_ (by decide) hv_, fun h_ => zC (d := some 63) (t := 67) (φ := fun u_ => PtrZ (rInt .u8) O_ w2 u_ x16) ((PtrZ.keep (m8_ (zD rfl h_)) (KX.keep (KX.ext hE) (by decide)) (by decide) (fun _ => rfl))) (by decide), fun h_ => zC (d := some 63) (t := 74) (φ := fun u_ => (rSl zF).v O_ w2 u_ [(api_Sight.mk (Int.tmod (IntKind.wrap .i64 x15) 3) x17 x_2)]) ((GR.zI _ (m15_ (zD rfl h_)) (KX.keep (KX.ext hE) (by decide)))) (by decide), fun h_ => zC (d := some 63) (t := 75) (φ := fun u_ => (rSl zF).v O_ w2 u_ x18) ((GR.zI _ (m16_ (zD rfl h_)) (KX.keep (KX.ext hE) (by decide)))) (by decide), fun h_ => zC (d := some 63) (t := 77) (φ := fun u_ => ∃ e0_ e1_ : Value, u_ = .tuple #[e0_, e1_] ∧ (rSl (rInt .i64)).v O_ w2 e0_ x19.1 ∧ e1_ = .int .i64 x19.2) ((by obtain ⟨e0_, e1_, e_, h0_, h1_⟩ := (m18_ (zD rfl h_)); exact ⟨e0_, e1_, e_, GR.zI _ h0_ (KX.keep (KX.ext hE) (by decide)), h1_⟩)) (by decide), fun h_ => zC (d := some 63) (t := 58) (φ := fun u_ => ∃ e0_ e1_ : Value, u_ = .tuple #[e0_, e1_] ∧ (rSl (rInt .i64)).v O_ w2 e0_ x19.1 ∧ e1_ = .int .i64 x19.2) ((by obtain ⟨e0_, e1_, e_, h0_, h1_⟩ := (m19_ (zD rfl h_)); exact ⟨e0_, e1_, e_, GR.zI _ h0_ (KX.keep (KX.ext hE) (by decide)), h1_⟩)) (by decide), fun h_ => zC (d := some 63) (t := 78) (φ := fun u_ => (rSl (rInt .i64)).v O_ w2 u_ x19.1) ((GR.zI _ (m20_ (zD rfl h_)) (KX.keep (KX.ext hE) (by decide)))) (by decide), fun h_ => zC (d := some 63) (t := 18) (φ := fun u_ => (rSl (rInt .i64)).v O_ w2 u_ x19.1) ((GR.zI _ (m22_ (zD rfl h_)) (KX.keep (KX.ext hE) (by decide)))) (by decide), fun hp_ hq_ => zC (d := some 63) (t := 60) (φ := fun u_ => OwnL 1 zF 64 (Fr w0) O_ w2 (u_) []) (OwnL.kx (v0_0_ (zD rfl hp_) (zP hq_)) (KX.ext hE) (by decide) (by decide)) (by decide), fun hp_ hq_ => zC (d := some 63) (t := 62) (φ := fun u_ => OwnL 1 zF 64 (Fr w0) O_ w2 (u_) x14) (OwnL.kx (v0_1_ (zD rfl hp_) (zP hq_)) (KX.ext hE) (by decide) (by decide)) (by decide), fun hp_ => OwnL.kx (v0_2_ (zD rfl hp_)) (KX.ext hE) (by decide) (by decide)⟩ trivial
 case z6_5 =>
  intro S_ a' w' hA_ hJ_ hS_ hafter_ hbef_ hK hg K_ Q_ hK_
  have hJ2_ := hJ_; rw [eJ_] at hJ2_; obtain ⟨O_, hB_, k0_, m4_, m8_, m15_, m16_, m18_, m19_, m20_, m22_, v0_0_, v0_1_, v0_2_⟩ := hJ2_
  refine x_ok (φ := SP.isv (.int .u8 x15)) (by exact yD (rInt .u8) (fun _ => rfl) ty5 rfl rfl rfl (PtrZ.ptr (m4_ (zD rfl (hbef_ 4 (by kernel_rfl))))) (fun _ _ _ h => zd.1 h)) fun v_ w2 hE hv_ => hK_ v_ w2 (T_ rfl rfl rfl rfl rfl rfl rfl rfl rfl rfl (by decide) (by decide) (by decide) (by decide) (by decide) (by decide) (by decide) (by decide) (by decide) (by decide) hE hJ_) hv_
 case z6_6 =>
  intro S_ a' w' hA_ hJ_ hS_ hafter_ hbef_ hK hg K_ Q_ hK_
  refine x_ok (φ := SP.isv (.int .i64 (IntKind.wrap .i64 x15))) (by exact ok_convI ty5 ty3 (ks 5 hK 64 rfl)) fun v_ w2 hE hv_ => hK_ v_ w2 (T_ rfl rfl rfl rfl rfl rfl rfl rfl rfl rfl (by decide) (by decide) (by decide) (by decide) (by decide) (by decide) (by decide) (by decide) (by decide) (by decide) hE hJ_) hv_
 case z6_7 =>
  intro S_ a' w' hA_ hJ_ hS_ hafter_ hbef_ hK hg K_ Q_ hK_
  refine x_ok (φ := SP.isv (.int .i64 (Int.tmod (IntKind.wrap .i64 x15) 3))) (by exact ok_rem (ks 6 hK 65 rfl) rfl (by decide)) fun v_ w2 hE hv_ => hK_ v_ w2 (T_ rfl rfl rfl rfl rfl rfl rfl rfl rfl rfl (by decide) (by decide) (by decide) (by decide) (by decide) (by decide) (by decide) (by decide) (by decide) (by decide) hE hJ_) hv_
 case z6_8 =>
  intro S_ a' w' hA_ hJ_ hS_ hafter_ hbef_ hK hg K_ Q_ hK_
  subst eJ_
  obtain ⟨O_, hB_, k0_, m4_, m8_, m15_, m16_, m18_, m19_, m20_, m22_, v0_0_, v0_1_, v0_2_⟩ := hJ_
  refine x_ok (φ := SP.ptrz (rInt .u8) O_ x16 (of_decide_eq_true rfl) (fun _ => rfl)) (by exact okl_idxArrZ (r := (rInt .u8)) (f := (fun x => [.int .u8 x])) (hl := (fun _ => rfl)) (ho := (fun _ => by simp [Value.oneCell'])) (by decide) (fun _ => rfl) (fun _ _ _ => rfl) ty62 ty5 (kq hK q6) (ptrz_of_box (by intro h; cases h) (GR.zI _ f4 k0_)) rfl hx16) fun v_ w2 hE hv_ => ?_
  have hB2_ := Base.step hB_ hE hO
  exact hK_ v_ w2 ⟨O_, hB2_, (k0_.trans (KX.keep (KX.ext hE) (by decide))), fun h_ => zC (d := some 67) (t := 63) (φ := fun u_ => PtrZ (rInt .u8) O_ w2 u_ x15) ((PtrZ.keep (m4_ (zD rfl h_)) (KX.keep (KX.ext hE) (by decide)) (by decide) (fun _ => rfl))) (by decide), fun _ => va (φ := fun u_ => PtrZ (rInt .u8) O_ w2 u_ x16) hA_ (by decide) hv_, fun h_ => zC (d := some 67) (t := 74) (φ := fun u_ => (rSl zF).v O_ w2 u_ [(api_Sight.mk (Int.tmod (IntKind.wrap .i64 x15) 3) x17 x_2)]) ((GR.zI _ (m15_ (zD rfl h_)) (KX.keep (KX.ext hE) (by decide)))) (by decide), fun h_ => zC (d := some 67) (t := 75) (φ := fun u_ => (rSl zF).v O_ w2 u_ x18) ((GR.zI _ (m16_ (zD rfl h_)) (KX.keep (KX.ext hE) (by decide)))) (by decide), fun h_ => zC (d := some 67) (t := 77) (φ := fun u_ => ∃ e0_ e1_ : Value, u_ = .tuple #[e0_, e1_] ∧ (rSl (rInt .i64)).v O_ w2 e0_ x19.1 ∧ e1_ = .int .i64 x19.2) ((by obtain ⟨e0_, e1_, e_, h0_, h1_⟩ := (m18_ (zD rfl h_)); exact ⟨e0_, e1_, e_, GR.zI _ h0_ (KX.keep (KX.ext hE) (by decide)), h1_⟩)) (by decide), fun h_ => zC (d := some 67) (t := 58) (φ := fun u_ => ∃ e0_ e1_ : Value, u_ = .tuple #[e0_, e1_] ∧ (rSl (rInt .i64)).v O_ w2 e0_ x19.1 ∧ e1_ = .int .i64 x19.2) ((by obtain ⟨e0_, e1_, e_, h0_, h1_⟩ := (m19_ (zD rfl h_)); exact ⟨e0_, e1_, e_, GR.zI _ h0_ (KX.keep (KX.ext hE) (by decide)), h1_⟩)) (by decide), fun h_ => zC (d := some 67) (t := 78) (φ := fun u_ => (rSl (rInt .i64)).v O_ w2 u_ x19.1) ((GR.zI _ (m20_ (zD rfl h_)) (KX.keep (KX.ext hE) (by decide)))) (by decide), fun h_ => zC (d := some 67) (t := 18) (φ := fun u_ => (rSl (rInt .i64)).v O_ w2 u_ x19.1) ((GR.zI _ (m22_ (zD rfl h_)) (KX.keep (KX.ext hE) (by decide)))) (by decide), fun hp_ hq_ => zC (d := some 67) (t := 60) (φ := fun u_ => OwnL 1 zF 64 (Fr w0) O_ w2 (u_) []) (OwnL.kx (v0_0_ (zD rfl hp_) (zP hq_)) (KX.ext hE) (by decide) (by decide)) (by decide), fun hp_ hq_ => zC (d := some 67) (t := 62) (φ := fun u_ => OwnL 1 zF 64 (Fr w0) O_ w2 (u_) x14) (OwnL.kx (v0_1_ (zD rfl hp_) (zP hq_)) (KX.ext hE) (by decide) (by decide)) (by decide), fun hp_ => OwnL.kx (v0_2_ (zD rfl hp_)) (KX.ext hE) (by decide) (by decide)⟩ trivial
 case z6_9 =>
  intro S_ a' w' hA_ hJ_ hS_ hafter_ hbef_ hK hg K_ Q_ hK_
  have hJ2_ := hJ_; rw [eJ_] at hJ2_; obtain ⟨O_, hB_, k0_, m4_, m8_, m15_, m16_, m18_, m19_, m20_, m22_, v0_0_, v0_1_, v0_2_⟩ := hJ2_
  refine x_ok (φ := SP.isv (.int .u8 x16)) (by exact yD (rInt .u8) (fun _ => rfl) ty5 rfl rfl rfl (PtrZ.ptr (m8_ (zD rfl (hbef_ 8 (by kernel_rfl))))) (fun _ _ _ h => zd.1 h)) fun v_ w2 hE hv_ => hK_ v_ w2 (T_ rfl rfl rfl rfl rfl rfl rfl rfl rfl rfl (by decide) (by decide) (by decide) (by decide) (by decide) (by decide) (by decide) (by decide) (by decide) (by decide) hE hJ_) hv_
 case z6_10 =>
  intro S_ a' w' hA_ hJ_ hS_ hafter_ hbef_ hK hg K_ Q_ hK_
  refine x_ok (φ := SP.isv (.int .i64 (IntKind.wrap .i64 x16))) (by exact ok_convI ty5 ty3 (ks 9 hK 68 rfl)) fun v_ w2 hE hv_ => hK_ v_ w2 (T_ rfl rfl rfl rfl rfl rfl rfl rfl rfl rfl (by decide) (by decide) (by decide) (by decide) (by decide) (by decide) (by decide) (by decide) (by decide) (by decide) hE hJ_) hv_
 case z6_11 =>
  intro S_ a' w' hA_ hJ_ hS_ hafter_ hbef_ hK hg K_ Q_ hK_
  refine x_ok (φ := SP.isv (.int .i64 x6.2.2)) (by exact zJ (kq hK q14)) fun v_ w2 hE hv_ => hK_ v_ w2 (T_ rfl rfl rfl rfl rfl rfl rfl rfl rfl rfl (by decide) (by decide) (by decide) (by decide) (by decide) (by decide) (by decide) (by decide) (by decide) (by decide) hE hJ_) hv_
 case z6_12 =>
  intro S_ a' w' hA_ hJ_ hS_ hafter_ hbef_ hK hg K_ Q_ hK_
  refine x_ok (φ := SP.isv (.int .i64 x17)) (by exact ok_isv (ok_rem (ks 10 hK 69 rfl) (ks 11 hK 70 rfl) (run_rem hx17).1) (congrArg _ (run_rem hx17).2)) fun v_ w2 hE hv_ => hK_ v_ w2 (T_ rfl rfl rfl rfl rfl rfl rfl rfl rfl rfl (by decide) (by decide) (by decide) (by decide) (by decide) (by decide) (by decide) (by decide) (by decide) (by decide) hE hJ_) hv_
 case z6_13 =>
  intro S_ a' w' hA_ hJ_ hS_ hafter_ hbef_ hK hg K_ Q_ hK_
  refine x_ok (φ := SP.isv (.bool x_2)) (by exact zJ (kq hK q2)) fun v_ w2 hE hv_ => hK_ v_ w2 (T_ rfl rfl rfl rfl rfl rfl rfl rfl rfl rfl (by decide) (by decide) (by decide) (by decide) (by decide) (by decide) (by decide) (by decide) (by decide) (by decide) hE hJ_) hv_
 case z6_14 =>
  intro S_ a' w' hA_ hJ_ hS_ hafter_ hbef_ hK hg K_ Q_ hK_
  refine x_ok (φ := SP.isv (.agg #[.int .i64 (Int.tmod (IntKind.wrap .i64 x15) 3), .int .i64 x17, .bool x_2])) (by exact vg plc64 ty64 (yl (v := .int .i64 (Int.tmod (IntKind.wrap .i64 x15) 3)) (ksv (j := 7) (hK 66 rfl) rfl rfl rfl) (yl (v := .int .i64 x17) (ksv (j := 12) (hK 71 rfl) rfl rfl rfl) (yl (v := .bool x_2) (ksv (j := 13) (hK 72 rfl) rfl rfl rfl) kP))) rfl (.cons rfl rfl rfl (leb rfl) (.cons rfl rfl rfl (leb rfl) (.cons rfl rfl rfl (leb rfl) .nil))) rfl) fun v_ w2 hE hv_ => hK_ v_ w2 (T_ rfl rfl rfl rfl rfl rfl rfl rfl rfl rfl (by decide) (by decide) (by decide) (by decide) (by decide) (by decide) (by decide) (by decide) (by decide) (by decide) hE hJ_) hv_
 case z6_15 =>
  intro S_ a' w' hA_ hJ_ hS_ hafter_ hbef_ hK hg K_ Q_ hK_
  subst eJ_
  obtain ⟨O_, hB_, k0_, m4_, m8_, m15_, m16_, m18_, m19_, m20_, m22_, v0_0_, v0_1_, v0_2_⟩ := hJ_
  refine x_ok (φ := SP.vl (rSl zF) O_ [(api_Sight.mk (Int.tmod (IntKind.wrap .i64 x15) 3) x17 x_2)]) (by exact zN (r := zF) yN rfl hB_.ok ty28 ty64 (zR (ks 14 hK 73 rfl) zl) ⟨(by first | exact (rC_v (x := (api_Sight.mk (Int.tmod (IntKind.wrap .i64 x15) 3) x17 x_2))).2 rfl | exact ⟨_, rfl, rfl⟩), trivial⟩ rfl (by decide)) fun v_ w2 hE hv_ => ?_
  have hB2_ := Base.step hB_ hE hO
  exact hK_ v_ w2 ⟨O_, hB2_, (k0_.trans (KX.keep (KX.ext hE) (by decide))), fun h_ => zC (d := some 74) (t := 63) (φ := fun u_ => PtrZ (rInt .u8) O_ w2 u_ x15) ((PtrZ.keep (m4_ (zD rfl h_)) (KX.keep (KX.ext hE) (by decide)) (by decide) (fun _ => rfl))) (by decide), fun h_ => zC (d := some 74) (t := 67) (φ := fun u_ => PtrZ (rInt .u8) O_ w2 u_ x16) ((PtrZ.keep (m8_ (zD rfl h_)) (KX.keep (KX.ext hE) (by decide)) (by decide) (fun _ => rfl))) (by decide), fun _ => va (φ := fun u_ => (rSl zF).v O_ w2 u_ [(api_Sight.mk (Int.tmod (IntKind.wrap .i64 x15) 3) x17 x_2)]) hA_ (by decide) hv_, fun h_ => zC (d := some 74) (t := 75) (φ := fun u_ => (rSl zF).v O_ w2 u_ x18) ((GR.zI _ (m16_ (zD rfl h_)) (KX.keep (KX.ext hE) (by decide)))) (by decide), fun h_ => zC (d := some 74) (t := 77) (φ := fun u_ => ∃ e0_ e1_ : Value, u_ = .tuple #[e0_, e1_] ∧ (rSl (rInt .i64)).v O_ w2 e0_ x19.1 ∧ e1_ = .int .i64 x19.2) ((by obtain ⟨e0_, e1_, e_, h0_, h1_⟩ := (m18_ (zD rfl h_)); exact ⟨e0_, e1_, e_, GR.zI _ h0_ (KX.keep (KX.ext hE) (by decide)), h1_⟩)) (by decide), fun h_ => zC (d := some 74) (t := 58) (φ := fun u_ => ∃ e0_ e1_ : Value, u_ = .tuple #[e0_, e1_] ∧ (rSl (rInt .i64)).v O_ w2 e0_ x19.1 ∧ e1_ = .int .i64 x19.2) ((by obtain ⟨e0_, e1_, e_, h0_, h1_⟩ := (m19_ (zD rfl h_)); exact ⟨e0_, e1_, e_, GR.zI _ h0_ (KX.keep (KX.ext hE) (by decide)), h1_⟩)) (by decide), fun h_ => zC (d := some 74) (t := 78) (φ := fun u_ => (rSl (rInt .i64)).v O_ w2 u_ x19.1) ((GR.zI _ (m20_ (zD rfl h_)) (KX.keep (KX.ext hE) (by decide)))) (by decide), fun h_ => zC (d := some 74) (t := 18) (φ := fun u_ => (rSl (rInt .i64)).v O_ w2 u_ x19.1) ((GR.zI _ (m22_ (zD rfl h_)) (KX.keep (KX.ext hE) (by decide)))) (by decide), fun hp_ hq_ => zC (d := some 74) (t := 60) (φ := fun u_ => OwnL 1 zF 64 (Fr w0) O_ w2 (u_) []) (OwnL.kx (v0_0_ (zD rfl hp_) (zP hq_)) (KX.ext hE) (by decide) (by decide)) (by decide), fun hp_ hq_ => zC (d := some 74) (t := 62) (φ := fun u_ => OwnL 1 zF 64 (Fr w0) O_ w2 (u_) x14) (OwnL.kx (v0_1_ (zD rfl hp_) (zP hq_)) (KX.ext hE) (by decide) (by decide)) (by decide), fun hp_ => OwnL.kx (v0_2_ (zD rfl hp_)) (KX.ext hE) (by decide) (by decide)⟩ trivial
 case z6_16 =>
  intro S_ a' w' hA_ hJ_ hS_ hafter_ hbef_ hK hg K_ Q_ hK_
  subst eJ_
  obtain ⟨O_, hB_, k0_, m4_, m8_, m15_, m16_, m18_, m19_, m20_, m22_, v0_0_, v0_1_, v0_2_⟩ := hJ_
  refine x_append (r := zF) yN rfl ty28 ty64 rfl (by decide) hO hB_ (yI hB_) rfl (v0_1_ (zD rfl (hbef_ 3 (by kernel_rfl))) hS_) rfl (rd_of (m15_ (zD rfl (hbef_ 15 (by kernel_rfl))))) hx18 (by decide) fun u_ w2 O2_ f_ hB2_ hX_ => ?_
  obtain ⟨O3_, hB3_, hX3_, f3_⟩ := freezeL hO hB2_ f_ (by decide)
  have hX4_ := KX.trans_same hX_ hX3_
  exact hK_ u_ w2 ⟨O3_, hB3_, (k0_.trans (KX.keep hX4_ (by decide))), fun h_ => zC (d := some 75) (t := 63) (φ := fun u_ => PtrZ (rInt .u8) O3_ w2 u_ x15) ((PtrZ.keep (m4_ (zD rfl h_)) (KX.keep hX4_ (by decide)) (by decide) (fun _ => rfl))) (by decide), fun h_ => zC (d := some 75) (t := 67) (φ := fun u_ => PtrZ (rInt .u8) O3_ w2 u_ x16) ((PtrZ.keep (m8_ (zD rfl h_)) (KX.keep hX4_ (by decide)) (by decide) (fun _ => rfl))) (by decide), fun h_ => zC (d := some 75) (t := 74) (φ := fun u_ => (rSl zF).v O3_ w2 u_ [(api_Sight.mk (Int.tmod (IntKind.wrap .i64 x15) 3) x17 x_2)]) ((GR.zI _ (m15_ (zD rfl h_)) (KX.keep hX4_ (by decide)))) (by decide), fun _ => va (φ := fun u_ => (rSl zF).v O3_ w2 u_ x18) hA_ (by decide) f3_, fun h_ => zC (d := some 75) (t := 77) (φ := fun u_ => ∃ e0_ e1_ : Value, u_ = .tuple #[e0_, e1_] ∧ (rSl (rInt .i64)).v O3_ w2 e0_ x19.1 ∧ e1_ = .int .i64 x19.2) ((by obtain ⟨e0_, e1_, e_, h0_, h1_⟩ := (m18_ (zD rfl h_)); exact ⟨e0_, e1_, e_, GR.zI _ h0_ (KX.keep hX4_ (by decide)), h1_⟩)) (by decide), fun h_ => zC (d := some 75) (t := 58) (φ := fun u_ => ∃ e0_ e1_ : Value, u_ = .tuple #[e0_, e1_] ∧ (rSl (rInt .i64)).v O3_ w2 e0_ x19.1 ∧ e1_ = .int .i64 x19.2) ((by obtain ⟨e0_, e1_, e_, h0_, h1_⟩ := (m19_ (zD rfl h_)); exact ⟨e0_, e1_, e_, GR.zI _ h0_ (KX.keep hX4_ (by decide)), h1_⟩)) (by decide), fun h_ => zC (d := some 75) (t := 78) (φ := fun u_ => (rSl (rInt .i64)).v O3_ w2 u_ x19.1) ((GR.zI _ (m20_ (zD rfl h_)) (KX.keep hX4_ (by decide)))) (by decide), fun h_ => zC (d := some 75) (t := 18) (φ := fun u_ => (rSl (rInt .i64)).v O3_ w2 u_ x19.1) ((GR.zI _ (m22_ (zD rfl h_)) (KX.keep hX4_ (by decide)))) (by decide), fun hp_ hq_ => no_tf (hbef_ 3 (by kernel_rfl)) hq_, fun hp_ hq_ => jk hq_, fun hp_ => (OwnL.nil _ _ _ _ _ _)⟩ trivial
 case z6_17 =>
  intro S_ a' w' hA_ hJ_ hS_ hafter_ hbef_ hK hg K_ Q_ hK_
  refine x_ok (φ := SP.isv (.int .i64 x6.2.2)) (by exact zJ (kq hK q14)) fun v_ w2 hE hv_ => hK_ v_ w2 (T_ rfl rfl rfl rfl rfl rfl rfl rfl rfl rfl (by decide) (by decide) (by decide) (by decide) (by decide) (by decide) (by decide) (by decide) (by decide) (by decide) hE hJ_) hv_
 case z6_18 =>
  intro S_ a' w' hA_ hJ_ hS_ hafter_ hbef_ hK hg K_ Q_ hK_
  subst eJ_
  obtain ⟨O_, hB_, k0_, m4_, m8_, m15_, m16_, m18_, m19_, m20_, m22_, v0_0_, v0_1_, v0_2_⟩ := hJ_
  refine x_ok (φ := SP.tup2 (SP.vl (rSl (rInt .i64)) O_ x19.1) (SP.isv (.int .i64 x19.2))) (by have c_ := jK hB_.ok (GR.zI _ f8 k0_) (m16_ (zD rfl (hbef_ 16 (by kernel_rfl)))) hx19; exact yE (vY fn22 (ks 0 hK 59 rfl) rfl (ks 17 hK 76 rfl) c_) (fun _ _ _ ⟨a_, b_, e0_, h0_, h1_⟩ => ⟨a_, b_, e0_, (fun h => (OwnR.val h (fun g hg => hB_.ok g (OwnR.ge h g hg).1))) h0_, h1_⟩)) fun v_ w2 hE hv_ => ?_
  have hB2_ := Base.step hB_ hE hO
  exact hK_ v_ w2 ⟨O_, hB2_, (k0_.trans (KX.keep (KX.ext hE) (by decide))), fun h_ => zC (d := some 77) (t := 63) (φ := fun u_ => PtrZ (rInt .u8) O_ w2 u_ x15) ((PtrZ.keep (m4_ (zD rfl h_)) (KX.keep (KX.ext hE) (by decide)) (by decide) (fun _ => rfl))) (by decide), fun h_ => zC (d := some 77) (t := 67) (φ := fun u_ => PtrZ (rInt .u8) O_ w2 u_ x16) ((PtrZ.keep (m8_ (zD rfl h_)) (KX.keep (KX.ext hE) (by decide)) (by decide) (fun _ => rfl))) (by decide), fun h_ => zC (d := some 77) (t := 74) (φ := fun u_ => (rSl zF).v O_ w2 u_ [(api_Sight.mk (Int.tmod (IntKind.wrap .i64 x15) 3) x17 x_2)]) ((GR.zI _ (m15_ (zD rfl h_)) (KX.keep (KX.ext hE) (by decide)))) (by decide), fun h_ => zC (d := some 77) (t := 75) (φ := fun u_ => (rSl zF).v O_ w2 u_ x18) ((GR.zI _ (m16_ (zD rfl h_)) (KX.keep (KX.ext hE) (by decide)))) (by decide), fun _ => va (φ := fun u_ => ∃ e0_ e1_ : Value, u_ = .tuple #[e0_, e1_] ∧ (rSl (rInt .i64)).v O_ w2 e0_ x19.1 ∧ e1_ = .int .i64 x19.2) hA_ (by decide) hv_, fun h_ => zC (d := some 77) (t := 58) (φ := fun u_ => ∃ e0_ e1_ : Value, u_ = .tuple #[e0_, e1_] ∧ (rSl (rInt .i64)).v O_ w2 e0_ x19.1 ∧ e1_ = .int .i64 x19.2) ((by obtain ⟨e0_, e1_, e_, h0_, h1_⟩ := (m19_ (zD rfl h_)); exact ⟨e0_, e1_, e_, GR.zI _ h0_ (KX.keep (KX.ext hE) (by decide)), h1_⟩)) (by decide), fun h_ => zC (d := some 77) (t := 78) (φ := fun u_ => (rSl (rInt .i64)).v O_ w2 u_ x19.1) ((GR.zI _ (m20_ (zD rfl h_)) (KX.keep (KX.ext hE) (by decide)))) (by decide), fun h_ => zC (d := some 77) (t := 18) (φ := fun u_ => (rSl (rInt .i64)).v O_ w2 u_ x19.1) ((GR.zI _ (m22_ (zD rfl h_)) (KX.keep (KX.ext hE) (by decide)))) (by decide), fun hp_ hq_ => zC (d := some 77) (t := 60) (φ := fun u_ => OwnL 1 zF 64 (Fr w0) O_ w2 (u_) []) (OwnL.kx (v0_0_ (zD rfl hp_) (zP hq_)) (KX.ext hE) (by decide) (by decide)) (by decide), fun hp_ hq_ => zC (d := some 77) (t := 62) (φ := fun u_ => OwnL 1 zF 64 (Fr w0) O_ w2 (u_) x14) (OwnL.kx (v0_1_ (zD rfl hp_) (zP hq_)) (KX.ext hE) (by decide) (by decide)) (by decide), fun hp_ => OwnL.kx (v0_2_ (zD rfl hp_)) (KX.ext hE) (by decide) (by decide)⟩ trivial
 case z6_19 =>
  intro S_ a' w' hA_ hJ_ hS_ hafter_ hbef_ hK hg K_ Q_ hK_
  subst eJ_
  obtain ⟨O_, hB_, k0_, m4_, m8_, m15_, m16_, m18_, m19_, m20_, m22_, v0_0_, v0_1_, v0_2_⟩ := hJ_
  refine x_ok (φ := SP.isv (a'.get 77)) (zJ rfl) fun v_ w2 hE hv_ => ?_
  replace hv_ : v_ = a'.get 77 := hv_
  have hB2_ := Base.step hB_ hE hO
  exact hK_ v_ w2 ⟨O_, hB2_, (k0_.trans (KX.keep (KX.ext hE) (by decide))), fun h_ => zC (d := some 58) (t := 63) (φ := fun u_ => PtrZ (rInt .u8) O_ w2 u_ x15) ((PtrZ.keep (m4_ (zD rfl h_)) (KX.keep (KX.ext hE) (by decide)) (by decide) (fun _ => rfl))) (by decide), fun h_ => zC (d := some 58) (t := 67) (φ := fun u_ => PtrZ (rInt .u8) O_ w2 u_ x16) ((PtrZ.keep (m8_ (zD rfl h_)) (KX.keep (KX.ext hE) (by decide)) (by decide) (fun _ => rfl))) (by decide), fun h_ => zC (d := some 58) (t := 74) (φ := fun u_ => (rSl zF).v O_ w2 u_ [(api_Sight.mk (Int.tmod (IntKind.wrap .i64 x15) 3) x17 x_2)]) ((GR.zI _ (m15_ (zD rfl h_)) (KX.keep (KX.ext hE) (by decide)))) (by decide), fun h_ => zC (d := some 58) (t := 75) (φ := fun u_ => (rSl zF).v O_ w2 u_ x18) ((GR.zI _ (m16_ (zD rfl h_)) (KX.keep (KX.ext hE) (by decide)))) (by decide), fun h_ => zC (d := some 58) (t := 77) (φ := fun u_ => ∃ e0_ e1_ : Value, u_ = .tuple #[e0_, e1_] ∧ (rSl (rInt .i64)).v O_ w2 e0_ x19.1 ∧ e1_ = .int .i64 x19.2) ((by obtain ⟨e0_, e1_, e_, h0_, h1_⟩ := (m18_ (zD rfl h_)); exact ⟨e0_, e1_, e_, GR.zI _ h0_ (KX.keep (KX.ext hE) (by decide)), h1_⟩)) (by decide), fun _ => va (φ := fun u_ => ∃ e0_ e1_ : Value, u_ = .tuple #[e0_, e1_] ∧ (rSl (rInt .i64)).v O_ w2 e0_ x19.1 ∧ e1_ = .int .i64 x19.2) hA_ (by decide) (by rw [hv_]; exact (by obtain ⟨e0_, e1_, e_, h0_, h1_⟩ := (m18_ (zD rfl (hbef_ 18 (by kernel_rfl)))); exact ⟨e0_, e1_, e_, GR.zI _ h0_ (KX.keep (KX.ext hE) (by decide)), h1_⟩)), fun h_ => zC (d := some 58) (t := 78) (φ := fun u_ => (rSl (rInt .i64)).v O_ w2 u_ x19.1) ((GR.zI _ (m20_ (zD rfl h_)) (KX.keep (KX.ext hE) (by decide)))) (by decide), fun h_ => zC (d := some 58) (t := 18) (φ := fun u_ => (rSl (rInt .i64)).v O_ w2 u_ x19.1) ((GR.zI _ (m22_ (zD rfl h_)) (KX.keep (KX.ext hE) (by decide)))) (by decide), fun hp_ hq_ => zC (d := some 58) (t := 60) (φ := fun u_ => OwnL 1 zF 64 (Fr w0) O_ w2 (u_) []) (OwnL.kx (v0_0_ (zD rfl hp_) (zP hq_)) (KX.ext hE) (by decide) (by decide)) (by decide), fun hp_ hq_ => zC (d := some 58) (t := 62) (φ := fun u_ => OwnL 1 zF 64 (Fr w0) O_ w2 (u_) x14) (OwnL.kx (v0_1_ (zD rfl hp_) (zP hq_)) (KX.ext hE) (by decide) (by decide)) (by decide), fun hp_ => OwnL.kx (v0_2_ (zD rfl hp_)) (KX.ext hE) (by decide) (by decide)⟩ trivial
 case z6_20 =>
  intro S_ a' w' hA_ hJ_ hS_ hafter_ hbef_ hK hg K_ Q_ hK_
  subst eJ_
  obtain ⟨O_, hB_, k0_, m4_, m8_, m15_, m16_, m18_, m19_, m20_, m22_, v0_0_, v0_1_, v0_2_⟩ := hJ_
  refine x_ok (φ := SP.vl (rSl (rInt .i64)) O_ x19.1) (by exact jC (φ := SP.vl (rSl (rInt .i64)) O_ x19.1) (ψ := SP.isv (.int .i64 x19.2)) (m19_ (zD rfl (hbef_ 19 (by kernel_rfl))))) fun v_ w2 hE hv_ => ?_
  have hB2_ := Base.step hB_ hE hO
  exact hK_ v_ w2 ⟨O_, hB2_, (k0_.trans (KX.keep (KX.ext hE) (by decide))), fun h_ => zC (d := some 78) (t := 63) (φ := fun u_ => PtrZ (rInt .u8) O_ w2 u_ x15) ((PtrZ.keep (m4_ (zD rfl h_)) (KX.keep (KX.ext hE) (by decide)) (by decide) (fun _ => rfl))) (by decide), fun h_ => zC (d := some 78) (t := 67) (φ := fun u_ => PtrZ (rInt .u8) O_ w2 u_ x16) ((PtrZ.keep (m8_ (zD rfl h_)) (KX.keep (KX.ext hE) (by decide)) (by decide) (fun _ => rfl))) (by decide), fun h_ => zC (d := some 78) (t := 74) (φ := fun u_ => (rSl zF).v O_ w2 u_ [(api_Sight.mk (Int.tmod (IntKind.wrap .i64 x15) 3) x17 x_2)]) ((GR.zI _ (m15_ (zD rfl h_)) (KX.keep (KX.ext hE) (by decide)))) (by decide), fun h_ => zC (d := some 78) (t := 75) (φ := fun u_ => (rSl zF).v O_ w2 u_ x18) ((GR.zI _ (m16_ (zD rfl h_)) (KX.keep (KX.ext hE) (by decide)))) (by decide), fun h_ => zC (d := some 78) (t := 77) (φ := fun u_ => ∃ e0_ e1_ : Value, u_ = .tuple #[e0_, e1_] ∧ (rSl (rInt .i64)).v O_ w2 e0_ x19.1 ∧ e1_ = .int .i64 x19.2) ((by obtain ⟨e0_, e1_, e_, h0_, h1_⟩ := (m18_ (zD rfl h_)); exact ⟨e0_, e1_, e_, GR.zI _ h0_ (KX.keep (KX.ext hE) (by decide)), h1_⟩)) (by decide), fun h_ => zC (d := some 78) (t := 58) (φ := fun u_ => ∃ e0_ e1_ : Value, u_ = .tuple #[e0_, e1_] ∧ (rSl (rInt .i64)).v O_ w2 e0_ x19.1 ∧ e1_ = .int .i64 x19.2) ((by obtain ⟨e0_, e1_, e_, h0_, h1_⟩ := (m19_ (zD rfl h_)); exact ⟨e0_, e1_, e_, GR.zI _ h0_ (KX.keep (KX.ext hE) (by decide)), h1_⟩)) (by decide), fun _ => va (φ := fun u_ => (rSl (rInt .i64)).v O_ w2 u_ x19.1) hA_ (by decide) hv_, fun h_ => zC (d := some 78) (t := 18) (φ := fun u_ => (rSl (rInt .i64)).v O_ w2 u_ x19.1) ((GR.zI _ (m22_ (zD rfl h_)) (KX.keep (KX.ext hE) (by decide)))) (by decide), fun hp_ hq_ => zC (d := some 78) (t := 60) (φ := fun u_ => OwnL 1 zF 64 (Fr w0) O_ w2 (u_) []) (OwnL.kx (v0_0_ (zD rfl hp_) (zP hq_)) (KX.ext hE) (by decide) (by decide)) (by decide), fun hp_ hq_ => zC (d := some 78) (t := 62) (φ := fun u_ => OwnL 1 zF 64 (Fr w0) O_ w2 (u_) x14) (OwnL.kx (v0_1_ (zD rfl hp_) (zP hq_)) (KX.ext hE) (by decide) (by decide)) (by decide), fun hp_ => OwnL.kx (v0_2_ (zD rfl hp_)) (KX.ext hE) (by decide) (by decide)⟩ trivial
 case z6_21 =>
  intro S_ a' w' hA_ hJ_ hS_ hafter_ hbef_ hK hg K_ Q_ hK_
  have hJ2_ := hJ_; rw [eJ_] at hJ2_; obtain ⟨O_, hB_, k0_, m4_, m8_, m15_, m16_, m18_, m19_, m20_, m22_, v0_0_, v0_1_, v0_2_⟩ := hJ2_
  refine x_ok (φ := SP.isv (.int .i64 x19.2)) (by exact jB (φ := SP.vl (rSl (rInt .i64)) O_ x19.1) (ψ := SP.isv (.int .i64 x19.2)) (m19_ (zD rfl (hbef_ 19 (by kernel_rfl))))) fun v_ w2 hE hv_ => hK_ v_ w2 (T_ rfl rfl rfl rfl rfl rfl rfl rfl rfl rfl (by decide) (by decide) (by decide) (by decide) (by decide) (by decide) (by decide) (by decide) (by decide) (by decide) hE hJ_) hv_
 case z6_22 =>
  intro S_ a' w' hA_ hJ_ hS_ hafter_ hbef_ hK hg K_ Q_ hK_
  subst eJ_
  obtain ⟨O_, hB_, k0_, m4_, m8_, m15_, m16_, m18_, m19_, m20_, m22_, v0_0_, v0_1_, v0_2_⟩ := hJ_
  refine x_ok (φ := SP.isv (a'.get 78)) (zE rfl) fun v_ w2 hE hv_ => ?_
  replace hv_ : v_ = a'.get 78 := hv_
  have hB2_ := Base.step hB_ hE hO
  exact hK_ v_ w2 ⟨O_, hB2_, (k0_.trans (KX.keep (KX.ext hE) (by decide))), fun h_ => zC (d := some 18) (t := 63) (φ := fun u_ => PtrZ (rInt .u8) O_ w2 u_ x15) ((PtrZ.keep (m4_ (zD rfl h_)) (KX.keep (KX.ext hE) (by decide)) (by decide) (fun _ => rfl))) (by decide), fun h_ => zC (d := some 18) (t := 67) (φ := fun u_ => PtrZ (rInt .u8) O_ w2 u_ x16) ((PtrZ.keep (m8_ (zD rfl h_)) (KX.keep (KX.ext hE) (by decide)) (by decide) (fun _ => rfl))) (by decide), fun h_ => zC (d := some 18) (t := 74) (φ := fun u_ => (rSl zF).v O_ w2 u_ [(api_Sight.mk (Int.tmod (IntKind.wrap .i64 x15) 3) x17 x_2)]) ((GR.zI _ (m15_ (zD rfl h_)) (KX.keep (KX.ext hE) (by decide)))) (by decide), fun h_ => zC (d := some 18) (t := 75) (φ := fun u_ => (rSl zF).v O_ w2 u_ x18) ((GR.zI _ (m16_ (zD rfl h_)) (KX.keep (KX.ext hE) (by decide)))) (by decide), fun h_ => zC (d := some 18) (t := 77) (φ := fun u_ => ∃ e0_ e1_ : Value, u_ = .tuple #[e0_, e1_] ∧ (rSl (rInt .i64)).v O_ w2 e0_ x19.1 ∧ e1_ = .int .i64 x19.2) ((by obtain ⟨e0_, e1_, e_, h0_, h1_⟩ := (m18_ (zD rfl h_)); exact ⟨e0_, e1_, e_, GR.zI _ h0_ (KX.keep (KX.ext hE) (by decide)), h1_⟩)) (by decide), fun h_ => zC (d := some 18) (t := 58) (φ := fun u_ => ∃ e0_ e1_ : Value, u_ = .tuple #[e0_, e1_] ∧ (rSl (rInt .i64)).v O_ w2 e0_ x19.1 ∧ e1_ = .int .i64 x19.2) ((by obtain ⟨e0_, e1_, e_, h0_, h1_⟩ := (m19_ (zD rfl h_)); exact ⟨e0_, e1_, e_, GR.zI _ h0_ (KX.keep (KX.ext hE) (by decide)), h1_⟩)) (by decide), fun h_ => zC (d := some 18) (t := 78) (φ := fun u_ => (rSl (rInt .i64)).v O_ w2 u_ x19.1) ((GR.zI _ (m20_ (zD rfl h_)) (KX.keep (KX.ext hE) (by decide)))) (by decide), fun _ => va (φ := fun u_ => (rSl (rInt .i64)).v O_ w2 u_ x19.1) hA_ (by decide) (by rw [hv_]; exact (GR.zI _ (m20_ (zD rfl (hbef_ 20 (by kernel_rfl)))) (KX.keep (KX.ext hE) (by decide)))), fun hp_ hq_ => zC (d := some 18) (t := 60) (φ := fun u_ => OwnL 1 zF 64 (Fr w0) O_ w2 (u_) []) (OwnL.kx (v0_0_ (zD rfl hp_) (zP hq_)) (KX.ext hE) (by decide) (by decide)) (by decide), fun hp_ hq_ => zC (d := some 18) (t := 62) (φ := fun u_ => OwnL 1 zF 64 (Fr w0) O_ w2 (u_) x14) (OwnL.kx (v0_1_ (zD rfl hp_) (zP hq_)) (KX.ext hE) (by decide) (by decide)) (by decide), fun hp_ => OwnL.kx (v0_2_ (zD rfl hp_)) (KX.ext hE) (by decide) (by decide)⟩ trivial
 case z6_23 =>
  intro S_ a' w' hA_ hJ_ hS_ hafter_ hbef_ hK hg K_ Q_ hK_
  refine x_ok (φ := SP.isv (.int .i64 x19.2)) (by exact zE (ks 21 hK 79 rfl)) fun v_ w2 hE hv_ => hK_ v_ w2 (T_ rfl rfl rfl rfl rfl rfl rfl rfl rfl rfl (by decide) (by decide) (by decide) (by decide) (by decide) (by decide) (by decide) (by decide) (by decide) (by decide) hE hJ_) hv_
 case zsk6 =>
  subst eJ_
  intro i_ o_ S_ a_ w_ ho_ hact_ hA_ hS_ hbef_ hJ_
  obtain ⟨O_, hB_, k0_, m4_, m8_, m15_, m16_, m18_, m19_, m20_, m22_, v0_0_, v0_1_, v0_2_⟩ := hJ_
  exact ⟨O_, hB_, k0_, fun h_ => by obtain ⟨h1_, h2_⟩ := zj (j := 4) hact_ rfl h_; exact zC (t := 63) (φ := fun u_ => PtrZ (rInt .u8) O_ w_ u_ x15) (m4_ h1_) (zb (j := 4) (by kernel_rfl) ho_ h2_), fun h_ => by obtain ⟨h1_, h2_⟩ := zj (j := 8) hact_ rfl h_; exact zC (t := 67) (φ := fun u_ => PtrZ (rInt .u8) O_ w_ u_ x16) (m8_ h1_) (zb (j := 8) (by kernel_rfl) ho_ h2_), fun h_ => by obtain ⟨h1_, h2_⟩ := zj (j := 15) hact_ rfl h_; exact zC (t := 74) (φ := fun u_ => (rSl zF).v O_ w_ u_ [(api_Sight.mk (Int.tmod (IntKind.wrap .i64 x15) 3) x17 x_2)]) (m15_ h1_) (zb (j := 15) (by kernel_rfl) ho_ h2_), fun h_ => by obtain ⟨h1_, h2_⟩ := zj (j := 16) hact_ rfl h_; exact zC (t := 75) (φ := fun u_ => (rSl zF).v O_ w_ u_ x18) (m16_ h1_) (zb (j := 16) (by kernel_rfl) ho_ h2_), fun h_ => by obtain ⟨h1_, h2_⟩ := zj (j := 18) hact_ rfl h_; exact zC (t := 77) (φ := fun u_ => ∃ e0_ e1_ : Value, u_ = .tuple #[e0_, e1_] ∧ (rSl (rInt .i64)).v O_ w_ e0_ x19.1 ∧ e1_ = .int .i64 x19.2) (m18_ h1_) (zb (j := 18) (by kernel_rfl) ho_ h2_), fun h_ => by obtain ⟨h1_, h2_⟩ := zj (j := 19) hact_ rfl h_; exact zC (t := 58) (φ := fun u_ => ∃ e0_ e1_ : Value, u_ = .tuple #[e0_, e1_] ∧ (rSl (rInt .i64)).v O_ w_ e0_ x19.1 ∧ e1_ = .int .i64 x19.2) (m19_ h1_) (zb (j := 19) (by kernel_rfl) ho_ h2_), fun h_ => by obtain ⟨h1_, h2_⟩ := zj (j := 20) hact_ rfl h_; exact zC (t := 78) (φ := fun u_ => (rSl (rInt .i64)).v O_ w_ u_ x19.1) (m20_ h1_) (zb (j := 20) (by kernel_rfl) ho_ h2_), fun h_ => by obtain ⟨h1_, h2_⟩ := zj (j := 22) hact_ rfl h_; exact zC (t := 18) (φ := fun u_ => (rSl (rInt .i64)).v O_ w_ u_ x19.1) (m22_ h1_) (zb (j := 22) (by kernel_rfl) ho_ h2_), fun hp_ hq_ => by obtain ⟨h1_, h2_⟩ := zj (j := 1) hact_ rfl hp_; exact zC (t := 60) (φ := fun u_ => OwnL 1 zF 64 (Fr w0) O_ w_ (u_) []) (v0_0_ h1_ (zP hq_)) (zb (j := 1) (by kernel_rfl) ho_ h2_), fun hp_ hq_ => by obtain ⟨h1_, h2_⟩ := zj (j := 3) hact_ rfl hp_; exact zC (t := 62) (φ := fun u_ => OwnL 1 zF 64 (Fr w0) O_ w_ (u_) x14) (v0_1_ h1_ (zP hq_)) (zb (j := 3) (by kernel_rfl) ho_ h2_), fun hp_ => by obtain ⟨h1_, h2_⟩ := zj (j := 16) hact_ rfl hp_; exact (v0_2_ h1_)⟩
 case zst6 => subst eJ_; exact fun w1_ hE_ => ⟨O, (Base.step hB hE_ hO), (Keep.ext hE_), fun h_ => no_ft h_, fun h_ => no_ft h_, fun h_ => no_ft h_, fun h_ => no_ft h_, fun h_ => no_ft h_, fun h_ => no_ft h_, fun h_ => no_ft h_, fun h_ => no_ft h_, fun hp_ => no_ft hp_, fun hp_ => no_ft hp_, fun hp_ => no_ft hp_⟩
 case zok6 | zgd6 => kernel_rfl
 subst eJ_; clear T_
 intro a6 w6 hA HF hJ_
 obtain ⟨O20, hB_, k0_, m4_, m8_, m15_, m16_, m18_, m19_, m20_, m22_, v0_0_, v0_1_, v0_2_⟩ := hJ_
 replace q4 := kn (HF 4) rfl q4
 replace q11 := kn (HF 11) rfl q11
 replace q12 := kn (HF 12) rfl q12
 replace q13 := kn (HF 13) rfl q13
 replace q14 := kn (HF 14) rfl q14
 replace q15 := kn (HF 15) rfl q15
 replace q16 := kn (HF 16) rfl q16
 replace q17 := kn (HF 17) rfl q17
 have f22 := m22_ rfl
 obtain ⟨u21, q18'⟩ : ∃ u, a6.get 18 = u := ⟨_, rfl⟩
 rw [q18'] at f22
 have q18 := q18'; clear q18'
 have q19' := ksv (j := 23) (HF 19) rfl rfl rfl
 have q19 := q19'; clear q19'
 clear q2; clear q6; clear HF
 replace f4 := GR.zI _ f4 k0_
 replace f8 := GR.zI _ f8 k0_
 replace f10 := GR.zI _ f10 k0_
 replace f13 := GR.zI _ f13 k0_
 clear hB; have hB := hB_; clear hB_; clear k0_ m4_ m8_ m15_ m16_ m18_ m19_ m20_ m22_ v0_0_ v0_1_ v0_2_; refine zA (wp_seq ?_); obtain ⟨x23, hx23, h⟩ := Comp.run_bind h
 refine' rb [_, _, _, _, SP.tup2 (SP.vl (rSl (rInt .i64)) O20 x23.1) (SP.isv (.int .i64 x23.2)), SP.tup2 (SP.vl (rSl (rInt .i64)) O20 x23.1) (SP.isv (.int .i64 x23.2)), SP.vl (rSl (rInt .i64)) O20 x23.1, SP.isv (.int .i64 x23.2), SP.vl (rSl (rInt .i64)) O20 x23.1, _] mixed hA hB hO (mv q12 (mv q13 (mv q14 (mv q15 (.cons (fun _ _ hE hK hg => yE (kX fn17 (ks 0 hK 81 rfl) (ks 1 hK 82 rfl) (ks 2 hK 83 rfl) (ks 3 hK 84 rfl) (gn (OkO.ext hB.ok hE) (vx f8 hE) (vx f10 hE) hx23)) (fun _ _ _ ⟨a_, b_, e0_, h0_, h1_⟩ => ⟨a_, b_, e0_, (fun h => (OwnR.val h (fun g hg => (OkO.ext hB.ok hE) g (OwnR.ge h g hg).1))) h0_, h1_⟩)) (cn (fun hE hK => vo (φ := SP.tup2 (SP.vl (rSl (rInt .i64)) O20 x23.1) (SP.isv (.int .i64 x23.2))) (kp _ 4 hK 85 rfl)) (cn (fun hE hK => jC (kp (SP.tup2 (SP.vl (rSl (rInt .i64)) O20 x23.1) (SP.isv (.int .i64 x23.2))) 5 hK 80 rfl)) (cn (fun hE hK => jB (kp (SP.tup2 (SP.vl (rSl (rInt .i64)) O20 x23.1) (SP.isv (.int .i64 x23.2))) 5 hK 80 rfl)) (cn (fun hE hK => yC (φ := SP.vl (rSl (rInt .i64)) O20 x23.1) (kp _ 6 hK 86 rfl)) (cn (fun hE hK => zE (ks 7 hK 87 rfl)) .nil)))))))))) ?zk7
 intro a7 w7 hA hE hB HF; refine kr10 HF q4 q11 q12 q13 q14 q15 q16 q17 q18 q19 ?_; clear q4 q11 q12 q13 q14 q15 q16 q17 q18 q19; intro q4 q11 q12 q13 q14 q15 q16 q17 q18 q19; obtain ⟨u24, q20, f25⟩ := kx (HF 20) rfl rfl rfl; have q21 := ksv (HF 21) rfl rfl rfl; clear HF; replace f8 := vx f8 hE; replace f10 := vx f10 hE; replace f13 := vx f13 hE; replace f22 := vx f22 hE; clear hE; refine zG (zA (wp_seq ?_)); obtain ⟨x26, hx26, h⟩ := Comp.run_bind h
 refine' rb [_, _, _, _, _, SP.tup2 (SP.vl (rSl (rInt .i64)) O20 x26.1) (SP.isv (.int .i64 x26.2)), SP.tup2 (SP.vl (rSl (rInt .i64)) O20 x26.1) (SP.isv (.int .i64 x26.2)), SP.vl (rSl (rInt .i64)) O20 x26.1, SP.isv (.int .i64 x26.2), SP.vl (rSl (rInt .i64)) O20 x26.1, _] mixed hA hB hO (mv q12 (mv q13 (mv q14 (mv q15 (cn (fun hE hK => yp (ks 3 hK 92 rfl) rfl) (.cons (fun _ _ hE hK hg => yE (kX fn17 (ks 0 hK 89 rfl) (ks 1 hK 90 rfl) (ks 2 hK 91 rfl) (ks 4 hK 93 rfl) (gn (OkO.ext hB.ok hE) (vx f8 hE) (vx f10 hE) hx26)) (fun _ _ _ ⟨a_, b_, e0_, h0_, h1_⟩ => ⟨a_, b_, e0_, (fun h => (OwnR.val h (fun g hg => (OkO.ext hB.ok hE) g (OwnR.ge h g hg).1))) h0_, h1_⟩)) (cn (fun hE hK => vo (φ := SP.tup2 (SP.vl (rSl (rInt .i64)) O20 x26.1) (SP.isv (.int .i64 x26.2))) (kp _ 5 hK 94 rfl)) (cn (fun hE hK => jC (kp (SP.tup2 (SP.vl (rSl (rInt .i64)) O20 x26.1) (SP.isv (.int .i64 x26.2))) 6 hK 88 rfl)) (cn (fun hE hK => jB (kp (SP.tup2 (SP.vl (rSl (rInt .i64)) O20 x26.1) (SP.isv (.int .i64 x26.2))) 6 hK 88 rfl)) (cn (fun hE hK => yC (φ := SP.vl (rSl (rInt .i64)) O20 x26.1) (kp _ 7 hK 95 rfl)) (cn (fun hE hK => zE (ks 8 hK 96 rfl)) .nil))))))))))) ?zk8
 intro a8 w8 hA hE hB HF; refine kr12 HF q4 q11 q12 q13 q14 q15 q16 q17 q18 q19 q20 q21 ?_; clear q4 q11 q12 q13 q14 q15 q16 q17 q18 q19 q20 q21; intro q4 q11 q12 q13 q14 q15 q16 q17 q18 q19 q20 q21; obtain ⟨u27, q22, f28⟩ := kx (HF 22) rfl rfl rfl; have q23 := ksv (HF 23) rfl rfl rfl; clear HF; replace f8 := vx f8 hE; replace f10 := vx f10 hE; replace f13 := vx f13 hE; replace f22 := vx f22 hE; replace f25 := vx f25 hE; clear hE; refine zG (zA (wp_seq (wp_seq ?_)))
 refine' rb [_, _, _, _, _, _, _, _, _, _, _, _, _, _] mixed hA hB hO (mv q17 (cn (fun hE hK => gm (ks 0 hK 97 rfl) rfl) (cn (fun hE hK => zJ (ks 1 hK 98 rfl)) (mv q19 (.cons (fun _ _ hE hK hg => gm (kg 3 hK 100 rfl hg) rfl) (cn (fun hE hK => za (ks 2 hK 99 rfl) (fun _ => rfl) (fun hb => kg 4 hK 101 rfl (zv rfl rfl hb))) (cn (fun hE hK => zJ (ks 5 hK 102 rfl)) (mv q21 (.cons (fun _ _ hE hK hg => gm (kg 7 hK 104 rfl hg) rfl) (cn (fun hE hK => za (ks 6 hK 103 rfl) (fun _ => rfl) (fun hb => kg 8 hK 105 rfl (zv rfl rfl hb))) (cn (fun hE hK => zJ (ks 9 hK 106 rfl)) (mv q23 (.cons (fun _ _ hE hK hg => gm (kg 11 hK 108 rfl hg) rfl) (cn (fun hE hK => za (ks 10 hK 107 rfl) (fun _ => rfl) (fun hb => kg 12 hK 109 rfl (zv rfl rfl hb))) .nil)))))))))))))) ?zk9
 intro a9 w9 hA hE hB HF; refine kr10 HF q4 q11 q12 q13 q14 q15 q16 q18 q20 q22 ?_; clear q4 q11 q12 q13 q14 q15 q16 q18 q20 q22; intro q4 q11 q12 q13 q14 q15 q16 q18 q20 q22; have q110 := ksv (HF 110) rfl rfl rfl; clear q17 q19 q21 q23 HF; replace f8 := vx f8 hE; replace f10 := vx f10 hE; replace f13 := vx f13 hE; replace f22 := vx f22 hE; replace f25 := vx f25 hE; replace f28 := vx f28 hE; clear hE
 obtain ⟨x29, hx_, h⟩ := Comp.run_bind h; replace hx_ := Comp.run_pure hx_; rw [hx_] at q110; clear hx_
 refine zG (zA ?_)
 revert h; refine cnd q110 (fun h => ?_) (fun h => ?_)
 ·
  refine wp_seq ?_
  refine' rb [_] mixed hA hB hO (cn (fun hE hK => zE rfl) .nil) ?zk10
  intro a10 w10 hA hE hB HF; have q10 := ksv (HF 10) rfl rfl rfl; clear q4 q11 q12 q13 q14 q15 q16 q18 q20 q22 q110 HF; replace f8 := vx f8 hE; replace f10 := vx f10 hE; replace f13 := vx f13 hE; replace f22 := vx f22 hE; replace f25 := vx f25 hE; replace f28 := vx f28 hE; clear hE; refine zG (zA (wp_ret (zn ?_)))
  have h := Comp.run_pure h; subst h
  exact zi Try.results7 hA q10 hB.ext rfl
 ·
  refine wp_skip (zA ?_)
  refine zh (fun a w => ∃ (O43 : Tags), a.fit 243 ∧ Base (Fr w0) O w0 O43 w ∧ a.get 4 = .int .u8 x_4 ∧ a.get 11 = .bool x5 ∧ a.get 12 = u7 ∧ (rSl zB).v O43 w u7 x6.1 ∧ a.get 13 = u9 ∧ (rSl zF).v O43 w u9 x6.2.1 ∧ a.get 14 = .int .i64 x6.2.2 ∧ a.get 15 = .int .i64 (Int.tmod (IntKind.wrap .i64 x_3) 3) ∧ a.get 16 = u12 ∧ (rSl (rInt .i64)).v O43 w u12 x11.1 ∧ a.get 20 = u24 ∧ (rSl (rInt .i64)).v O43 w u24 x23.1 ∧ a.get 22 = u27 ∧ (rSl (rInt .i64)).v O43 w u27 x26.1 ∧ (vH x23 x26 x6 x_4 x_3 x5 x11 ).run n = some y) ?_ ?_
  ·
   refine wp_seq ?_
   refine' rb [_, _, _] mixed hA hB hO (mv q16 (cn (fun hE hK => zw (r := (rInt .i64)) ty23 (ks 0 hK 111 rfl) (rd_of (vx f13 hE))) (cn (fun hE hK => zJ rfl) .nil))) ?zk11
   intro a11 w11 hA hE hB HF; refine kr10 HF q4 q11 q12 q13 q14 q15 q16 q18 q20 q22 ?_; clear q4 q11 q12 q13 q14 q15 q16 q18 q20 q22; intro q4 q11 q12 q13 q14 q15 q16 q18 q20 q22; have q111 := ksv (HF 111) rfl rfl rfl; have q112 := ksv (HF 112) rfl rfl rfl; have q113 := ksv (HF 113) rfl rfl rfl; clear q110 HF; replace f8 := vx f8 hE; replace f10 := vx f10 hE; replace f13 := vx f13 hE; replace f22 := vx f22 hE; replace f25 := vx f25 hE; replace f28 := vx f28 hE; clear hE; refine zG (zA (wp_block ?_))
   obtain ⟨e2, he2, hk2⟩ := Comp.run_bind h; clear h
   refine gK (fun m a w => ∃ (O31 : Tags) (x30 : Int), a.fit 243 ∧ Base (Fr w0) O w0 O31 w ∧ a.get 4 = .int .u8 x_4 ∧ a.get 11 = .bool x5 ∧ a.get 12 = u7 ∧ (rSl zB).v O31 w u7 x6.1 ∧ a.get 13 = u9 ∧ (rSl zF).v O31 w u9 x6.2.1 ∧ a.get 14 = .int .i64 x6.2.2 ∧ a.get 15 = .int .i64 (Int.tmod (IntKind.wrap .i64 x_3) 3) ∧ a.get 16 = u12 ∧ (rSl (rInt .i64)).v O31 w u12 x11.1 ∧ a.get 18 = u21 ∧ (rSl (rInt .i64)).v O31 w u21 x19.1 ∧ a.get 20 = u24 ∧ (rSl (rInt .i64)).v O31 w u24 x23.1 ∧ a.get 22 = u27 ∧ (rSl (rInt .i64)).v O31 w u27 x26.1 ∧ a.get 111 = u12 ∧ a.get 112 = .int .i64 (x11.1.length : Int) ∧ a.get 113 = .int .i64 x30 ∧ Comp.loopN (fun s => zr x11 x19 s) n m x30 = some e2) (m := n) ?st2 ?_
   case st2 =>
    exact ⟨_, _, hA, hB, q4, q11, q12, f8, q13, f10, q14, q15, q16, f13, q18, f22, q20, f25, q22, f28, q111, q112, q113, Comp.yL he2⟩
   intro m_ a12 w12 hI
   clear hA hB he2 q4 q11 q12 q13 q14 q15 q16 q18 q20 q22 q111 q112 q113 f10 f13 f22 f25 f28 f8
   obtain ⟨O31, x30, hA, hB, q4, q11, q12, f8, q13, f10, q14, q15, q16, f13, q18, f22, q20, f25, q22, f28, q111, q112, q113, hl⟩ := hI
   obtain ⟨m2, hlt2, st2, h, hnext2, hdone2⟩ := Comp.zm hl; clear hl
   replace h : (zr x11 x19 x30).run n = some st2 := h
   unfold zr at h; refine wp_seq ?_
   refine' rb [_] mixed hA hB hO (cn (fun hE hK => yh (kq hK q113) (kq hK q112)) .nil) ?zk12
   intro a13 w13 hA hE hB HF; refine kr13 HF q4 q11 q12 q13 q14 q15 q16 q18 q20 q22 q111 q112 q113 ?_; clear q4 q11 q12 q13 q14 q15 q16 q18 q20 q22 q111 q112 q113; intro q4 q11 q12 q13 q14 q15 q16 q18 q20 q22 q111 q112 q113; have q114 := ksv (HF 114) rfl rfl rfl; clear HF; replace f8 := vx f8 hE; replace f10 := vx f10 hE; replace f13 := vx f13 hE; replace f22 := vx f22 hE; replace f25 := vx f25 hE; replace f28 := vx f28 hE; clear hE; refine zG (zA (wp_seq ?_))
   revert h; refine cnd q114 (fun h => ?_) (fun h => ?_)
   ·
    refine wp_skip (zA (wp_seq (wp_block (wp_seq ?_)))); obtain ⟨x32, hx32, h⟩ := Comp.run_bind h
    refine' rb [SP.ptr (rInt .i64) O31 x32, SP.isv (.int .i64 x32), _] mixed hA hB hO (cn (fun hE hK => vC (r := (rInt .i64)) (O := O31) ty23 ty3 rfl (kq hK q111) (rd_of (vx f13 hE)) (kq hK q113) hx32) (cn (fun hE hK => yD (rInt .i64) (fun _ => rfl) ty3 rfl rfl rfl (kp (SP.ptr (rInt .i64) O31 x32) 0 hK 115 rfl) (fun _ _ _ h => zd.1 h)) (cn (fun hE hK => zE (ks 1 hK 116 rfl)) .nil))) ?zk13
    intro a14 w14 hA hE hB HF; refine kr13 HF q4 q11 q12 q13 q14 q15 q16 q18 q20 q22 q111 q112 q113 ?_; clear q4 q11 q12 q13 q14 q15 q16 q18 q20 q22 q111 q112 q113; intro q4 q11 q12 q13 q14 q15 q16 q18 q20 q22 q111 q112 q113; have q25 := ksv (HF 25) rfl rfl rfl; clear q114 HF; replace f8 := vx f8 hE; replace f10 := vx f10 hE; replace f13 := vx f13 hE; replace f22 := vx f22 hE; replace f25 := vx f25 hE; replace f28 := vx f28 hE; clear hE; refine zG (zA (wp_seq ?_))
    refine' rb [_] mixed hA hB hO (cn (fun hE hK => zE rfl) .nil) ?zk14
    intro a15 w15 hA hE hB HF; refine kr14 HF q4 q11 q12 q13 q14 q15 q16 q18 q20 q22 q25 q111 q112 q113 ?_; clear q4 q11 q12 q13 q14 q15 q16 q18 q20 q22 q25 q111 q112 q113; intro q4 q11 q12 q13 q14 q15 q16 q18 q20 q22 q25 q111 q112 q113; have q26 := ksv (HF 26) rfl rfl rfl; clear HF; replace f8 := vx f8 hE; replace f10 := vx f10 hE; replace f13 := vx f13 hE; replace f22 := vx f22 hE; replace f25 := vx f25 hE; replace f28 := vx f28 hE; clear hE; refine zG (zA ?_)
    refine zh (fun a w => ∃ (O41 : Tags) (x40 : Bool), a.fit 243 ∧ Base (Fr w0) O w0 O41 w ∧ a.get 4 = .int .u8 x_4 ∧ a.get 11 = .bool x5 ∧ a.get 12 = u7 ∧ (rSl zB).v O41 w u7 x6.1 ∧ a.get 13 = u9 ∧ (rSl zF).v O41 w u9 x6.2.1 ∧ a.get 14 = .int .i64 x6.2.2 ∧ a.get 15 = .int .i64 (Int.tmod (IntKind.wrap .i64 x_3) 3) ∧ a.get 16 = u12 ∧ (rSl (rInt .i64)).v O41 w u12 x11.1 ∧ a.get 18 = u21 ∧ (rSl (rInt .i64)).v O41 w u21 x19.1 ∧ a.get 20 = u24 ∧ (rSl (rInt .i64)).v O41 w u24 x23.1 ∧ a.get 22 = u27 ∧ (rSl (rInt .i64)).v O41 w u27 x26.1 ∧ a.get 26 = .bool x40 ∧ a.get 111 = u12 ∧ a.get 112 = .int .i64 (x11.1.length : Int) ∧ a.get 113 = .int .i64 x30 ∧ (vu x30 x40).run n = some st2) ?_ ?_
    ·
     refine wp_seq ?_
     refine' rb [_, _, _] mixed hA hB hO (mv q18 (cn (fun hE hK => zw (r := (rInt .i64)) ty23 (ks 0 hK 117 rfl) (rd_of (vx f22 hE))) (cn (fun hE hK => zJ rfl) .nil))) ?zk15
     intro a16 w16 hA hE hB HF; refine kr14 HF q4 q11 q12 q13 q14 q15 q16 q18 q20 q22 q25 q26 q111 q112 ?_; clear q4 q11 q12 q13 q14 q15 q16 q18 q20 q22 q25 q26 q111 q112; intro q4 q11 q12 q13 q14 q15 q16 q18 q20 q22 q25 q26 q111 q112; replace q113 := kf HF q113; have q117 := ksv (HF 117) rfl rfl rfl; have q118 := ksv (HF 118) rfl rfl rfl; have q119 := ksv (HF 119) rfl rfl rfl; clear HF; replace f8 := vx f8 hE; replace f10 := vx f10 hE; replace f13 := vx f13 hE; replace f22 := vx f22 hE; replace f25 := vx f25 hE; replace f28 := vx f28 hE; clear hE; refine zG (zA (wp_block ?_))
     obtain ⟨e4, he4, hk4⟩ := Comp.run_bind h; clear h
     refine gK (fun m a w => ∃ (O35 : Tags) (x33 : Bool) (x34 : Int), a.fit 243 ∧ Base (Fr w0) O w0 O35 w ∧ a.get 4 = .int .u8 x_4 ∧ a.get 11 = .bool x5 ∧ a.get 12 = u7 ∧ (rSl zB).v O35 w u7 x6.1 ∧ a.get 13 = u9 ∧ (rSl zF).v O35 w u9 x6.2.1 ∧ a.get 14 = .int .i64 x6.2.2 ∧ a.get 15 = .int .i64 (Int.tmod (IntKind.wrap .i64 x_3) 3) ∧ a.get 16 = u12 ∧ (rSl (rInt .i64)).v O35 w u12 x11.1 ∧ a.get 18 = u21 ∧ (rSl (rInt .i64)).v O35 w u21 x19.1 ∧ a.get 20 = u24 ∧ (rSl (rInt .i64)).v O35 w u24 x23.1 ∧ a.get 22 = u27 ∧ (rSl (rInt .i64)).v O35 w u27 x26.1 ∧ a.get 25 = .int .i64 x32 ∧ a.get 26 = .bool x33 ∧ a.get 111 = u12 ∧ a.get 112 = .int .i64 (x11.1.length : Int) ∧ a.get 113 = .int .i64 x30 ∧ a.get 117 = u21 ∧ a.get 118 = .int .i64 (x19.1.length : Int) ∧ a.get 119 = .int .i64 x34 ∧ Comp.loopN (fun s => zq x19 x32 s.1 s.2) n m (x33, x34) = some e4) (m := n) ?st4 ?_
     case st4 =>
      exact ⟨_, _, _, hA, hB, q4, q11, q12, f8, q13, f10, q14, q15, q16, f13, q18, f22, q20, f25, q22, f28, q25, q26, q111, q112, q113, q117, q118, q119, Comp.yL he4⟩
     intro m_ a17 w17 hI
     clear hA hB he4 q4 q11 q12 q13 q14 q15 q16 q18 q20 q22 q25 q26 q111 q112 q113 q117 q118 q119 f10 f13 f22 f25 f28 f8
     obtain ⟨O35, x33, x34, hA, hB, q4, q11, q12, f8, q13, f10, q14, q15, q16, f13, q18, f22, q20, f25, q22, f28, q25, q26, q111, q112, q113, q117, q118, q119, hl⟩ := hI
     obtain ⟨m4, hlt4, st4, h, hnext4, hdone4⟩ := Comp.zm hl; clear hl
     replace h : (zq x19 x32 x33 x34).run n = some st4 := h
     unfold zq at h; refine wp_seq ?_
     refine' rb [_] mixed hA hB hO (cn (fun hE hK => yh (kq hK q119) (kq hK q118)) .nil) ?zk16
     intro a18 w18 hA hE hB HF; refine kr14 HF q4 q11 q12 q13 q14 q15 q16 q18 q20 q22 q25 q26 q111 q112 ?_; clear q4 q11 q12 q13 q14 q15 q16 q18 q20 q22 q25 q26 q111 q112; intro q4 q11 q12 q13 q14 q15 q16 q18 q20 q22 q25 q26 q111 q112; refine kr4 HF q113 q117 q118 q119 ?_; clear q113 q117 q118 q119; intro q113 q117 q118 q119; have q120 := ksv (HF 120) rfl rfl rfl; clear HF; replace f8 := vx f8 hE; replace f10 := vx f10 hE; replace f13 := vx f13 hE; replace f22 := vx f22 hE; replace f25 := vx f25 hE; replace f28 := vx f28 hE; clear hE; refine zG (zA (wp_seq ?_))
     revert h; refine cnd q120 (fun h => ?_) (fun h => ?_)
     ·
      refine wp_skip (zA (wp_seq (wp_block (wp_seq ?_)))); obtain ⟨x36, hx36, h⟩ := Comp.run_bind h
      refine' rb [SP.ptr (rInt .i64) O35 x36, SP.isv (.int .i64 x36), _] mixed hA hB hO (cn (fun hE hK => vC (r := (rInt .i64)) (O := O35) ty23 ty3 rfl (kq hK q117) (rd_of (vx f22 hE)) (kq hK q119) hx36) (cn (fun hE hK => yD (rInt .i64) (fun _ => rfl) ty3 rfl rfl rfl (kp (SP.ptr (rInt .i64) O35 x36) 0 hK 121 rfl) (fun _ _ _ h => zd.1 h)) (cn (fun hE hK => zE (ks 1 hK 122 rfl)) .nil))) ?zk17
      intro a19 w19 hA hE hB HF; refine kr14 HF q4 q11 q12 q13 q14 q15 q16 q18 q20 q22 q25 q26 q111 q112 ?_; clear q4 q11 q12 q13 q14 q15 q16 q18 q20 q22 q25 q26 q111 q112; intro q4 q11 q12 q13 q14 q15 q16 q18 q20 q22 q25 q26 q111 q112; refine kr4 HF q113 q117 q118 q119 ?_; clear q113 q117 q118 q119; intro q113 q117 q118 q119; have q28 := ksv (HF 28) rfl rfl rfl; clear q120 HF; replace f8 := vx f8 hE; replace f10 := vx f10 hE; replace f13 := vx f13 hE; replace f22 := vx f22 hE; replace f25 := vx f25 hE; replace f28 := vx f28 hE; clear hE; refine zG (zA ?_)
      refine' rb [_, _, _, _, _, _, _, _] mixed hA hB hO (mv q26 (cn (fun hE hK => zJ (ks 0 hK 123 rfl)) (mv q28 (mv q25 (.cons (fun _ _ hE hK hg => okb_andNot (kg 2 hK 125 rfl hg) (kg 3 hK 126 rfl hg)) (.cons (fun _ _ hE hK hg => yq (kg 4 hK 127 rfl hg) rfl) (cn (fun hE hK => za (ks 1 hK 124 rfl) (fun _ => rfl) (fun hb => kg 5 hK 128 rfl (zv rfl rfl hb))) (cn (fun hE hK => zE (ks 6 hK 129 rfl)) .nil)))))))) ?zk18
      intro a20 w20 hA hE hB HF; refine kr14 HF q4 q11 q12 q13 q14 q15 q16 q18 q20 q22 q25 q111 q112 q113 ?_; clear q4 q11 q12 q13 q14 q15 q16 q18 q20 q22 q25 q111 q112 q113; intro q4 q11 q12 q13 q14 q15 q16 q18 q20 q22 q25 q111 q112 q113; refine kr3 HF q117 q118 q119 ?_; clear q117 q118 q119; intro q117 q118 q119; replace q26 := ksv (HF 26) rfl rfl rfl; clear q28 HF; replace f8 := vx f8 hE; replace f10 := vx f10 hE; replace f13 := vx f13 hE; replace f22 := vx f22 hE; replace f25 := vx f25 hE; replace f28 := vx f28 hE; clear hE
      obtain ⟨x37, hx_, h⟩ := Comp.run_bind h; replace hx_ := Comp.run_pure hx_; rw [hx_] at q26; clear hx_
      refine zG (yJ (zA ?_))
      refine' rb [_, _] mixed hA hB hO (cn (fun hE hK => yp (kq hK q119) rfl) (cn (fun hE hK => zJ (ks 0 hK 130 rfl)) .nil)) ?zk19
      intro a21 w21 hA hE hB HF; refine kr14 HF q4 q11 q12 q13 q14 q15 q16 q18 q20 q22 q25 q26 q111 q112 ?_; clear q4 q11 q12 q13 q14 q15 q16 q18 q20 q22 q25 q26 q111 q112; intro q4 q11 q12 q13 q14 q15 q16 q18 q20 q22 q25 q26 q111 q112; refine kr3 HF q113 q117 q118 ?_; clear q113 q117 q118; intro q113 q117 q118; replace q119 := ksv (HF 119) rfl rfl rfl; clear HF; replace f8 := vx f8 hE; replace f10 := vx f10 hE; replace f13 := vx f13 hE; replace f22 := vx f22 hE; replace f25 := vx f25 hE; replace f28 := vx f28 hE; clear hE; refine zG (zA ?_)
      have h := hnext4 _ (Comp.run_pure h).symm
      refine ⟨m4, hlt4, ?_⟩
      exact ⟨_, _, _, hA, hB, q4, q11, q12, f8, q13, f10, q14, q15, q16, f13, q18, f22, q20, f25, q22, f28, q25, q26, q111, q112, q113, q117, q118, q119, h⟩
     ·
      refine wp_exit (zX (zX (ye ?_)))
      have hd_ := hdone4 _ (Comp.run_pure h).symm; clear h
      subst hd_; have h := hk4; clear hk4; try dsimp only at h
      refine zA ?_
      exact ⟨_, _, hA, hB, q4, q11, q12, f8, q13, f10, q14, q15, q16, f13, q18, f22, q20, f25, q22, f28, q26, q111, q112, q113, h⟩
    intro a22 w22 hI
    clear hA hB h q4 q11 q12 q13 q14 q15 q16 q18 q20 q22 q25 q26 q111 q112 q113 f10 f13 f22 f25 f28 f8
    obtain ⟨O41, x40, hA, hB, q4, q11, q12, f8, q13, f10, q14, q15, q16, f13, q18, f22, q20, f25, q22, f28, q26, q111, q112, q113, h⟩ := hI
    unfold vu at h; refine wp_seq ?_
    refine' rb [_, _] mixed hA hB hO (mv q26 (cn (fun hE hK => kb (ks 0 hK 131 rfl)) .nil)) ?zk20
    intro a23 w23 hA hE hB HF; refine kr13 HF q4 q11 q12 q13 q14 q15 q16 q18 q20 q22 q111 q112 q113 ?_; clear q4 q11 q12 q13 q14 q15 q16 q18 q20 q22 q111 q112 q113; intro q4 q11 q12 q13 q14 q15 q16 q18 q20 q22 q111 q112 q113; have q132 := ksv (HF 132) rfl rfl rfl; clear q26 HF; replace f8 := vx f8 hE; replace f10 := vx f10 hE; replace f13 := vx f13 hE; replace f22 := vx f22 hE; replace f25 := vx f25 hE; replace f28 := vx f28 hE; clear hE; refine zG (zA ?_)
    revert h; refine cnd q132 (fun h => ?_) (fun h => ?_)
    ·
     refine wp_seq ?_
     refine' rb [_] mixed hA hB hO (cn (fun hE hK => zE rfl) .nil) ?zk21
     intro a24 w24 hA hE hB HF; have q10 := ksv (HF 10) rfl rfl rfl; clear q4 q11 q12 q13 q14 q15 q16 q18 q20 q22 q111 q112 q113 q132 HF; replace f8 := vx f8 hE; replace f10 := vx f10 hE; replace f13 := vx f13 hE; replace f22 := vx f22 hE; replace f25 := vx f25 hE; replace f28 := vx f28 hE; clear hE; refine zG (zA (wp_ret (gR (zn (zn (gR (zn ?_)))))))
     have hd_ := hdone2 _ (Comp.run_pure h).symm; clear h
     subst hd_; have h := hk2; clear hk2; try dsimp only at h
     have h := Comp.run_pure h; subst h
     exact zi Try.results7 hA q10 hB.ext rfl
    ·
     refine wp_skip (yJ (zA ?_))
     refine' rb [_, _] mixed hA hB hO (cn (fun hE hK => yp (kq hK q113) rfl) (cn (fun hE hK => zJ (ks 0 hK 133 rfl)) .nil)) ?zk22
     intro a25 w25 hA hE hB HF; refine kr12 HF q4 q11 q12 q13 q14 q15 q16 q18 q20 q22 q111 q112 ?_; clear q4 q11 q12 q13 q14 q15 q16 q18 q20 q22 q111 q112; intro q4 q11 q12 q13 q14 q15 q16 q18 q20 q22 q111 q112; replace q113 := ksv (HF 113) rfl rfl rfl; clear q132 HF; replace f8 := vx f8 hE; replace f10 := vx f10 hE; replace f13 := vx f13 hE; replace f22 := vx f22 hE; replace f25 := vx f25 hE; replace f28 := vx f28 hE; clear hE; refine zG (zA ?_)
     have h := hnext2 _ (Comp.run_pure h).symm
     refine ⟨m2, hlt2, ?_⟩
     exact ⟨_, _, hA, hB, q4, q11, q12, f8, q13, f10, q14, q15, q16, f13, q18, f22, q20, f25, q22, f28, q111, q112, q113, h⟩
   ·
    refine wp_exit (zX (zX (ye ?_)))
    have hd_ := hdone2 _ (Comp.run_pure h).symm; clear h
    subst hd_; have h := hk2; clear hk2; try dsimp only at h
    refine zA ?_
    exact ⟨_, hA, hB, q4, q11, q12, f8, q13, f10, q14, q15, q16, f13, q20, f25, q22, f28, h⟩
  intro a26 w26 hI
  clear hA hB h q4 q11 q12 q13 q14 q15 q16 q18 q20 q22 q110 f10 f13 f22 f25 f28 f8
  obtain ⟨O43, hA, hB, q4, q11, q12, f8, q13, f10, q14, q15, q16, f13, q20, f25, q22, f28, h⟩ := hI
  unfold vH at h
  refine zh (fun a w => ∃ (O57 : Tags), a.fit 243 ∧ Base (Fr w0) O w0 O57 w ∧ a.get 4 = .int .u8 x_4 ∧ a.get 11 = .bool x5 ∧ a.get 12 = u7 ∧ (rSl zB).v O57 w u7 x6.1 ∧ a.get 13 = u9 ∧ (rSl zF).v O57 w u9 x6.2.1 ∧ a.get 14 = .int .i64 x6.2.2 ∧ a.get 15 = .int .i64 (Int.tmod (IntKind.wrap .i64 x_3) 3) ∧ a.get 16 = u12 ∧ (rSl (rInt .i64)).v O57 w u12 x11.1 ∧ a.get 20 = u24 ∧ (rSl (rInt .i64)).v O57 w u24 x23.1 ∧ (vG x6 x_4 x_3 x23 x5 x11 ).run n = some y) ?_ ?_
  ·
   refine wp_seq ?_
   refine' rb [_, _, _] mixed hA hB hO (mv q20 (cn (fun hE hK => zw (r := (rInt .i64)) ty23 (ks 0 hK 134 rfl) (rd_of (vx f25 hE))) (cn (fun hE hK => zJ rfl) .nil))) ?zk23
   intro a27 w27 hA hE hB HF; refine kr9 HF q4 q11 q12 q13 q14 q15 q16 q20 q22 ?_; clear q4 q11 q12 q13 q14 q15 q16 q20 q22; intro q4 q11 q12 q13 q14 q15 q16 q20 q22; have q134 := ksv (HF 134) rfl rfl rfl; have q135 := ksv (HF 135) rfl rfl rfl; have q136 := ksv (HF 136) rfl rfl rfl; clear HF; replace f8 := vx f8 hE; replace f10 := vx f10 hE; replace f13 := vx f13 hE; replace f25 := vx f25 hE; replace f28 := vx f28 hE; clear hE; refine zG (zA (wp_block ?_))
   obtain ⟨e6, he6, hk6⟩ := Comp.run_bind h; clear h
   refine gK (fun m a w => ∃ (O45 : Tags) (x44 : Int), a.fit 243 ∧ Base (Fr w0) O w0 O45 w ∧ a.get 4 = .int .u8 x_4 ∧ a.get 11 = .bool x5 ∧ a.get 12 = u7 ∧ (rSl zB).v O45 w u7 x6.1 ∧ a.get 13 = u9 ∧ (rSl zF).v O45 w u9 x6.2.1 ∧ a.get 14 = .int .i64 x6.2.2 ∧ a.get 15 = .int .i64 (Int.tmod (IntKind.wrap .i64 x_3) 3) ∧ a.get 16 = u12 ∧ (rSl (rInt .i64)).v O45 w u12 x11.1 ∧ a.get 20 = u24 ∧ (rSl (rInt .i64)).v O45 w u24 x23.1 ∧ a.get 22 = u27 ∧ (rSl (rInt .i64)).v O45 w u27 x26.1 ∧ a.get 134 = u24 ∧ a.get 135 = .int .i64 (x23.1.length : Int) ∧ a.get 136 = .int .i64 x44 ∧ Comp.loopN (fun s => zp x23 x26 s) n m x44 = some e6) (m := n) ?st6 ?_
   case st6 =>
    exact ⟨_, _, hA, hB, q4, q11, q12, f8, q13, f10, q14, q15, q16, f13, q20, f25, q22, f28, q134, q135, q136, Comp.yL he6⟩
   intro m_ a28 w28 hI
   clear hA hB he6 q4 q11 q12 q13 q14 q15 q16 q20 q22 q134 q135 q136 f10 f13 f25 f28 f8
   obtain ⟨O45, x44, hA, hB, q4, q11, q12, f8, q13, f10, q14, q15, q16, f13, q20, f25, q22, f28, q134, q135, q136, hl⟩ := hI
   obtain ⟨m6, hlt6, st6, h, hnext6, hdone6⟩ := Comp.zm hl; clear hl
   replace h : (zp x23 x26 x44).run n = some st6 := h
   unfold zp at h; refine wp_seq ?_
   refine' rb [_] mixed hA hB hO (cn (fun hE hK => yh (kq hK q136) (kq hK q135)) .nil) ?zk24
   intro a29 w29 hA hE hB HF; refine kr12 HF q4 q11 q12 q13 q14 q15 q16 q20 q22 q134 q135 q136 ?_; clear q4 q11 q12 q13 q14 q15 q16 q20 q22 q134 q135 q136; intro q4 q11 q12 q13 q14 q15 q16 q20 q22 q134 q135 q136; have q137 := ksv (HF 137) rfl rfl rfl; clear HF; replace f8 := vx f8 hE; replace f10 := vx f10 hE; replace f13 := vx f13 hE; replace f25 := vx f25 hE; replace f28 := vx f28 hE; clear hE; refine zG (zA (wp_seq ?_))
   revert h; refine cnd q137 (fun h => ?_) (fun h => ?_)
   ·
    refine wp_skip (zA (wp_seq (wp_block (wp_seq ?_)))); obtain ⟨x46, hx46, h⟩ := Comp.run_bind h
    refine' rb [SP.ptr (rInt .i64) O45 x46, SP.isv (.int .i64 x46), _] mixed hA hB hO (cn (fun hE hK => vC (r := (rInt .i64)) (O := O45) ty23 ty3 rfl (kq hK q134) (rd_of (vx f25 hE)) (kq hK q136) hx46) (cn (fun hE hK => yD (rInt .i64) (fun _ => rfl) ty3 rfl rfl rfl (kp (SP.ptr (rInt .i64) O45 x46) 0 hK 138 rfl) (fun _ _ _ h => zd.1 h)) (cn (fun hE hK => zE (ks 1 hK 139 rfl)) .nil))) ?zk25
    intro a30 w30 hA hE hB HF; refine kr12 HF q4 q11 q12 q13 q14 q15 q16 q20 q22 q134 q135 q136 ?_; clear q4 q11 q12 q13 q14 q15 q16 q20 q22 q134 q135 q136; intro q4 q11 q12 q13 q14 q15 q16 q20 q22 q134 q135 q136; have q30 := ksv (HF 30) rfl rfl rfl; clear q137 HF; replace f8 := vx f8 hE; replace f10 := vx f10 hE; replace f13 := vx f13 hE; replace f25 := vx f25 hE; replace f28 := vx f28 hE; clear hE; refine zG (zA (wp_seq ?_))
    refine' rb [_] mixed hA hB hO (cn (fun hE hK => zE rfl) .nil) ?zk26
    intro a31 w31 hA hE hB HF; refine kr13 HF q4 q11 q12 q13 q14 q15 q16 q20 q22 q30 q134 q135 q136 ?_; clear q4 q11 q12 q13 q14 q15 q16 q20 q22 q30 q134 q135 q136; intro q4 q11 q12 q13 q14 q15 q16 q20 q22 q30 q134 q135 q136; have q31 := ksv (HF 31) rfl rfl rfl; clear HF; replace f8 := vx f8 hE; replace f10 := vx f10 hE; replace f13 := vx f13 hE; replace f25 := vx f25 hE; replace f28 := vx f28 hE; clear hE; refine zG (zA ?_)
    refine zh (fun a w => ∃ (O55 : Tags) (x54 : Bool), a.fit 243 ∧ Base (Fr w0) O w0 O55 w ∧ a.get 4 = .int .u8 x_4 ∧ a.get 11 = .bool x5 ∧ a.get 12 = u7 ∧ (rSl zB).v O55 w u7 x6.1 ∧ a.get 13 = u9 ∧ (rSl zF).v O55 w u9 x6.2.1 ∧ a.get 14 = .int .i64 x6.2.2 ∧ a.get 15 = .int .i64 (Int.tmod (IntKind.wrap .i64 x_3) 3) ∧ a.get 16 = u12 ∧ (rSl (rInt .i64)).v O55 w u12 x11.1 ∧ a.get 20 = u24 ∧ (rSl (rInt .i64)).v O55 w u24 x23.1 ∧ a.get 22 = u27 ∧ (rSl (rInt .i64)).v O55 w u27 x26.1 ∧ a.get 31 = .bool x54 ∧ a.get 134 = u24 ∧ a.get 135 = .int .i64 (x23.1.length : Int) ∧ a.get 136 = .int .i64 x44 ∧ (vt x44 x54).run n = some st6) ?_ ?_
    ·
     refine wp_seq ?_
     refine' rb [_, _, _] mixed hA hB hO (mv q22 (cn (fun hE hK => zw (r := (rInt .i64)) ty23 (ks 0 hK 140 rfl) (rd_of (vx f28 hE))) (cn (fun hE hK => zJ rfl) .nil))) ?zk27
     intro a32 w32 hA hE hB HF; refine kr14 HF q4 q11 q12 q13 q14 q15 q16 q20 q22 q30 q31 q134 q135 q136 ?_; clear q4 q11 q12 q13 q14 q15 q16 q20 q22 q30 q31 q134 q135 q136; intro q4 q11 q12 q13 q14 q15 q16 q20 q22 q30 q31 q134 q135 q136; have q140 := ksv (HF 140) rfl rfl rfl; have q141 := ksv (HF 141) rfl rfl rfl; have q142 := ksv (HF 142) rfl rfl rfl; clear HF; replace f8 := vx f8 hE; replace f10 := vx f10 hE; replace f13 := vx f13 hE; replace f25 := vx f25 hE; replace f28 := vx f28 hE; clear hE; refine zG (zA (wp_block ?_))
     obtain ⟨e8, he8, hk8⟩ := Comp.run_bind h; clear h
     refine gK (fun m a w => ∃ (O49 : Tags) (x47 : Bool) (x48 : Int), a.fit 243 ∧ Base (Fr w0) O w0 O49 w ∧ a.get 4 = .int .u8 x_4 ∧ a.get 11 = .bool x5 ∧ a.get 12 = u7 ∧ (rSl zB).v O49 w u7 x6.1 ∧ a.get 13 = u9 ∧ (rSl zF).v O49 w u9 x6.2.1 ∧ a.get 14 = .int .i64 x6.2.2 ∧ a.get 15 = .int .i64 (Int.tmod (IntKind.wrap .i64 x_3) 3) ∧ a.get 16 = u12 ∧ (rSl (rInt .i64)).v O49 w u12 x11.1 ∧ a.get 20 = u24 ∧ (rSl (rInt .i64)).v O49 w u24 x23.1 ∧ a.get 22 = u27 ∧ (rSl (rInt .i64)).v O49 w u27 x26.1 ∧ a.get 30 = .int .i64 x46 ∧ a.get 31 = .bool x47 ∧ a.get 134 = u24 ∧ a.get 135 = .int .i64 (x23.1.length : Int) ∧ a.get 136 = .int .i64 x44 ∧ a.get 140 = u27 ∧ a.get 141 = .int .i64 (x26.1.length : Int) ∧ a.get 142 = .int .i64 x48 ∧ Comp.loopN (fun s => zo x26 x46 s.1 s.2) n m (x47, x48) = some e8) (m := n) ?st8 ?_
     case st8 =>
      exact ⟨_, _, _, hA, hB, q4, q11, q12, f8, q13, f10, q14, q15, q16, f13, q20, f25, q22, f28, q30, q31, q134, q135, q136, q140, q141, q142, Comp.yL he8⟩
     intro m_ a33 w33 hI
     clear hA hB he8 q4 q11 q12 q13 q14 q15 q16 q20 q22 q30 q31 q134 q135 q136 q140 q141 q142 f10 f13 f25 f28 f8
     obtain ⟨O49, x47, x48, hA, hB, q4, q11, q12, f8, q13, f10, q14, q15, q16, f13, q20, f25, q22, f28, q30, q31, q134, q135, q136, q140, q141, q142, hl⟩ := hI
     obtain ⟨m8, hlt8, st8, h, hnext8, hdone8⟩ := Comp.zm hl; clear hl
     replace h : (zo x26 x46 x47 x48).run n = some st8 := h
     unfold zo at h; refine wp_seq ?_
     refine' rb [_] mixed hA hB hO (cn (fun hE hK => yh (kq hK q142) (kq hK q141)) .nil) ?zk28
     intro a34 w34 hA hE hB HF; refine kr14 HF q4 q11 q12 q13 q14 q15 q16 q20 q22 q30 q31 q134 q135 q136 ?_; clear q4 q11 q12 q13 q14 q15 q16 q20 q22 q30 q31 q134 q135 q136; intro q4 q11 q12 q13 q14 q15 q16 q20 q22 q30 q31 q134 q135 q136; refine kr3 HF q140 q141 q142 ?_; clear q140 q141 q142; intro q140 q141 q142; have q143 := ksv (HF 143) rfl rfl rfl; clear HF; replace f8 := vx f8 hE; replace f10 := vx f10 hE; replace f13 := vx f13 hE; replace f25 := vx f25 hE; replace f28 := vx f28 hE; clear hE; refine zG (zA (wp_seq ?_))
     revert h; refine cnd q143 (fun h => ?_) (fun h => ?_)
     ·
      refine wp_skip (zA (wp_seq (wp_block (wp_seq ?_)))); obtain ⟨x50, hx50, h⟩ := Comp.run_bind h
      refine' rb [SP.ptr (rInt .i64) O49 x50, SP.isv (.int .i64 x50), _] mixed hA hB hO (cn (fun hE hK => vC (r := (rInt .i64)) (O := O49) ty23 ty3 rfl (kq hK q140) (rd_of (vx f28 hE)) (kq hK q142) hx50) (cn (fun hE hK => yD (rInt .i64) (fun _ => rfl) ty3 rfl rfl rfl (kp (SP.ptr (rInt .i64) O49 x50) 0 hK 144 rfl) (fun _ _ _ h => zd.1 h)) (cn (fun hE hK => zE (ks 1 hK 145 rfl)) .nil))) ?zk29
      intro a35 w35 hA hE hB HF; refine kr14 HF q4 q11 q12 q13 q14 q15 q16 q20 q22 q30 q31 q134 q135 q136 ?_; clear q4 q11 q12 q13 q14 q15 q16 q20 q22 q30 q31 q134 q135 q136; intro q4 q11 q12 q13 q14 q15 q16 q20 q22 q30 q31 q134 q135 q136; refine kr3 HF q140 q141 q142 ?_; clear q140 q141 q142; intro q140 q141 q142; have q33 := ksv (HF 33) rfl rfl rfl; clear q143 HF; replace f8 := vx f8 hE; replace f10 := vx f10 hE; replace f13 := vx f13 hE; replace f25 := vx f25 hE; replace f28 := vx f28 hE; clear hE; refine zG (zA ?_)
      refine' rb [_, _, _, _, _, _, _] mixed hA hB hO (mv q31 (cn (fun hE hK => zJ (ks 0 hK 146 rfl)) (mv q33 (mv q30 (.cons (fun _ _ hE hK hg => yq (kg 2 hK 148 rfl hg) (kg 3 hK 149 rfl hg)) (cn (fun hE hK => za (ks 1 hK 147 rfl) (fun _ => rfl) (fun hb => kg 4 hK 150 rfl (zv rfl rfl hb))) (cn (fun hE hK => zE (ks 5 hK 151 rfl)) .nil))))))) ?zk30
      intro a36 w36 hA hE hB HF; refine kr14 HF q4 q11 q12 q13 q14 q15 q16 q20 q22 q30 q134 q135 q136 q140 ?_; clear q4 q11 q12 q13 q14 q15 q16 q20 q22 q30 q134 q135 q136 q140; intro q4 q11 q12 q13 q14 q15 q16 q20 q22 q30 q134 q135 q136 q140; replace q141 := kf HF q141; replace q142 := kf HF q142; replace q31 := ksv (HF 31) rfl rfl rfl; clear q33 HF; replace f8 := vx f8 hE; replace f10 := vx f10 hE; replace f13 := vx f13 hE; replace f25 := vx f25 hE; replace f28 := vx f28 hE; clear hE
      obtain ⟨x51, hx_, h⟩ := Comp.run_bind h; replace hx_ := Comp.run_pure hx_; rw [hx_] at q31; clear hx_
      refine zG (yJ (zA ?_))
      refine' rb [_, _] mixed hA hB hO (cn (fun hE hK => yp (kq hK q142) rfl) (cn (fun hE hK => zJ (ks 0 hK 152 rfl)) .nil)) ?zk31
      intro a37 w37 hA hE hB HF; refine kr14 HF q4 q11 q12 q13 q14 q15 q16 q20 q22 q30 q31 q134 q135 q136 ?_; clear q4 q11 q12 q13 q14 q15 q16 q20 q22 q30 q31 q134 q135 q136; intro q4 q11 q12 q13 q14 q15 q16 q20 q22 q30 q31 q134 q135 q136; replace q140 := kf HF q140; replace q141 := kf HF q141; replace q142 := ksv (HF 142) rfl rfl rfl; clear HF; replace f8 := vx f8 hE; replace f10 := vx f10 hE; replace f13 := vx f13 hE; replace f25 := vx f25 hE; replace f28 := vx f28 hE; clear hE; refine zG (zA ?_)
      have h := hnext8 _ (Comp.run_pure h).symm
      refine ⟨m8, hlt8, ?_⟩
      exact ⟨_, _, _, hA, hB, q4, q11, q12, f8, q13, f10, q14, q15, q16, f13, q20, f25, q22, f28, q30, q31, q134, q135, q136, q140, q141, q142, h⟩
     ·
      refine wp_exit (zX (zX (ye ?_)))
      have hd_ := hdone8 _ (Comp.run_pure h).symm; clear h
      subst hd_; have h := hk8; clear hk8; try dsimp only at h
      refine zA ?_
      exact ⟨_, _, hA, hB, q4, q11, q12, f8, q13, f10, q14, q15, q16, f13, q20, f25, q22, f28, q31, q134, q135, q136, h⟩
    intro a38 w38 hI
    clear hA hB h q4 q11 q12 q13 q14 q15 q16 q20 q22 q30 q31 q134 q135 q136 f10 f13 f25 f28 f8
    obtain ⟨O55, x54, hA, hB, q4, q11, q12, f8, q13, f10, q14, q15, q16, f13, q20, f25, q22, f28, q31, q134, q135, q136, h⟩ := hI
    unfold vt at h; refine wp_seq ?_
    refine' rb [_, _] mixed hA hB hO (mv q31 (cn (fun hE hK => kb (ks 0 hK 153 rfl)) .nil)) ?zk32
    intro a39 w39 hA hE hB HF; refine kr12 HF q4 q11 q12 q13 q14 q15 q16 q20 q22 q134 q135 q136 ?_; clear q4 q11 q12 q13 q14 q15 q16 q20 q22 q134 q135 q136; intro q4 q11 q12 q13 q14 q15 q16 q20 q22 q134 q135 q136; have q154 := ksv (HF 154) rfl rfl rfl; clear q31 HF; replace f8 := vx f8 hE; replace f10 := vx f10 hE; replace f13 := vx f13 hE; replace f25 := vx f25 hE; replace f28 := vx f28 hE; clear hE; refine zG (zA ?_)
    revert h; refine cnd q154 (fun h => ?_) (fun h => ?_)
    ·
     refine wp_seq ?_
     refine' rb [_] mixed hA hB hO (cn (fun hE hK => zE rfl) .nil) ?zk33
     intro a40 w40 hA hE hB HF; have q10 := ksv (HF 10) rfl rfl rfl; clear q4 q11 q12 q13 q14 q15 q16 q20 q22 q134 q135 q136 q154 HF; replace f8 := vx f8 hE; replace f10 := vx f10 hE; replace f13 := vx f13 hE; replace f25 := vx f25 hE; replace f28 := vx f28 hE; clear hE; refine zG (zA (wp_ret (gR (zn (zn (gR (zn ?_)))))))
     have hd_ := hdone6 _ (Comp.run_pure h).symm; clear h
     subst hd_; have h := hk6; clear hk6; try dsimp only at h
     have h := Comp.run_pure h; subst h
     exact zi Try.results7 hA q10 hB.ext rfl
    ·
     refine wp_skip (yJ (zA ?_))
     refine' rb [_, _] mixed hA hB hO (cn (fun hE hK => yp (kq hK q136) rfl) (cn (fun hE hK => zJ (ks 0 hK 155 rfl)) .nil)) ?zk34
     intro a41 w41 hA hE hB HF; refine kr11 HF q4 q11 q12 q13 q14 q15 q16 q20 q22 q134 q135 ?_; clear q4 q11 q12 q13 q14 q15 q16 q20 q22 q134 q135; intro q4 q11 q12 q13 q14 q15 q16 q20 q22 q134 q135; replace q136 := ksv (HF 136) rfl rfl rfl; clear q154 HF; replace f8 := vx f8 hE; replace f10 := vx f10 hE; replace f13 := vx f13 hE; replace f25 := vx f25 hE; replace f28 := vx f28 hE; clear hE; refine zG (zA ?_)
     have h := hnext6 _ (Comp.run_pure h).symm
     refine ⟨m6, hlt6, ?_⟩
     exact ⟨_, _, hA, hB, q4, q11, q12, f8, q13, f10, q14, q15, q16, f13, q20, f25, q22, f28, q134, q135, q136, h⟩
   ·
    refine wp_exit (zX (zX (ye ?_)))
    have hd_ := hdone6 _ (Comp.run_pure h).symm; clear h
    subst hd_; have h := hk6; clear hk6; try dsimp only at h
    refine zA ?_
    exact ⟨_, hA, hB, q4, q11, q12, f8, q13, f10, q14, q15, q16, f13, q20, f25, h⟩
  intro a42 w42 hI
  clear hA hB h q4 q11 q12 q13 q14 q15 q16 q20 q22 f10 f13 f25 f28 f8
  obtain ⟨O57, hA, hB, q4, q11, q12, f8, q13, f10, q14, q15, q16, f13, q20, f25, h⟩ := hI
  unfold vG at h; refine wp_seq ?_
  refine' rbT [] hA hB hO .nil ?zk35
  intro a43 w43 hA hE hB HF; refine kr8 HF q4 q11 q12 q13 q14 q15 q16 q20 ?_; clear q4 q11 q12 q13 q14 q15 q16 q20; intro q4 q11 q12 q13 q14 q15 q16 q20; clear HF; replace f8 := vx f8 hE; replace f10 := vx f10 hE; replace f13 := vx f13 hE; replace f25 := vx f25 hE; clear hE
  refine l_ok (φ := SP.ownr zB 33 w43.heap.size O57 []) hO hB (by exact jH (r := zB) zO rfl hB.ok ty27 ty33 (Nat.le_refl _) zl trivial rfl (by decide)) rfl fun u58 w44 hE hB' f59 => ?_
  clear hB'; obtain ⟨O60, hB', hX, f61⟩ := ownNew hO hB hE f59 rfl 2 (by decide)
  clear hB f59; have hB := hB'; clear hB'; replace f8 := vk f8 hX; replace f10 := vk f10 hX; replace f13 := vk f13 hX; replace f25 := vk f25 hX; clear hX hE
  refine zQ hA (by decide) fun a45 hA q_ hfr => ?_
  refine kd8 hfr q4 q11 q12 q13 q14 q15 q16 q20 ?_; clear q4 q11 q12 q13 q14 q15 q16 q20; intro q4 q11 q12 q13 q14 q15 q16 q20; have q156 := q_; clear q_ hfr
  refine l_ok (φ := SP.isv (u7)) hO hB (by exact zJ q12) rfl fun u_ w46 hE hB' hv_ => ?_
  replace hv_ := Eq.symm hv_; subst hv_; clear hB; have hB := hB'; clear hB'
  replace f8 := vx f8 hE; replace f10 := vx f10 hE; replace f13 := vx f13 hE; replace f25 := vx f25 hE; replace f61 := f61.ext hE; clear hE
  refine zQ hA (by decide) fun a47 hA q_ hfr => ?_
  refine kd9 hfr q4 q11 q12 q13 q14 q15 q16 q20 q156 ?_; clear q4 q11 q12 q13 q14 q15 q16 q20 q156; intro q4 q11 q12 q13 q14 q15 q16 q20 q156; have q157 := q_; clear q_ hfr; obtain ⟨x62, hx62, h⟩ := Comp.run_bind h
  refine jP (r := zB) zO rfl ty27 ty33 rfl (by decide) hO hB (yI hB) q156 f61 q157 (rd_of f8) hx62 (by decide) fun u63 w48 O64 f65 hB' hX => ?_
  clear hB; have hB := hB'; clear hB'; clear f61; replace f8 := vk f8 hX; replace f10 := vk f10 hX; replace f13 := vk f13 hX; replace f25 := vk f25 hX; clear hX
  refine zQ hA (by decide) fun a49 hA q_ hfr => ?_
  refine kd10 hfr q4 q11 q12 q13 q14 q15 q16 q20 q156 q157 ?_; clear q4 q11 q12 q13 q14 q15 q16 q20 q156 q157; intro q4 q11 q12 q13 q14 q15 q16 q20 q156 q157; have q158 := q_; clear q_ hfr
  refine l_ok (φ := SP.isv (u63)) hO hB (by exact zE q158) rfl fun u_ w50 hE hB' hv_ => ?_
  replace hv_ := Eq.symm hv_; subst hv_; clear hB; have hB := hB'; clear hB'
  replace f8 := vx f8 hE; replace f10 := vx f10 hE; replace f13 := vx f13 hE; replace f25 := vx f25 hE; replace f65 := f65.ext hE; clear hE
  refine zQ hA (by decide) fun a51 hA q_ hfr => ?_
  refine kd9 hfr q4 q11 q12 q13 q14 q15 q16 q20 q158 ?_; clear q4 q11 q12 q13 q14 q15 q16 q20 q158; intro q4 q11 q12 q13 q14 q15 q16 q20 q158; have q34 := q_; clear q_ hfr; refine zG (zA ?_)
  refine zh (fun a w => ∃ (O87 : Tags) (x82 : List api_Claim) (u83 : Value), a.fit 243 ∧ Base (Fr w0) O w0 O87 w ∧ a.get 11 = .bool x5 ∧ a.get 12 = u7 ∧ (rSl zB).v O87 w u7 x6.1 ∧ a.get 13 = u9 ∧ (rSl zF).v O87 w u9 x6.2.1 ∧ a.get 14 = .int .i64 x6.2.2 ∧ a.get 15 = .int .i64 (Int.tmod (IntKind.wrap .i64 x_3) 3) ∧ a.get 16 = u12 ∧ (rSl (rInt .i64)).v O87 w u12 x11.1 ∧ a.get 20 = u24 ∧ (rSl (rInt .i64)).v O87 w u24 x23.1 ∧ a.get 34 = u83 ∧ (rSl zB).v O87 w u83 x82 ∧ (vr x6 x_3 x23 x5 x11 x82).run n = some y) ?_ ?_
  ·
   refine wp_seq ?_
   refine' rb [_, _, _] mixed hA hB hO (mv q34 (cn (fun hE hK => zw (r := zB) ty27 (ks 0 hK 159 rfl) (OwnL.rd (OwnL.ext f65 hE))) (cn (fun hE hK => zJ rfl) .nil))) ?zk36
   intro a52 w52 hA hE hB HF; refine kr9 HF q4 q11 q12 q13 q14 q15 q16 q20 q34 ?_; clear q4 q11 q12 q13 q14 q15 q16 q20 q34; intro q4 q11 q12 q13 q14 q15 q16 q20 q34; have q160 := ksv (HF 160) rfl rfl rfl; have q161 := ksv (HF 161) rfl rfl rfl; clear HF; replace f8 := vx f8 hE; replace f10 := vx f10 hE; replace f13 := vx f13 hE; replace f25 := vx f25 hE; replace f65 := f65.ext hE; clear hE; refine zG (zA (wp_block ?_))
   obtain ⟨O70, hB', hX, f71⟩ := retagL (yI hB) hB f65 3 (by decide) (by decide)
   clear f65 hB; have hB := hB'; clear hB'; replace f8 := vk f8 hX; replace f10 := vk f10 hX; replace f13 := vk f13 hX; replace f25 := vk f25 hX; clear hX
   obtain ⟨e10, he10, hk10⟩ := Comp.run_bind h; clear h
   refine gK (fun m a w => ∃ (O72 : Tags) (x66 : List api_Claim) (x69 : Int) (u67 : Value), a.fit 243 ∧ Base (Fr w0) O w0 O72 w ∧ a.get 4 = .int .u8 x_4 ∧ a.get 11 = .bool x5 ∧ a.get 12 = u7 ∧ (rSl zB).v O72 w u7 x6.1 ∧ a.get 13 = u9 ∧ (rSl zF).v O72 w u9 x6.2.1 ∧ a.get 14 = .int .i64 x6.2.2 ∧ a.get 15 = .int .i64 (Int.tmod (IntKind.wrap .i64 x_3) 3) ∧ a.get 16 = u12 ∧ (rSl (rInt .i64)).v O72 w u12 x11.1 ∧ a.get 20 = u24 ∧ (rSl (rInt .i64)).v O72 w u24 x23.1 ∧ a.get 34 = u67 ∧ OwnL 3 zB 33 (Fr w0) O72 w u67 x66 ∧ a.get 160 = .int .i64 (x62.length : Int) ∧ a.get 161 = .int .i64 x69 ∧ Comp.loopN (fun s => zk x62 x_4 s.1 s.2) n m (x66, x69) = some e10) (m := n) ?st10 ?_
   case st10 =>
    exact ⟨_, _, _, _, hA, hB, q4, q11, q12, f8, q13, f10, q14, q15, q16, f13, q20, f25, q34, f71, q160, q161, Comp.yL he10⟩
   intro m_ a53 w53 hI
   clear hA hB he10 q4 q11 q12 q13 q14 q15 q16 q20 q34 q160 q161 f10 f13 f25 f71 f8
   obtain ⟨O72, x66, x69, u67, hA, hB, q4, q11, q12, f8, q13, f10, q14, q15, q16, f13, q20, f25, q34, f68, q160, q161, hl⟩ := hI
   obtain ⟨m10, hlt10, st10, h, hnext10, hdone10⟩ := Comp.zm hl; clear hl
   replace h : (zk x62 x_4 x66 x69).run n = some st10 := h
   unfold zk at h; refine wp_seq ?_
   refine' rb [_] mixed hA hB hO (cn (fun hE hK => yh (kq hK q161) (kq hK q160)) .nil) ?zk37
   intro a54 w54 hA hE hB HF; refine kr11 HF q4 q11 q12 q13 q14 q15 q16 q20 q34 q160 q161 ?_; clear q4 q11 q12 q13 q14 q15 q16 q20 q34 q160 q161; intro q4 q11 q12 q13 q14 q15 q16 q20 q34 q160 q161; have q162 := ksv (HF 162) rfl rfl rfl; clear HF; replace f8 := vx f8 hE; replace f10 := vx f10 hE; replace f13 := vx f13 hE; replace f25 := vx f25 hE; replace f68 := f68.ext hE; clear hE; refine zG (zA (wp_seq ?_))
   revert h; refine cnd q162 (fun h => ?_) (fun h => ?_)
   ·
    refine wp_skip (zA (wp_seq (wp_block (wp_seq ?_))))
    refine' rb [_, _] mixed hA hB hO (mv q161 (cn (fun hE hK => zE (ks 0 hK 163 rfl)) .nil)) ?zk38
    intro a55 w55 hA hE hB HF; refine kr11 HF q4 q11 q12 q13 q14 q15 q16 q20 q34 q160 q161 ?_; clear q4 q11 q12 q13 q14 q15 q16 q20 q34 q160 q161; intro q4 q11 q12 q13 q14 q15 q16 q20 q34 q160 q161; have q35 := ksv (HF 35) rfl rfl rfl; clear q162 HF; replace f8 := vx f8 hE; replace f10 := vx f10 hE; replace f13 := vx f13 hE; replace f25 := vx f25 hE; replace f68 := f68.ext hE; clear hE; refine zG (zA ?_); obtain ⟨x73, hx73, h⟩ := Comp.run_bind h; obtain ⟨x74, hx74, h⟩ := Comp.run_bind h
    refine' rbT [_, _, _, _, SP.ptr zB O72 x73, SP.ptr (rInt .i64) O72 x73.Party, SP.isv (.int .i64 x73.Party), _, _, _, _, _, _, _, SP.elt (u67) (Int.toNat x69 * 5), SP.elt (u67) (Int.toNat x69 * 5 + 0)] hA hB hO (mv q34 (mv q35 (mv q34 (mv q35 (cn (fun hE hK => vC (r := zB) (O := O72) ty27 ty33 rfl (ks 2 hK 166 rfl) (OwnL.rd (OwnL.ext f68 hE)) (ks 3 hK 167 rfl) hx73) (cn (fun hE hK => okl_fld (S := zB) rfl (fun _ => rfl) sb_api_Claim_0 fl33_0 rfl (kp (SP.ptr zB O72 x73) 4 hK 168 rfl)) (cn (fun hE hK => yD (rInt .i64) (fun _ => rfl) ty3 rfl rfl rfl (kp (SP.ptr (rInt .i64) O72 x73.Party) 5 hK 169 rfl) (fun _ _ _ h => zd.1 h)) (cn (fun hE hK => yp (ks 6 hK 170 rfl) rfl) (mv q4 (cn (fun hE hK => ok_convI ty5 ty3 (ks 8 hK 172 rfl)) (cn (fun hE hK => ok_rem (ks 9 hK 173 rfl) rfl (by decide)) (cn (fun hE hK => yp (ks 7 hK 171 rfl) (ks 10 hK 174 rfl)) (cn (fun hE hK => ok_rem (ks 11 hK 175 rfl) rfl (by decide)) (cn (fun hE hK => ok_sub (ks 12 hK 176 rfl) rfl) (cn (fun hE hK => okl_idxOwn rfl ty27 ty33 (ksv (j := 0) (hK 164 rfl) rfl rfl rfl) (OwnL.ext f68 hE) (ks 1 hK 165 rfl) (idx_lt hx74)) (cn (fun hE hK => okl_fldElt fl33_0 rfl (kp (SP.elt (u67) (Int.toNat x69 * 5)) 14 hK 178 rfl)) .nil)))))))))))))))) ?zk39
    intro a56 w56 hA hE hB HF; refine kr11 HF q4 q11 q12 q13 q14 q15 q16 q20 q34 q160 q161 ?_; clear q4 q11 q12 q13 q14 q15 q16 q20 q34 q160 q161; intro q4 q11 q12 q13 q14 q15 q16 q20 q34 q160 q161; obtain ⟨u75, q179, f76⟩ := kx (HF 179) rfl rfl rfl; have q177 := ksv (HF 177) rfl rfl rfl; clear q35 HF; replace f8 := vx f8 hE; replace f10 := vx f10 hE; replace f13 := vx f13 hE; replace f25 := vx f25 hE; replace f68 := f68.ext hE; clear hE; obtain ⟨x78, hx78, h⟩ := Comp.run_bind h; obtain ⟨x79, hx79, h⟩ := Comp.run_bind h
    refine l_storeFldG (r := zB) hO hB (yI hB) ty3 q179 f76 f68 q177 rfl rfl (by decide) hx78 hx79 rfl rfl (fun O_ w_ cs_ h_ => by obtain ⟨u1_, u2_, e_, ku1_, ku2_⟩ := openR_api_Claim h_; subst e_; exact ⟨[.int .i64 (IntKind.wrap .i64 ((Int.tmod (IntKind.wrap .i64 ((IntKind.wrap .i64 (x73.Party + 1)) + (Int.tmod (IntKind.wrap .i64 x_4) 6))) 6) - 1))], [.int .i64 x78.Kind, .int .i64 x78.Gauge, u1_, u2_], rfl, rfl, ⟨[.int .i64 x78.Kind], [.int .i64 x78.Gauge, u1_, u2_], rfl, rfl, ⟨[.int .i64 x78.Gauge], [u1_, u2_], rfl, rfl, ⟨[u1_], [u2_], rfl, (vJ (r := (rSl (rInt .i64))) ku1_ rfl rfl), ⟨[u2_], [], rfl, (vJ (r := (rSl (rInt .i64))) ku2_ rfl rfl), rfl⟩⟩⟩⟩⟩) (by decide) fun w57 f77 hB' hX => ?_
    clear hB; have hB := hB'; clear hB'; replace f8 := vk f8 hX; replace f10 := vk f10 hX; replace f13 := vk f13 hX; replace f25 := vk f25 hX; clear hX f68; refine zG (yJ (zA ?_))
    refine' rb [_, _] mixed hA hB hO (cn (fun hE hK => yp (kq hK q161) rfl) (cn (fun hE hK => zJ (ks 0 hK 180 rfl)) .nil)) ?zk40
    intro a58 w58 hA hE hB HF; refine kr10 HF q4 q11 q12 q13 q14 q15 q16 q20 q34 q160 ?_; clear q4 q11 q12 q13 q14 q15 q16 q20 q34 q160; intro q4 q11 q12 q13 q14 q15 q16 q20 q34 q160; replace q161 := ksv (HF 161) rfl rfl rfl; clear HF; replace f8 := vx f8 hE; replace f10 := vx f10 hE; replace f13 := vx f13 hE; replace f25 := vx f25 hE; replace f77 := f77.ext hE; clear hE; refine zG (zA ?_)
    have h := hnext10 _ (Comp.run_pure h).symm
    refine ⟨m10, hlt10, ?_⟩
    exact ⟨_, _, _, _, hA, hB, q4, q11, q12, f8, q13, f10, q14, q15, q16, f13, q20, f25, q34, f77, q160, q161, h⟩
   ·
    refine wp_exit (zX (zX (ye ?_)))
    have hd_ := hdone10 _ (Comp.run_pure h).symm; clear h
    subst hd_; have h := hk10; clear hk10; try dsimp only at h
    refine zA ?_
    obtain ⟨O85, hB', hX, f86⟩ := freezeL hO hB f68 (by decide)
    clear f68 hB; have hB := hB'; clear hB'; replace f8 := vk f8 hX; replace f10 := vk f10 hX; replace f13 := vk f13 hX; replace f25 := vk f25 hX; clear hX
    exact ⟨_, _, _, hA, hB, q11, q12, f8, q13, f10, q14, q15, q16, f13, q20, f25, q34, f86, h⟩
  intro a59 w59 hI
  clear hA hB h q4 q11 q12 q13 q14 q15 q16 q20 q34 f10 f13 f25 f65 f8
  obtain ⟨O87, x82, u83, hA, hB, q11, q12, f8, q13, f10, q14, q15, q16, f13, q20, f25, q34, f84, h⟩ := hI
  unfold vr at h; refine wp_seq ?_; obtain ⟨x88, hx88, h⟩ := Comp.run_bind h
  refine' rb [_, _, _, _, SP.tup2 (SP.vl (rSl (rInt .i64)) O87 x88.1) (SP.isv (.int .i64 x88.2)), SP.tup2 (SP.vl (rSl (rInt .i64)) O87 x88.1) (SP.isv (.int .i64 x88.2)), SP.vl (rSl (rInt .i64)) O87 x88.1, SP.isv (.int .i64 x88.2), SP.vl (rSl (rInt .i64)) O87 x88.1, _] mixed hA hB hO (mv q34 (mv q13 (mv q14 (mv q15 (.cons (fun _ _ hE hK hg => yE (kX fn17 (ks 0 hK 182 rfl) (ks 1 hK 183 rfl) (ks 2 hK 184 rfl) (ks 3 hK 185 rfl) (gn (OkO.ext hB.ok hE) (vx f84 hE) (vx f10 hE) hx88)) (fun _ _ _ ⟨a_, b_, e0_, h0_, h1_⟩ => ⟨a_, b_, e0_, (fun h => (OwnR.val h (fun g hg => (OkO.ext hB.ok hE) g (OwnR.ge h g hg).1))) h0_, h1_⟩)) (cn (fun hE hK => vo (φ := SP.tup2 (SP.vl (rSl (rInt .i64)) O87 x88.1) (SP.isv (.int .i64 x88.2))) (kp _ 4 hK 186 rfl)) (cn (fun hE hK => jC (kp (SP.tup2 (SP.vl (rSl (rInt .i64)) O87 x88.1) (SP.isv (.int .i64 x88.2))) 5 hK 181 rfl)) (cn (fun hE hK => jB (kp (SP.tup2 (SP.vl (rSl (rInt .i64)) O87 x88.1) (SP.isv (.int .i64 x88.2))) 5 hK 181 rfl)) (cn (fun hE hK => yC (φ := SP.vl (rSl (rInt .i64)) O87 x88.1) (kp _ 6 hK 187 rfl)) (cn (fun hE hK => zE (ks 7 hK 188 rfl)) .nil)))))))))) ?zk41
  intro a60 w60 hA hE hB HF; refine kr7 HF q11 q12 q13 q14 q15 q16 q20 ?_; clear q11 q12 q13 q14 q15 q16 q20; intro q11 q12 q13 q14 q15 q16 q20; obtain ⟨u89, q36, f90⟩ := kx (HF 36) rfl rfl rfl; have q37 := ksv (HF 37) rfl rfl rfl; clear q34 HF; replace f8 := vx f8 hE; replace f10 := vx f10 hE; replace f13 := vx f13 hE; replace f25 := vx f25 hE; replace f84 := vx f84 hE; clear hE; refine zG (zA (wp_seq ?_)); obtain ⟨x91, hx91, h⟩ := Comp.run_bind h
  refine' rb [_, _, _, _, SP.tup2 (SP.vl (rSl (rInt .i64)) O87 x91.1) (SP.isv (.int .i64 x91.2)), SP.tup2 (SP.vl (rSl (rInt .i64)) O87 x91.1) (SP.isv (.int .i64 x91.2)), SP.vl (rSl (rInt .i64)) O87 x91.1, SP.isv (.int .i64 x91.2), SP.vl (rSl (rInt .i64)) O87 x91.1, _] mixed hA hB hO (mv q12 (mv q13 (mv q14 (mv q15 (.cons (fun _ _ hE hK hg => yE (kX fn19 (ks 0 hK 190 rfl) (ks 1 hK 191 rfl) (ks 2 hK 192 rfl) (ks 3 hK 193 rfl) (kj (OkO.ext hB.ok hE) (vx f8 hE) (vx f10 hE) hx91)) (fun _ _ _ ⟨a_, b_, e0_, h0_, h1_⟩ => ⟨a_, b_, e0_, (fun h => (OwnR.val h (fun g hg => (OkO.ext hB.ok hE) g (OwnR.ge h g hg).1))) h0_, h1_⟩)) (cn (fun hE hK => vo (φ := SP.tup2 (SP.vl (rSl (rInt .i64)) O87 x91.1) (SP.isv (.int .i64 x91.2))) (kp _ 4 hK 194 rfl)) (cn (fun hE hK => jC (kp (SP.tup2 (SP.vl (rSl (rInt .i64)) O87 x91.1) (SP.isv (.int .i64 x91.2))) 5 hK 189 rfl)) (cn (fun hE hK => jB (kp (SP.tup2 (SP.vl (rSl (rInt .i64)) O87 x91.1) (SP.isv (.int .i64 x91.2))) 5 hK 189 rfl)) (cn (fun hE hK => yC (φ := SP.vl (rSl (rInt .i64)) O87 x91.1) (kp _ 6 hK 195 rfl)) (cn (fun hE hK => zE (ks 7 hK 196 rfl)) .nil)))))))))) ?zk42
  intro a61 w61 hA hE hB HF; refine kr8 HF q11 q12 q13 q14 q16 q20 q36 q37 ?_; clear q11 q12 q13 q14 q16 q20 q36 q37; intro q11 q12 q13 q14 q16 q20 q36 q37; obtain ⟨u92, q38, f93⟩ := kx (HF 38) rfl rfl rfl; have q39 := ksv (HF 39) rfl rfl rfl; clear q15 HF; replace f8 := vx f8 hE; replace f10 := vx f10 hE; replace f13 := vx f13 hE; replace f25 := vx f25 hE; replace f90 := vx f90 hE; clear hE; refine zG (zA (wp_seq (wp_seq ?_))); obtain ⟨x94, hx94, h⟩ := Comp.run_bind h
  refine' rb [_, _, _, _, _, SP.isv (.bool x94), _, _, _, _, _, _, _, _, _, _] mixed hA hB hO (mv q37 (cn (fun hE hK => gm (ks 0 hK 197 rfl) rfl) (cn (fun hE hK => zJ (ks 1 hK 198 rfl)) (mv q36 (mv q20 (.cons (fun _ _ hE hK hg => yV fn21 (kg 3 hK 200 rfl hg) (kg 4 hK 201 rfl hg) (vP (OkO.ext hB.ok hE) (vx f90 hE) (vx f25 hE) (yd hx94 hg))) (.cons (fun _ _ hE hK hg => kb (kg 5 hK 202 rfl hg)) (cn (fun hE hK => za (ks 2 hK 199 rfl) (fun _ => rfl) (fun hb => kg 6 hK 203 rfl (zv rfl rfl hb))) (cn (fun hE hK => zJ (ks 7 hK 204 rfl)) (mv q39 (.cons (fun _ _ hE hK hg => yq (kg 9 hK 206 rfl hg) rfl) (mv q20 (.cons (fun _ _ hE hK hg => zw (r := (rInt .i64)) ty23 (kg 11 hK 208 rfl hg) (rd_of (vx f25 hE))) (.cons (fun _ _ hE hK hg => yq (kg 12 hK 209 rfl hg) rfl) (.cons (fun _ _ hE hK hg => ok_neqB ty4 (kg 10 hK 207 rfl hg) (kg 13 hK 210 rfl hg)) (cn (fun hE hK => za (ks 8 hK 205 rfl) (fun _ => rfl) (fun hb => kg 14 hK 211 rfl (zv rfl rfl hb))) .nil)))))))))))))))) ?zk43
  intro a62 w62 hA hE hB HF; refine kr7 HF q11 q12 q13 q14 q16 q20 q38 ?_; clear q11 q12 q13 q14 q16 q20 q38; intro q11 q12 q13 q14 q16 q20 q38; have q212 := ksv (HF 212) rfl rfl rfl; clear q36 q37 q39 HF; replace f8 := vx f8 hE; replace f10 := vx f10 hE; replace f13 := vx f13 hE; replace f25 := vx f25 hE; replace f90 := vx f90 hE; replace f93 := vx f93 hE; clear hE
  obtain ⟨x95, hx_, h⟩ := Comp.run_bind h; replace hx_ := Comp.run_pure hx_; rw [hx_] at q212; clear hx_
  refine zG (zA ?_)
  revert h; refine cnd q212 (fun h => ?_) (fun h => ?_)
  ·
   refine wp_seq ?_
   refine' rb [_] mixed hA hB hO (cn (fun hE hK => zE rfl) .nil) ?zk44
   intro a63 w63 hA hE hB HF; have q10 := ksv (HF 10) rfl rfl rfl; clear q11 q12 q13 q14 q16 q20 q38 q212 HF; replace f8 := vx f8 hE; replace f10 := vx f10 hE; replace f13 := vx f13 hE; replace f25 := vx f25 hE; replace f93 := vx f93 hE; clear hE; refine zG (zA (wp_ret (zn ?_)))
   have h := Comp.run_pure h; subst h
   exact zi Try.results7 hA q10 hB.ext rfl
  ·
   refine wp_skip (zA (wp_seq ?_))
   refine' rb [_, _, _, _] mixed hA hB hO (mv q16 (cn (fun hE hK => zw (r := (rInt .i64)) ty23 (ks 0 hK 213 rfl) (rd_of (vx f13 hE))) (cn (fun hE hK => yq (ks 1 hK 214 rfl) rfl) (cn (fun hE hK => zE (ks 2 hK 215 rfl)) .nil)))) ?zk45
   intro a64 w64 hA hE hB HF; refine kr6 HF q11 q12 q13 q14 q20 q38 ?_; clear q11 q12 q13 q14 q20 q38; intro q11 q12 q13 q14 q20 q38; have q40 := ksv (HF 40) rfl rfl rfl; clear q16 q212 HF; replace f8 := vx f8 hE; replace f10 := vx f10 hE; replace f13 := vx f13 hE; replace f25 := vx f25 hE; replace f93 := vx f93 hE; clear hE; refine zG (zA (wp_seq ?_)); obtain ⟨x96, hx96, h⟩ := Comp.run_bind h; obtain ⟨x97, hx97, h⟩ := Comp.run_bind h; obtain ⟨x98, hx98, h⟩ := Comp.run_bind h
   refine' rb [_, _, _, _, _, _, _, _, _, _, SP.isv (.bool x97), _, _, _, _, _, _, _, SP.vl (rSl (rInt .i64)) O87 [0], SP.isv (.bool x98), _, _, _, _, _, _, _, _] mixed hA hB hO (mv q11 (cn (fun hE hK => zJ (ks 0 hK 216 rfl)) (mv q40 (mv q12 (mv q13 (mv q14 (mv q12 (.cons (fun _ _ hE hK hg => zw (r := zB) ty27 (kg 6 hK 222 rfl hg) (rd_of (vx f8 hE))) (.cons (fun _ _ hE hK hg => okl_shl rfl (kg 7 hK 223 rfl hg) (vn (yd hx96 hg))) (.cons (fun _ _ hE hK hg => ok_sub (kg 8 hK 224 rfl hg) rfl) (.cons (fun _ _ hE hK hg => kX fn15 (kg 3 hK 219 rfl hg) (kg 4 hK 220 rfl hg) (kg 5 hK 221 rfl hg) (kg 9 hK 225 rfl hg) (ok_court_Agrees (OkO.ext hB.ok hE) (vx f8 hE) (vx f10 hE) (yd hx97 hg))) (.cons (fun _ _ hE hK hg => ok_eqlB ty4 (kg 2 hK 218 rfl hg) (kg 10 hK 226 rfl hg)) (cn (fun hE hK => za (ks 1 hK 217 rfl) (fun hb => kg 11 hK 227 rfl (zv rfl rfl hb)) (fun _ => rfl)) (cn (fun hE hK => zJ (ks 12 hK 228 rfl)) (mv q40 (.cons (fun _ _ hE hK hg => kb (kg 14 hK 230 rfl hg)) (.cons (fun _ _ hE hK hg => zJ (kg 15 hK 231 rfl hg)) (mv q20 (cn (fun hE hK => zN (r := (rInt .i64)) (fun _ => rfl) rfl (OkO.ext hB.ok hE) ty23 ty3 (zR rfl zl) ⟨(by exact zd.2 rfl), trivial⟩ rfl (by decide)) (.cons (fun _ _ hE hK hg => yV fn21 (kg 17 hK 233 rfl hg) rfl (vP (OkO.ext hB.ok hE) (vx f25 hE) (kspS (φ := SP.vl (rSl (rInt .i64)) O87 [0]) (j := 18) (hK 234 rfl) rfl rfl hg) (yd hx98 hg))) (.cons (fun _ _ hE hK hg => zJ (kg 19 hK 235 rfl hg)) (mv q38 (.cons (fun _ _ hE hK hg => zw (r := (rInt .i64)) ty23 (kg 21 hK 237 rfl hg) (rd_of (vx f93 hE))) (.cons (fun _ _ hE hK hg => yq (kg 22 hK 238 rfl hg) rfl) (.cons (fun _ _ hE hK hg => za (kg 20 hK 236 rfl hg) (fun hb => kg 23 hK 239 rfl (zv rfl hg hb)) (fun _ => rfl)) (.cons (fun _ _ hE hK hg => za (kg 16 hK 232 rfl hg) (fun _ => rfl) (fun hb => kg 24 hK 240 rfl (zv rfl hg hb))) (cn (fun hE hK => za (ks 13 hK 229 rfl) (fun hb => kg 25 hK 241 rfl (zv rfl rfl hb)) (fun _ => rfl)) (cn (fun hE hK => zE (ks 26 hK 242 rfl)) .nil)))))))))))))))))))))))))))) ?zk46
   intro a65 w65 hA hE hB HF; have q10 := ksv (HF 10) rfl rfl rfl; clear q11 q12 q13 q14 q20 q38 q40 HF; replace f8 := vx f8 hE; replace f10 := vx f10 hE; replace f25 := vx f25 hE; replace f93 := vx f93 hE; clear hE
   obtain ⟨x99, hx_, h⟩ := Comp.run_bind h; replace hx_ := Comp.run_pure hx_; rw [hx_] at q10; clear hx_
   refine zG (zA (wp_ret ?_))
   have h := Comp.run_pure h; subst h
   exact zi Try.results7 hA q10 hB.ext rfl
end Go.Proofs.Ytebmpjdegajhgaa
end
section
set_option linter.unusedVariables false
set_option linter.unusedSimpArgs false
section
set_option linter.unusedVariables false
set_option linter.unusedSimpArgs false
namespace Go.Cor
open Go Go.Lift
theorem bits64 : IntKind.bits .i64 = 64 := rfl
theorem wrap_nat {n : Nat} (h : n < 9223372036854775808) : IntKind.wrap .i64 (n : Int) = (n : Int) := IntWalk.i64_in _ ⟨by omega, by omega⟩
theorem ofInt_nat (a : Nat) : BitVec.ofInt 64 (a : Int) = BitVec.ofNat 64 a := by simp
theorem andB_nat {a b : Nat} (ha : a < 9223372036854775808) (hb : b < 9223372036854775808) : andB .i64 (a : Int) (b : Int) = ((a &&& b : Nat) : Int) := by
 unfold andB
 rw [bits64, ofInt_nat, ofInt_nat, BitVec.toNat_and, BitVec.toNat_ofNat, BitVec.toNat_ofNat, Nat.mod_eq_of_lt (by omega), Nat.mod_eq_of_lt (by omega)]
 exact wrap_nat (Nat.lt_of_le_of_lt Nat.and_le_left ha)
theorem orB_nat {a b : Nat} (ha : a < 4611686018427387904) (hb : b < 4611686018427387904) : orB .i64 (a : Int) (b : Int) = ((a ||| b : Nat) : Int) := by
 unfold orB
 rw [bits64, ofInt_nat, ofInt_nat, BitVec.toNat_or, BitVec.toNat_ofNat, BitVec.toNat_ofNat, Nat.mod_eq_of_lt (by omega), Nat.mod_eq_of_lt (by omega)]
 have : a ||| b < 2 ^ 62 := Nat.or_lt_two_pow (by omega) (by omega)
 exact wrap_nat (by omega)
def gy (a b : Nat) : Nat := a ^^^ (a &&& b)
theorem vN (a b i : Nat) : (gy a b).testBit i = (a.testBit i && !b.testBit i) := by
 unfold gy
 rw [Nat.testBit_xor, Nat.testBit_and]
 cases a.testBit i <;> cases b.testBit i <;> rfl
theorem andNotB_nat {a b : Nat} (ha : a < 9223372036854775808) (hb : b < 9223372036854775808) : andNotB .i64 (a : Int) (b : Int) = ((gy a b : Nat) : Int) := by
 unfold andNotB
 rw [bits64, ofInt_nat, ofInt_nat]
 have h : (BitVec.ofNat 64 a &&& ~~~ BitVec.ofNat 64 b).toNat = gy a b := by
  refine Nat.eq_of_testBit_eq fun i => ?_
  rw [vN]
  by_cases hi : i < 64
  ·rw [BitVec.testBit_toNat, BitVec.getLsbD_and, BitVec.getLsbD_not, BitVec.getLsbD_ofNat, BitVec.getLsbD_ofNat]
   simp [hi]
  ·rw [BitVec.testBit_toNat, BitVec.getLsbD_of_ge _ _ (by omega)]
   rw [Nat.testBit_lt_two_pow (x := a) (i := i)]
   ·rfl
   ·exact Nat.lt_of_lt_of_le (by omega : a < 2 ^ 64) (Nat.pow_le_pow_right (by omega) (by omega))
 rw [h]
 refine wrap_nat (Nat.lt_of_le_of_lt (Nat.le_of_testBit ?_) ha) 
 intro i hi; rw [vN] at hi; simp at hi; exact hi.1
theorem shrF_nat {a k : Nat} (hk : k < 64) : shrF .i64 (a : Int) (k : Int) = ((a >>> k : Nat) : Int) := by
 unfold shrF
 rw [bits64, Int.toNat_natCast, Nat.min_eq_left (by omega), Nat.shiftRight_eq_div_pow]
 rw [Int.fdiv_eq_ediv_of_nonneg _ (by exact Int.le_of_lt (Int.pow_pos (by omega)))]
 simp
theorem shlF_nat {k : Nat} (hk : k < 62) : shlF .i64 1 (k : Int) = ((2 ^ k : Nat) : Int) := by
 unfold shlF
 rw [bits64, Int.toNat_natCast, Nat.min_eq_left (by omega)]
 have : 2 ^ k < 2 ^ 62 := Nat.pow_lt_pow_right (by omega) hk
 have h2 : (1 : Int) * 2 ^ k = ((2 ^ k : Nat) : Int) := by simp
 rw [h2]; exact wrap_nat (by omega)
theorem bit_eq {a k : Nat} (ha : a < 4611686018427387904) (hk : k < 62) : (decide (andB .i64 (shrF .i64 (a : Int) (k : Int)) 1 = 1)) = a.testBit k := by
 rw [shrF_nat (by omega)]
 have h1 : a >>> k ≤ a := Nat.shiftRight_le a k
 have := andB_nat (a := a >>> k) (b := 1) (by omega) (by omega)
 rw [show ((1 : Nat) : Int) = 1 from rfl] at this
 rw [this, Nat.and_one_is_mod, Nat.testBit_eq_decide_div_mod_eq, Nat.shiftRight_eq_div_pow]
 congr 1
 exact propext ⟨fun h => by omega, fun h => by omega⟩
def Sub (b a : Nat) : Prop := ∀ i, b.testBit i = true → a.testBit i = true
theorem sub_iff {a b : Nat} : a &&& b = b ↔ Sub b a := by
 constructor
 ·intro h i hi
  rw [← h, Nat.testBit_and] at hi
  simp at hi; exact hi.1
 ·intro h
  refine Nat.eq_of_testBit_eq fun i => ?_
  rw [Nat.testBit_and]
  have := h i
  cases hb : b.testBit i with
  | true => simp [this hb]
  | false => simp
theorem Sub.refl (a : Nat) : Sub a a := fun _ h => h
theorem Sub.trans {a b c : Nat} (h : Sub a b) (k : Sub b c) : Sub a c := fun i hi => k i (h i hi)
theorem Sub.antisymm {a b : Nat} (h : Sub a b) (k : Sub b a) : a = b := by
 refine Nat.eq_of_testBit_eq fun i => ?_
 have := h i; have := k i
 cases ha : a.testBit i <;> cases hb : b.testBit i <;> simp_all
theorem Sub.le {a b : Nat} (h : Sub a b) : a ≤ b := Nat.le_of_testBit h
theorem Sub.lt {a b : Nat} (h : Sub a b) (hne : a ≠ b) : a < b := Nat.lt_of_le_of_ne h.le hne
def Meets (a b : Nat) : Prop := ∃ i, a.testBit i = true ∧ b.testBit i = true
theorem meets_iff {a b : Nat} : a &&& b ≠ 0 ↔ Meets a b := by
 constructor
 ·intro h
  obtain ⟨i, hi⟩ := Nat.exists_testBit_of_ne_zero h
  rw [Nat.testBit_and] at hi; simp at hi
  exact ⟨i, hi⟩
 ·rintro ⟨i, h1, h2⟩ h
  have : (a &&& b).testBit i = true := by rw [Nat.testBit_and, h1, h2]; rfl
  rw [h] at this; simp at this
theorem Meets.mono {a b c d : Nat} (h : Meets a b) (h1 : Sub a c) (h2 : Sub b d) : Meets c d := by
 obtain ⟨i, h3, h4⟩ := h; exact ⟨i, h1 i h3, h2 i h4⟩
def Hits (h : Nat) (L : List Nat) : Prop := ∀ s ∈ L, Meets h s
theorem Hits.mono {g h : Nat} {L : List Nat} (hg : Hits g L) (hs : Sub g h) : Hits h L := fun s hs' => (hg s hs').mono hs (Sub.refl s)
def Min (P : Nat → Prop) (h : Nat) : Prop := P h ∧ ∀ g, P g → Sub g h → g = h
theorem exists_min {P : Nat → Prop} : ∀ h, P h → ∃ m, Min P m ∧ Sub m h := by
 intro h
 induction h using Nat.strongRecOn with
 | _ h ih =>
  intro hP
  by_cases hm : ∀ g, P g → Sub g h → g = h
  ·exact ⟨h, ⟨hP, hm⟩, Sub.refl h⟩
  ·simp only [Classical.not_forall] at hm
   obtain ⟨g, hg, hs, hne⟩ := hm
   obtain ⟨m, h1, h2⟩ := ih g (hs.lt hne) hg
   exact ⟨m, h1, h2.trans hs⟩
theorem min_basis {P : Nat → Prop} {N : Nat → Prop} (h1 : ∀ x, N x → P x) (h2 : ∀ h, P h → ∃ x, N x ∧ Sub x h) (h : Nat) : Min N h ↔ Min P h := by
 constructor
 ·rintro ⟨h3, h4⟩
  refine ⟨h1 h h3, fun g hg hs => ?_⟩
  obtain ⟨x, h5, h6⟩ := h2 g hg
  have := h4 x h5 (h6.trans hs)
  subst this
  exact hs.antisymm h6
 ·rintro ⟨h3, h4⟩
  obtain ⟨x, h5, h6⟩ := h2 h h3
  have := h4 x (h1 x h5) h6
  subst this
  exact ⟨h5, fun g hg hs => h4 g (h1 g hg) hs⟩
theorem ZB {k i : Nat} : (2 ^ k).testBit i = decide (k = i) := Nat.testBit_two_pow
theorem step {L : List Nat} {s : Nat} {F : List Nat} {n : Nat} (hs : s < 2 ^ n) (hF : ∀ h, h ∈ F ↔ Min (Hits · L) h) (h : Nat) :
  Min (· ∈ F.flatMap fun h => if h &&& s ≠ 0 then [h] else ((List.range n).filter (s.testBit ·)).map fun k => h ||| 2 ^ k) h ↔ Min (Hits · (L ++ [s])) h := by
 refine min_basis (N := (· ∈ F.flatMap fun h => if h &&& s ≠ 0 then [h] else ((List.range n).filter (s.testBit ·)).map fun k => h ||| 2 ^ k)) ?_ ?_ h
 ·intro x hx
  obtain ⟨f, hf, hx⟩ := List.mem_flatMap.1 hx
  have hf := ((hF f).1 hf).1
  intro t ht
  rcases List.mem_append.1 ht with ht | ht
  ·split at hx
   ·simp at hx; subst hx; exact hf t ht
   ·obtain ⟨k, _, rfl⟩ := List.mem_map.1 hx
    exact (hf t ht).mono (fun i hi => by rw [Nat.testBit_or, hi]; rfl) (Sub.refl t)
  ·simp at ht; subst ht
   split at hx
   ·simp at hx; subst hx; exact meets_iff.1 ‹_›
   ·obtain ⟨k, hk, rfl⟩ := List.mem_map.1 hx
    have := (List.mem_filter.1 hk).2
    exact ⟨k, by rw [Nat.testBit_or, ZB]; simp, this⟩
 ·intro g hg
  obtain ⟨m, h1, h2⟩ := exists_min (P := (Hits · L)) g (fun t ht => hg t (List.mem_append_left _ ht))
  have hm := (hF m).2 h1
  by_cases hc : m &&& s ≠ 0
  ·exact ⟨m, List.mem_flatMap.2 ⟨m, hm, by rw [if_pos hc]; simp⟩, h2⟩
  ·obtain ⟨k, h3, h4⟩ := hg s (by simp)
   have hk : k < n := by
    refine Classical.byContradiction fun hk => ?_
    rw [Nat.testBit_lt_two_pow (Nat.lt_of_lt_of_le hs (Nat.pow_le_pow_right (by omega) (by omega)))] at h4
    cases h4
   refine ⟨m ||| 2 ^ k, List.mem_flatMap.2 ⟨m, hm, ?_⟩, fun i hi => ?_⟩
   ·rw [if_neg hc]
    exact List.mem_map.2 ⟨k, List.mem_filter.2 ⟨List.mem_range.2 hk, h4⟩, rfl⟩
   ·rw [Nat.testBit_or, ZB] at hi
    simp at hi
    rcases hi with hi | rfl
    ·exact h2 i hi
    ·exact h3
theorem min_hits_nil (h : Nat) : Min (Hits · []) h ↔ h = 0 := by
 constructor
 ·rintro ⟨_, h2⟩
  exact (h2 0 (fun s hs => by cases hs) (fun i hi => by simp at hi)).symm
 ·rintro rfl
  exact ⟨fun s hs => (by cases hs), fun g _ hs => Nat.le_zero.1 hs.le⟩
theorem min_hits_lt {n : Nat} {L : List Nat} (hL : ∀ s ∈ L, s < 2 ^ n) {h : Nat} (hm : Min (Hits · L) h) : h < 2 ^ n := by
 have := hm.2 (h % 2 ^ n) (fun s hs => ?_) (fun i hi => by rw [Nat.testBit_mod_two_pow] at hi; simp at hi; exact hi.2)
 ·rw [← this]; exact Nat.mod_lt _ (Nat.two_pow_pos n)
 ·obtain ⟨i, h1, h2⟩ := hm.1 s hs
  refine ⟨i, ?_, h2⟩
  rw [Nat.testBit_mod_two_pow, h1]
  have : i < n := by
   refine Classical.byContradiction fun hk => ?_
   rw [Nat.testBit_lt_two_pow (Nat.lt_of_lt_of_le (hL s hs) (Nat.pow_le_pow_right (by omega) (by omega)))] at h2
   cases h2
  simp [this]
theorem bit_lt {n s i : Nat} (hs : s < 2 ^ n) (h : s.testBit i = true) : i < n := by
 refine Classical.byContradiction fun hk => ?_
 rw [Nat.testBit_lt_two_pow (Nat.lt_of_lt_of_le hs (Nat.pow_le_pow_right (by omega) (by omega)))] at h
 cases h
abbrev Inc (l : List Int) : Prop := l.Pairwise (· < ·)
theorem inc_ext {l m : List Int} (hl : Inc l) (hm : Inc m) (h : ∀ x, x ∈ l ↔ x ∈ m) : l = m := by
 refine List.Perm.eq_of_pairwise (le := fun x y : Int => x < y) (fun a b _ _ h1 h2 => by omega) hl hm ?_
 have n1 : l.Nodup := hl.imp (fun h => by omega)
 have n2 : m.Nodup := hm.imp (fun h => by omega)
 exact (List.perm_ext_iff_of_nodup n1 n2).2 h
end Go.Cor
end
section
set_option linter.unusedVariables false
set_option linter.unusedSimpArgs false
namespace Go.Cor
open Go Go.Lift Go.F
theorem LIM_lt : LIM < 9223372036854775807 := by decide
theorem gG {α : Type} {i : Nat} {xs : List α} : (decide ((i : Int) < (xs.length : Int))) = decide (i < xs.length) := by
 congr 1; exact propext ⟨fun h => by omega, fun h => by omega⟩
def IsMin (l : List Int) (s : Int) : Prop := s ∈ l ∧ ∀ x ∈ l, andB .i64 s x = x → x = s
theorem sorted_get {d : Array Int} (h : d.toList.Pairwise (· ≤ ·)) {i j : Nat} (hij : i ≤ j) (hj : j < d.size) : d[i]! ≤ d[j]! := by
 have e : ∀ k, k < d.size → d[k]! = d.toList[k]! := by
  intro k hk; simp [hk]
 rw [e i (by omega), e j hj]
 rcases Nat.lt_or_eq_of_le hij with hlt | rfl
 ·have := List.pairwise_iff_getElem.1 h i j (by simp; omega) (by simpa using hj) hlt
  simpa [hj, show i < d.size by omega] using this
 ·exact Int.le_refl _
theorem keeps_iff {d : Array Int} {j : Nat} : Lib.keeps d j = true ↔ j = 0 ∨ d[j]! ≠ d[j - 1]! := by simp [Lib.keeps]
theorem compact_inc {l : List Int} (h : l.Pairwise (· ≤ ·)) : Inc (Lib.compact l) := by
 unfold Lib.compact Lib.compactUpTo Inc
 rw [List.pairwise_map]
 have hr : ((List.range l.length).filter (Lib.keeps l.toArray)).Pairwise (· < ·) := List.Pairwise.filter _ List.pairwise_lt_range
 refine List.Pairwise.imp_of_mem ?_ hr
 intro a b ha hb hab
 have hb1 := List.mem_filter.1 hb
 have hbl := List.mem_range.1 hb1.1
 have h1 := sorted_get (d := l.toArray) (by simpa using h) (i := a) (j := b - 1) (by omega) (by simp; omega)
 have h2 := sorted_get (d := l.toArray) (by simpa using h) (i := b - 1) (j := b) (by omega) (by simpa using hbl)
 rcases keeps_iff.1 hb1.2 with h3 | h3
 ·omega
 ·omega
theorem compact_mem {l : List Int} (x : Int) : x ∈ Lib.compact l ↔ x ∈ l := by
 unfold Lib.compact Lib.compactUpTo
 rw [List.mem_map]
 constructor
 ·rintro ⟨j, hj, rfl⟩
  have := List.mem_range.1 (List.mem_filter.1 hj).1
  simp [this]
 ·intro hx
  obtain ⟨i, hi, he⟩ := List.getElem_of_mem hx
  have hP : ∀ i, i < l.length → l.toArray[i]! = x → ∃ j, j ∈ (List.range l.length).filter (Lib.keeps l.toArray) ∧ l.toArray[j]! = x := by
   intro i
   induction i using Nat.strongRecOn with
   | _ i ih =>
    intro hi he
    by_cases hk : Lib.keeps l.toArray i = true
    ·exact ⟨i, List.mem_filter.2 ⟨List.mem_range.2 hi, hk⟩, he⟩
    ·have := mt keeps_iff.2 hk
     simp only [not_or, Decidable.not_not] at this
     exact ih (i - 1) (by omega) (by omega) (by rw [← this.2]; exact he)
  exact hP i hi (by simp [hi, he])
theorem compact_le {l : List Int} : (Lib.compact l).length ≤ l.length := compact_len l
theorem isort_len (l : List Int) : (isort l).length = l.length := (isort_perm l).length_eq
def lst (l : List Int) : List Int := Lib.compact (isort l)
theorem lst_inc (l : List Int) : Inc (lst l) := compact_inc (isort_sorted l)
theorem lst_mem (l : List Int) (x : Int) : x ∈ lst l ↔ x ∈ l := by unfold lst; rw [compact_mem]; exact (isort_perm l).mem_iff
theorem lst_le (l : List Int) : (lst l).length ≤ l.length := by have := compact_le (l := isort l); rw [isort_len] at this; exact this
def worse (l : List Int) (s : Int) : Bool := l.any fun x => decide (x ≠ s) && decide (andB .i64 s x = x)
def minimal (l : List Int) : List Int := (lst l).filter fun s => !worse (lst l) s
theorem minimal_inc (l : List Int) : Inc (minimal l) := List.Pairwise.filter _ (lst_inc l)
theorem minimal_mem (l : List Int) (s : Int) : s ∈ minimal l ↔ IsMin l s := by
 unfold minimal IsMin
 rw [List.mem_filter, lst_mem]
 refine and_congr_right fun _ => ?_
 unfold worse
 rw [Bool.not_eq_true', List.any_eq_false]
 constructor
 ·intro h x hx hs
  have := h x ((lst_mem l x).2 hx)
  simp [hs] at this; exact this
 ·intro h x hx
  have := h x ((lst_mem l x).1 hx)
  by_cases hs : andB .i64 s x = x
  ·simp [this hs]
  ·simp [hs]
theorem minimal_val {l : List Int} (hl : l.length ≤ LIM) : (ke l).val = some (minimal l) := by
 unfold ke yW
 have hL := LIM_lt
 have h1 := lst_le l
 simp only [Comp.zH, app_val (xs := ([] : List Int)) (ys := l) (by simpa using hl), Option.bind_some, Comp.zL, List.nil_append]
 have h2 : (sortI l).val = some (isort l) := by unfold sortI; rw [if_pos hl]; simp
 have h3 : (ky (isort l)).val = some (lst l) := by unfold ky; rw [if_pos (by rw [isort_len]; exact hl)]; simp [lst]
 rw [h2, Option.bind_some, h3, Option.bind_some]
 have hin : ∀ s, (Comp.loop (fun i => gP (lst l) s i) 0).val = some (if worse (lst l) s = true then .inl () else .inr ()) := by
  intro s
  refine Comp.loop_any (lst l) (fun x => decide (x ≠ s) && decide (andB .i64 s x = x)) () ?_ ?_
  ·intro i x hx
   have hi := yX hx
   unfold gP
   simp only [Comp.ze, Comp.zH, gS hx, Option.bind_some, Comp.zL, gG, Comp.zT (i := i) (by omega)]
   rw [if_pos (by simpa using hi), bif_ite]
   cases decide (x ≠ s) <;> cases decide (andB .i64 s x = x) <;> rfl
  ·unfold gP
   simp only [Comp.ze, Comp.zL]
   rw [if_neg (by simp)]
 have := Comp.ZF (body := fun s => vS (lst l) s.1 s.2) (lst l) (fun acc s => if (!worse (lst l) s) = true then acc ++ [s] else acc) id (fun acc i => acc.length ≤ i) []
  (by
   intro s i x hx hI
   have hi := yX hx
   show (vS (lst l) s (i : Int)).val = _
   unfold vS
   simp only [Comp.ze, Comp.zH, gS hx, Option.bind_some, hin]
   rw [if_pos (by simpa using hi)]
   cases hw : worse (lst l) x with
   | true => simp [gq, Comp.zT (i := i) (by omega)]
   | false =>
    rw [if_neg (by simp)]
    show (jd s x (i : Int)).val = _
    unfold jd gq
    rw [Comp.zH, app_val (xs := s) (ys := [x]) (by simp; omega), Option.bind_some, Comp.zL, Comp.zT (i := i) (by omega)]
    rfl)
  (by
   intro s i x _ hI
   show (if (!worse (lst l) x) = true then s ++ [x] else s).length ≤ _
   split
   ·simp; omega
   ·omega)
  (by
   intro s _
   show (vS (lst l) s ((lst l).length : Int)).val = _
   unfold vS
   simp only [Comp.ze, Comp.zL]
   rw [if_neg (by simp)]; rfl)
  (Nat.le_refl _)
 rw [this, Option.bind_some]
 simp only [kL, Comp.zL, id, Comp.foldl_filter, List.nil_append]
 rfl
end Go.Cor
end
section
set_option linter.unusedVariables false
set_option linter.unusedSimpArgs false
namespace Go.Cor
open Go Go.Lift Go.F
def up (L : List Nat) : List Int := L.map fun (x : Nat) => (x : Int)
theorem jS (L : List Nat) : (up L).length = L.length := List.length_map _
theorem mem_up {L : List Nat} {x : Nat} : (x : Int) ∈ up L ↔ x ∈ L := by
 unfold up; rw [List.mem_map]
 exact ⟨fun ⟨y, h1, h2⟩ => by
                have : y = x := by omega
                exact this ▸ h1, fun h => ⟨x, h, rfl⟩⟩
theorem mem_up' {L : List Nat} {z : Int} : z ∈ up L ↔ ∃ x : Nat, x ∈ L ∧ z = (x : Int) := by
 unfold up; rw [List.mem_map]
 exact ⟨fun ⟨y, h1, h2⟩ => ⟨y, h1, h2.symm⟩, fun ⟨y, h1, h2⟩ => ⟨y, h1, h2.symm⟩⟩
theorem inc_len {b : Int} : ∀ (l : List Int) (a : Int), Inc l → (∀ x ∈ l, a ≤ x ∧ x < b) → (l.length : Int) ≤ max 0 (b - a)
 | [], a, _, _ => by simp; omega
 | x :: l, a, h, hx => by
   have h1 := List.pairwise_cons.1 h
   have h2 := hx x (by simp)
   have := inc_len (b := b) l (x + 1) h1.2 fun y hy => ⟨by have := h1.1 y hy; omega, (hx y (List.mem_cons_of_mem _ hy)).2⟩
   simp only [List.length_cons]; omega
theorem inc_up_len {L : List Nat} {n : Nat} (h : Inc (up L)) (hn : ∀ x ∈ L, x < n) : L.length ≤ n := by
 have := inc_len (b := (n : Int)) (up L) 0 h fun x hx => by
  obtain ⟨y, h1, rfl⟩ := mem_up'.1 hx
  have := hn y h1; omega
 rw [jS] at this; omega
theorem toNat_up {l : List Int} (h : ∀ x ∈ l, 0 ≤ x) : up (l.map Int.toNat) = l := by
 unfold up; rw [List.map_map]
 conv => rhs; rw [← List.map_id l]
 exact List.map_congr_left fun x hx => by simp [Int.toNat_of_nonneg (h x hx)]
theorem isMin_up {N : List Nat} (hN : ∀ x ∈ N, x < 4611686018427387904) (z : Int) : IsMin (up N) z ↔ ∃ h : Nat, z = (h : Int) ∧ Min (· ∈ N) h := by
 constructor
 ·rintro ⟨h1, h2⟩
  obtain ⟨h, h3, rfl⟩ := mem_up'.1 h1
  refine ⟨h, rfl, h3, fun g hg hs => ?_⟩
  have := h2 g (mem_up.2 hg) (by rw [andB_nat (by have := hN h h3; omega) (by have := hN g hg; omega), sub_iff.2 hs])
  omega
 ·rintro ⟨h, rfl, h1, h2⟩
  refine ⟨mem_up.2 h1, fun x hx hs => ?_⟩
  obtain ⟨g, hg, rfl⟩ := mem_up'.1 hx
  rw [andB_nat (by have := hN h h1; omega) (by have := hN g hg; omega)] at hs
  rw [h2 g hg (sub_iff.1 (by omega))]
theorem minimal_up {N : List Nat} (hN : ∀ x ∈ N, x < 4611686018427387904) : ∃ H, minimal (up N) = up H ∧ ∀ h, h ∈ H ↔ Min (· ∈ N) h := by
 have h0 : ∀ x ∈ minimal (up N), 0 ≤ x := by
  intro x hx
  obtain ⟨h, rfl, _⟩ := (isMin_up hN x).1 ((minimal_mem _ _).1 hx)
  omega
 refine ⟨(minimal (up N)).map Int.toNat, (toNat_up h0).symm, fun h => ?_⟩
 rw [← mem_up, toNat_up h0, minimal_mem, isMin_up hN]
 exact ⟨fun ⟨g, h1, h2⟩ => by
                have : g = h := by omega
                exact this ▸ h2, fun h2 => ⟨h, rfl, h2⟩⟩
def grown (n s h : Nat) : List Nat := if h &&& s ≠ 0 then [h] else ((List.range n).filter (s.testBit ·)).map fun k => h ||| 2 ^ k
theorem grown_len (n s h : Nat) : (grown n s h).length ≤ n + 1 := by
 unfold grown; split
 ·simp
 ·rw [List.length_map]; have := List.length_filter_le (s.testBit ·) (List.range n); rw [List.length_range] at this; omega
theorem up_append (a b : List Nat) : up (a ++ b) = up a ++ up b := List.map_append
theorem decide_lt_nat {i n : Nat} : (decide ((i : Int) < (n : Int))) = decide (i < n) := by
 congr 1; exact propext ⟨fun h => by omega, fun h => by omega⟩
theorem range_get {n i x : Nat} (h : (List.range n)[i]? = some x) : i < n ∧ x = i := by
 obtain ⟨h1, h2⟩ := List.getElem?_eq_some_iff.1 h
 simp at h1 h2; exact ⟨h1, h2.symm⟩
theorem l6_val {n s h : Nat} (hn : n ≤ 10) (hs : s < 2 ^ n) (hh : h < 2 ^ n) {acc : List Int} (ha : acc.length + n ≤ LIM) :
  (Comp.loop (fun st => yy n s h st.1 st.2) (acc, 0)).val = some (acc ++ up (((List.range n).filter (s.testBit ·)).map fun k => h ||| 2 ^ k)) := by
 have hb : 2 ^ n ≤ 1024 := Nat.pow_le_pow_right (n := 2) (by omega) hn
 have := Comp.ZF (body := fun st => yy n s h st.1 st.2) (List.range n) (fun acc k => acc ++ if s.testBit k = true then [((h ||| 2 ^ k : Nat) : Int)] else []) id (fun a i => a.length ≤ acc.length + i) acc
  (by
   intro a i x hx hI
   obtain ⟨hi, rfl⟩ := range_get hx
   show (yy n s h a (x : Int)).val = _
   unfold yy
   rw [decide_lt_nat, Comp.ze, if_pos (by simpa using hi), Comp.zH, jg (by omega), Option.bind_some, Comp.zH, Comp.zL, Option.bind_some, bit_eq (by omega) (by omega), Comp.ze]
   by_cases ht : s.testBit x = true
   ·rw [if_pos ht, if_pos ht, Comp.zH, jg (by omega), Option.bind_some, shlF_nat (by omega)]
    have h2 : 2 ^ x ≤ 1024 := Nat.pow_le_pow_right (n := 2) (by omega) (by omega : x ≤ 10)
    rw [orB_nat (by omega) (by omega), Comp.zH, app_val (by simp; omega), Option.bind_some]
    simp only [gr, Comp.zL, Comp.zT (i := x) (by omega)]
   ·rw [if_neg ht, if_neg ht, List.append_nil]
    simp only [gr, Comp.zL, Comp.zT (i := x) (by omega)])
  (by
   intro a i x hx hI
   show (a ++ if s.testBit x = true then [((h ||| 2 ^ x : Nat) : Int)] else []).length ≤ _
   split
   ·simp; omega
   ·simp; omega)
  (by
   intro a _
   show (yy n s h a ((List.range n).length : Int)).val = _
   unfold yy
   rw [List.length_range, Comp.ze, if_neg (by simp), Comp.zL]; rfl)
  (Nat.le_refl _)
 rw [this, Comp.kw]
 congr 1
 show _ ++ _ = _
 congr 1
 unfold up
 rw [List.map_map]
 generalize List.range n = ks
 induction ks with
 | nil => rfl
 | cons k ks ih =>
  rw [List.flatMap_cons, List.filter_cons, ih]
  split <;> simp
theorem l4_val {n s : Nat} (hn : n ≤ 10) (hs : s < 2 ^ n) {F : List Nat} (hF : ∀ h ∈ F, h < 2 ^ n) (hl : F.length ≤ 1024) :
  (Comp.loop (fun st => yz (up F) s n st.1 st.2) ([], 0)).val = some (up (F.flatMap (grown n s))) := by
 have hb : 2 ^ n ≤ 1024 := Nat.pow_le_pow_right (n := 2) (by omega) hn
 have := Comp.ZF (body := fun st => yz (up F) s n st.1 st.2) F (fun acc h => acc ++ up (grown n s h)) id (fun a i => a.length ≤ i * 11) []
  (by
   intro a i x hx hI
   have hi := yX hx
   have hxn := hF x (List.mem_of_getElem? hx)
   show (yz (up F) s n a (i : Int)).val = _
   have hx' : (up F)[i]? = some (x : Int) := by unfold up; rw [List.getElem?_map, hx]; rfl
   have hsm : LIM = 1073741824 := rfl
   unfold yz
   rw [gG, Comp.ze, if_pos (by simpa [jS] using hi), Comp.zH, gS hx', Option.bind_some, andB_nat (by omega) (by omega), Comp.ze]
   unfold grown
   by_cases hm : x &&& s ≠ 0
   ·rw [if_pos hm, if_pos (by simpa using hm), Comp.zH, app_val (by simp; omega), Option.bind_some]
    simp only [gt, Comp.zL, Comp.zT (i := i) (by omega)]
    rfl
   ·rw [if_neg hm, if_neg (by simpa using hm), Comp.zH, l6_val hn hs hxn (by omega), Option.bind_some]
    simp only [gt, Comp.zL, Comp.zT (i := i) (by omega)])
  (by
   intro a i x hx hI
   show (a ++ up (grown n s x)).length ≤ _
   have := grown_len n s x
   rw [List.length_append, jS]; omega)
  (by
   intro a _
   show (yz (up F) s n a (F.length : Int)).val = _
   unfold yz
   rw [Comp.ze, if_neg (by simp [jS]), Comp.zL]; rfl)
  (Nat.le_refl _)
 rw [this, Comp.kw]
 congr 1
 show [] ++ _ = _
 rw [List.nil_append]
 unfold up
 rw [List.map_flatMap]
structure Fam (n : Nat) (L : List Nat) (l : List Int) : Prop where
 ex : ∃ F, l = up F ∧ ∀ h, h ∈ F ↔ Min (Hits · L) h
 inc : Inc l
theorem Fam.lt {n : Nat} {L : List Nat} (hL : ∀ s ∈ L, s < 2 ^ n) {F : List Nat} (h : ∀ h, h ∈ F ↔ Min (Hits · L) h) : ∀ x ∈ F, x < 2 ^ n := fun x hx => min_hits_lt hL ((h x).1 hx)
theorem contains_val {l : List Int} (hl : l.length ≤ LIM) {f : Int → Comp Bool} {p : Int → Bool} (hf : ∀ x ∈ l, (f x).val = some (p x)) : (zf l f).val = some (l.any p) := by
 unfold zf yO
 have hL := LIM_lt
 have : ∃ e : Sum Int Unit, (Comp.loop (fun s => zY l f s) 0).val = some e ∧ (l.any p = true → ∃ i : Nat, e = .inl (i : Int)) ∧ (l.any p = false → e = .inr ()) := by
  refine ⟨_, Comp.loop_foldE (σ := Nat) (fun _ i => ((i : Nat) : Int)) l (fun i x => if p x = true then .done (.inl (i : Int)) else .next (i + 1)) (fun _ => (.inr () : Sum Int Unit)) (fun j i => j = i) (body := fun s => zY l f s) ?_ ?_ ?_ 0 rfl, ?_, ?_⟩
  ·intro s i x hx he
   subst he
   have hi := yX hx
   unfold zY
   rw [gG, Comp.ze, if_pos (by simpa using hi), Comp.zH, gS hx, Option.bind_some, Comp.zH, hf x (List.mem_of_getElem? hx), Option.bind_some, Comp.ze]
   by_cases h : p x = true
   ·rw [if_pos h, if_pos h, Comp.zL]; rfl
   ·rw [if_neg h, if_neg h, Comp.zT (by omega)]; simp [Comp.Step.map]
  ·intro s i x s' _ he h
   by_cases hp : p x = true
   ·simp [hp] at h
   ·simp [hp] at h; omega
  ·intro s he
   unfold zY
   rw [Comp.ze, if_neg (by simp), Comp.zL]
  ·intro h
   have : ∀ (l : List Int) (j : Nat), l.any p = true → ∃ i : Nat, Comp.foldE (fun (i : Nat) x => if p x = true then Comp.Step.done (Sum.inl (i : Int)) else Comp.Step.next (i + 1)) (fun _ => (.inr () : Sum Int Unit)) j l = .inl (i : Int) := by
    intro l
    induction l with
    | nil => intro j h; simp at h
    | cons y l ih =>
     intro j h
     simp only [Comp.foldE]
     by_cases hy : p y = true
     ·simp only [hy, if_true]; exact ⟨j, rfl⟩
     ·simp only [hy]; exact ih (j + 1) (by simpa [hy] using h)
   exact this l 0 h
  ·intro h
   have : ∀ (l : List Int) (j : Nat), l.any p = false → Comp.foldE (fun (i : Nat) x => if p x = true then Comp.Step.done (Sum.inl (i : Int)) else Comp.Step.next (i + 1)) (fun _ => (.inr () : Sum Int Unit)) j l = .inr () := by
    intro l
    induction l with
    | nil => intro j h; rfl
    | cons y l ih =>
     intro j h
     simp only [Comp.foldE]
     have h' : p y = false ∧ l.any p = false := by simpa using h
     simp only [h'.1]; exact ih (j + 1) h'.2
   exact this l 0 h
 obtain ⟨e, h1, h2, h3⟩ := this
 rw [Comp.zH, Comp.zH, h1, Option.bind_some]
 cases ha : l.any p with
 | true => obtain ⟨i, rfl⟩ := h2 ha; simp
 | false => rw [h3 ha]; simp [yg]
theorem hitting_val {n : Nat} {L : List Nat} (hn : n ≤ 10) (hL : ∀ s ∈ L, s < 2 ^ n) (hl : L.length ≤ LIM) : ∃ H, (jw (up L) n).val = some (H, 0) ∧ Fam n L H := by
 have hb : 2 ^ n ≤ 1024 := Nat.pow_le_pow_right (n := 2) (by omega) hn
 have hLt := LIM_lt
 unfold jw
 have e1 : (bif (decide ((n : Int) < 0)) then true else (decide ((n : Int) > 10))) = false := by
  rw [show decide ((n : Int) < 0) = false by rw [decide_eq_false_iff_not]; omega, show decide ((n : Int) > 10) = false by rw [decide_eq_false_iff_not]; omega]; rfl
 have hc : (zf (up L) (fun z0 => gu z0 n)).val = some ((up L).any fun _ => false) := by
  refine contains_val (by rw [jS]; exact hl) fun x hx => ?_
  obtain ⟨y, hy, rfl⟩ := mem_up'.1 hx
  have := hL y hy
  unfold gu
  rw [Comp.zH, Comp.val_gd, jg (by omega), shlF_nat (by omega)]
  have e2 : decide ((y : Int) < 0) = false := by rw [decide_eq_false_iff_not]; omega
  have e3 : decide ((y : Int) ≥ ((2 ^ n : Nat) : Int)) = false := by rw [decide_eq_false_iff_not]; omega
  simp only [e2, e3, Comp.zH, Comp.zL, Option.bind_some]
  rfl
 rw [e1, Comp.zH, Comp.zL, Option.bind_some, Comp.ze, if_neg (by simp), Comp.zH, hc]
 have e4 : (up L).any (fun _ => false) = false := by simp
 rw [e4, Option.bind_some, Comp.ze, if_neg (by simp), Comp.zH]
 have key : ∀ (M N : List Nat) (l : List Int), L = N ++ M → Fam n N l → ∃ H, (Comp.loop (fun s => vA (up L) n s.1 s.2) (l, (N.length : Int))).val = some H ∧ Fam n L H := by
  intro M
  induction M with
  | nil =>
   intro N l hN hf
   rw [List.append_nil] at hN; subst hN
   refine ⟨l, ?_, hf⟩
   rw [Comp.kr]
   show (vA (up L) n l (L.length : Int)).val.bind _ = _
   unfold vA
   rw [Comp.ze, if_neg (by simp [jS]), Comp.zL]; rfl
  | cons s M ih =>
   intro N l hN hf
   have hs : s ∈ L := by rw [hN]; simp
   have hNn : ∀ x ∈ N, x < 2 ^ n := fun x hx => hL x (by rw [hN]; simp [hx])
   have hNl : N.length < L.length := by rw [hN]; simp
   obtain ⟨F, rfl, hF⟩ := hf.ex
   have hFl := Fam.lt hNn hF
   have hlen := inc_up_len hf.inc hFl
   have hi : (up L)[N.length]? = some (s : Int) := by unfold up; rw [List.getElem?_map, hN]; simp
   have hnext : ∀ x ∈ F.flatMap (grown n s), x < 4611686018427387904 := by
    intro x hx
    obtain ⟨f, h1, h2⟩ := List.mem_flatMap.1 hx
    have hf2 := hFl f h1
    unfold grown at h2; split at h2
    ·simp at h2; omega
    ·obtain ⟨k, h3, rfl⟩ := List.mem_map.1 h2
     have hk := List.mem_range.1 (List.mem_filter.1 h3).1
     have : f ||| 2 ^ k < 2 ^ n := Nat.or_lt_two_pow hf2 (Nat.pow_lt_pow_right (by omega) hk)
     omega
   obtain ⟨G, hG, hGm⟩ := minimal_up hnext
   have hfam : Fam n (N ++ [s]) (up G) := ⟨⟨G, rfl, fun h => (hGm h).trans (step (hL s hs) hF h)⟩, by rw [← hG]; exact minimal_inc _⟩
   obtain ⟨H, h1, h2⟩ := ih (N ++ [s]) (up G) (by rw [hN]; simp) hfam
   refine ⟨H, ?_, h2⟩
   have hln : (F.flatMap (grown n s)).length ≤ LIM := by
    have : ∀ (F : List Nat), (F.flatMap (grown n s)).length ≤ F.length * 11 := by
     intro F
     induction F with
     | nil => simp
     | cons f F ih =>
      rw [List.flatMap_cons, List.length_append, List.length_cons]
      have := grown_len n s f
      omega
    have := this F
    have : LIM = 1073741824 := rfl
    omega
   rw [Comp.kr]
   show (vA (up L) n (up F) (N.length : Int)).val.bind _ = _
   unfold vA
   rw [gG, Comp.ze, if_pos (by simpa [jS] using hNl), Comp.zH, gS hi, Option.bind_some, Comp.zH, l4_val hn (hL s hs) hFl (by omega), Option.bind_some]
   unfold kM
   rw [Comp.zH, minimal_val (by rw [jS]; exact hln), Option.bind_some, Comp.zL, Option.bind_some, hG, Comp.zT (by omega)]
   have e : (N.length + 1) = (N ++ [s]).length := by simp
   rw [e]; exact h1
 obtain ⟨H, h1, h2⟩ := key L [] [0] rfl ⟨⟨[0], rfl, fun h => by rw [min_hits_nil]; simp⟩, by simp [Inc]⟩
 refine ⟨H, ?_, h2⟩
 have h1' : (Comp.loop (fun s => vA (up L) n s.1 s.2) ([0], 0)).val = some H := h1
 rw [h1', Option.bind_some]
 unfold kN
 rw [Comp.zL]
end Go.Cor
end
section
set_option linter.unusedVariables false
set_option linter.unusedSimpArgs false
namespace Go.Cor
open Go Go.Lift Go.F
theorem wf_u8 {n : Int} (h : (Lit.int .u8 n).wf = true) : ∃ b : Nat, b < 256 ∧ n = (b : Int) := by
 have h2 : 0 ≤ n ∧ n < 256 := by
  simp [Lit.wf, IntKind.min, IntKind.max, IntKind.bits, IntKind.signed] at h
  omega
 exact ⟨n.toNat, by omega, by omega⟩
theorem mod_val {z : Int} {m : Nat} (hm : 0 < m) (hm2 : m ≤ 4611686018427387904) : ∃ k : Nat, k < m ∧ (je z (m : Int)).val = some (k : Int) := by
 unfold je
 have h1 : -(m : Int) < z.tmod m ∧ z.tmod m < m := ⟨Int.lt_tmod_of_pos _ (by omega), Int.tmod_lt_of_pos _ (by omega)⟩
 rw [Comp.ze, if_neg (by simp; omega), Comp.zH, rem_val (by omega), Option.bind_some, Comp.zH, rem_val (by omega), Option.bind_some, Comp.zL]
 rw [IntWalk.i64_in _ ⟨by omega, by omega⟩]
 have h2 : 0 ≤ z.tmod m + m := by omega
 refine ⟨((z.tmod m + m).tmod m).toNat, ?_, ?_⟩
 ·have h3 := Int.tmod_lt_of_pos (z.tmod m + m) (b := (m : Int)) (by omega)
  have h4 := Int.tmod_nonneg (m : Int) h2
  omega
 ·have h4 := Int.tmod_nonneg (m : Int) h2
  rw [Int.toNat_of_nonneg h4]
end Go.Cor
end
section
set_option linter.unusedVariables false
set_option linter.unusedSimpArgs false
namespace Go.Cor
open Go Go.Lift Go.F
theorem wrap_pred {j : Nat} (h : j < 9223372036854775807) : IntKind.wrap .i64 (((j + 1 : Nat) : Int) - 1) = (j : Int) := by
 rw [IntWalk.i64_in _ ⟨by omega, by omega⟩]; omega
end Go.Cor
end
section
namespace Go.Cor
open Go Go.Lift Go.F
def own (N : Nat) (P : Nat → Bool) : List Bool := (List.range N).map P
theorem own_len (N : Nat) (P : Nat → Bool) : (own N P).length = N := by simp [own]
theorem own_get {N : Nat} {P : Nat → Bool} {s : Nat} (h : s < N) : (own N P)[s]? = some (P s) := by simp [own, h]
theorem kZ {α : Type} {p : α → Bool} {L : List α} {k : Nat} {x : α} (h : L[k]? = some x) : (L.take (k + 1)).any p = ((L.take k).any p || p x) := by
 rw [List.take_add_one, h, List.any_append]; simp
def belowB (P : Nat → Bool) (m s : Nat) : Bool := (List.range m).all fun k => !s.testBit k || P (gy s (2 ^ k))
theorem without_le (s t : Nat) : gy s t ≤ s := Sub.le fun i hi => by rw [vN] at hi; simp at hi; exact hi.1
theorem any_all_not {α : Type} (p : α → Bool) : ∀ l : List α, (!l.any p) = l.all fun x => !p x
 | [] => rfl
 | x :: l => by rw [List.any_cons, List.all_cons, Bool.not_or, any_all_not p l]
theorem below_val {P : Nat → Bool} {m s : Nat} {z : Int} (hz : z = (m : Int)) (hm : m ≤ 10) (hs : s < 2 ^ m) : (yG (s : Int) z (own (2 ^ m) P)).val = some (belowB P m s) := by
 have hp : 2 ^ m ≤ 1024 := Nat.pow_le_pow_right (n := 2) (by omega) hm
 subst hz
 unfold yG
 have := Comp.loop_any (body := fun i => yr (m : Int) (s : Int) (own (2 ^ m) P) i) (List.range m) (fun k => s.testBit k && !P (gy s (2 ^ k))) false
  (by
   intro i k hk
   obtain ⟨hi, rfl⟩ := range_get hk
   have h2 : 2 ^ k ≤ 1024 := Nat.pow_le_pow_right (n := 2) (by omega) (by omega : k ≤ 10)
   have hw := without_le s (2 ^ k)
   have e : (idx (own (2 ^ m) P) (andNotB .i64 (s : Int) (shlF .i64 1 (k : Int)))).val = some (P (gy s (2 ^ k))) := by
    rw [shlF_nat (by omega), andNotB_nat (by omega) (by omega), gS (own_get (by omega))]
   unfold yr
   rw [decide_lt_nat, Comp.ze, if_pos (by simpa using hi), Comp.zH, jg (by omega), Option.bind_some, bit_eq (by omega) (by omega)]
   cases ht : s.testBit k with
   | false => simp [Comp.zH, Comp.val_gd, Comp.zT (i := k) (by omega)]
   | true =>
    rw [Comp.zH, Comp.val_gd, if_pos (by simp), jg (by omega), Option.bind_some, Comp.zH, Comp.val_gd, if_pos (by simp), e, Option.bind_some, Comp.zH, Comp.zL, Option.bind_some, Comp.ze]
    cases P (gy s (2 ^ k)) <;> simp [Comp.zT (i := k) (by omega)])
  (by
   unfold yr
   rw [List.length_range, Comp.ze, if_neg (by simp), Comp.zL])
 rw [Comp.zH, this, Option.bind_some]
 have e : belowB P m s = !((List.range m).any fun k => s.testBit k && !P (gy s (2 ^ k))) := by
  unfold belowB
  rw [any_all_not]
  congr 1; funext k
  cases s.testBit k <;> cases P (gy s (2 ^ k)) <;> rfl
 rw [e]
 cases (List.range m).any fun k => s.testBit k && !P (gy s (2 ^ k)) <;> simp [gl]
theorem only_val {N : Nat} (hN : N ≤ 1024) {f : Int → Comp Bool} {p : Nat → Bool} (hf : ∀ x, x < N → (f (x : Int)).val = some (p x)) : (kc (N : Int) f).val = some (up ((List.range N).filter p)) := by
 have hLIM : LIM = 1073741824 := rfl
 unfold kc
 have := Comp.ZF (body := fun s => gV (N : Int) f s.1 s.2) (List.range N) (fun acc x => acc ++ if p x = true then [(x : Int)] else []) id (fun a i => a.length ≤ i) []
  (by
   intro a i x hx hI
   obtain ⟨hi, rfl⟩ := range_get hx
   show (gV (N : Int) f a (x : Int)).val = _
   unfold gV
   rw [decide_lt_nat, Comp.ze, if_pos (by simpa using hi), Comp.zH, hf x hi, Option.bind_some, Comp.ze]
   by_cases ht : p x = true
   ·rw [if_pos ht, if_pos ht, Comp.zH, app_val (by simp; omega), Option.bind_some]
    simp only [jv, Comp.zL, Comp.zT (i := x) (by omega)]
   ·rw [if_neg ht, if_neg ht, List.append_nil]
    simp only [jv, Comp.zL, Comp.zT (i := x) (by omega)])
  (by
   intro a i x _ hI
   show (a ++ if p x = true then [(x : Int)] else []).length ≤ _
   split
   ·simp; omega
   ·simp; omega)
  (by
   intro a _
   show (gV (N : Int) f a ((List.range N).length : Int)).val = _
   unfold gV
   rw [List.length_range, Comp.ze, if_neg (by simp), Comp.zL]; rfl)
  (Nat.le_refl _)
 rw [Comp.zH, this, Option.bind_some, Comp.kw]
 unfold core_only_j1
 rw [Comp.zL]
 congr 1
 show [] ++ _ = _
 rw [List.nil_append]
 generalize List.range N = ks
 induction ks with
 | nil => rfl
 | cons k ks ih =>
  rw [List.flatMap_cons, List.filter_cons, ih]
  split <;> simp [up]
theorem pow_ok : ∀ m, m ≤ 6 → (bif (decide (((2 ^ m : Nat) : Int) = 0)) then true else (decide ((andB .i64 ((2 ^ m : Nat) : Int) (IntKind.wrap .i64 (((2 ^ m : Nat) : Int) - 1))) ≠ 0))) = false
 | 0, _ | 1, _ | 2, _ | 3, _ | 4, _ | 5, _ | 6, _ => by decide
 | m + 7, h => by omega
theorem len_val : ∀ m, m ≤ 6 → (kv (IntKind.wrap .u64 ((2 ^ m : Nat) : Int))).val = some ((m + 1 : Nat) : Int)
 | 0, _ | 1, _ | 2, _ | 3, _ | 4, _ | 5, _ | 6, _ => Comp.val_run (n := 4) (by kernel_rfl)
 | m + 7, h => by omega
def conf (P : Nat → Bool) (m : Nat) : List Nat := (List.range (2 ^ m)).filter fun s => !P s && belowB P m s
theorem conflicts_val {P : Nat → Bool} {m : Nat} (hm : m ≤ 6) (hd : ∀ s t, P s = true → Sub t s → P t = true) : (gf (own (2 ^ m) P)).val = some (up (conf P m), 0) := by
 have hp : 2 ^ m ≤ 64 := Nat.pow_le_pow_right (n := 2) (by omega) hm
 unfold gf
 rw [own_len, Comp.ze, if_neg (by rw [decide_eq_true_iff]; omega), pow_ok m hm, Comp.zH, Comp.zL, Option.bind_some, Comp.ze, if_neg (by simp), Comp.zH, len_val m hm, Option.bind_some]
 have hz : IntKind.wrap .i64 (((m + 1 : Nat) : Int) - 1) = (m : Int) := wrap_pred (by omega)
 have h2 : (kc ((2 ^ m : Nat) : Int) (fun z0 => gM z0 (own (2 ^ m) P) (fun z0 => yG z0 (IntKind.wrap .i64 (((m + 1 : Nat) : Int) - 1)) (own (2 ^ m) P)))).val = some (up ((List.range (2 ^ m)).filter fun s => P s && !belowB P m s)) := by
  refine only_val (Nat.le_trans hp (by decide)) fun x hx => ?_
  unfold gM
  rw [Comp.zH, gS (own_get hx), Option.bind_some, Comp.zH, Comp.val_gd, below_val hz (by omega) hx]
  cases P x <;> simp
 have h3 : (kc ((2 ^ m : Nat) : Int) (fun z0 => gL z0 (own (2 ^ m) P) (fun z0 => yG z0 (IntKind.wrap .i64 (((m + 1 : Nat) : Int) - 1)) (own (2 ^ m) P)))).val = some (up (conf P m)) := by
  refine only_val (Nat.le_trans hp (by decide)) fun x hx => ?_
  unfold gL
  rw [Comp.zH, gS (own_get hx), Option.bind_some, Comp.zH, Comp.val_gd, below_val hz (by omega) hx]
  cases P x <;> simp
 have e : (List.range (2 ^ m)).filter (fun s => P s && !belowB P m s) = [] := by
  rw [List.filter_eq_nil_iff]
  intro s _ h
  simp only [Bool.and_eq_true, Bool.not_eq_true'] at h
  have : belowB P m s = true := by
   unfold belowB
   rw [List.all_eq_true]
   intro k _
   rw [hd s (gy s (2 ^ k)) h.1 (fun i hi => by rw [vN] at hi; simp at hi; exact hi.1)]
   simp
  rw [this] at h; exact absurd h.2 (by simp)
 rw [e] at h2
 rw [Comp.zH, h2, Option.bind_some, Comp.ze, if_neg (by simp [up]), Comp.zH, h3, Option.bind_some, Comp.zL]
theorem mem_conf {P : Nat → Bool} {m x : Nat} (hd : ∀ s t, P s = true → Sub t s → P t = true) : x ∈ conf P m ↔ x < 2 ^ m ∧ Min (fun s => P s = false) x := by
 unfold conf
 rw [List.mem_filter, List.mem_range]
 refine and_congr_right fun hx => ?_
 simp only [Bool.and_eq_true, Bool.not_eq_true']
 refine and_congr_right fun hPx => ?_
 constructor
 ·intro h g hg hs
  refine hs.antisymm fun k hk => ?_
  refine Classical.byContradiction fun hgk => ?_
  unfold belowB at h
  rw [List.all_eq_true] at h
  have := h k (List.mem_range.2 (bit_lt hx hk))
  simp only [hk, Bool.not_true, Bool.false_or] at this
  have h2 := hd _ g this fun i hi => by
   rw [vN, ZB, hs i hi]
   have : k ≠ i := fun e => hgk (e ▸ hi)
   simp [this]
  rw [h2] at hg; cases hg
 ·intro h
  unfold belowB
  rw [List.all_eq_true]
  intro k _
  cases hk : x.testBit k with
  | false => rfl
  | true =>
   simp only [Bool.not_true, Bool.false_or]
   cases hP : P (gy x (2 ^ k)) with
   | true => rfl
   | false =>
    have := h _ hP fun i hi => by rw [vN] at hi; simp at hi; exact hi.1
    have h3 : (gy x (2 ^ k)).testBit k = true := by rw [this]; exact hk
    rw [vN, ZB] at h3; simp at h3
theorem contains_iff {P : Nat → Bool} {m s : Nat} (hd : ∀ s t, P s = true → Sub t s → P t = true) (hs : s < 2 ^ m) : (∃ x ∈ conf P m, Sub x s) ↔ P s = false := by
 constructor
 ·rintro ⟨x, h1, h2⟩
  cases hP : P s with
  | false => rfl
  | true =>
   have := hd s x hP h2
   rw [((mem_conf hd).1 h1).2.1] at this; cases this
 ·intro h
  obtain ⟨x, h1, h2⟩ := exists_min (P := fun s => P s = false) s h
  exact ⟨x, (mem_conf hd).2 ⟨Nat.lt_of_le_of_lt h2.le hs, h1⟩, h2⟩
end Go.Cor
end
section
namespace Go.Cor
open Go Go.Lift Go.F
theorem mem_up_get {F : List Nat} {i x : Nat} (h : F[i]? = some x) : (up F)[i]? = some (x : Int) := by unfold up; rw [List.getElem?_map, h]; rfl
end Go.Cor
end
section
namespace Go.Cor
open Go Go.Lift Go.F
def popN : Nat → Nat → Nat
 | 0, _ => 0
 | k + 1, n => n % 2 + popN k (n / 2)
end Go.Cor
end
section
namespace Go.Cor
open Go Go.Lift Go.F
def U (z : Int) : Nat := (z % 18446744073709551616).toNat
def pop (z : Int) : Nat := popN 64 (U z)
theorem wrapI_eq (z : Int) : (IntKind.wrap .i64 z) % 18446744073709551616 = z % 18446744073709551616 ∧ -9223372036854775808 ≤ IntKind.wrap .i64 z ∧ IntKind.wrap .i64 z ≤ 9223372036854775807 := by
 by_cases h : z % 18446744073709551616 ≥ 9223372036854775808
 ·have e : IntKind.wrap .i64 z = z % 18446744073709551616 - 18446744073709551616 := by simp [IntKind.wrap, IntKind.signed, IntKind.bits, h]
  rw [e]; omega
 ·have e : IntKind.wrap .i64 z = z % 18446744073709551616 := by simp [IntKind.wrap, IntKind.signed, IntKind.bits]; omega
  rw [e]; omega
theorem U_and (a b : Int) : U (andB .i64 a b) = U a &&& U b := by
 unfold andB
 unfold U
 rw [(wrapI_eq _).1, bits64, BitVec.toNat_and, BitVec.toNat_ofInt, BitVec.toNat_ofInt]
 have h : (a % 18446744073709551616).toNat &&& (b % 18446744073709551616).toNat < 2 ^ 64 := Nat.and_lt_two_pow _ (by omega)
 have e : (((a % ((2 ^ 64 : Nat) : Int)).toNat &&& (b % ((2 ^ 64 : Nat) : Int)).toNat : Nat) : Int) = (((a % 18446744073709551616).toNat &&& (b % 18446744073709551616).toNat : Nat) : Int) := rfl
 rw [e]
 omega
def I64 (z : Int) : Prop := -9223372036854775808 ≤ z ∧ z ≤ 9223372036854775807
theorem U_zero {z : Int} (h : I64 z) : U z = 0 ↔ z = 0 := by
 obtain ⟨h1, h2⟩ := h
 unfold U; omega
theorem U_inj {a b : Int} (ha : I64 a) (hb : I64 b) (h : U a = U b) : a = b := by
 obtain ⟨h1, h2⟩ := ha; obtain ⟨h3, h4⟩ := hb
 unfold U at h; omega
theorem andB_i64 (a b : Int) : I64 (andB .i64 a b) := by unfold andB; exact (wrapI_eq _).2
def first (b : Int) (l : List Int) : Int := l.foldl (fun b x => if pop x < pop b then x else b) b
end Go.Cor
end
section
set_option linter.unusedVariables false
set_option linter.unusedSimpArgs false
namespace Go.Cor
open Go Go.Lift Go.F
end Go.Cor
end
section
set_option linter.unusedVariables false
set_option linter.unusedSimpArgs false
namespace Go.Cor
open Go Go.Lift Go.F
theorem low_bit {z : Int} {k : Nat} (hk : k < 64) : andB .i64 (shrF .i64 z (k : Int)) 1 = ((U z / 2 ^ k % 2 : Nat) : Int) := by
 have hp : (0 : Int) < 2 ^ k := Int.pow_pos (by omega)
 have hs : shrF .i64 z (k : Int) = z / 2 ^ k := by
  unfold shrF
  rw [bits64, Int.toNat_natCast, Nat.min_eq_left (by omega), Int.fdiv_eq_ediv_of_nonneg _ (Int.le_of_lt hp)]
 have h1 : U (andB .i64 (z / 2 ^ k) 1) = U (z / 2 ^ k) % 2 := by
  rw [U_and, show U 1 = 1 from rfl, Nat.and_one_is_mod]
 have h2 : andB .i64 (z / 2 ^ k) 1 = ((U (z / 2 ^ k) % 2 : Nat) : Int) := by
  refine U_inj (andB_i64 _ _) ⟨by omega, by omega⟩ ?_
  rw [h1]; unfold U; omega
 rw [hs, h2]
 congr 1
 have h3 : U (z / 2 ^ k) % 2 = ((z / 2 ^ k) % 2).toNat := by unfold U; omega
 rw [h3]
 have hq : (2 : Int) ^ 64 = 2 ^ k * (2 * 2 ^ (63 - k)) := by
  rw [← Int.pow_succ', ← Int.pow_add]; congr 1; omega
 have h4 : ((U z : Nat) : Int) = z % 18446744073709551616 := by unfold U; omega
 have h5 : z / 2 ^ k = ((U z : Nat) : Int) / 2 ^ k + 2 * (2 ^ (63 - k) * (z / 18446744073709551616)) := by
  have e : z = ((U z : Nat) : Int) + 2 ^ k * (2 * (2 ^ (63 - k) * (z / 18446744073709551616))) := by
   have e1 : 2 ^ k * (2 * (2 ^ (63 - k) * (z / 18446744073709551616))) = 18446744073709551616 * (z / 18446744073709551616) := by
    rw [show (18446744073709551616 : Int) = 2 ^ 64 from rfl, hq]
    simp only [Int.mul_assoc]
   rw [e1, h4]; omega
  conv => lhs; rw [e]
  rw [Int.add_mul_ediv_left _ _ (by omega)]
 have h6 : ((U z : Nat) : Int) / 2 ^ k = ((U z / 2 ^ k : Nat) : Int) := by simp
 rw [h5, h6]
 omega
end Go.Cor
end
section
set_option linter.unusedVariables false
set_option linter.unusedSimpArgs false
namespace Go.Cor
open Go Go.Lift Go.F
end Go.Cor
end
section
set_option linter.unusedVariables false
set_option linter.unusedSimpArgs false
namespace Go.Cor
open Go Go.Lift Go.F
end Go.Cor
end
end
section
set_option linter.unusedVariables false
set_option linter.unusedSimpArgs false
namespace Go.Lift
open Go Go.Eng
variable {α β γ δ ε σ τ : Type}
def Ok (c : Comp α) (P : α → Prop) : Prop := ∃ a, c.val = some a ∧ P a
namespace Ok
theorem vh {c : Comp α} {a : α} {P : α → Prop} (h : c.val = some a) : Ok c P ↔ P a := by
 constructor
 ·rintro ⟨b, h1, h2⟩; rw [h] at h1; cases h1; exact h2
 ·exact fun hp => ⟨a, h, hp⟩
theorem val {c : Comp α} {a : α} (h : Ok c (fun x => x = a)) : c.val = some a := by
 obtain ⟨b, h1, h2⟩ := h; rw [h1, h2]
theorem mono {c : Comp α} {P Q : α → Prop} (h : Ok c P) (i : ∀ a, P a → Q a) : Ok c Q := by
 obtain ⟨a, h1, h2⟩ := h; exact ⟨a, h1, i a h2⟩
theorem pure {a : α} {P : α → Prop} : Ok (Comp.pure a) P ↔ P a := vh (Comp.zL a)
theorem bind {c : Comp α} {f : α → Comp β} {P : β → Prop} : Ok (c.bind f) P ↔ Ok c fun a => Ok (f a) P := by
 unfold Ok
 rw [Comp.zH]
 cases hc : c.val with
 | none => simp
 | some a => simp
theorem ite {p : Prop} [Decidable p] {c d : Comp α} {P : α → Prop} : Ok (if p then c else d) P ↔ if p then Ok c P else Ok d P := by split <;> rfl
theorem ite_i {p : Prop} [Decidable p] {c d : Comp α} {P : α → Prop} (h1 : p → Ok c P) (h2 : ¬ p → Ok d P) : Ok (if p then c else d) P := by
 split
 ·rename_i h; exact h1 h
 ·rename_i h; exact h2 h
theorem gd {g : Bool} {c : Comp α} {d : α} {P : α → Prop} : Ok (Comp.gd g c d) P ↔ if g = true then Ok c P else P d := by
 cases g with
 | true => exact Iff.rfl
 | false => exact pure
theorem idx {xs : List α} {i : Int} {P : α → Prop} {x : α} (h0 : 0 ≤ i) (h : xs[i.toNat]? = some x) : Ok (Lift.idx xs i) P ↔ P x := vh (idx_val' h0 h)
theorem idxn {xs : List α} {i : Nat} {P : α → Prop} {x : α} (h : xs[i]? = some x) : Ok (Lift.idx xs (i : Int)) P ↔ P x := vh (gS h)
theorem app {xs ys : List α} {P : List α → Prop} (h : xs.length + ys.length ≤ LIM) : Ok (Lift.app xs ys) P ↔ P (xs ++ ys) := vh (app_val h)
theorem sub {xs : List α} {l h : Int} {P : List α → Prop} (hr : 0 ≤ l ∧ l ≤ h ∧ h ≤ xs.length) : Ok (Lift.sub xs l h) P ↔ P ((xs.take h.toNat).drop l.toNat) := vh (sub_val hr)
theorem rem {a b : Int} {P : Int → Prop} (h : b ≠ 0) : Ok (Lift.rem a b) P ↔ P (a.tmod b) := vh (rem_val h)
theorem upd {xs : List α} {i : Int} {x : α} {P : List α → Prop} (h : 0 ≤ i ∧ i < xs.length) : Ok (Lift.upd xs i x) P ↔ P (xs.set i.toNat x) := vh (upd_val h)
theorem mk {n : Int} {z : α} {P : List α → Prop} (h : 0 ≤ n ∧ n ≤ LIM) : Ok (Lift.mk n z) P ↔ P (List.replicate n.toNat z) := vh (mk_val h)
theorem gw {n : Int} {P : Unit → Prop} (h : 0 ≤ n) : Ok (Lift.gw n) P ↔ P () := vh (jg h)
theorem loop {body : σ → Comp (Comp.Step σ ε)} (I : σ → Prop) (m : σ → Nat) {P : ε → Prop} {s : σ} (h0 : I s)
  (hb : ∀ s, I s → Ok (body s) fun t => match t with | .next s' => I s' ∧ m s' < m s | .done e => P e) : Ok (Comp.loop body s) P := by
 have key : ∀ k s, m s = k → I s → Ok (Comp.loop body s) P := by
  intro k
  induction k using Nat.strongRecOn with
  | _ k ih =>
   intro s hk hI
   obtain ⟨t, h1, h2⟩ := hb s hI
   cases t with
   | next s' =>
    obtain ⟨e, h3, h4⟩ := ih (m s') (by have := h2.2; omega) s' rfl h2.1
    exact ⟨e, by rw [Comp.kr, h1]; exact h3, h4⟩
   | done e => exact ⟨e, by rw [Comp.kr, h1]; rfl, h2⟩
 exact key _ s rfl h0
theorem count {body : σ → Comp (Comp.Step σ ε)} (N : Nat) (I : Nat → σ → Prop) {P : ε → Prop} {s : σ} (h0 : I 0 s)
  (hb : ∀ i s, i < N → I i s → Ok (body s) fun t => match t with | .next s' => I (i + 1) s' | .done e => P e)
  (he : ∀ s, I N s → Ok (body s) fun t => match t with | .next _ => False | .done e => P e) : Ok (Comp.loop body s) P := by
 have key : ∀ k i s, i + k = N → I i s → Ok (Comp.loop body s) P := by
  intro k
  induction k with
  | zero =>
   intro i s hi hI
   have : i = N := by omega
   subst this
   obtain ⟨t, h1, h2⟩ := he s hI
   cases t with
   | next _ => exact h2.elim
   | done e => exact ⟨e, by rw [Comp.kr, h1]; rfl, h2⟩
  | succ k ih =>
   intro i s hi hI
   obtain ⟨t, h1, h2⟩ := hb i s (by omega) hI
   cases t with
   | next s' =>
    obtain ⟨e, h3, h4⟩ := ih (i + 1) s' (by omega) h2
    exact ⟨e, by rw [Comp.kr, h1]; exact h3, h4⟩
   | done e => exact ⟨e, by rw [Comp.kr, h1]; rfl, h2⟩
 exact key N 0 s (by omega) h0
end Ok
theorem km (b c : Bool) : (bif b then true else c) = (b || c) := by cases b <;> rfl
theorem bif_and (b c : Bool) : (bif b then c else false) = (b && c) := by cases b <;> rfl
end Go.Lift
end
