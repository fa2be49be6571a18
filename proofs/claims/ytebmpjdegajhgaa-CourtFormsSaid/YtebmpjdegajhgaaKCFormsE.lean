/- Lemmas behind a claim of this seat. No statement of the program stands here. -/
import Derived.Test.YtebmpjdegajhgaaKCFormsD
set_option linter.unusedSimpArgs false
set_option linter.unusedVariables false
section
namespace Go.Proofs.Ytebmpjdegajhgaa
open Go Go.RowKit Go.Eng Go.Lift Go.F
set_option linter.unusedVariables false
set_option linter.unusedSimpArgs false
set_option maxRecDepth 100000
set_option maxHeartbeats 4000000 in
theorem ok_colletref43_Claims {O : Tags} {w0 : World} (hO : OkO O w0) {v_0 : Value} {x_0 : List (List Int)} (h_0 : (rSl (rSl (rInt .i64))).v O w0 v_0 x_0) {x_1 : Int} {x_2 : Int} {n : Nat} {y : (List api_Claim)} (h : (jJ x_0 x_1 x_2).run n = some y) : Pure Try.prog 36 #[v_0, .int .i64 x_1, .int .i64 x_2] w0 (SP.ownr zA 33 (w0.heap.size) O y).holds := by
 unfold jJ at h
 refine zW Try.func36 rfl 84 Try.ntmps36 (by simp) fun a0 hA hs0 => ?_
 have q0 : a0.get 0 = v_0 := hs0 0 _ rfl
 have q1 : a0.get 1 = .int .i64 x_1 := hs0 1 _ rfl
 have q2 : a0.get 2 = .int .i64 x_2 := hs0 2 _ rfl
 clear hs0
 have hB : Base (Fr w0) O w0 O w0 := Base.start hO
 refine wp_seq ?_
 refine' rb [_] mixed hA hB hO (cn (fun hE hK => zC rfl) .nil) ?zk1
 intro a1 w1 hA hE hB HF; refine kr3 HF q0 q1 q2 ?_; clear q0 q1 q2; intro q0 q1 q2; clear HF; replace h_0 := vx h_0 hE; clear hE; refine zE (zB (wp_seq ?_))
 refine' rb [_] mixed hA hB hO (cn (fun hE hK => zC rfl) .nil) ?zk2
 intro a2 w2 hA hE hB HF; refine kr3 HF q0 q1 q2 ?_; clear q0 q1 q2; intro q0 q1 q2; have q7 := ksv (HF 7) rfl rfl rfl; clear HF; replace h_0 := vx h_0 hE; clear hE; refine zE (zB (wp_seq ?_))
 refine' rb [_] mixed hA hB hO (cn (fun hE hK => zC rfl) .nil) ?zk3
 intro a3 w3 hA hE hB HF; refine kr4 HF q0 q1 q2 q7 ?_; clear q0 q1 q2 q7; intro q0 q1 q2 q7; have q8 := ksv (HF 8) rfl rfl rfl; clear HF; replace h_0 := vx h_0 hE; clear hE; refine zE (zB (wp_seq ?_))
 refine' rb [_] mixed hA hB hO (cn (fun hE hK => zC rfl) .nil) ?zk4
 intro a4 w4 hA hE hB HF; refine kr5 HF q0 q1 q2 q7 q8 ?_; clear q0 q1 q2 q7 q8; intro q0 q1 q2 q7 q8; have q9 := ksv (HF 9) rfl rfl rfl; clear HF; replace h_0 := vx h_0 hE; clear hE; refine zE (zB ?_)
 refine zY (fun a w => ∃ (O85 : Tags) (x82 : List api_Claim) (u83 : Value), a.fit 84 ∧ Base (Fr w0) O w0 O85 w ∧ a.get 7 = u83 ∧ OwnL 1 zA 33 (Fr w0) O85 w u83 x82 ∧ (kM x82).run n = some y) ?_ ?_
 ·
  refine wp_seq ?_
  refine' rb [_] mixed hA hB hO (cn (fun hE hK => zC rfl) .nil) ?zk5
  intro a5 w5 hA hE hB HF; refine kr6 HF q0 q1 q2 q7 q8 q9 ?_; clear q0 q1 q2 q7 q8 q9; intro q0 q1 q2 q7 q8 q9; have q10 := ksv (HF 10) rfl rfl rfl; clear HF; replace h_0 := vx h_0 hE; clear hE; refine zE (zB (wp_block ?_))
  obtain ⟨e2, he2, hk2⟩ := Comp.run_bind h; clear h
  refine yt (fun m a w => ∃ (O7 : Tags) (x1 : List api_Claim) (x4 : Bool) (x5 : Int) (x6 : Int) (u2 : Value), a.fit 84 ∧ Base (Fr w0) O w0 O7 w ∧ a.get 0 = v_0 ∧ (rSl (rSl (rInt .i64))).v O7 w v_0 x_0 ∧ a.get 1 = .int .i64 x_1 ∧ a.get 2 = .int .i64 x_2 ∧ a.get 7 = u2 ∧ OwnL 1 zA 33 (Fr w0) O7 w u2 x1 ∧ a.get 8 = .bool x4 ∧ a.get 9 = .int .i64 x5 ∧ a.get 10 = .int .i64 x6 ∧ Comp.loopN (fun s => gK x_0 x_2 x_1 s.1 s.2.1 s.2.2.1 s.2.2.2) n m (x1, x4, x5, x6) = some e2) (m := n) ?st2 ?_
  case st2 =>
   exact ⟨_, _, _, _, _, _, hA, hB, q0, h_0, q1, q2, q7, (OwnL.nil _ _ _ _ _ _), q8, q9, q10, Comp.zk he2⟩
  intro m_ a6 w6 hI
  clear hA hB he2 q0 q1 q2 q7 q8 q9 q10 h_0
  obtain ⟨O7, x1, x4, x5, x6, u2, hA, hB, q0, h_0, q1, q2, q7, f3, q8, q9, q10, hl⟩ := hI
  obtain ⟨m2, hlt2, st2, h, hnext2, hdone2⟩ := Comp.zZ hl; clear hl
  replace h : (gK x_0 x_2 x_1 x1 x4 x5 x6).run n = some st2 := h
  unfold gK at h; refine wp_seq (wp_seq ?_)
  refine' rb [_, _, _, _, _, _, _, _, _, _] mixed hA hB hO (mv q10 (mv q0 (cn (fun hE hK => zg (r := (rSl (rInt .i64))) ty22 (ks 1 hK 16 rfl) (rd_of (vx h_0 hE))) (cn (fun hE hK => zy (ks 0 hK 15 rfl) (ks 2 hK 17 rfl)) (cn (fun hE hK => zJ (ks 3 hK 18 rfl)) (mv q7 (.cons (fun _ _ hE hK hg => zg (r := zA) ty27 (kg 5 hK 20 rfl hg) (OwnL.rd (OwnL.ext f3 hE))) (mv q2 (.cons (fun _ _ hE hK hg => zy (kg 6 hK 21 rfl hg) (kg 7 hK 22 rfl hg)) (cn (fun hE hK => zV (ks 4 hK 19 rfl) (fun hb => kg 8 hK 23 rfl (zf rfl rfl hb)) (fun _ => rfl)) .nil)))))))))) ?zk6
  intro a7 w7 hA hE hB HF; refine kr7 HF q0 q1 q2 q7 q8 q9 q10 ?_; clear q0 q1 q2 q7 q8 q9 q10; intro q0 q1 q2 q7 q8 q9 q10; have q24 := ksv (HF 24) rfl rfl rfl; clear HF; replace h_0 := vx h_0 hE; replace f3 := f3.ext hE; clear hE
  obtain ⟨x8, hx_, h⟩ := Comp.run_bind h; replace hx_ := Comp.run_pure hx_; rw [hx_] at q24; clear hx_
  refine zE (zB ?_)
  revert h; refine cnd q24 (fun h => ?_) (fun h => ?_)
  ·
   refine wp_skip (zB ?_)
   refine zY (fun a w => ∃ (O79 : Tags) (x43 : List api_Claim) (x46 : Bool) (x47 : Int) (u44 : Value), a.fit 84 ∧ Base (Fr w0) O w0 O79 w ∧ a.get 0 = v_0 ∧ (rSl (rSl (rInt .i64))).v O79 w v_0 x_0 ∧ a.get 1 = .int .i64 x_1 ∧ a.get 2 = .int .i64 x_2 ∧ a.get 7 = u44 ∧ OwnL 1 zA 33 (Fr w0) O79 w u44 x43 ∧ a.get 8 = .bool x46 ∧ a.get 9 = .int .i64 x47 ∧ a.get 10 = .int .i64 x6 ∧ (gL x6 x43 x46 x47).run n = some st2) ?_ ?_
   ·
    refine wp_block (wp_seq ?_); obtain ⟨x9, hx9, h⟩ := Comp.run_bind h
    refine' rbT [_, _, SP.ptr (rSl (rInt .i64)) O7 x9, SP.vl (rSl (rInt .i64)) O7 x9] hA hB hO (mv q0 (mv q10 (cn (fun hE hK => zp (r := (rSl (rInt .i64))) (O := O7) ty22 ty23 rfl (ks 0 hK 27 rfl) (rd_of (vx h_0 hE)) (ks 1 hK 28 rfl) hx9) (cn (fun hE hK => vC (r := (rSl (rInt .i64))) (fun _ => rfl) ty23 rfl rfl rfl (kp (SP.ptr (rSl (rInt .i64)) O7 x9) 2 hK 29 rfl)) .nil)))) ?zk7
    intro a8 w8 hA hE hB HF; refine kr7 HF q0 q1 q2 q7 q8 q9 q10 ?_; clear q0 q1 q2 q7 q8 q9 q10; intro q0 q1 q2 q7 q8 q9 q10; obtain ⟨u10, q30, f11⟩ := kx (HF 30) rfl rfl rfl; clear q24 HF; replace h_0 := vx h_0 hE; replace f3 := f3.ext hE; clear hE
    refine l_ok (φ := SP.isv (.agg #[u10, .int .i64 0])) hO hB (by refine jQ (vals := [(0, u10)]) (out := [u10, .int .i64 0]) plc88 ty88 ?_ rfl ?_ rfl; exact (gG (v := u10) q30 pk_nil); exact (.cons rfl (sl_cells f11 rfl rfl) rfl (leb rfl) .nil)) rfl fun u_ w9 hE hB' hv_ => ?_
    replace hv_ := Eq.symm hv_; subst hv_; clear hB; have hB := hB'; clear hB'
    replace h_0 := vx h_0 hE; replace f3 := f3.ext hE; replace f11 := vx f11 hE; clear hE
    refine zQ hA (by decide) fun a10 hA q_ hfr => ?_
    refine kd8 hfr q0 q1 q2 q7 q8 q9 q10 q30 ?_; clear q0 q1 q2 q7 q8 q9 q10 q30; intro q0 q1 q2 q7 q8 q9 q10 q30; have q31 := q_; clear q_ hfr
    refine l_ok (φ := SP.box w9.heap.size #[u10, .int .i64 0] 88) hO hB (by exact ok_box (v := .agg #[u10, .int .i64 0]) (Nat.le_refl _) q31) rfl fun u12 w11 hE hB' f13 => ?_
    clear hB'; obtain ⟨O14, b16, hB', hX, e_, f15⟩ := boxNew hO hB hE f13 2 (by decide)
    subst e_; clear hB f13; have hB := hB'; clear hB'
    replace h_0 := vk h_0 hX
    replace f3 := f3.kx hX (by decide) (by decide)
    replace f11 := vk f11 hX; clear hX hE
    refine zQ hA (by decide) fun a12 hA q_ hfr => ?_
    refine kd8 hfr q0 q1 q2 q7 q8 q9 q10 q31 ?_; clear q0 q1 q2 q7 q8 q9 q10 q31; intro q0 q1 q2 q7 q8 q9 q10 q31; have q32 := q_; clear q_ hfr
    refine l_ok (φ := SP.isv (.pointer (some ⟨b16, 0, none⟩))) hO hB (by exact zC q32) rfl fun u_ w13 hE hB' hv_ => ?_
    replace hv_ := Eq.symm hv_; subst hv_; clear hB; have hB := hB'; clear hB'
    replace h_0 := vx h_0 hE; replace f3 := f3.ext hE; replace f15 := f15.ext hE; replace f11 := vx f11 hE; clear hE
    refine zQ hA (by decide) fun a14 hA q_ hfr => ?_
    refine kd8 hfr q0 q1 q2 q7 q8 q9 q10 q32 ?_; clear q0 q1 q2 q7 q8 q9 q10 q32; intro q0 q1 q2 q7 q8 q9 q10 q32; have q11 := q_; clear q_ hfr; refine zE (zB (wp_seq ?_)); obtain ⟨x17, hx17, h⟩ := Comp.run_bind h; obtain ⟨x18, hx18, h⟩ := Comp.run_bind h; obtain ⟨x19, hx19, h⟩ := Comp.run_bind h
    obtain ⟨J_, eJ_⟩ : ∃ J_ : (Nat → Bool) → Act → World → Prop, J_ = (fun S_ a_ w_ => ∃ O_ : Tags, Base (Fr w0) O w0 O_ w_ ∧ Keep 0 O14 w13 O_ w_ ∧ Keep 1 O14 w13 O_ w_ ∧ (S_ 0 = true → (rSl (rInt .i64)).v O_ w_ (a_.get 33) [2, 2, 3, 1]) ∧ (S_ 3 = true → PtrZ (rInt .i64) O_ w_ (a_.get 36) x18) ∧ (S_ 2 = false → BoxO 2 (Fr w0) O_ w_ b16 88 zl (colletref01_Draw.mk x9 0)) ∧ (S_ 2 = true → S_ 6 = false → BoxO 2 (Fr w0) O_ w_ b16 88 zl x17.1) ∧ (S_ 6 = true → BoxO 2 (Fr w0) O_ w_ b16 88 zl x19.1) ∧ (S_ 9 = true → S_ 10 = false → OwnBP 3 (Fr w0) O_ w_ (a_.get 12) #[.int .i64 0, .int .i64 0, .int .i64 0, .slice none 0 0, .slice none 0 0] 33) ∧ (S_ 10 = true → OwnBP 3 (Fr w0) O_ w_ (a_.get 12) #[.int .i64 (IntKind.wrap .i64 (x19.2 - 1)), .int .i64 x18, .int .i64 0, .slice none 0 0, .slice none 0 0] 33)) := ⟨_, rfl⟩
    have T_ : ∀ {i_ : Nat} {d_ : Option Tmp} {v_ : Value} {S_ a' w' w2}, Nat.beq 0 i_ = false → Nat.beq 2 i_ = false → Nat.beq 3 i_ = false → Nat.beq 6 i_ = false → Nat.beq 9 i_ = false → Nat.beq 10 i_ = false → d_ ≠ some 12 → d_ ≠ some 33 → d_ ≠ some 36 → Ext w' w2 → J_ S_ a' w' → J_ (addS S_ i_) (a'.put d_ v_) w2 := by
     subst eJ_; intro i_ d_ v_ S_ a' w' w2 n0_ n2_ n3_ n6_ n9_ n10_ s12_ s33_ s36_ hE hJ_
     obtain ⟨O_, hB_, k0_, kk0_, m0_, m3_, v1_0_, v1_1_, v1_2_, v2_0_, v2_1_⟩ := hJ_
     exact ⟨O_, (Base.step hB_ hE hO), (k0_.trans (KX.keep (KX.ext hE) (by decide))), (kk0_.trans (KX.keep (KX.ext hE) (by decide))), fun h_ => zG (d := d_) (t := 33) (φ := fun u_ => (rSl (rInt .i64)).v O_ w2 u_ [2, 2, 3, 1]) ((GR.zS _ (m0_ (zF n0_ h_)) (KX.keep (KX.ext hE) (by decide)))) s33_, fun h_ => zG (d := d_) (t := 36) (φ := fun u_ => PtrZ (rInt .i64) O_ w2 u_ x18) ((PtrZ.keep (m3_ (zF n3_ h_)) (KX.keep (KX.ext hE) (by decide)) (by decide) (fun _ => rfl))) s36_, fun hq_ => BoxO.kx (v1_0_ (zd hq_)) (KX.ext hE) (by decide) (by decide), fun hp_ hq_ => BoxO.kx (v1_1_ (zF n2_ hp_) (zd hq_)) (KX.ext hE) (by decide) (by decide), fun hp_ => BoxO.kx (v1_2_ (zF n6_ hp_)) (KX.ext hE) (by decide) (by decide), fun hp_ hq_ => zG (d := d_) (t := 12) (φ := fun u_ => OwnBP 3 (Fr w0) O_ w2 (u_) #[.int .i64 0, .int .i64 0, .int .i64 0, .slice none 0 0, .slice none 0 0] 33) (OwnBP.kx (v2_0_ (zF n9_ hp_) (zd hq_)) (KX.ext hE) (by decide)) s12_, fun hp_ => zG (d := d_) (t := 12) (φ := fun u_ => OwnBP 3 (Fr w0) O_ w2 (u_) #[.int .i64 (IntKind.wrap .i64 (x19.2 - 1)), .int .i64 x18, .int .i64 0, .slice none 0 0, .slice none 0 0] 33) (OwnBP.kx (v2_1_ (zF n10_ hp_)) (KX.ext hE) (by decide)) s12_⟩
    refine' regionX (draw := true) J_ [SP.tt, SP.isv (.pointer (some ⟨b16, 0, none⟩)), SP.isv (.int .i64 x17.2), SP.tt, SP.isv (.int .i64 x18), SP.isv (.pointer (some ⟨b16, 0, none⟩)), SP.isv (.int .i64 x19.2), SP.isv (.int .i64 (IntKind.wrap .i64 (x19.2 - 1))), SP.isv (.agg #[.int .i64 (IntKind.wrap .i64 (x19.2 - 1)), .int .i64 x18, .int .i64 0, .slice none 0 0, .slice none 0 0]), SP.tt, SP.tt] mixed hA (.cons (gZ _) (.cons (zi _) (.cons (zi _) (.cons (gZ _) (.cons (zi _) (.cons (zi _) (.cons (zi _) (.cons (zi _) (.cons (zi _) (.cons (gZ _) (.cons (gZ _) .nil))))))))))) (.cons ?z8_0 (.cons ?z8_1 (.cons ?z8_2 (.cons ?z8_3 (.cons ?z8_4 (.cons ?z8_5 (.cons ?z8_6 (.cons ?z8_7 (.cons ?z8_8 (.cons ?z8_9 (.cons ?z8_10 .nil))))))))))) ?zsk8 ?zst8 ?zok8 ?zgd8 ?zk8
    case z8_0 =>
     intro S_ a' w' hA_ hJ_ hS_ hafter_ hbef_ hK hg K_ Q_ hK_
     subst eJ_
     obtain ⟨O_, hB_, k0_, kk0_, m0_, m3_, v1_0_, v1_1_, v1_2_, v2_0_, v2_1_⟩ := hJ_
     refine x_ok (φ := SP.vl (rSl (rInt .i64)) O_ [2, 2, 3, 1]) (by exact zP (r := (rInt .i64)) (fun _ => rfl) rfl hB_.ok ty23 ty3 (zM rfl (zM rfl (zM rfl (zM rfl zh)))) ⟨(by exact zU.2 rfl), ⟨(by exact zU.2 rfl), ⟨(by exact zU.2 rfl), ⟨(by exact zU.2 rfl), trivial⟩⟩⟩⟩ rfl (by decide)) fun v_ w2 hE hv_ => ?_
     have hB2_ := Base.step hB_ hE hO
     exact hK_ v_ w2 ⟨O_, hB2_, (k0_.trans (KX.keep (KX.ext hE) (by decide))), (kk0_.trans (KX.keep (KX.ext hE) (by decide))), fun _ => jP (φ := fun u_ => (rSl (rInt .i64)).v O_ w2 u_ [2, 2, 3, 1]) hA_ (by decide) hv_, fun h_ => zG (d := some 33) (t := 36) (φ := fun u_ => PtrZ (rInt .i64) O_ w2 u_ x18) ((PtrZ.keep (m3_ (zF rfl h_)) (KX.keep (KX.ext hE) (by decide)) (by decide) (fun _ => rfl))) (by decide), fun hq_ => BoxO.kx (v1_0_ (zd hq_)) (KX.ext hE) (by decide) (by decide), fun hp_ hq_ => BoxO.kx (v1_1_ (zF rfl hp_) (zd hq_)) (KX.ext hE) (by decide) (by decide), fun hp_ => BoxO.kx (v1_2_ (zF rfl hp_)) (KX.ext hE) (by decide) (by decide), fun hp_ hq_ => zG (d := some 33) (t := 12) (φ := fun u_ => OwnBP 3 (Fr w0) O_ w2 (u_) #[.int .i64 0, .int .i64 0, .int .i64 0, .slice none 0 0, .slice none 0 0] 33) (OwnBP.kx (v2_0_ (zF rfl hp_) (zd hq_)) (KX.ext hE) (by decide)) (by decide), fun hp_ => zG (d := some 33) (t := 12) (φ := fun u_ => OwnBP 3 (Fr w0) O_ w2 (u_) #[.int .i64 (IntKind.wrap .i64 (x19.2 - 1)), .int .i64 x18, .int .i64 0, .slice none 0 0, .slice none 0 0] 33) (OwnBP.kx (v2_1_ (zF rfl hp_)) (KX.ext hE) (by decide)) (by decide)⟩ trivial
    case z8_1 =>
     intro S_ a' w' hA_ hJ_ hS_ hafter_ hbef_ hK hg K_ Q_ hK_
     refine x_ok (φ := SP.isv (.pointer (some ⟨b16, 0, none⟩))) (by exact zJ (kq hK q11)) fun v_ w2 hE hv_ => hK_ v_ w2 (T_ rfl rfl rfl rfl rfl rfl (by decide) (by decide) (by decide) hE hJ_) hv_
    case z8_2 =>
     intro S_ a' w' hA_ hJ_ hS_ hafter_ hbef_ hK hg K_ Q_ hK_
     subst eJ_
     obtain ⟨O_, hB_, k0_, kk0_, m0_, m3_, v1_0_, v1_1_, v1_2_, v2_0_, v2_1_⟩ := hJ_
     refine x_pio (r := zl) hO hB_ (yH hB_) fn54 (map2 (ks 1 hK 34 rfl) rfl) (yz hB_.ok (BoxO.arg (v1_0_ hS_) (by decide)) hx17) (v1_0_ hS_) fun v_ w2 f_ hB2_ hX_ hv_ => ?_
     exact hK_ v_ w2 ⟨O_, hB2_, (k0_.trans (KX.keep hX_ (by decide))), (kk0_.trans (KX.keep hX_ (by decide))), fun h_ => zG (d := some 35) (t := 33) (φ := fun u_ => (rSl (rInt .i64)).v O_ w2 u_ [2, 2, 3, 1]) ((GR.zS _ (m0_ (zF rfl h_)) (KX.keep hX_ (by decide)))) (by decide), fun h_ => zG (d := some 35) (t := 36) (φ := fun u_ => PtrZ (rInt .i64) O_ w2 u_ x18) ((PtrZ.keep (m3_ (zF rfl h_)) (KX.keep hX_ (by decide)) (by decide) (fun _ => rfl))) (by decide), fun hq_ => addS_me hq_, fun hp_ hq_ => f_, fun hp_ => no_tf (zF rfl hp_) (hafter_ 6 (by kernel_rfl)), fun hp_ hq_ => zG (d := some 35) (t := 12) (φ := fun u_ => OwnBP 3 (Fr w0) O_ w2 (u_) #[.int .i64 0, .int .i64 0, .int .i64 0, .slice none 0 0, .slice none 0 0] 33) (OwnBP.kx (v2_0_ (zF rfl hp_) (zd hq_)) hX_ (by decide)) (by decide), fun hp_ => zG (d := some 35) (t := 12) (φ := fun u_ => OwnBP 3 (Fr w0) O_ w2 (u_) #[.int .i64 (IntKind.wrap .i64 (x19.2 - 1)), .int .i64 x18, .int .i64 0, .slice none 0 0, .slice none 0 0] 33) (OwnBP.kx (v2_1_ (zF rfl hp_)) hX_ (by decide)) (by decide)⟩ hv_
    case z8_3 =>
     intro S_ a' w' hA_ hJ_ hS_ hafter_ hbef_ hK hg K_ Q_ hK_
     subst eJ_
     obtain ⟨O_, hB_, k0_, kk0_, m0_, m3_, v1_0_, v1_1_, v1_2_, v2_0_, v2_1_⟩ := hJ_
     refine x_ok (φ := SP.ptrz (rInt .i64) O_ x18 (of_decide_eq_true rfl) (fun _ => rfl)) (by exact okl_idxZ (r := (rInt .i64)) (by decide) (fun _ => rfl) ty23 ty3 rfl rfl (m0_ (zF rfl (hbef_ 0 (by kernel_rfl)))) (ks 2 hK 35 rfl) hx18) fun v_ w2 hE hv_ => ?_
     have hB2_ := Base.step hB_ hE hO
     exact hK_ v_ w2 ⟨O_, hB2_, (k0_.trans (KX.keep (KX.ext hE) (by decide))), (kk0_.trans (KX.keep (KX.ext hE) (by decide))), fun h_ => zG (d := some 36) (t := 33) (φ := fun u_ => (rSl (rInt .i64)).v O_ w2 u_ [2, 2, 3, 1]) ((GR.zS _ (m0_ (zF rfl h_)) (KX.keep (KX.ext hE) (by decide)))) (by decide), fun _ => jP (φ := fun u_ => PtrZ (rInt .i64) O_ w2 u_ x18) hA_ (by decide) hv_, fun hq_ => BoxO.kx (v1_0_ (zd hq_)) (KX.ext hE) (by decide) (by decide), fun hp_ hq_ => BoxO.kx (v1_1_ (zF rfl hp_) (zd hq_)) (KX.ext hE) (by decide) (by decide), fun hp_ => BoxO.kx (v1_2_ (zF rfl hp_)) (KX.ext hE) (by decide) (by decide), fun hp_ hq_ => zG (d := some 36) (t := 12) (φ := fun u_ => OwnBP 3 (Fr w0) O_ w2 (u_) #[.int .i64 0, .int .i64 0, .int .i64 0, .slice none 0 0, .slice none 0 0] 33) (OwnBP.kx (v2_0_ (zF rfl hp_) (zd hq_)) (KX.ext hE) (by decide)) (by decide), fun hp_ => zG (d := some 36) (t := 12) (φ := fun u_ => OwnBP 3 (Fr w0) O_ w2 (u_) #[.int .i64 (IntKind.wrap .i64 (x19.2 - 1)), .int .i64 x18, .int .i64 0, .slice none 0 0, .slice none 0 0] 33) (OwnBP.kx (v2_1_ (zF rfl hp_)) (KX.ext hE) (by decide)) (by decide)⟩ trivial
    case z8_4 =>
     intro S_ a' w' hA_ hJ_ hS_ hafter_ hbef_ hK hg K_ Q_ hK_
     have hJ2_ := hJ_; rw [eJ_] at hJ2_; obtain ⟨O_, hB_, k0_, kk0_, m0_, m3_, v1_0_, v1_1_, v1_2_, v2_0_, v2_1_⟩ := hJ2_
     refine x_ok (φ := SP.isv (.int .i64 x18)) (by exact za (rInt .i64) (fun _ => rfl) ty3 rfl rfl rfl (PtrZ.ptr (m3_ (zF rfl (hbef_ 3 (by kernel_rfl))))) (fun _ _ _ h => zU.1 h)) fun v_ w2 hE hv_ => hK_ v_ w2 (T_ rfl rfl rfl rfl rfl rfl (by decide) (by decide) (by decide) hE hJ_) hv_
    case z8_5 =>
     intro S_ a' w' hA_ hJ_ hS_ hafter_ hbef_ hK hg K_ Q_ hK_
     refine x_ok (φ := SP.isv (.pointer (some ⟨b16, 0, none⟩))) (by exact zJ (kq hK q11)) fun v_ w2 hE hv_ => hK_ v_ w2 (T_ rfl rfl rfl rfl rfl rfl (by decide) (by decide) (by decide) hE hJ_) hv_
    case z8_6 =>
     intro S_ a' w' hA_ hJ_ hS_ hafter_ hbef_ hK hg K_ Q_ hK_
     subst eJ_
     obtain ⟨O_, hB_, k0_, kk0_, m0_, m3_, v1_0_, v1_1_, v1_2_, v2_0_, v2_1_⟩ := hJ_
     refine x_pio (r := zl) hO hB_ (yH hB_) fn54 (map2 (ks 5 hK 38 rfl) rfl) (yz hB_.ok (BoxO.arg (v1_1_ (zF rfl (hbef_ 2 (by kernel_rfl))) hS_) (by decide)) hx19) (v1_1_ (zF rfl (hbef_ 2 (by kernel_rfl))) hS_) fun v_ w2 f_ hB2_ hX_ hv_ => ?_
     exact hK_ v_ w2 ⟨O_, hB2_, (k0_.trans (KX.keep hX_ (by decide))), (kk0_.trans (KX.keep hX_ (by decide))), fun h_ => zG (d := some 39) (t := 33) (φ := fun u_ => (rSl (rInt .i64)).v O_ w2 u_ [2, 2, 3, 1]) ((GR.zS _ (m0_ (zF rfl h_)) (KX.keep hX_ (by decide)))) (by decide), fun h_ => zG (d := some 39) (t := 36) (φ := fun u_ => PtrZ (rInt .i64) O_ w2 u_ x18) ((PtrZ.keep (m3_ (zF rfl h_)) (KX.keep hX_ (by decide)) (by decide) (fun _ => rfl))) (by decide), fun hq_ => no_tf (hbef_ 2 (by kernel_rfl)) hq_, fun hp_ hq_ => addS_me hq_, fun hp_ => f_, fun hp_ hq_ => zG (d := some 39) (t := 12) (φ := fun u_ => OwnBP 3 (Fr w0) O_ w2 (u_) #[.int .i64 0, .int .i64 0, .int .i64 0, .slice none 0 0, .slice none 0 0] 33) (OwnBP.kx (v2_0_ (zF rfl hp_) (zd hq_)) hX_ (by decide)) (by decide), fun hp_ => zG (d := some 39) (t := 12) (φ := fun u_ => OwnBP 3 (Fr w0) O_ w2 (u_) #[.int .i64 (IntKind.wrap .i64 (x19.2 - 1)), .int .i64 x18, .int .i64 0, .slice none 0 0, .slice none 0 0] 33) (OwnBP.kx (v2_1_ (zF rfl hp_)) hX_ (by decide)) (by decide)⟩ hv_
    case z8_7 =>
     intro S_ a' w' hA_ hJ_ hS_ hafter_ hbef_ hK hg K_ Q_ hK_
     refine x_ok (φ := SP.isv (.int .i64 (IntKind.wrap .i64 (x19.2 - 1)))) (by exact ok_sub (ks 6 hK 39 rfl) rfl) fun v_ w2 hE hv_ => hK_ v_ w2 (T_ rfl rfl rfl rfl rfl rfl (by decide) (by decide) (by decide) hE hJ_) hv_
    case z8_8 =>
     intro S_ a' w' hA_ hJ_ hS_ hafter_ hbef_ hK hg K_ Q_ hK_
     refine x_ok (φ := SP.isv (.agg #[.int .i64 (IntKind.wrap .i64 (x19.2 - 1)), .int .i64 x18, .int .i64 0, .slice none 0 0, .slice none 0 0])) (by exact jQ plc33 ty33 (gG (v := .int .i64 x18) (ksv (j := 4) (hK 37 rfl) rfl rfl rfl) (gG (v := .int .i64 (IntKind.wrap .i64 (x19.2 - 1))) (ksv (j := 7) (hK 40 rfl) rfl rfl rfl) pk_nil)) rfl (.cons rfl rfl rfl (leb rfl) (.cons rfl rfl rfl (leb rfl) .nil)) rfl) fun v_ w2 hE hv_ => hK_ v_ w2 (T_ rfl rfl rfl rfl rfl rfl (by decide) (by decide) (by decide) hE hJ_) hv_
    case z8_9 =>
     intro S_ a' w' hA_ hJ_ hS_ hafter_ hbef_ hK hg K_ Q_ hK_
     subst eJ_
     obtain ⟨O_, hB_, k0_, kk0_, m0_, m3_, v1_0_, v1_1_, v1_2_, v2_0_, v2_1_⟩ := hJ_
     refine x_ok (φ := SP.box w'.heap.size #[.int .i64 0, .int .i64 0, .int .i64 0, .slice none 0 0, .slice none 0 0] 33) (by exact jr (Nat.le_refl _) ty33) fun v_ w2 hE hv_ => ?_
     obtain ⟨O2_, b_, hB2_, hX_, e_, f_⟩ := boxNew hO hB_ hE hv_ 3 (by decide)
     exact hK_ v_ w2 ⟨O2_, hB2_, (k0_.trans (KX.keep hX_ (by decide))), (kk0_.trans (KX.keep hX_ (by decide))), fun h_ => zG (d := some 12) (t := 33) (φ := fun u_ => (rSl (rInt .i64)).v O2_ w2 u_ [2, 2, 3, 1]) ((GR.zS _ (m0_ (zF rfl h_)) (KX.keep hX_ (by decide)))) (by decide), fun h_ => zG (d := some 12) (t := 36) (φ := fun u_ => PtrZ (rInt .i64) O2_ w2 u_ x18) ((PtrZ.keep (m3_ (zF rfl h_)) (KX.keep hX_ (by decide)) (by decide) (fun _ => rfl))) (by decide), fun hq_ => BoxO.kx (v1_0_ (zd hq_)) hX_ (by decide) (by decide), fun hp_ hq_ => BoxO.kx (v1_1_ (zF rfl hp_) (zd hq_)) hX_ (by decide) (by decide), fun hp_ => BoxO.kx (v1_2_ (zF rfl hp_)) hX_ (by decide) (by decide), fun hp_ hq_ => jP (φ := fun u_ => OwnBP 3 (Fr w0) O2_ w2 (u_) #[.int .i64 0, .int .i64 0, .int .i64 0, .slice none 0 0, .slice none 0 0] 33) hA_ (by decide) ⟨b_, e_, f_⟩, fun hp_ => no_tf (zF rfl hp_) (hafter_ 10 (by kernel_rfl))⟩ trivial
    case z8_10 =>
     intro S_ a' w' hA_ hJ_ hS_ hafter_ hbef_ hK hg K_ Q_ hK_
     subst eJ_
     obtain ⟨O_, hB_, k0_, kk0_, m0_, m3_, v1_0_, v1_1_, v1_2_, v2_0_, v2_1_⟩ := hJ_
     obtain ⟨b_, eb_, fb_⟩ := (v2_0_ (zF rfl (hbef_ 9 (by kernel_rfl))) hS_)
     refine x_storeSub (vs := [.int .i64 (IntKind.wrap .i64 (x19.2 - 1)), .int .i64 x18, .int .i64 0, .slice none 0 0, .slice none 0 0]) (cs' := #[.int .i64 (IntKind.wrap .i64 (x19.2 - 1)), .int .i64 x18, .int .i64 0, .slice none 0 0, .slice none 0 0]) hO hB_ (yH hB_) ty33 eb_ (ks 8 hK 41 rfl) rfl (by simp [Value.oneCell']) fb_ (by simp) rfl fun w2 f_ hB2_ hX_ => ?_
     exact hK_ undef w2 ⟨O_, hB2_, (k0_.trans (KX.keep hX_ (by decide))), (kk0_.trans (KX.keep hX_ (by decide))), fun h_ => zG (d := none) (t := 33) (φ := fun u_ => (rSl (rInt .i64)).v O_ w2 u_ [2, 2, 3, 1]) ((GR.zS _ (m0_ (zF rfl h_)) (KX.keep hX_ (by decide)))) (by decide), fun h_ => zG (d := none) (t := 36) (φ := fun u_ => PtrZ (rInt .i64) O_ w2 u_ x18) ((PtrZ.keep (m3_ (zF rfl h_)) (KX.keep hX_ (by decide)) (by decide) (fun _ => rfl))) (by decide), fun hq_ => BoxO.kx (v1_0_ (zd hq_)) hX_ (by decide) (by decide), fun hp_ hq_ => BoxO.kx (v1_1_ (zF rfl hp_) (zd hq_)) hX_ (by decide) (by decide), fun hp_ => BoxO.kx (v1_2_ (zF rfl hp_)) hX_ (by decide) (by decide), fun hp_ hq_ => addS_me hq_, fun hp_ => zG (d := none) (t := 12) (φ := fun u_ => OwnBP 3 (Fr w0) O_ w2 (u_) #[.int .i64 (IntKind.wrap .i64 (x19.2 - 1)), .int .i64 x18, .int .i64 0, .slice none 0 0, .slice none 0 0] 33) (⟨b_, eb_, f_⟩) (by decide)⟩ trivial
    case zsk8 =>
     subst eJ_
     intro i_ o_ S_ a_ w_ ho_ hact_ hA_ hS_ hbef_ hJ_
     obtain ⟨O_, hB_, k0_, kk0_, m0_, m3_, v1_0_, v1_1_, v1_2_, v2_0_, v2_1_⟩ := hJ_
     exact ⟨O_, hB_, k0_, kk0_, fun h_ => by obtain ⟨h1_, h2_⟩ := yG (j := 0) hact_ rfl h_; exact zG (t := 33) (φ := fun u_ => (rSl (rInt .i64)).v O_ w_ u_ [2, 2, 3, 1]) (m0_ h1_) (zv (j := 0) (by kernel_rfl) ho_ h2_), fun h_ => by obtain ⟨h1_, h2_⟩ := yG (j := 3) hact_ rfl h_; exact zG (t := 36) (φ := fun u_ => PtrZ (rInt .i64) O_ w_ u_ x18) (m3_ h1_) (zv (j := 3) (by kernel_rfl) ho_ h2_), fun hq_ => (v1_0_ (zd hq_)), fun hp_ hq_ => by obtain ⟨h1_, h2_⟩ := yG (j := 2) hact_ rfl hp_; exact (v1_1_ h1_ (zd hq_)), fun hp_ => by obtain ⟨h1_, h2_⟩ := yG (j := 6) hact_ rfl hp_; exact (v1_2_ h1_), fun hp_ hq_ => by obtain ⟨h1_, h2_⟩ := yG (j := 9) hact_ rfl hp_; exact zG (t := 12) (φ := fun u_ => OwnBP 3 (Fr w0) O_ w_ (u_) #[.int .i64 0, .int .i64 0, .int .i64 0, .slice none 0 0, .slice none 0 0] 33) (v2_0_ h1_ (zd hq_)) (zv (j := 9) (by kernel_rfl) ho_ h2_), fun hp_ => by obtain ⟨h1_, h2_⟩ := yG (j := 10) hact_ rfl hp_; exact zG (t := 12) (φ := fun u_ => OwnBP 3 (Fr w0) O_ w_ (u_) #[.int .i64 (IntKind.wrap .i64 (x19.2 - 1)), .int .i64 x18, .int .i64 0, .slice none 0 0, .slice none 0 0] 33) (v2_1_ h1_) (zv (j := 9) (by kernel_rfl) ho_ (skip_ne hact_ rfl))⟩
    case zst8 => subst eJ_; exact fun w1_ hE_ => ⟨O14, (Base.step hB hE_ hO), (Keep.ext hE_), (Keep.ext hE_), fun h_ => no_ft h_, fun h_ => no_ft h_, fun _ => BoxO.ext ⟨_, f15, ⟨_, _, rfl, (vf (r := (rSl (rInt .i64))) f11 rfl rfl), ⟨_, _, rfl, rfl, rfl⟩⟩⟩ hE_, fun hp_ => no_ft hp_, fun hp_ => no_ft hp_, fun hp_ => no_ft hp_, fun hp_ => no_ft hp_⟩
    case zok8 | zgd8 => kernel_rfl
    subst eJ_; clear T_
    intro a15 w15 hA HF hJ_
    obtain ⟨O20, hB_, k0_, kk0_, m0_, m3_, v1_0_, v1_1_, v1_2_, v2_0_, v2_1_⟩ := hJ_
    replace q0 := kn (HF 0) rfl q0
    replace q1 := kn (HF 1) rfl q1
    replace q2 := kn (HF 2) rfl q2
    replace q7 := kn (HF 7) rfl q7
    replace q8 := kn (HF 8) rfl q8
    replace q9 := kn (HF 9) rfl q9
    replace q10 := kn (HF 10) rfl q10
    replace q11 := kn (HF 11) rfl q11
    obtain ⟨b21, q12', f22⟩ := (v2_1_ rfl)
    have q12 := q12'; clear q12'
    clear HF
    replace h_0 := GR.zS _ h_0 k0_
    replace f3 := OwnL.keep f3 k0_ kk0_
    have f23 := (v1_2_ rfl)
    clear f15; clear hB; have hB := hB_; clear hB_
    have hz_ := f23; clear f23; obtain ⟨cs_, f24, hr_⟩ := hz_
    obtain ⟨u25, e_, f26⟩ := gf hr_; subst e_
    clear k0_ kk0_ m0_ m3_ v1_0_ v1_1_ v1_2_ v2_0_ v2_1_; refine zB (wp_seq ?_); obtain ⟨x27, hx27, h⟩ := Comp.run_bind h
    refine' rbT [_, _, _] hA hB hO (mv q11 (mv q1 (cn (fun hE hK => okl_shl rfl (ks 1 hK 43 rfl) (yY hx27)) .nil))) ?zk9
    intro a16 w16 hA hE hB HF; refine kr9 HF q0 q1 q2 q7 q8 q9 q10 q11 q12 ?_; clear q0 q1 q2 q7 q8 q9 q10 q11 q12; intro q0 q1 q2 q7 q8 q9 q10 q11 q12; have q42 := ksv (HF 42) rfl rfl rfl; have q44 := ksv (HF 44) rfl rfl rfl; clear HF; replace h_0 := vx h_0 hE; replace f3 := f3.ext hE; replace f24 := f24.ext hE; replace f26 := vx f26 hE; replace f22 := f22.ext hE; clear hE; obtain ⟨x28, hx28, h⟩ := Comp.run_bind h
    refine l_pio (r := zl) (x := x19.1) hO hB (yH hB) fn54 (map2 q42 q44) (yz hB.ok (BoxO.arg (show BoxO 2 (Fr w0) O20 w16 b16 88 zl x19.1 from ⟨_, f24, ⟨_, _, rfl, (vf (r := (rSl (rInt .i64))) f26 rfl rfl), ⟨_, _, rfl, rfl, rfl⟩⟩⟩) (by decide)) hx28) ⟨_, f24, ⟨_, _, rfl, (vf (r := (rSl (rInt .i64))) f26 rfl rfl), ⟨_, _, rfl, rfl, rfl⟩⟩⟩ fun u29 w17 f31 hB' hX f30 => ?_
    clear hB f24; have hB := hB'; clear hB'; replace h_0 := vk h_0 hX
    replace f3 := f3.kx hX (by decide) (by decide)
    replace f26 := vk f26 hX
    replace f22 := f22.kx hX (by decide)
    clear hX
    have hz_ := f31; clear f31; obtain ⟨cs_, f32, hr_⟩ := hz_
    obtain ⟨u33, e_, f34⟩ := gf hr_; subst e_
    replace f30 : _ = _ := f30; subst f30
    refine zQ hA (by decide) fun a18 hA q_ hfr => ?_
    refine kd11 hfr q0 q1 q2 q7 q8 q9 q10 q11 q12 q42 q44 ?_; clear q0 q1 q2 q7 q8 q9 q10 q11 q12 q42 q44; intro q0 q1 q2 q7 q8 q9 q10 q11 q12 q42 q44; have q45 := q_; clear q_ hfr
    refine l_ok (φ := SP.isv (.int .i64 x28.2)) hO hB (by exact zC q45) rfl fun u_ w19 hE hB' hv_ => ?_
    replace hv_ := Eq.symm hv_; subst hv_; clear hB; have hB := hB'; clear hB'
    replace h_0 := vx h_0 hE; replace f3 := f3.ext hE; replace f32 := f32.ext hE; replace f34 := vx f34 hE; replace f22 := f22.ext hE; clear hE
    refine zQ hA (by decide) fun a20 hA q_ hfr => ?_
    refine kd10 hfr q0 q1 q2 q7 q8 q9 q10 q11 q12 q45 ?_; clear q0 q1 q2 q7 q8 q9 q10 q11 q12 q45; intro q0 q1 q2 q7 q8 q9 q10 q11 q12 q45; have q13 := q_; clear q_ hfr; refine zE (zB (wp_seq ?_)); obtain ⟨x35, hx35, h⟩ := Comp.run_bind h
    refine' rbT [_, _, _] hA hB hO (mv q11 (mv q1 (cn (fun hE hK => okl_shl rfl (ks 1 hK 47 rfl) (yY hx35)) .nil))) ?zk10
    intro a21 w21 hA hE hB HF; refine kr9 HF q0 q1 q2 q7 q8 q9 q10 q12 q13 ?_; clear q0 q1 q2 q7 q8 q9 q10 q12 q13; intro q0 q1 q2 q7 q8 q9 q10 q12 q13; have q46 := ksv (HF 46) rfl rfl rfl; have q48 := ksv (HF 48) rfl rfl rfl; clear q11 HF; replace h_0 := vx h_0 hE; replace f3 := f3.ext hE; replace f32 := f32.ext hE; replace f34 := vx f34 hE; replace f22 := f22.ext hE; clear hE; obtain ⟨x36, hx36, h⟩ := Comp.run_bind h
    refine l_pio (r := zl) (x := x28.1) hO hB (yH hB) fn54 (map2 q46 q48) (yz hB.ok (BoxO.arg (show BoxO 2 (Fr w0) O20 w21 b16 88 zl x28.1 from ⟨_, f32, ⟨_, _, rfl, (vf (r := (rSl (rInt .i64))) f34 rfl rfl), ⟨_, _, rfl, rfl, rfl⟩⟩⟩) (by decide)) hx36) ⟨_, f32, ⟨_, _, rfl, (vf (r := (rSl (rInt .i64))) f34 rfl rfl), ⟨_, _, rfl, rfl, rfl⟩⟩⟩ fun u37 w22 f39 hB' hX f38 => ?_
    clear hB f32; have hB := hB'; clear hB'; replace h_0 := vk h_0 hX
    replace f3 := f3.kx hX (by decide) (by decide)
    replace f34 := vk f34 hX
    replace f22 := f22.kx hX (by decide)
    clear hX
    have hz_ := f39; clear f39; obtain ⟨cs_, f40, hr_⟩ := hz_
    obtain ⟨u41, e_, f42⟩ := gf hr_; subst e_
    replace f38 : _ = _ := f38; subst f38
    refine zQ hA (by decide) fun a23 hA q_ hfr => ?_
    refine kd11 hfr q0 q1 q2 q7 q8 q9 q10 q12 q13 q46 q48 ?_; clear q0 q1 q2 q7 q8 q9 q10 q12 q13 q46 q48; intro q0 q1 q2 q7 q8 q9 q10 q12 q13 q46 q48; have q49 := q_; clear q_ hfr
    refine l_ok (φ := SP.isv (.int .i64 x36.2)) hO hB (by exact zC q49) rfl fun u_ w24 hE hB' hv_ => ?_
    replace hv_ := Eq.symm hv_; subst hv_; clear hB; have hB := hB'; clear hB'
    replace h_0 := vx h_0 hE; replace f3 := f3.ext hE; replace f22 := f22.ext hE; clear hE
    refine zQ hA (by decide) fun a25 hA q_ hfr => ?_
    refine kd10 hfr q0 q1 q2 q7 q8 q9 q10 q12 q13 q49 ?_; clear q0 q1 q2 q7 q8 q9 q10 q12 q13 q49; intro q0 q1 q2 q7 q8 q9 q10 q12 q13 q49; have q14 := q_; clear q_ hfr; refine zE (zB ?_)
    refine zY (fun a w => ∃ (O72 : Tags) (x52 : Bool) (x53 : Int) (x54 : Int) (x55 : Int) (x56 : Int) (x57 : List Int) (x60 : List Int) (u58 : Value) (u61 : Value), a.fit 84 ∧ Base (Fr w0) O w0 O72 w ∧ a.get 0 = v_0 ∧ (rSl (rSl (rInt .i64))).v O72 w v_0 x_0 ∧ a.get 1 = .int .i64 x_1 ∧ a.get 2 = .int .i64 x_2 ∧ a.get 7 = u2 ∧ OwnL 1 zA 33 (Fr w0) O72 w u2 x1 ∧ a.get 8 = .bool x52 ∧ a.get 9 = .int .i64 x53 ∧ a.get 10 = .int .i64 x6 ∧ a.get 12 = .pointer (some ⟨b21, 0, none⟩) ∧ OwnB 3 (Fr w0) O72 w b21 #[.int .i64 x54, .int .i64 x55, .int .i64 x56, u58, u61] 33 ∧ (rSl (rInt .i64)).v O72 w u58 x57 ∧ (rSl (rInt .i64)).v O72 w u61 x60 ∧ (vF x1 x6 x52 x53 x54 x55 x56 x57 x60).run n = some st2) ?_ ?_
    ·
     refine wp_seq ?_
     refine' rb [SP.isv (.pointer (some ⟨b21, 1, none⟩)), SP.isv (.int .i64 x18)] mixed hA hB hO (cn (fun hE hK => zO fl33_1 (kq hK q12)) (cn (fun hE hK => zj ty3 rfl (ks 0 hK 50 rfl) (OwnB.ext f22 hE).own rfl) .nil)) ?zk11
     intro a26 w26 hA hE hB HF; refine kr10 HF q0 q1 q2 q7 q8 q9 q10 q12 q13 q14 ?_; clear q0 q1 q2 q7 q8 q9 q10 q12 q13 q14; intro q0 q1 q2 q7 q8 q9 q10 q12 q13 q14; have q51 := ksv (HF 51) rfl rfl rfl; clear HF; replace h_0 := vx h_0 hE; replace f3 := f3.ext hE; replace f22 := f22.ext hE; clear hE; refine zE (zB (wp_block (wp_seq ?_)))
     refine' rb [_, _] mixed hA hB hO (cn (fun hE hK => yO (kq hK q51) rfl) (cn (fun hE hK => zC (ks 0 hK 53 rfl)) .nil)) ?zk12
     intro a27 w27 hA hE hB HF; refine kr11 HF q0 q1 q2 q7 q8 q9 q10 q12 q13 q14 q51 ?_; clear q0 q1 q2 q7 q8 q9 q10 q12 q13 q14 q51; intro q0 q1 q2 q7 q8 q9 q10 q12 q13 q14 q51; have q52 := ksv (HF 52) rfl rfl rfl; clear HF; replace h_0 := vx h_0 hE; replace f3 := f3.ext hE; replace f22 := f22.ext hE; clear hE; refine zE (zB ?_)
     revert h; refine cnd q52 (fun h => ?_) (fun h => ?_)
     ·
      refine wp_seq (wp_seq ?_)
      refine' rb [_] mixed hA hB hO (mv q8 .nil) ?zk13
      intro a28 w28 hA hE hB HF; refine kr10 HF q0 q1 q2 q7 q8 q9 q10 q12 q13 q14 ?_; clear q0 q1 q2 q7 q8 q9 q10 q12 q13 q14; intro q0 q1 q2 q7 q8 q9 q10 q12 q13 q14; have q54 := ksv (HF 54) rfl rfl rfl; clear q51 q52 HF; replace h_0 := vx h_0 hE; replace f3 := f3.ext hE; replace f22 := f22.ext hE; clear hE; refine zE (zB ?_)
      revert h; refine cnd q54 (fun h => ?_) (fun h => ?_)
      ·
       refine wp_exit ?_
       refine (zT (ex_other rfl (zT (zw ?_))))
       refine zB ?_
       exact ⟨_, _, _, _, _, hA, hB, q0, h_0, q1, q2, q7, f3, q8, q9, q10, h⟩
      ·
       refine wp_skip (zB (wp_seq ?_))
       refine' rb [_] mixed hA hB hO (cn (fun hE hK => zC rfl) .nil) ?zk14
       intro a29 w29 hA hE hB HF; refine kr9 HF q0 q1 q2 q7 q9 q10 q12 q13 q14 ?_; clear q0 q1 q2 q7 q9 q10 q12 q13 q14; intro q0 q1 q2 q7 q9 q10 q12 q13 q14; replace q8 := ksv (HF 8) rfl rfl rfl; clear q54 HF; replace h_0 := vx h_0 hE; replace f3 := f3.ext hE; replace f22 := f22.ext hE; clear hE; refine zE (zB ?_); obtain ⟨x48, hx48, h⟩ := Comp.run_bind h
       refine' rbT [_, _, _, _, SP.vl (rSl (rInt .i64)) O20 x48, SP.isv (.pointer (some ⟨b21, 4, none⟩))] hA hB hO (mv q13 (mv q14 (cn (fun hE hK => okb_or (ks 0 hK 55 rfl) (ks 1 hK 56 rfl)) (mv q1 (.cons (fun _ _ hE hK hg => yL (zz fn55 (ks 2 hK 57 rfl) (ks 3 hK 58 rfl) (ok_colletref43_Subset (OkO.ext hB.ok hE)  hx48)) (fun _ _ _ h => (OwnR.val h (fun g hg => (OkO.ext hB.ok hE) g (OwnR.ge h g hg).1)))) (cn (fun hE hK => zO fl33_4 (kq hK q12)) .nil)))))) ?zk15
       intro a30 w30 hA hE hB HF; refine kr8 HF q0 q1 q2 q7 q8 q9 q10 q12 ?_; clear q0 q1 q2 q7 q8 q9 q10 q12; intro q0 q1 q2 q7 q8 q9 q10 q12; obtain ⟨u49, q59, f50⟩ := kx (HF 59) rfl rfl rfl; have q60 := ksv (HF 60) rfl rfl rfl; clear q13 q14 HF; replace h_0 := vx h_0 hE; replace f3 := f3.ext hE; replace f22 := f22.ext hE; clear hE
       refine jb (cs' := #[.int .i64 (IntKind.wrap .i64 (x19.2 - 1)), .int .i64 x18, .int .i64 0, .slice none 0 0, u49]) hO hB (yH hB) ty23 q60 q59 (sl_cells f50 rfl rfl) (sl_one f50 rfl rfl) f22 (by simp) rfl fun w31 f51 hB' hX => ?_
       clear hB f22; have hB := hB'; clear hB'; replace h_0 := vk h_0 hX
       replace f3 := f3.kx hX (by decide) (by decide)
       replace f50 := vk f50 hX; clear hX; refine zE (zm (zB ?_))
       exact ⟨_, _, _, _, _, _, _, _, _, _, hA, hB, q0, h_0, q1, q2, q7, f3, q8, q9, q10, q12, f51, (kP _ _ _ 0), f50, h⟩
     ·
      refine wp_seq ?_
      refine' rb [_, _] mixed hA hB hO (cn (fun hE hK => yO (kq hK q51) rfl) (cn (fun hE hK => zC (ks 0 hK 62 rfl)) .nil)) ?zk16
      intro a32 w32 hA hE hB HF; refine kr11 HF q0 q1 q2 q7 q8 q9 q10 q12 q13 q14 q51 ?_; clear q0 q1 q2 q7 q8 q9 q10 q12 q13 q14 q51; intro q0 q1 q2 q7 q8 q9 q10 q12 q13 q14 q51; have q61 := ksv (HF 61) rfl rfl rfl; clear q52 HF; replace h_0 := vx h_0 hE; replace f3 := f3.ext hE; replace f22 := f22.ext hE; clear hE; refine zE (zB ?_)
      revert h; refine cnd q61 (fun h => ?_) (fun h => ?_)
      ·
       obtain ⟨x63, hx63, h⟩ := Comp.run_bind h; obtain ⟨x64, hx64, h⟩ := Comp.run_bind h
       refine' rbT [_, _, _, _, SP.vl (rSl (rInt .i64)) O20 x63, _, _, SP.vl (rSl (rInt .i64)) O20 x64, SP.isv (.pointer (some ⟨b21, 3, none⟩))] hA hB hO (mv q13 (mv q14 (cn (fun hE hK => okb_and (ks 0 hK 63 rfl) (ks 1 hK 64 rfl)) (mv q1 (.cons (fun _ _ hE hK hg => yL (zz fn55 (ks 2 hK 65 rfl) (ks 3 hK 66 rfl) (ok_colletref43_Subset (OkO.ext hB.ok hE)  hx63)) (fun _ _ _ h => (OwnR.val h (fun g hg => (OkO.ext hB.ok hE) g (OwnR.ge h g hg).1)))) (mv q13 (mv q1 (.cons (fun _ _ hE hK hg => yL (zz fn55 (ks 5 hK 68 rfl) (ks 6 hK 69 rfl) (ok_colletref43_Subset (OkO.ext hB.ok hE)  hx64)) (fun _ _ _ h => (OwnR.val h (fun g hg => (OkO.ext hB.ok hE) g (OwnR.ge h g hg).1)))) (cn (fun hE hK => zO fl33_3 (kq hK q12)) .nil))))))))) ?zk17
       intro a33 w33 hA hE hB HF; refine kr8 HF q0 q1 q2 q7 q8 q9 q10 q12 ?_; clear q0 q1 q2 q7 q8 q9 q10 q12; intro q0 q1 q2 q7 q8 q9 q10 q12; obtain ⟨u65, q67, f66⟩ := kx (HF 67) rfl rfl rfl; obtain ⟨u67, q70, f68⟩ := kx (HF 70) rfl rfl rfl; have q71 := ksv (HF 71) rfl rfl rfl; clear q13 q14 q51 q61 HF; replace h_0 := vx h_0 hE; replace f3 := f3.ext hE; replace f22 := f22.ext hE; clear hE
       refine jb (cs' := #[.int .i64 (IntKind.wrap .i64 (x19.2 - 1)), .int .i64 x18, .int .i64 0, u65, .slice none 0 0]) hO hB (yH hB) ty23 q71 q67 (sl_cells f66 rfl rfl) (sl_one f66 rfl rfl) f22 (by simp) rfl fun w34 f69 hB' hX => ?_
       clear hB f22; have hB := hB'; clear hB'; replace h_0 := vk h_0 hX
       replace f3 := f3.kx hX (by decide) (by decide)
       replace f66 := vk f66 hX; replace f68 := vk f68 hX; clear hX
       refine l_ok (φ := SP.isv (.pointer (some ⟨b21, 4, none⟩))) hO hB (by exact zO fl33_4 q12) rfl fun u_ w35 hE hB' hv_ => ?_
       replace hv_ := Eq.symm hv_; subst hv_; clear hB; have hB := hB'; clear hB'
       replace h_0 := vx h_0 hE; replace f3 := f3.ext hE; replace f68 := vx f68 hE; replace f69 := f69.ext hE; replace f66 := vx f66 hE; clear hE
       refine zQ hA (by decide) fun a36 hA q_ hfr => ?_
       refine kd9 hfr q0 q1 q2 q7 q8 q9 q10 q12 q70 ?_; clear q0 q1 q2 q7 q8 q9 q10 q12 q70; intro q0 q1 q2 q7 q8 q9 q10 q12 q70; have q72 := q_; clear q_ hfr
       refine jb (cs' := #[.int .i64 (IntKind.wrap .i64 (x19.2 - 1)), .int .i64 x18, .int .i64 0, u65, u67]) hO hB (yH hB) ty23 q72 q70 (sl_cells f68 rfl rfl) (sl_one f68 rfl rfl) f69 (by simp) rfl fun w37 f70 hB' hX => ?_
       clear hB f69; have hB := hB'; clear hB'; replace h_0 := vk h_0 hX
       replace f3 := f3.kx hX (by decide) (by decide)
       replace f68 := vk f68 hX; replace f66 := vk f66 hX; clear hX; refine zE (zm (zB ?_))
       exact ⟨_, _, _, _, _, _, _, _, _, _, hA, hB, q0, h_0, q1, q2, q7, f3, q8, q9, q10, q12, f70, f66, f68, h⟩
      ·
       refine wp_seq ?_
       refine' rb [_, _] mixed hA hB hO (cn (fun hE hK => yO (kq hK q51) rfl) (cn (fun hE hK => zC (ks 0 hK 74 rfl)) .nil)) ?zk18
       intro a38 w38 hA hE hB HF; refine kr8 HF q0 q1 q2 q7 q8 q9 q10 q12 ?_; clear q0 q1 q2 q7 q8 q9 q10 q12; intro q0 q1 q2 q7 q8 q9 q10 q12; have q73 := ksv (HF 73) rfl rfl rfl; clear q13 q14 q51 q61 HF; replace h_0 := vx h_0 hE; replace f3 := f3.ext hE; replace f22 := f22.ext hE; clear hE; refine zE (zB ?_)
       revert h; refine cnd q73 (fun h => ?_) (fun h => ?_)
       ·
        refine wp_seq ?_
        refine' rbT [_, SP.isv (.pointer (some ⟨b21, 2, none⟩))] hA hB hO (mv q9 (cn (fun hE hK => zO fl33_2 (kq hK q12)) .nil)) ?zk19
        intro a39 w39 hA hE hB HF; refine kr8 HF q0 q1 q2 q7 q8 q9 q10 q12 ?_; clear q0 q1 q2 q7 q8 q9 q10 q12; intro q0 q1 q2 q7 q8 q9 q10 q12; have q75 := ksv (HF 75) rfl rfl rfl; have q76 := ksv (HF 76) rfl rfl rfl; clear q73 HF; replace h_0 := vx h_0 hE; replace f3 := f3.ext hE; replace f22 := f22.ext hE; clear hE
        refine jb (cs' := #[.int .i64 (IntKind.wrap .i64 (x19.2 - 1)), .int .i64 x18, .int .i64 x5, .slice none 0 0, .slice none 0 0]) hO hB (yH hB) ty3 q76 q75 rfl rfl f22 (by simp) rfl fun w40 f71 hB' hX => ?_
        clear hB f22; have hB := hB'; clear hB'; replace h_0 := vk h_0 hX
        replace f3 := f3.kx hX (by decide) (by decide)
        clear hX; refine zE (zB ?_)
        refine' rb [_, _, _] mixed hA hB hO (mv q9 (cn (fun hE hK => yP (ks 0 hK 77 rfl) rfl) (cn (fun hE hK => zC (ks 1 hK 78 rfl)) .nil))) ?zk20
        intro a41 w41 hA hE hB HF; refine kr7 HF q0 q1 q2 q7 q8 q10 q12 ?_; clear q0 q1 q2 q7 q8 q10 q12; intro q0 q1 q2 q7 q8 q10 q12; replace q9 := ksv (HF 9) rfl rfl rfl; clear HF; replace h_0 := vx h_0 hE; replace f3 := f3.ext hE; replace f71 := f71.ext hE; clear hE; refine zE (zm (zB ?_))
        exact ⟨_, _, _, _, _, _, _, _, _, _, hA, hB, q0, h_0, q1, q2, q7, f3, q8, q9, q10, q12, f71, (kP _ _ _ 0), (kP _ _ _ 0), h⟩
       ·
        refine wp_skip (zm (zB ?_))
        exact ⟨_, _, _, _, _, _, _, _, _, _, hA, hB, q0, h_0, q1, q2, q7, f3, q8, q9, q10, q12, f22, (kP _ _ _ 0), (kP _ _ _ 0), h⟩
    intro a42 w42 hI
    clear hA hB h q0 q1 q2 q7 q8 q9 q10 q12 q13 q14 f22 f3 h_0
    obtain ⟨O72, x52, x53, x54, x55, x56, x57, x60, u58, u61, hA, hB, q0, h_0, q1, q2, q7, f3, q8, q9, q10, q12, f51, f59, f62, h⟩ := hI
    unfold vF at h
    refine' rbT [_, SP.isv (.agg #[.int .i64 x54, .int .i64 x55, .int .i64 x56, u58, u61]), SP.vl (rSl zA) O72 [(api_Claim.mk x54 x55 x56 x57 x60)]] hA hB hO (mv q7 (cn (fun hE hK => gU ty33 rfl (kq hK q12) (OwnB.ext f51 hE).own rfl) (cn (fun hE hK => zP (r := zA) zK rfl (OkO.ext hB.ok hE) ty27 ty33 (zM (ks 1 hK 80 rfl) zh) ⟨⟨_, ⟨_, _, rfl, rfl, ⟨_, _, rfl, rfl, ⟨_, _, rfl, rfl, ⟨_, _, rfl, (vf (r := (rSl (rInt .i64))) (vx f59 hE) rfl rfl), ⟨_, _, rfl, (vf (r := (rSl (rInt .i64))) (vx f62 hE) rfl rfl), rfl⟩⟩⟩⟩⟩, rfl⟩, trivial⟩ rfl (by decide)) .nil))) ?zk21
    intro a43 w43 hA hE hB HF; refine kr7 HF q0 q1 q2 q7 q8 q9 q10 ?_; clear q0 q1 q2 q7 q8 q9 q10; intro q0 q1 q2 q7 q8 q9 q10; obtain ⟨u73, q81, f74⟩ := kx (HF 81) rfl rfl rfl; have q79 := ksv (HF 79) rfl rfl rfl; clear q12 HF; replace h_0 := vx h_0 hE; replace f3 := f3.ext hE; replace f51 := f51.ext hE; replace f59 := vx f59 hE; replace f62 := vx f62 hE; clear hE; obtain ⟨x75, hx75, h⟩ := Comp.run_bind h
    refine gQ (r := zA) zK rfl ty27 ty33 rfl (by decide) hO hB (yH hB) q79 f3 q81 (rd_of f74) hx75 (by decide) fun u76 w44 O77 f78 hB' hX => ?_
    clear hB; have hB := hB'; clear hB'; clear f3; replace h_0 := vk h_0 hX; replace f74 := vk f74 hX; clear hX
    refine zQ hA (by decide) fun a45 hA q_ hfr => ?_
    refine kd9 hfr q0 q1 q2 q7 q8 q9 q10 q79 q81 ?_; clear q0 q1 q2 q7 q8 q9 q10 q79 q81; intro q0 q1 q2 q7 q8 q9 q10 q79 q81; have q82 := q_; clear q_ hfr
    refine l_ok (φ := SP.isv (u76)) hO hB (by exact zC q82) rfl fun u_ w46 hE hB' hv_ => ?_
    replace hv_ := Eq.symm hv_; subst hv_; clear hB; have hB := hB'; clear hB'
    replace h_0 := vx h_0 hE; replace f78 := f78.ext hE; clear hE
    refine zQ hA (by decide) fun a47 hA q_ hfr => ?_
    replace q0 := (hfr 0 rfl).trans q0
    replace q1 := (hfr 1 rfl).trans q1
    replace q2 := (hfr 2 rfl).trans q2
    replace q8 := (hfr 8 rfl).trans q8
    replace q9 := (hfr 9 rfl).trans q9
    replace q10 := (hfr 10 rfl).trans q10
    replace q82 := (hfr 82 rfl).trans q82
    clear q7; have q7 := q_; clear q_ hfr; refine zE (zm (zB ?_))
    exact ⟨_, _, _, _, _, hA, hB, q0, h_0, q1, q2, q7, f78, q8, q9, q10, h⟩
   intro a48 w48 hI
   clear hA hB h q0 q1 q2 q7 q8 q9 q10 q24 f3 h_0
   obtain ⟨O79, x43, x46, x47, u44, hA, hB, q0, h_0, q1, q2, q7, f45, q8, q9, q10, h⟩ := hI
   unfold gL at h
   refine' rb [_, _, _] mixed hA hB hO (mv q10 (cn (fun hE hK => yP (ks 0 hK 25 rfl) rfl) (cn (fun hE hK => zC (ks 1 hK 26 rfl)) .nil))) ?zk22
   intro a49 w49 hA hE hB HF; refine kr6 HF q0 q1 q2 q7 q8 q9 ?_; clear q0 q1 q2 q7 q8 q9; intro q0 q1 q2 q7 q8 q9; replace q10 := ksv (HF 10) rfl rfl rfl; clear HF; replace h_0 := vx h_0 hE; replace f45 := f45.ext hE; clear hE; refine zE (zB ?_)
   have h := hnext2 _ (Comp.run_pure h).symm
   refine ⟨m2, hlt2, ?_⟩
   exact ⟨_, _, _, _, _, _, hA, hB, q0, h_0, q1, q2, q7, f45, q8, q9, q10, h⟩
  ·
   refine wp_exit (zT (zT (zw ?_)))
   have hd_ := hdone2 _ (Comp.run_pure h).symm; clear h
   subst hd_; have h := hk2; clear hk2; try dsimp only at h
   refine zB ?_
   exact ⟨_, _, _, hA, hB, q7, f3, h⟩
 intro a50 w50 hI
 clear hA hB h q0 q1 q2 q7 q8 q9 h_0
 obtain ⟨O85, x82, u83, hA, hB, q7, f84, h⟩ := hI
 unfold kM at h; refine wp_seq ?_
 refine' rb [_, _] mixed hA hB hO (mv q7 (cn (fun hE hK => zC (ks 0 hK 83 rfl)) .nil)) ?zk23
 intro a51 w51 hA hE hB HF; have q6 := ksv (HF 6) rfl rfl rfl; clear q7 HF; replace f84 := f84.ext hE; clear hE; refine zE (zB (wp_ret ?_))
 have h := Comp.run_pure h; subst h
 exact zb Try.results36 hA q6 hB.ext (OwnL.res f84 (by decide) hB.zero)
theorem ok_colletref43_Sights {O : Tags} {w0 : World} (hO : OkO O w0) {v_0 : Value} {x_0 : List Int} (h_0 : (rSl (rInt .i64)).v O w0 v_0 x_0) {x_1 : Int} {n : Nat} {y : (List api_Sight)} (h : (jH x_0 x_1).run n = some y) : Pure Try.prog 37 #[v_0, .int .i64 x_1] w0 (SP.ownr zD 64 (w0.heap.size) O y).holds := by
 unfold jH at h
 refine zW Try.func37 rfl 38 Try.ntmps37 (by simp) fun a0 hA hs0 => ?_
 have q0 : a0.get 0 = v_0 := hs0 0 _ rfl
 have q1 : a0.get 1 = .int .i64 x_1 := hs0 1 _ rfl
 clear hs0
 have hB : Base (Fr w0) O w0 O w0 := Base.start hO
 refine wp_seq ?_
 refine' rb [_] mixed hA hB hO (cn (fun hE hK => zC rfl) .nil) ?zk1
 intro a1 w1 hA hE hB HF; replace q0 := kf HF q0; replace q1 := kf HF q1; clear HF; replace h_0 := vx h_0 hE; clear hE; refine zE (zB (wp_seq ?_))
 refine' rbT [_] hA hB hO (mv q0 .nil) ?zk2
 intro a2 w2 hA hE hB HF; replace q0 := kf HF q0; replace q1 := kf HF q1; have q8 := ksv (HF 8) rfl rfl rfl; clear HF; replace h_0 := vx h_0 hE; clear hE
 refine l_ok (φ := SP.isv (.agg #[v_0, .int .i64 0])) hO hB (by refine jQ (vals := [(0, v_0)]) (out := [v_0, .int .i64 0]) plc88 ty88 ?_ rfl ?_ rfl; exact (gG (v := v_0) q8 pk_nil); exact (.cons rfl (sl_cells h_0 rfl rfl) rfl (leb rfl) .nil)) rfl fun u_ w3 hE hB' hv_ => ?_
 replace hv_ := Eq.symm hv_; subst hv_; clear hB; have hB := hB'; clear hB'
 replace h_0 := vx h_0 hE; clear hE
 refine zQ hA (by decide) fun a4 hA q_ hfr => ?_
 refine kd3 hfr q0 q1 q8 ?_; clear q0 q1 q8; intro q0 q1 q8; have q9 := q_; clear q_ hfr
 refine l_ok (φ := SP.box w3.heap.size #[v_0, .int .i64 0] 88) hO hB (by exact ok_box (v := .agg #[v_0, .int .i64 0]) (Nat.le_refl _) q9) rfl fun u1 w5 hE hB' f2 => ?_
 clear hB'; obtain ⟨O3, b5, hB', hX, e_, f4⟩ := boxNew hO hB hE f2 1 (by decide)
 subst e_; clear hB f2; have hB := hB'; clear hB'
 replace h_0 := vk h_0 hX; clear hX hE
 refine zQ hA (by decide) fun a6 hA q_ hfr => ?_
 refine kd3 hfr q0 q1 q9 ?_; clear q0 q1 q9; intro q0 q1 q9; have q10 := q_; clear q_ hfr
 refine l_ok (φ := SP.isv (.pointer (some ⟨b5, 0, none⟩))) hO hB (by exact zC q10) rfl fun u_ w7 hE hB' hv_ => ?_
 replace hv_ := Eq.symm hv_; subst hv_; clear hB; have hB := hB'; clear hB'
 replace h_0 := vx h_0 hE; replace f4 := f4.ext hE; clear hE
 refine zQ hA (by decide) fun a8 hA q_ hfr => ?_
 refine kd3 hfr q0 q1 q10 ?_; clear q0 q1 q10; intro q0 q1 q10; have q5 := q_; clear q_ hfr; refine zE (zB (wp_seq ?_))
 refine' rb [_] mixed hA hB hO (cn (fun hE hK => zC rfl) .nil) ?zk3
 intro a9 w9 hA hE hB HF; refine kr3 HF q0 q1 q5 ?_; clear q0 q1 q5; intro q0 q1 q5; have q6 := ksv (HF 6) rfl rfl rfl; clear HF; replace h_0 := vx h_0 hE; replace f4 := f4.ext hE; clear hE; refine zE (zB ?_)
 refine zY (fun a w => ∃ (O33 : Tags) (x30 : List api_Sight) (u31 : Value), a.fit 38 ∧ Base (Fr w0) O w0 O33 w ∧ a.get 6 = u31 ∧ OwnL 2 zD 64 (Fr w0) O33 w u31 x30 ∧ (kL x30).run n = some y) ?_ ?_
 ·
  refine wp_seq ?_
  refine' rb [_] mixed hA hB hO (cn (fun hE hK => zC rfl) .nil) ?zk4
  intro a10 w10 hA hE hB HF; refine kr4 HF q0 q1 q5 q6 ?_; clear q0 q1 q5 q6; intro q0 q1 q5 q6; have q7 := ksv (HF 7) rfl rfl rfl; clear HF; replace h_0 := vx h_0 hE; replace f4 := f4.ext hE; clear hE; refine zE (zB (wp_block ?_))
  obtain ⟨e2, he2, hk2⟩ := Comp.run_bind h; clear h
  refine yt (fun m a w => ∃ (O14 : Tags) (x6 : List api_Sight) (x9 : Int) (x10 : List Int) (x13 : Int) (u7 : Value) (u11 : Value), a.fit 38 ∧ Base (Fr w0) O w0 O14 w ∧ a.get 0 = v_0 ∧ (rSl (rInt .i64)).v O14 w v_0 x_0 ∧ a.get 1 = .int .i64 x_1 ∧ a.get 5 = .pointer (some ⟨b5, 0, none⟩) ∧ a.get 6 = u7 ∧ OwnL 2 zD 64 (Fr w0) O14 w u7 x6 ∧ a.get 7 = .int .i64 x9 ∧ OwnB 1 (Fr w0) O14 w b5 #[u11, .int .i64 x13] 88 ∧ (rSl (rInt .i64)).v O14 w u11 x10 ∧ Comp.loopN (fun s => gJ x_0 x_1 s.1 s.2.1 s.2.2.1 s.2.2.2) n m (x6, x9, x10, x13) = some e2) (m := n) ?st2 ?_
  case st2 =>
   exact ⟨_, _, _, _, _, _, _, hA, hB, q0, h_0, q1, q5, q6, (OwnL.nil _ _ _ _ _ _), q7, f4, h_0, Comp.zk he2⟩
  intro m_ a11 w11 hI
  clear hA hB he2 q0 q1 q5 q6 q7 f4 h_0
  obtain ⟨O14, x6, x9, x10, x13, u7, u11, hA, hB, q0, h_0, q1, q5, q6, f8, q7, f4, f12, hl⟩ := hI
  obtain ⟨m2, hlt2, st2, h, hnext2, hdone2⟩ := Comp.zZ hl; clear hl
  replace h : (gJ x_0 x_1 x6 x9 x10 x13).run n = some st2 := h
  unfold gJ at h; refine wp_seq (wp_seq ?_)
  refine' rb [_, _, _, _, _, _, _, _, _] mixed hA hB hO (mv q7 (cn (fun hE hK => yP (ks 0 hK 11 rfl) rfl) (mv q0 (cn (fun hE hK => zg (r := (rInt .i64)) ty23 (ks 2 hK 13 rfl) (rd_of (vx h_0 hE))) (cn (fun hE hK => zy (ks 1 hK 12 rfl) (ks 3 hK 14 rfl)) (cn (fun hE hK => zJ (ks 4 hK 15 rfl)) (mv q7 (.cons (fun _ _ hE hK hg => zy (kg 6 hK 17 rfl hg) rfl) (cn (fun hE hK => zV (ks 5 hK 16 rfl) (fun hb => kg 7 hK 18 rfl (zf rfl rfl hb)) (fun _ => rfl)) .nil))))))))) ?zk5
  intro a12 w12 hA hE hB HF; refine kr5 HF q0 q1 q5 q6 q7 ?_; clear q0 q1 q5 q6 q7; intro q0 q1 q5 q6 q7; have q19 := ksv (HF 19) rfl rfl rfl; clear HF; replace h_0 := vx h_0 hE; replace f8 := f8.ext hE; replace f4 := f4.ext hE; replace f12 := vx f12 hE; clear hE
  obtain ⟨x15, hx_, h⟩ := Comp.run_bind h; replace hx_ := Comp.run_pure hx_; rw [hx_] at q19; clear hx_
  refine zE (zB ?_)
  revert h; refine cnd q19 (fun h => ?_) (fun h => ?_)
  ·
   refine wp_skip (zB (wp_seq (wp_block ?_))); obtain ⟨x16, hx16, h⟩ := Comp.run_bind h; obtain ⟨x17, hx17, h⟩ := Comp.run_bind h; obtain ⟨x18, hx18, h⟩ := Comp.run_bind h; obtain ⟨x19, hx19, h⟩ := Comp.run_bind h; obtain ⟨x20, hx20, h⟩ := Comp.run_bind h
   obtain ⟨J_, eJ_⟩ : ∃ J_ : (Nat → Bool) → Act → World → Prop, J_ = (fun S_ a_ w_ => ∃ O_ : Tags, Base (Fr w0) O w0 O_ w_ ∧ Keep 0 O14 w12 O_ w_ ∧ (S_ 1 = true → (rSl (rInt .i64)).v O_ w_ (a_.get 23) [0, 0, 1, 2]) ∧ (S_ 4 = true → PtrZ (rInt .i64) O_ w_ (a_.get 26) x17) ∧ (S_ 13 = true → (rSl zD).v O_ w_ (a_.get 35) [(api_Sight.mk x17 x18.2 (decide (x19.2 = 1)))]) ∧ (S_ 14 = false → OwnL 2 zD 64 (Fr w0) O_ w_ u7 x6) ∧ (S_ 14 = true → S_ 15 = false → OwnL 2 zD 64 (Fr w0) O_ w_ (a_.get 36) x20) ∧ (S_ 15 = true → OwnL 2 zD 64 (Fr w0) O_ w_ (a_.get 6) x20) ∧ (S_ 3 = false → BoxO 1 (Fr w0) O_ w_ b5 88 zl (colletref01_Draw.mk x10 x13)) ∧ (S_ 3 = true → S_ 8 = false → BoxO 1 (Fr w0) O_ w_ b5 88 zl x16.1) ∧ (S_ 8 = true → S_ 10 = false → BoxO 1 (Fr w0) O_ w_ b5 88 zl x18.1) ∧ (S_ 10 = true → BoxO 1 (Fr w0) O_ w_ b5 88 zl x19.1)) := ⟨_, rfl⟩
   have T_ : ∀ {i_ : Nat} {d_ : Option Tmp} {v_ : Value} {S_ a' w' w2}, Nat.beq 1 i_ = false → Nat.beq 3 i_ = false → Nat.beq 4 i_ = false → Nat.beq 8 i_ = false → Nat.beq 10 i_ = false → Nat.beq 13 i_ = false → Nat.beq 14 i_ = false → Nat.beq 15 i_ = false → d_ ≠ some 6 → d_ ≠ some 23 → d_ ≠ some 26 → d_ ≠ some 35 → d_ ≠ some 36 → Ext w' w2 → J_ S_ a' w' → J_ (addS S_ i_) (a'.put d_ v_) w2 := by
    subst eJ_; intro i_ d_ v_ S_ a' w' w2 n1_ n3_ n4_ n8_ n10_ n13_ n14_ n15_ s6_ s23_ s26_ s35_ s36_ hE hJ_
    obtain ⟨O_, hB_, k0_, m1_, m4_, m13_, v0_0_, v0_1_, v0_2_, v1_0_, v1_1_, v1_2_, v1_3_⟩ := hJ_
    exact ⟨O_, (Base.step hB_ hE hO), (k0_.trans (KX.keep (KX.ext hE) (by decide))), fun h_ => zG (d := d_) (t := 23) (φ := fun u_ => (rSl (rInt .i64)).v O_ w2 u_ [0, 0, 1, 2]) ((GR.zS _ (m1_ (zF n1_ h_)) (KX.keep (KX.ext hE) (by decide)))) s23_, fun h_ => zG (d := d_) (t := 26) (φ := fun u_ => PtrZ (rInt .i64) O_ w2 u_ x17) ((PtrZ.keep (m4_ (zF n4_ h_)) (KX.keep (KX.ext hE) (by decide)) (by decide) (fun _ => rfl))) s26_, fun h_ => zG (d := d_) (t := 35) (φ := fun u_ => (rSl zD).v O_ w2 u_ [(api_Sight.mk x17 x18.2 (decide (x19.2 = 1)))]) ((GR.zS _ (m13_ (zF n13_ h_)) (KX.keep (KX.ext hE) (by decide)))) s35_, fun hq_ => OwnL.kx (v0_0_ (zd hq_)) (KX.ext hE) (by decide) (by decide), fun hp_ hq_ => zG (d := d_) (t := 36) (φ := fun u_ => OwnL 2 zD 64 (Fr w0) O_ w2 (u_) x20) (OwnL.kx (v0_1_ (zF n14_ hp_) (zd hq_)) (KX.ext hE) (by decide) (by decide)) s36_, fun hp_ => zG (d := d_) (t := 6) (φ := fun u_ => OwnL 2 zD 64 (Fr w0) O_ w2 (u_) x20) (OwnL.kx (v0_2_ (zF n15_ hp_)) (KX.ext hE) (by decide) (by decide)) s6_, fun hq_ => BoxO.kx (v1_0_ (zd hq_)) (KX.ext hE) (by decide) (by decide), fun hp_ hq_ => BoxO.kx (v1_1_ (zF n3_ hp_) (zd hq_)) (KX.ext hE) (by decide) (by decide), fun hp_ hq_ => BoxO.kx (v1_2_ (zF n8_ hp_) (zd hq_)) (KX.ext hE) (by decide) (by decide), fun hp_ => BoxO.kx (v1_3_ (zF n10_ hp_)) (KX.ext hE) (by decide) (by decide)⟩
   refine' regionX (draw := true) J_ [SP.isv (u7), SP.tt, SP.isv (.pointer (some ⟨b5, 0, none⟩)), SP.isv (.int .i64 x16.2), SP.tt, SP.isv (.int .i64 x17), SP.isv (.pointer (some ⟨b5, 0, none⟩)), SP.isv (.int .i64 x_1), SP.isv (.int .i64 x18.2), SP.isv (.pointer (some ⟨b5, 0, none⟩)), SP.isv (.int .i64 x19.2), SP.isv (.bool (decide (x19.2 = 1))), SP.isv (.agg #[.int .i64 x17, .int .i64 x18.2, .bool (decide (x19.2 = 1))]), SP.tt, SP.tt, SP.tt] mixed hA (.cons (zi _) (.cons (gZ _) (.cons (zi _) (.cons (zi _) (.cons (gZ _) (.cons (zi _) (.cons (zi _) (.cons (zi _) (.cons (zi _) (.cons (zi _) (.cons (zi _) (.cons (zi _) (.cons (zi _) (.cons (gZ _) (.cons (gZ _) (.cons (gZ _) .nil)))))))))))))))) (.cons ?z6_0 (.cons ?z6_1 (.cons ?z6_2 (.cons ?z6_3 (.cons ?z6_4 (.cons ?z6_5 (.cons ?z6_6 (.cons ?z6_7 (.cons ?z6_8 (.cons ?z6_9 (.cons ?z6_10 (.cons ?z6_11 (.cons ?z6_12 (.cons ?z6_13 (.cons ?z6_14 (.cons ?z6_15 .nil)))))))))))))))) ?zsk6 ?zst6 ?zok6 ?zgd6 ?zk6
   case z6_0 =>
    intro S_ a' w' hA_ hJ_ hS_ hafter_ hbef_ hK hg K_ Q_ hK_
    refine x_ok (φ := SP.isv (u7)) (by exact zJ (kq hK q6)) fun v_ w2 hE hv_ => hK_ v_ w2 (T_ rfl rfl rfl rfl rfl rfl rfl rfl (by decide) (by decide) (by decide) (by decide) (by decide) hE hJ_) hv_
   case z6_1 =>
    intro S_ a' w' hA_ hJ_ hS_ hafter_ hbef_ hK hg K_ Q_ hK_
    subst eJ_
    obtain ⟨O_, hB_, k0_, m1_, m4_, m13_, v0_0_, v0_1_, v0_2_, v1_0_, v1_1_, v1_2_, v1_3_⟩ := hJ_
    refine x_ok (φ := SP.vl (rSl (rInt .i64)) O_ [0, 0, 1, 2]) (by exact zP (r := (rInt .i64)) (fun _ => rfl) rfl hB_.ok ty23 ty3 (zM rfl (zM rfl (zM rfl (zM rfl zh)))) ⟨(by exact zU.2 rfl), ⟨(by exact zU.2 rfl), ⟨(by exact zU.2 rfl), ⟨(by exact zU.2 rfl), trivial⟩⟩⟩⟩ rfl (by decide)) fun v_ w2 hE hv_ => ?_
    have hB2_ := Base.step hB_ hE hO
    exact hK_ v_ w2 ⟨O_, hB2_, (k0_.trans (KX.keep (KX.ext hE) (by decide))), fun _ => jP (φ := fun u_ => (rSl (rInt .i64)).v O_ w2 u_ [0, 0, 1, 2]) hA_ (by decide) hv_, fun h_ => zG (d := some 23) (t := 26) (φ := fun u_ => PtrZ (rInt .i64) O_ w2 u_ x17) ((PtrZ.keep (m4_ (zF rfl h_)) (KX.keep (KX.ext hE) (by decide)) (by decide) (fun _ => rfl))) (by decide), fun h_ => zG (d := some 23) (t := 35) (φ := fun u_ => (rSl zD).v O_ w2 u_ [(api_Sight.mk x17 x18.2 (decide (x19.2 = 1)))]) ((GR.zS _ (m13_ (zF rfl h_)) (KX.keep (KX.ext hE) (by decide)))) (by decide), fun hq_ => OwnL.kx (v0_0_ (zd hq_)) (KX.ext hE) (by decide) (by decide), fun hp_ hq_ => zG (d := some 23) (t := 36) (φ := fun u_ => OwnL 2 zD 64 (Fr w0) O_ w2 (u_) x20) (OwnL.kx (v0_1_ (zF rfl hp_) (zd hq_)) (KX.ext hE) (by decide) (by decide)) (by decide), fun hp_ => zG (d := some 23) (t := 6) (φ := fun u_ => OwnL 2 zD 64 (Fr w0) O_ w2 (u_) x20) (OwnL.kx (v0_2_ (zF rfl hp_)) (KX.ext hE) (by decide) (by decide)) (by decide), fun hq_ => BoxO.kx (v1_0_ (zd hq_)) (KX.ext hE) (by decide) (by decide), fun hp_ hq_ => BoxO.kx (v1_1_ (zF rfl hp_) (zd hq_)) (KX.ext hE) (by decide) (by decide), fun hp_ hq_ => BoxO.kx (v1_2_ (zF rfl hp_) (zd hq_)) (KX.ext hE) (by decide) (by decide), fun hp_ => BoxO.kx (v1_3_ (zF rfl hp_)) (KX.ext hE) (by decide) (by decide)⟩ trivial
   case z6_2 =>
    intro S_ a' w' hA_ hJ_ hS_ hafter_ hbef_ hK hg K_ Q_ hK_
    refine x_ok (φ := SP.isv (.pointer (some ⟨b5, 0, none⟩))) (by exact zJ (kq hK q5)) fun v_ w2 hE hv_ => hK_ v_ w2 (T_ rfl rfl rfl rfl rfl rfl rfl rfl (by decide) (by decide) (by decide) (by decide) (by decide) hE hJ_) hv_
   case z6_3 =>
    intro S_ a' w' hA_ hJ_ hS_ hafter_ hbef_ hK hg K_ Q_ hK_
    subst eJ_
    obtain ⟨O_, hB_, k0_, m1_, m4_, m13_, v0_0_, v0_1_, v0_2_, v1_0_, v1_1_, v1_2_, v1_3_⟩ := hJ_
    refine x_pio (r := zl) hO hB_ (yH hB_) fn54 (map2 (ks 2 hK 24 rfl) rfl) (yz hB_.ok (BoxO.arg (v1_0_ hS_) (by decide)) hx16) (v1_0_ hS_) fun v_ w2 f_ hB2_ hX_ hv_ => ?_
    exact hK_ v_ w2 ⟨O_, hB2_, (k0_.trans (KX.keep hX_ (by decide))), fun h_ => zG (d := some 25) (t := 23) (φ := fun u_ => (rSl (rInt .i64)).v O_ w2 u_ [0, 0, 1, 2]) ((GR.zS _ (m1_ (zF rfl h_)) (KX.keep hX_ (by decide)))) (by decide), fun h_ => zG (d := some 25) (t := 26) (φ := fun u_ => PtrZ (rInt .i64) O_ w2 u_ x17) ((PtrZ.keep (m4_ (zF rfl h_)) (KX.keep hX_ (by decide)) (by decide) (fun _ => rfl))) (by decide), fun h_ => zG (d := some 25) (t := 35) (φ := fun u_ => (rSl zD).v O_ w2 u_ [(api_Sight.mk x17 x18.2 (decide (x19.2 = 1)))]) ((GR.zS _ (m13_ (zF rfl h_)) (KX.keep hX_ (by decide)))) (by decide), fun hq_ => OwnL.kx (v0_0_ (zd hq_)) hX_ (by decide) (by decide), fun hp_ hq_ => zG (d := some 25) (t := 36) (φ := fun u_ => OwnL 2 zD 64 (Fr w0) O_ w2 (u_) x20) (OwnL.kx (v0_1_ (zF rfl hp_) (zd hq_)) hX_ (by decide) (by decide)) (by decide), fun hp_ => zG (d := some 25) (t := 6) (φ := fun u_ => OwnL 2 zD 64 (Fr w0) O_ w2 (u_) x20) (OwnL.kx (v0_2_ (zF rfl hp_)) hX_ (by decide) (by decide)) (by decide), fun hq_ => addS_me hq_, fun hp_ hq_ => f_, fun hp_ hq_ => no_tf (zF rfl hp_) (hafter_ 8 (by kernel_rfl)), fun hp_ => no_tf (zF rfl hp_) (hafter_ 10 (by kernel_rfl))⟩ hv_
   case z6_4 =>
    intro S_ a' w' hA_ hJ_ hS_ hafter_ hbef_ hK hg K_ Q_ hK_
    subst eJ_
    obtain ⟨O_, hB_, k0_, m1_, m4_, m13_, v0_0_, v0_1_, v0_2_, v1_0_, v1_1_, v1_2_, v1_3_⟩ := hJ_
    refine x_ok (φ := SP.ptrz (rInt .i64) O_ x17 (of_decide_eq_true rfl) (fun _ => rfl)) (by exact okl_idxZ (r := (rInt .i64)) (by decide) (fun _ => rfl) ty23 ty3 rfl rfl (m1_ (zF rfl (hbef_ 1 (by kernel_rfl)))) (ks 3 hK 25 rfl) hx17) fun v_ w2 hE hv_ => ?_
    have hB2_ := Base.step hB_ hE hO
    exact hK_ v_ w2 ⟨O_, hB2_, (k0_.trans (KX.keep (KX.ext hE) (by decide))), fun h_ => zG (d := some 26) (t := 23) (φ := fun u_ => (rSl (rInt .i64)).v O_ w2 u_ [0, 0, 1, 2]) ((GR.zS _ (m1_ (zF rfl h_)) (KX.keep (KX.ext hE) (by decide)))) (by decide), fun _ => jP (φ := fun u_ => PtrZ (rInt .i64) O_ w2 u_ x17) hA_ (by decide) hv_, fun h_ => zG (d := some 26) (t := 35) (φ := fun u_ => (rSl zD).v O_ w2 u_ [(api_Sight.mk x17 x18.2 (decide (x19.2 = 1)))]) ((GR.zS _ (m13_ (zF rfl h_)) (KX.keep (KX.ext hE) (by decide)))) (by decide), fun hq_ => OwnL.kx (v0_0_ (zd hq_)) (KX.ext hE) (by decide) (by decide), fun hp_ hq_ => zG (d := some 26) (t := 36) (φ := fun u_ => OwnL 2 zD 64 (Fr w0) O_ w2 (u_) x20) (OwnL.kx (v0_1_ (zF rfl hp_) (zd hq_)) (KX.ext hE) (by decide) (by decide)) (by decide), fun hp_ => zG (d := some 26) (t := 6) (φ := fun u_ => OwnL 2 zD 64 (Fr w0) O_ w2 (u_) x20) (OwnL.kx (v0_2_ (zF rfl hp_)) (KX.ext hE) (by decide) (by decide)) (by decide), fun hq_ => BoxO.kx (v1_0_ (zd hq_)) (KX.ext hE) (by decide) (by decide), fun hp_ hq_ => BoxO.kx (v1_1_ (zF rfl hp_) (zd hq_)) (KX.ext hE) (by decide) (by decide), fun hp_ hq_ => BoxO.kx (v1_2_ (zF rfl hp_) (zd hq_)) (KX.ext hE) (by decide) (by decide), fun hp_ => BoxO.kx (v1_3_ (zF rfl hp_)) (KX.ext hE) (by decide) (by decide)⟩ trivial
   case z6_5 =>
    intro S_ a' w' hA_ hJ_ hS_ hafter_ hbef_ hK hg K_ Q_ hK_
    have hJ2_ := hJ_; rw [eJ_] at hJ2_; obtain ⟨O_, hB_, k0_, m1_, m4_, m13_, v0_0_, v0_1_, v0_2_, v1_0_, v1_1_, v1_2_, v1_3_⟩ := hJ2_
    refine x_ok (φ := SP.isv (.int .i64 x17)) (by exact za (rInt .i64) (fun _ => rfl) ty3 rfl rfl rfl (PtrZ.ptr (m4_ (zF rfl (hbef_ 4 (by kernel_rfl))))) (fun _ _ _ h => zU.1 h)) fun v_ w2 hE hv_ => hK_ v_ w2 (T_ rfl rfl rfl rfl rfl rfl rfl rfl (by decide) (by decide) (by decide) (by decide) (by decide) hE hJ_) hv_
   case z6_6 =>
    intro S_ a' w' hA_ hJ_ hS_ hafter_ hbef_ hK hg K_ Q_ hK_
    refine x_ok (φ := SP.isv (.pointer (some ⟨b5, 0, none⟩))) (by exact zJ (kq hK q5)) fun v_ w2 hE hv_ => hK_ v_ w2 (T_ rfl rfl rfl rfl rfl rfl rfl rfl (by decide) (by decide) (by decide) (by decide) (by decide) hE hJ_) hv_
   case z6_7 =>
    intro S_ a' w' hA_ hJ_ hS_ hafter_ hbef_ hK hg K_ Q_ hK_
    refine x_ok (φ := SP.isv (.int .i64 x_1)) (by exact zJ (kq hK q1)) fun v_ w2 hE hv_ => hK_ v_ w2 (T_ rfl rfl rfl rfl rfl rfl rfl rfl (by decide) (by decide) (by decide) (by decide) (by decide) hE hJ_) hv_
   case z6_8 =>
    intro S_ a' w' hA_ hJ_ hS_ hafter_ hbef_ hK hg K_ Q_ hK_
    subst eJ_
    obtain ⟨O_, hB_, k0_, m1_, m4_, m13_, v0_0_, v0_1_, v0_2_, v1_0_, v1_1_, v1_2_, v1_3_⟩ := hJ_
    refine x_pio (r := zl) hO hB_ (yH hB_) fn54 (map2 (ks 6 hK 28 rfl) (ks 7 hK 29 rfl)) (yz hB_.ok (BoxO.arg (v1_1_ (zF rfl (hbef_ 3 (by kernel_rfl))) hS_) (by decide)) hx18) (v1_1_ (zF rfl (hbef_ 3 (by kernel_rfl))) hS_) fun v_ w2 f_ hB2_ hX_ hv_ => ?_
    exact hK_ v_ w2 ⟨O_, hB2_, (k0_.trans (KX.keep hX_ (by decide))), fun h_ => zG (d := some 30) (t := 23) (φ := fun u_ => (rSl (rInt .i64)).v O_ w2 u_ [0, 0, 1, 2]) ((GR.zS _ (m1_ (zF rfl h_)) (KX.keep hX_ (by decide)))) (by decide), fun h_ => zG (d := some 30) (t := 26) (φ := fun u_ => PtrZ (rInt .i64) O_ w2 u_ x17) ((PtrZ.keep (m4_ (zF rfl h_)) (KX.keep hX_ (by decide)) (by decide) (fun _ => rfl))) (by decide), fun h_ => zG (d := some 30) (t := 35) (φ := fun u_ => (rSl zD).v O_ w2 u_ [(api_Sight.mk x17 x18.2 (decide (x19.2 = 1)))]) ((GR.zS _ (m13_ (zF rfl h_)) (KX.keep hX_ (by decide)))) (by decide), fun hq_ => OwnL.kx (v0_0_ (zd hq_)) hX_ (by decide) (by decide), fun hp_ hq_ => zG (d := some 30) (t := 36) (φ := fun u_ => OwnL 2 zD 64 (Fr w0) O_ w2 (u_) x20) (OwnL.kx (v0_1_ (zF rfl hp_) (zd hq_)) hX_ (by decide) (by decide)) (by decide), fun hp_ => zG (d := some 30) (t := 6) (φ := fun u_ => OwnL 2 zD 64 (Fr w0) O_ w2 (u_) x20) (OwnL.kx (v0_2_ (zF rfl hp_)) hX_ (by decide) (by decide)) (by decide), fun hq_ => no_tf (hbef_ 3 (by kernel_rfl)) hq_, fun hp_ hq_ => addS_me hq_, fun hp_ hq_ => f_, fun hp_ => no_tf (zF rfl hp_) (hafter_ 10 (by kernel_rfl))⟩ hv_
   case z6_9 =>
    intro S_ a' w' hA_ hJ_ hS_ hafter_ hbef_ hK hg K_ Q_ hK_
    refine x_ok (φ := SP.isv (.pointer (some ⟨b5, 0, none⟩))) (by exact zJ (kq hK q5)) fun v_ w2 hE hv_ => hK_ v_ w2 (T_ rfl rfl rfl rfl rfl rfl rfl rfl (by decide) (by decide) (by decide) (by decide) (by decide) hE hJ_) hv_
   case z6_10 =>
    intro S_ a' w' hA_ hJ_ hS_ hafter_ hbef_ hK hg K_ Q_ hK_
    subst eJ_
    obtain ⟨O_, hB_, k0_, m1_, m4_, m13_, v0_0_, v0_1_, v0_2_, v1_0_, v1_1_, v1_2_, v1_3_⟩ := hJ_
    refine x_pio (r := zl) hO hB_ (yH hB_) fn54 (map2 (ks 9 hK 31 rfl) rfl) (yz hB_.ok (BoxO.arg (v1_2_ (zF rfl (hbef_ 8 (by kernel_rfl))) hS_) (by decide)) hx19) (v1_2_ (zF rfl (hbef_ 8 (by kernel_rfl))) hS_) fun v_ w2 f_ hB2_ hX_ hv_ => ?_
    exact hK_ v_ w2 ⟨O_, hB2_, (k0_.trans (KX.keep hX_ (by decide))), fun h_ => zG (d := some 32) (t := 23) (φ := fun u_ => (rSl (rInt .i64)).v O_ w2 u_ [0, 0, 1, 2]) ((GR.zS _ (m1_ (zF rfl h_)) (KX.keep hX_ (by decide)))) (by decide), fun h_ => zG (d := some 32) (t := 26) (φ := fun u_ => PtrZ (rInt .i64) O_ w2 u_ x17) ((PtrZ.keep (m4_ (zF rfl h_)) (KX.keep hX_ (by decide)) (by decide) (fun _ => rfl))) (by decide), fun h_ => zG (d := some 32) (t := 35) (φ := fun u_ => (rSl zD).v O_ w2 u_ [(api_Sight.mk x17 x18.2 (decide (x19.2 = 1)))]) ((GR.zS _ (m13_ (zF rfl h_)) (KX.keep hX_ (by decide)))) (by decide), fun hq_ => OwnL.kx (v0_0_ (zd hq_)) hX_ (by decide) (by decide), fun hp_ hq_ => zG (d := some 32) (t := 36) (φ := fun u_ => OwnL 2 zD 64 (Fr w0) O_ w2 (u_) x20) (OwnL.kx (v0_1_ (zF rfl hp_) (zd hq_)) hX_ (by decide) (by decide)) (by decide), fun hp_ => zG (d := some 32) (t := 6) (φ := fun u_ => OwnL 2 zD 64 (Fr w0) O_ w2 (u_) x20) (OwnL.kx (v0_2_ (zF rfl hp_)) hX_ (by decide) (by decide)) (by decide), fun hq_ => no_tf (hbef_ 3 (by kernel_rfl)) hq_, fun hp_ hq_ => no_tf (hbef_ 8 (by kernel_rfl)) hq_, fun hp_ hq_ => addS_me hq_, fun hp_ => f_⟩ hv_
   case z6_11 =>
    intro S_ a' w' hA_ hJ_ hS_ hafter_ hbef_ hK hg K_ Q_ hK_
    refine x_ok (φ := SP.isv (.bool (decide (x19.2 = 1)))) (by exact yO (ks 10 hK 32 rfl) rfl) fun v_ w2 hE hv_ => hK_ v_ w2 (T_ rfl rfl rfl rfl rfl rfl rfl rfl (by decide) (by decide) (by decide) (by decide) (by decide) hE hJ_) hv_
   case z6_12 =>
    intro S_ a' w' hA_ hJ_ hS_ hafter_ hbef_ hK hg K_ Q_ hK_
    refine x_ok (φ := SP.isv (.agg #[.int .i64 x17, .int .i64 x18.2, .bool (decide (x19.2 = 1))])) (by exact jQ plc64 ty64 (gG (v := .int .i64 x17) (ksv (j := 5) (hK 27 rfl) rfl rfl rfl) (gG (v := .int .i64 x18.2) (ksv (j := 8) (hK 30 rfl) rfl rfl rfl) (gG (v := .bool (decide (x19.2 = 1))) (ksv (j := 11) (hK 33 rfl) rfl rfl rfl) pk_nil))) rfl (.cons rfl rfl rfl (leb rfl) (.cons rfl rfl rfl (leb rfl) (.cons rfl rfl rfl (leb rfl) .nil))) rfl) fun v_ w2 hE hv_ => hK_ v_ w2 (T_ rfl rfl rfl rfl rfl rfl rfl rfl (by decide) (by decide) (by decide) (by decide) (by decide) hE hJ_) hv_
   case z6_13 =>
    intro S_ a' w' hA_ hJ_ hS_ hafter_ hbef_ hK hg K_ Q_ hK_
    subst eJ_
    obtain ⟨O_, hB_, k0_, m1_, m4_, m13_, v0_0_, v0_1_, v0_2_, v1_0_, v1_1_, v1_2_, v1_3_⟩ := hJ_
    refine x_ok (φ := SP.vl (rSl zD) O_ [(api_Sight.mk x17 x18.2 (decide (x19.2 = 1)))]) (by exact zP (r := zD) yv rfl hB_.ok ty28 ty64 (zM (ks 12 hK 34 rfl) zh) ⟨(by first | exact (rC_v (x := (api_Sight.mk x17 x18.2 (decide (x19.2 = 1))))).2 rfl | exact ⟨_, rfl, rfl⟩), trivial⟩ rfl (by decide)) fun v_ w2 hE hv_ => ?_
    have hB2_ := Base.step hB_ hE hO
    exact hK_ v_ w2 ⟨O_, hB2_, (k0_.trans (KX.keep (KX.ext hE) (by decide))), fun h_ => zG (d := some 35) (t := 23) (φ := fun u_ => (rSl (rInt .i64)).v O_ w2 u_ [0, 0, 1, 2]) ((GR.zS _ (m1_ (zF rfl h_)) (KX.keep (KX.ext hE) (by decide)))) (by decide), fun h_ => zG (d := some 35) (t := 26) (φ := fun u_ => PtrZ (rInt .i64) O_ w2 u_ x17) ((PtrZ.keep (m4_ (zF rfl h_)) (KX.keep (KX.ext hE) (by decide)) (by decide) (fun _ => rfl))) (by decide), fun _ => jP (φ := fun u_ => (rSl zD).v O_ w2 u_ [(api_Sight.mk x17 x18.2 (decide (x19.2 = 1)))]) hA_ (by decide) hv_, fun hq_ => OwnL.kx (v0_0_ (zd hq_)) (KX.ext hE) (by decide) (by decide), fun hp_ hq_ => zG (d := some 35) (t := 36) (φ := fun u_ => OwnL 2 zD 64 (Fr w0) O_ w2 (u_) x20) (OwnL.kx (v0_1_ (zF rfl hp_) (zd hq_)) (KX.ext hE) (by decide) (by decide)) (by decide), fun hp_ => zG (d := some 35) (t := 6) (φ := fun u_ => OwnL 2 zD 64 (Fr w0) O_ w2 (u_) x20) (OwnL.kx (v0_2_ (zF rfl hp_)) (KX.ext hE) (by decide) (by decide)) (by decide), fun hq_ => BoxO.kx (v1_0_ (zd hq_)) (KX.ext hE) (by decide) (by decide), fun hp_ hq_ => BoxO.kx (v1_1_ (zF rfl hp_) (zd hq_)) (KX.ext hE) (by decide) (by decide), fun hp_ hq_ => BoxO.kx (v1_2_ (zF rfl hp_) (zd hq_)) (KX.ext hE) (by decide) (by decide), fun hp_ => BoxO.kx (v1_3_ (zF rfl hp_)) (KX.ext hE) (by decide) (by decide)⟩ trivial
   case z6_14 =>
    intro S_ a' w' hA_ hJ_ hS_ hafter_ hbef_ hK hg K_ Q_ hK_
    subst eJ_
    obtain ⟨O_, hB_, k0_, m1_, m4_, m13_, v0_0_, v0_1_, v0_2_, v1_0_, v1_1_, v1_2_, v1_3_⟩ := hJ_
    refine x_append (r := zD) yv rfl ty28 ty64 rfl (by decide) hO hB_ (yH hB_) (ks 0 hK 22 rfl) (v0_0_ hS_) rfl (rd_of (m13_ (zF rfl (hbef_ 13 (by kernel_rfl))))) hx20 (by decide) fun u_ w2 O2_ f_ hB2_ hX_ => ?_
    exact hK_ u_ w2 ⟨O2_, hB2_, (k0_.trans (KX.keep hX_ (by decide))), fun h_ => zG (d := some 36) (t := 23) (φ := fun u_ => (rSl (rInt .i64)).v O2_ w2 u_ [0, 0, 1, 2]) ((GR.zS _ (m1_ (zF rfl h_)) (KX.keep hX_ (by decide)))) (by decide), fun h_ => zG (d := some 36) (t := 26) (φ := fun u_ => PtrZ (rInt .i64) O2_ w2 u_ x17) ((PtrZ.keep (m4_ (zF rfl h_)) (KX.keep hX_ (by decide)) (by decide) (fun _ => rfl))) (by decide), fun h_ => zG (d := some 36) (t := 35) (φ := fun u_ => (rSl zD).v O2_ w2 u_ [(api_Sight.mk x17 x18.2 (decide (x19.2 = 1)))]) ((GR.zS _ (m13_ (zF rfl h_)) (KX.keep hX_ (by decide)))) (by decide), fun hq_ => addS_me hq_, fun hp_ hq_ => jP (φ := fun u_ => OwnL 2 zD 64 (Fr w0) O2_ w2 (u_) x20) hA_ (by decide) f_, fun hp_ => no_tf (zF rfl hp_) (hafter_ 15 (by kernel_rfl)), fun hq_ => BoxO.kx (v1_0_ (zd hq_)) hX_ (by decide) (by decide), fun hp_ hq_ => BoxO.kx (v1_1_ (zF rfl hp_) (zd hq_)) hX_ (by decide) (by decide), fun hp_ hq_ => BoxO.kx (v1_2_ (zF rfl hp_) (zd hq_)) hX_ (by decide) (by decide), fun hp_ => BoxO.kx (v1_3_ (zF rfl hp_)) hX_ (by decide) (by decide)⟩ trivial
   case z6_15 =>
    intro S_ a' w' hA_ hJ_ hS_ hafter_ hbef_ hK hg K_ Q_ hK_
    subst eJ_
    obtain ⟨O_, hB_, k0_, m1_, m4_, m13_, v0_0_, v0_1_, v0_2_, v1_0_, v1_1_, v1_2_, v1_3_⟩ := hJ_
    refine x_ok (φ := SP.isv (a'.get 36)) (zC rfl) fun v_ w2 hE hv_ => ?_
    replace hv_ : v_ = a'.get 36 := hv_
    have hB2_ := Base.step hB_ hE hO
    exact hK_ v_ w2 ⟨O_, hB2_, (k0_.trans (KX.keep (KX.ext hE) (by decide))), fun h_ => zG (d := some 6) (t := 23) (φ := fun u_ => (rSl (rInt .i64)).v O_ w2 u_ [0, 0, 1, 2]) ((GR.zS _ (m1_ (zF rfl h_)) (KX.keep (KX.ext hE) (by decide)))) (by decide), fun h_ => zG (d := some 6) (t := 26) (φ := fun u_ => PtrZ (rInt .i64) O_ w2 u_ x17) ((PtrZ.keep (m4_ (zF rfl h_)) (KX.keep (KX.ext hE) (by decide)) (by decide) (fun _ => rfl))) (by decide), fun h_ => zG (d := some 6) (t := 35) (φ := fun u_ => (rSl zD).v O_ w2 u_ [(api_Sight.mk x17 x18.2 (decide (x19.2 = 1)))]) ((GR.zS _ (m13_ (zF rfl h_)) (KX.keep (KX.ext hE) (by decide)))) (by decide), fun hq_ => no_tf (hbef_ 14 (by kernel_rfl)) hq_, fun hp_ hq_ => addS_me hq_, fun hp_ => jP (φ := fun u_ => OwnL 2 zD 64 (Fr w0) O_ w2 (u_) x20) hA_ (by decide) (by rw [hv_]; exact OwnL.ext (v0_1_ (zF rfl (hbef_ 14 (by kernel_rfl))) hS_) hE), fun hq_ => BoxO.kx (v1_0_ (zd hq_)) (KX.ext hE) (by decide) (by decide), fun hp_ hq_ => BoxO.kx (v1_1_ (zF rfl hp_) (zd hq_)) (KX.ext hE) (by decide) (by decide), fun hp_ hq_ => BoxO.kx (v1_2_ (zF rfl hp_) (zd hq_)) (KX.ext hE) (by decide) (by decide), fun hp_ => BoxO.kx (v1_3_ (zF rfl hp_)) (KX.ext hE) (by decide) (by decide)⟩ trivial
   case zsk6 =>
    subst eJ_
    intro i_ o_ S_ a_ w_ ho_ hact_ hA_ hS_ hbef_ hJ_
    obtain ⟨O_, hB_, k0_, m1_, m4_, m13_, v0_0_, v0_1_, v0_2_, v1_0_, v1_1_, v1_2_, v1_3_⟩ := hJ_
    exact ⟨O_, hB_, k0_, fun h_ => by obtain ⟨h1_, h2_⟩ := yG (j := 1) hact_ rfl h_; exact zG (t := 23) (φ := fun u_ => (rSl (rInt .i64)).v O_ w_ u_ [0, 0, 1, 2]) (m1_ h1_) (zv (j := 1) (by kernel_rfl) ho_ h2_), fun h_ => by obtain ⟨h1_, h2_⟩ := yG (j := 4) hact_ rfl h_; exact zG (t := 26) (φ := fun u_ => PtrZ (rInt .i64) O_ w_ u_ x17) (m4_ h1_) (zv (j := 4) (by kernel_rfl) ho_ h2_), fun h_ => by obtain ⟨h1_, h2_⟩ := yG (j := 13) hact_ rfl h_; exact zG (t := 35) (φ := fun u_ => (rSl zD).v O_ w_ u_ [(api_Sight.mk x17 x18.2 (decide (x19.2 = 1)))]) (m13_ h1_) (zv (j := 13) (by kernel_rfl) ho_ h2_), fun hq_ => (v0_0_ (zd hq_)), fun hp_ hq_ => by obtain ⟨h1_, h2_⟩ := yG (j := 14) hact_ rfl hp_; exact zG (t := 36) (φ := fun u_ => OwnL 2 zD 64 (Fr w0) O_ w_ (u_) x20) (v0_1_ h1_ (zd hq_)) (zv (j := 14) (by kernel_rfl) ho_ h2_), fun hp_ => by obtain ⟨h1_, h2_⟩ := yG (j := 15) hact_ rfl hp_; exact zG (t := 6) (φ := fun u_ => OwnL 2 zD 64 (Fr w0) O_ w_ (u_) x20) (v0_2_ h1_) (zv (j := 15) (by kernel_rfl) ho_ h2_), fun hq_ => (v1_0_ (zd hq_)), fun hp_ hq_ => by obtain ⟨h1_, h2_⟩ := yG (j := 3) hact_ rfl hp_; exact (v1_1_ h1_ (zd hq_)), fun hp_ hq_ => by obtain ⟨h1_, h2_⟩ := yG (j := 8) hact_ rfl hp_; exact (v1_2_ h1_ (zd hq_)), fun hp_ => by obtain ⟨h1_, h2_⟩ := yG (j := 10) hact_ rfl hp_; exact (v1_3_ h1_)⟩
   case zst6 => subst eJ_; exact fun w1_ hE_ => ⟨O14, (Base.step hB hE_ hO), (Keep.ext hE_), fun h_ => no_ft h_, fun h_ => no_ft h_, fun h_ => no_ft h_, fun _ => OwnL.ext f8 hE_, fun hp_ => no_ft hp_, fun hp_ => no_ft hp_, fun _ => BoxO.ext ⟨_, f4, ⟨_, _, rfl, (vf (r := (rSl (rInt .i64))) f12 rfl rfl), ⟨_, _, rfl, rfl, rfl⟩⟩⟩ hE_, fun hp_ => no_ft hp_, fun hp_ => no_ft hp_, fun hp_ => no_ft hp_⟩
   case zok6 | zgd6 => kernel_rfl
   subst eJ_; clear T_
   intro a13 w13 hA HF hJ_
   obtain ⟨O21, hB_, k0_, m1_, m4_, m13_, v0_0_, v0_1_, v0_2_, v1_0_, v1_1_, v1_2_, v1_3_⟩ := hJ_
   replace q0 := kn (HF 0) rfl q0
   replace q1 := kn (HF 1) rfl q1
   replace q5 := kn (HF 5) rfl q5
   have f23 := (v0_2_ rfl)
   obtain ⟨u22, q6'⟩ : ∃ u, a13.get 6 = u := ⟨_, rfl⟩
   rw [q6'] at f23
   clear q6
   have q6 := q6'; clear q6'
   replace q7 := kn (HF 7) rfl q7
   clear q19; clear HF
   replace h_0 := GR.zS _ h_0 k0_
   have f24 := (v1_3_ rfl)
   clear f8; clear f4; clear hB; have hB := hB_; clear hB_
   have hz_ := f24; clear f24; obtain ⟨cs_, f25, hr_⟩ := hz_
   obtain ⟨u26, e_, f27⟩ := gf hr_; subst e_
   clear k0_ m1_ m4_ m13_ v0_0_ v0_1_ v0_2_ v1_0_ v1_1_ v1_2_ v1_3_; refine zm (zB ?_)
   refine' rb [_, _, _] mixed hA hB hO (mv q7 (cn (fun hE hK => yP (ks 0 hK 20 rfl) rfl) (cn (fun hE hK => zC (ks 1 hK 21 rfl)) .nil))) ?zk7
   intro a14 w14 hA hE hB HF; refine kr4 HF q0 q1 q5 q6 ?_; clear q0 q1 q5 q6; intro q0 q1 q5 q6; replace q7 := ksv (HF 7) rfl rfl rfl; clear HF; replace h_0 := vx h_0 hE; replace f23 := f23.ext hE; replace f25 := f25.ext hE; replace f27 := vx f27 hE; clear hE; refine zE (zB ?_)
   have h := hnext2 _ (Comp.run_pure h).symm
   refine ⟨m2, hlt2, ?_⟩
   exact ⟨_, _, _, _, _, _, _, hA, hB, q0, h_0, q1, q5, q6, f23, q7, f25, f27, h⟩
  ·
   refine wp_exit (zT (zT (zw ?_)))
   have hd_ := hdone2 _ (Comp.run_pure h).symm; clear h
   subst hd_; have h := hk2; clear hk2; try dsimp only at h
   refine zB ?_
   exact ⟨_, _, _, hA, hB, q6, f8, h⟩
 intro a15 w15 hI
 clear hA hB h q0 q1 q5 q6 f4 h_0
 obtain ⟨O33, x30, u31, hA, hB, q6, f32, h⟩ := hI
 unfold kL at h; refine wp_seq ?_
 refine' rb [_, _] mixed hA hB hO (mv q6 (cn (fun hE hK => zC (ks 0 hK 37 rfl)) .nil)) ?zk8
 intro a16 w16 hA hE hB HF; have q4 := ksv (HF 4) rfl rfl rfl; clear q6 HF; replace f32 := f32.ext hE; clear hE; refine zE (zB (wp_ret ?_))
 have h := Comp.run_pure h; subst h
 exact zb Try.results37 hA q4 hB.ext (OwnL.res f32 (by decide) hB.zero)
theorem ok_colletlaw43_Case_made {O : Tags} {w0 : World} (hO : OkO O w0) {v_0 : Value} {x_0 : colletlaw43_Case} (h_0 : ze.v O w0 v_0 x_0) {x_1 : Int} {n : Nat} {y : ((List api_Claim) × (List api_Sight) × Int)} (h : (gP x_0 x_1).run n = some y) : Pure Try.prog 9 #[v_0, .int .i64 x_1] w0 (SP.tup3 (SP.ownr zA 33 (w0.heap.size) O y.1) (SP.vl (rSl zD) O y.2.1) (SP.isv (.int .i64 y.2.2))).holds := by
 unfold gP at h
 refine zW Try.func9 rfl 56 Try.ntmps9 (by simp) fun a0 hA hs0 => ?_
 have q0 : a0.get 0 = v_0 := hs0 0 _ rfl
 have q1 : a0.get 1 = .int .i64 x_1 := hs0 1 _ rfl
 clear hs0
 have hB : Base (Fr w0) O w0 O w0 := Base.start hO
 refine wp_seq ?_
 refine' rb [SP.vl (rBox ze) O x_0, _, _, _] mixed hA hB hO (cn (fun hE hK => okl_boxV (r := ze) yX (OkO.ext hB.ok hE) (kq hK q0) (vx h_0 hE)) (cn (fun hE hK => zC rfl) (cn (fun hE hK => zC rfl) (cn (fun hE hK => zC rfl) .nil)))) ?zk1
 intro a1 w1 hA hE hB HF; replace q1 := kf HF q1; obtain ⟨u1, q2, f2⟩ := kx (HF 2) rfl rfl rfl; clear q0 HF; replace h_0 := vx h_0 hE; clear hE; refine zE (zB (wp_seq ?_))
 refine' rb [SP.ptr (rInt .u8) O x_0.Cells, SP.isv (.int .u8 x_0.Cells), _, _, _, _] mixed hA hB hO (cn (fun hE hK => yN (S := ze) yX rfl (fun _ => rfl) sb_colletlaw43_Case_1 fl25_1 (kq hK q2) (vx f2 hE)) (cn (fun hE hK => za (rInt .u8) (fun _ => rfl) ty5 rfl rfl rfl (kp (SP.ptr (rInt .u8) O x_0.Cells) 0 hK 10 rfl) (fun _ _ _ h => zU.1 h)) (cn (fun hE hK => ok_convI ty5 ty3 (ks 1 hK 11 rfl)) (cn (fun hE hK => ok_rem (ks 2 hK 12 rfl) rfl (by decide)) (cn (fun hE hK => yP rfl (ks 3 hK 13 rfl)) (cn (fun hE hK => zC (ks 4 hK 14 rfl)) .nil)))))) ?zk2
 intro a2 w2 hA hE hB HF; replace q1 := kf HF q1; replace q2 := kf HF q2; have q7 := ksv (HF 7) rfl rfl rfl; clear HF; replace f2 := vx f2 hE; clear hE
 obtain ⟨x3, hx_, h⟩ := Comp.run_bind h; replace hx_ := Comp.run_pure hx_; rw [hx_] at q7; clear hx_
 refine zE (zB (wp_seq ?_))
 refine' rb [_] mixed hA hB hO (cn (fun hE hK => zC rfl) .nil) ?zk3
 intro a3 w3 hA hE hB HF; refine kr3 HF q1 q2 q7 ?_; clear q1 q2 q7; intro q1 q2 q7; have q8 := ksv (HF 8) rfl rfl rfl; clear HF; replace f2 := vx f2 hE; clear hE; refine zE (zB ?_)
 refine zY (fun a w => ∃ (O26 : Tags) (x21 : List (List Int)) (u22 : Value), a.fit 56 ∧ Base (Fr w0) O w0 O26 w ∧ a.get 1 = .int .i64 x_1 ∧ a.get 2 = u1 ∧ (rBox ze).v O26 w u1 x_0 ∧ a.get 7 = .int .i64 x3 ∧ a.get 8 = u22 ∧ (rSl (rSl (rInt .i64))).v O26 w u22 x21 ∧ (jM x3 x_1 x_0 x21).run n = some y) ?_ ?_
 ·
  refine wp_seq ?_
  refine' rb [_] mixed hA hB hO (cn (fun hE hK => zC rfl) .nil) ?zk4
  intro a4 w4 hA hE hB HF; refine kr4 HF q1 q2 q7 q8 ?_; clear q1 q2 q7 q8; intro q1 q2 q7 q8; have q9 := ksv (HF 9) rfl rfl rfl; clear HF; replace f2 := vx f2 hE; clear hE; refine zE (zB (wp_block ?_))
  obtain ⟨e2, he2, hk2⟩ := Comp.run_bind h; clear h
  refine yt (fun m a w => ∃ (O8 : Tags) (x4 : List (List Int)) (x7 : Int) (u5 : Value), a.fit 56 ∧ Base (Fr w0) O w0 O8 w ∧ a.get 1 = .int .i64 x_1 ∧ a.get 2 = u1 ∧ (rBox ze).v O8 w u1 x_0 ∧ a.get 7 = .int .i64 x3 ∧ a.get 8 = u5 ∧ OwnL 1 (rSl (rInt .i64)) 23 (Fr w0) O8 w u5 x4 ∧ a.get 9 = .int .i64 x7 ∧ Comp.loopN (fun s => vA x_0 s.1 s.2) n m (x4, x7) = some e2) (m := n) ?st2 ?_
  case st2 =>
   exact ⟨_, _, _, _, hA, hB, q1, q2, f2, q7, q8, (OwnL.nil _ _ _ _ _ _), q9, Comp.zk he2⟩
  intro m_ a5 w5 hI
  clear hA hB he2 q1 q2 q7 q8 q9 f2
  obtain ⟨O8, x4, x7, u5, hA, hB, q1, q2, f2, q7, q8, f6, q9, hl⟩ := hI
  obtain ⟨m2, hlt2, st2, h, hnext2, hdone2⟩ := Comp.zZ hl; clear hl
  replace h : (vA x_0 x4 x7).run n = some st2 := h
  unfold vA at h; refine wp_seq (wp_seq ?_)
  refine' rb [_, SP.ptr (rSl (rSl (rInt .i64))) O8 x_0.Claims, SP.vl (rSl (rSl (rInt .i64))) O8 x_0.Claims, _, _, _, _, _, _] mixed hA hB hO (mv q9 (cn (fun hE hK => yN (S := ze) yX rfl (fun _ => rfl) sb_colletlaw43_Case_0 fl25_0 (kq hK q2) (vx f2 hE)) (cn (fun hE hK => vC (r := (rSl (rSl (rInt .i64)))) (fun _ => rfl) ty22 rfl rfl rfl (kp (SP.ptr (rSl (rSl (rInt .i64))) O8 x_0.Claims) 1 hK 16 rfl)) (cn (fun hE hK => zg (r := (rSl (rInt .i64))) ty22 rfl (rd_of (kp (SP.vl (rSl (rSl (rInt .i64))) O8 x_0.Claims) 2 hK 17 rfl))) (cn (fun hE hK => zy (ks 0 hK 15 rfl) (ks 3 hK 18 rfl)) (cn (fun hE hK => zJ (ks 4 hK 19 rfl)) (mv q9 (.cons (fun _ _ hE hK hg => zy (kg 6 hK 21 rfl hg) rfl) (cn (fun hE hK => zV (ks 5 hK 20 rfl) (fun hb => kg 7 hK 22 rfl (zf rfl rfl hb)) (fun _ => rfl)) .nil))))))))) ?zk5
  intro a6 w6 hA hE hB HF; refine kr5 HF q1 q2 q7 q8 q9 ?_; clear q1 q2 q7 q8 q9; intro q1 q2 q7 q8 q9; have q23 := ksv (HF 23) rfl rfl rfl; clear HF; replace f2 := vx f2 hE; replace f6 := f6.ext hE; clear hE
  obtain ⟨x9, hx_, h⟩ := Comp.run_bind h; replace hx_ := Comp.run_pure hx_; rw [hx_] at q23; clear hx_
  refine zE (zB ?_)
  revert h; refine cnd q23 (fun h => ?_) (fun h => ?_)
  ·
   refine wp_skip (zB (wp_seq (wp_block ?_))); obtain ⟨x10, hx10, h⟩ := Comp.run_bind h; obtain ⟨x11, hx11, h⟩ := Comp.run_bind h; obtain ⟨x12, hx12, h⟩ := Comp.run_bind h
   refine' rb [_, SP.ptr (rSl (rSl (rInt .i64))) O8 x_0.Claims, SP.vl (rSl (rSl (rInt .i64))) O8 x_0.Claims, _, SP.ptr (rSl (rInt .i64)) O8 x10, SP.vl (rSl (rInt .i64)) O8 x10, SP.ptr (rSl (rSl (rInt .i64))) O8 x_0.Claims, SP.vl (rSl (rSl (rInt .i64))) O8 x_0.Claims, _, SP.ptr (rSl (rInt .i64)) O8 x11, SP.vl (rSl (rInt .i64)) O8 x11, _, _, SP.vl (rSl (rInt .i64)) O8 x12, SP.vl (rSl (rSl (rInt .i64))) O8 [x12]] mixed hA hB hO (mv q8 (cn (fun hE hK => yN (S := ze) yX rfl (fun _ => rfl) sb_colletlaw43_Case_0 fl25_0 (kq hK q2) (vx f2 hE)) (cn (fun hE hK => vC (r := (rSl (rSl (rInt .i64)))) (fun _ => rfl) ty22 rfl rfl rfl (kp (SP.ptr (rSl (rSl (rInt .i64))) O8 x_0.Claims) 1 hK 27 rfl)) (mv q9 (cn (fun hE hK => zp (r := (rSl (rInt .i64))) (O := O8) ty22 ty23 rfl rfl (rd_of (kp (SP.vl (rSl (rSl (rInt .i64))) O8 x_0.Claims) 2 hK 28 rfl)) (ks 3 hK 29 rfl) hx10) (cn (fun hE hK => vC (r := (rSl (rInt .i64))) (fun _ => rfl) ty23 rfl rfl rfl (kp (SP.ptr (rSl (rInt .i64)) O8 x10) 4 hK 30 rfl)) (cn (fun hE hK => yN (S := ze) yX rfl (fun _ => rfl) sb_colletlaw43_Case_0 fl25_0 (kq hK q2) (vx f2 hE)) (cn (fun hE hK => vC (r := (rSl (rSl (rInt .i64)))) (fun _ => rfl) ty22 rfl rfl rfl (kp (SP.ptr (rSl (rSl (rInt .i64))) O8 x_0.Claims) 6 hK 32 rfl)) (mv q9 (cn (fun hE hK => zp (r := (rSl (rInt .i64))) (O := O8) ty22 ty23 rfl rfl (rd_of (kp (SP.vl (rSl (rSl (rInt .i64))) O8 x_0.Claims) 7 hK 33 rfl)) (ks 8 hK 34 rfl) hx11) (cn (fun hE hK => vC (r := (rSl (rInt .i64))) (fun _ => rfl) ty23 rfl rfl rfl (kp (SP.ptr (rSl (rInt .i64)) O8 x11) 9 hK 35 rfl)) (cn (fun hE hK => zg (r := (rInt .i64)) ty23 rfl (rd_of (kp (SP.vl (rSl (rInt .i64)) O8 x11) 10 hK 36 rfl))) (cn (fun hE hK => ok_min (ks 11 hK 37 rfl) rfl) (cn (fun hE hK => okl_slice_h (r := (rInt .i64)) ty23 ty3 rfl rfl (kp (SP.vl (rSl (rInt .i64)) O8 x10) 5 hK 31 rfl) (ks 12 hK 38 rfl) hx12) (cn (fun hE hK => zP (r := (rSl (rInt .i64))) (fun _ => rfl) rfl (OkO.ext hB.ok hE) ty22 ty23 (zM rfl zh) ⟨(kp (SP.vl (rSl (rInt .i64)) O8 x12) 13 hK 39 rfl), trivial⟩ rfl (by decide)) .nil))))))))))))))) ?zk6
   intro a7 w7 hA hE hB HF; refine kr5 HF q1 q2 q7 q8 q9 ?_; clear q1 q2 q7 q8 q9; intro q1 q2 q7 q8 q9; obtain ⟨u13, q40, f14⟩ := kx (HF 40) rfl rfl rfl; have q26 := ksv (HF 26) rfl rfl rfl; clear q23 HF; replace f2 := vx f2 hE; replace f6 := f6.ext hE; clear hE; obtain ⟨x15, hx15, h⟩ := Comp.run_bind h
   refine gQ (r := (rSl (rInt .i64))) (fun _ => rfl) rfl ty22 ty23 rfl (by decide) hO hB (yH hB) q26 f6 q40 (rd_of f14) hx15 (by decide) fun u16 w8 O17 f18 hB' hX => ?_
   clear hB; have hB := hB'; clear hB'; clear f6; replace f2 := vk f2 hX; replace f14 := vk f14 hX; clear hX
   refine zQ hA (by decide) fun a9 hA q_ hfr => ?_
   refine kd7 hfr q1 q2 q7 q8 q9 q26 q40 ?_; clear q1 q2 q7 q8 q9 q26 q40; intro q1 q2 q7 q8 q9 q26 q40; have q41 := q_; clear q_ hfr
   refine l_ok (φ := SP.isv (u16)) hO hB (by exact zC q41) rfl fun u_ w10 hE hB' hv_ => ?_
   replace hv_ := Eq.symm hv_; subst hv_; clear hB; have hB := hB'; clear hB'
   replace f2 := vx f2 hE; replace f18 := f18.ext hE; clear hE
   refine zQ hA (by decide) fun a11 hA q_ hfr => ?_
   replace q1 := (hfr 1 rfl).trans q1
   replace q2 := (hfr 2 rfl).trans q2
   replace q7 := (hfr 7 rfl).trans q7
   replace q9 := (hfr 9 rfl).trans q9
   replace q41 := (hfr 41 rfl).trans q41
   clear q8; have q8 := q_; clear q_ hfr; refine zE (zm (zB ?_))
   refine' rb [_, _, _] mixed hA hB hO (mv q9 (cn (fun hE hK => yP (ks 0 hK 24 rfl) rfl) (cn (fun hE hK => zC (ks 1 hK 25 rfl)) .nil))) ?zk7
   intro a12 w12 hA hE hB HF; refine kr4 HF q1 q2 q7 q8 ?_; clear q1 q2 q7 q8; intro q1 q2 q7 q8; replace q9 := ksv (HF 9) rfl rfl rfl; clear HF; replace f2 := vx f2 hE; replace f18 := f18.ext hE; clear hE; refine zE (zB ?_)
   have h := hnext2 _ (Comp.run_pure h).symm
   refine ⟨m2, hlt2, ?_⟩
   exact ⟨_, _, _, _, hA, hB, q1, q2, f2, q7, q8, f18, q9, h⟩
  ·
   refine wp_exit (zT (zT (zw ?_)))
   have hd_ := hdone2 _ (Comp.run_pure h).symm; clear h
   subst hd_; have h := hk2; clear hk2; try dsimp only at h
   refine zB ?_
   obtain ⟨O24, hB', hX, f25⟩ := freezeL hO hB f6 (by decide)
   clear f6 hB; have hB := hB'; clear hB'; replace f2 := vk f2 hX; clear hX
   exact ⟨_, _, _, hA, hB, q1, q2, f2, q7, q8, f25, h⟩
 intro a13 w13 hI
 clear hA hB h q1 q2 q7 q8 f2
 obtain ⟨O26, x21, u22, hA, hB, q1, q2, f2, q7, q8, f23, h⟩ := hI
 unfold jM at h; refine wp_seq ?_; obtain ⟨x27, hx27, h⟩ := Comp.run_bind h; obtain ⟨x28, hx28, h⟩ := Comp.run_bind h; obtain ⟨x29, hx29, h⟩ := Comp.run_bind h
 obtain ⟨J_, eJ_⟩ : ∃ J_ : (Nat → Bool) → Act → World → Prop, J_ = (fun S_ a_ w_ => ∃ O_ : Tags, Base (Fr w0) O w0 O_ w_ ∧ Keep 0 O26 w13 O_ w_ ∧ (S_ 4 = true → PtrZ (rSl (rInt .i64)) O_ w_ (a_.get 46) x_0.Sights) ∧ (S_ 5 = true → (rSl (rInt .i64)).v O_ w_ (a_.get 47) x_0.Sights) ∧ (S_ 6 = true → PtrZ (rSl (rInt .i64)) O_ w_ (a_.get 48) x_0.Sights) ∧ (S_ 7 = true → (rSl (rInt .i64)).v O_ w_ (a_.get 49) x_0.Sights) ∧ (S_ 10 = true → (rSl (rInt .i64)).v O_ w_ (a_.get 52) x28) ∧ (S_ 12 = true → (rSl zD).v O_ w_ (a_.get 54) x29) ∧ (S_ 15 = true → (rSl zD).v O_ w_ (a_.get 5) x29) ∧ (S_ 3 = true → S_ 14 = false → OwnL 2 zA 33 (Fr w0) O_ w_ (a_.get 45) x27) ∧ (S_ 14 = true → OwnL 2 zA 33 (Fr w0) O_ w_ (a_.get 4) x27)) := ⟨_, rfl⟩
 have T_ : ∀ {i_ : Nat} {d_ : Option Tmp} {v_ : Value} {S_ a' w' w2}, Nat.beq 3 i_ = false → Nat.beq 4 i_ = false → Nat.beq 5 i_ = false → Nat.beq 6 i_ = false → Nat.beq 7 i_ = false → Nat.beq 10 i_ = false → Nat.beq 12 i_ = false → Nat.beq 14 i_ = false → Nat.beq 15 i_ = false → d_ ≠ some 4 → d_ ≠ some 5 → d_ ≠ some 45 → d_ ≠ some 46 → d_ ≠ some 47 → d_ ≠ some 48 → d_ ≠ some 49 → d_ ≠ some 52 → d_ ≠ some 54 → Ext w' w2 → J_ S_ a' w' → J_ (addS S_ i_) (a'.put d_ v_) w2 := by
  subst eJ_; intro i_ d_ v_ S_ a' w' w2 n3_ n4_ n5_ n6_ n7_ n10_ n12_ n14_ n15_ s4_ s5_ s45_ s46_ s47_ s48_ s49_ s52_ s54_ hE hJ_
  obtain ⟨O_, hB_, k0_, m4_, m5_, m6_, m7_, m10_, m12_, m15_, v0_0_, v0_1_⟩ := hJ_
  exact ⟨O_, (Base.step hB_ hE hO), (k0_.trans (KX.keep (KX.ext hE) (by decide))), fun h_ => zG (d := d_) (t := 46) (φ := fun u_ => PtrZ (rSl (rInt .i64)) O_ w2 u_ x_0.Sights) ((PtrZ.keep (m4_ (zF n4_ h_)) (KX.keep (KX.ext hE) (by decide)) (by decide) (fun _ => rfl))) s46_, fun h_ => zG (d := d_) (t := 47) (φ := fun u_ => (rSl (rInt .i64)).v O_ w2 u_ x_0.Sights) ((GR.zS _ (m5_ (zF n5_ h_)) (KX.keep (KX.ext hE) (by decide)))) s47_, fun h_ => zG (d := d_) (t := 48) (φ := fun u_ => PtrZ (rSl (rInt .i64)) O_ w2 u_ x_0.Sights) ((PtrZ.keep (m6_ (zF n6_ h_)) (KX.keep (KX.ext hE) (by decide)) (by decide) (fun _ => rfl))) s48_, fun h_ => zG (d := d_) (t := 49) (φ := fun u_ => (rSl (rInt .i64)).v O_ w2 u_ x_0.Sights) ((GR.zS _ (m7_ (zF n7_ h_)) (KX.keep (KX.ext hE) (by decide)))) s49_, fun h_ => zG (d := d_) (t := 52) (φ := fun u_ => (rSl (rInt .i64)).v O_ w2 u_ x28) ((GR.zS _ (m10_ (zF n10_ h_)) (KX.keep (KX.ext hE) (by decide)))) s52_, fun h_ => zG (d := d_) (t := 54) (φ := fun u_ => (rSl zD).v O_ w2 u_ x29) ((GR.zS _ (m12_ (zF n12_ h_)) (KX.keep (KX.ext hE) (by decide)))) s54_, fun h_ => zG (d := d_) (t := 5) (φ := fun u_ => (rSl zD).v O_ w2 u_ x29) ((GR.zS _ (m15_ (zF n15_ h_)) (KX.keep (KX.ext hE) (by decide)))) s5_, fun hp_ hq_ => zG (d := d_) (t := 45) (φ := fun u_ => OwnL 2 zA 33 (Fr w0) O_ w2 (u_) x27) (OwnL.kx (v0_0_ (zF n3_ hp_) (zd hq_)) (KX.ext hE) (by decide) (by decide)) s45_, fun hp_ => zG (d := d_) (t := 4) (φ := fun u_ => OwnL 2 zA 33 (Fr w0) O_ w2 (u_) x27) (OwnL.kx (v0_1_ (zF n14_ hp_)) (KX.ext hE) (by decide) (by decide)) s4_⟩
 refine' regionX (draw := true) J_ [SP.isv (u22), SP.isv (.int .i64 x3), SP.isv (.int .i64 x_1), SP.tt, SP.tt, SP.tt, SP.tt, SP.tt, SP.isv (.int .i64 (x_0.Sights.length : Int)), SP.isv (.int .i64 (min (x_0.Sights.length : Int) 30)), SP.tt, SP.isv (.int .i64 x3), SP.tt, SP.isv (.int .i64 x3), SP.tt, SP.tt, SP.isv (.int .i64 x3)] mixed hA (.cons (zi _) (.cons (zi _) (.cons (zi _) (.cons (gZ _) (.cons (gZ _) (.cons (gZ _) (.cons (gZ _) (.cons (gZ _) (.cons (zi _) (.cons (zi _) (.cons (gZ _) (.cons (zi _) (.cons (gZ _) (.cons (zi _) (.cons (gZ _) (.cons (gZ _) (.cons (zi _) .nil))))))))))))))))) (.cons ?z8_0 (.cons ?z8_1 (.cons ?z8_2 (.cons ?z8_3 (.cons ?z8_4 (.cons ?z8_5 (.cons ?z8_6 (.cons ?z8_7 (.cons ?z8_8 (.cons ?z8_9 (.cons ?z8_10 (.cons ?z8_11 (.cons ?z8_12 (.cons ?z8_13 (.cons ?z8_14 (.cons ?z8_15 (.cons ?z8_16 .nil))))))))))))))))) ?zsk8 ?zst8 ?zok8 ?zgd8 ?zk8
 case z8_0 =>
  intro S_ a' w' hA_ hJ_ hS_ hafter_ hbef_ hK hg K_ Q_ hK_
  refine x_ok (φ := SP.isv (u22)) (by exact zJ (kq hK q8)) fun v_ w2 hE hv_ => hK_ v_ w2 (T_ rfl rfl rfl rfl rfl rfl rfl rfl rfl (by decide) (by decide) (by decide) (by decide) (by decide) (by decide) (by decide) (by decide) (by decide) hE hJ_) hv_
 case z8_1 =>
  intro S_ a' w' hA_ hJ_ hS_ hafter_ hbef_ hK hg K_ Q_ hK_
  refine x_ok (φ := SP.isv (.int .i64 x3)) (by exact zJ (kq hK q7)) fun v_ w2 hE hv_ => hK_ v_ w2 (T_ rfl rfl rfl rfl rfl rfl rfl rfl rfl (by decide) (by decide) (by decide) (by decide) (by decide) (by decide) (by decide) (by decide) (by decide) hE hJ_) hv_
 case z8_2 =>
  intro S_ a' w' hA_ hJ_ hS_ hafter_ hbef_ hK hg K_ Q_ hK_
  refine x_ok (φ := SP.isv (.int .i64 x_1)) (by exact zJ (kq hK q1)) fun v_ w2 hE hv_ => hK_ v_ w2 (T_ rfl rfl rfl rfl rfl rfl rfl rfl rfl (by decide) (by decide) (by decide) (by decide) (by decide) (by decide) (by decide) (by decide) (by decide) hE hJ_) hv_
 case z8_3 =>
  intro S_ a' w' hA_ hJ_ hS_ hafter_ hbef_ hK hg K_ Q_ hK_
  subst eJ_
  obtain ⟨O_, hB_, k0_, m4_, m5_, m6_, m7_, m10_, m12_, m15_, v0_0_, v0_1_⟩ := hJ_
  refine x_ok (φ := SP.ownr zA 33 w'.heap.size O_ x27) (by have c_ := ok_colletref43_Claims hB_.ok (GR.zS _ f23 k0_) hx27; exact yL (vR fn36 (ks 0 hK 42 rfl) (ks 1 hK 43 rfl) (ks 2 hK 44 rfl) c_) (fun _ _ _ h => h)) fun v_ w2 hE hv_ => ?_
  obtain ⟨O2_, hB2_, hX_, f_⟩ := ownNew hO hB_ hE hv_ rfl 2 (by decide)
  exact hK_ v_ w2 ⟨O2_, hB2_, (k0_.trans (KX.keep hX_ (by decide))), fun h_ => zG (d := some 45) (t := 46) (φ := fun u_ => PtrZ (rSl (rInt .i64)) O2_ w2 u_ x_0.Sights) ((PtrZ.keep (m4_ (zF rfl h_)) (KX.keep hX_ (by decide)) (by decide) (fun _ => rfl))) (by decide), fun h_ => zG (d := some 45) (t := 47) (φ := fun u_ => (rSl (rInt .i64)).v O2_ w2 u_ x_0.Sights) ((GR.zS _ (m5_ (zF rfl h_)) (KX.keep hX_ (by decide)))) (by decide), fun h_ => zG (d := some 45) (t := 48) (φ := fun u_ => PtrZ (rSl (rInt .i64)) O2_ w2 u_ x_0.Sights) ((PtrZ.keep (m6_ (zF rfl h_)) (KX.keep hX_ (by decide)) (by decide) (fun _ => rfl))) (by decide), fun h_ => zG (d := some 45) (t := 49) (φ := fun u_ => (rSl (rInt .i64)).v O2_ w2 u_ x_0.Sights) ((GR.zS _ (m7_ (zF rfl h_)) (KX.keep hX_ (by decide)))) (by decide), fun h_ => zG (d := some 45) (t := 52) (φ := fun u_ => (rSl (rInt .i64)).v O2_ w2 u_ x28) ((GR.zS _ (m10_ (zF rfl h_)) (KX.keep hX_ (by decide)))) (by decide), fun h_ => zG (d := some 45) (t := 54) (φ := fun u_ => (rSl zD).v O2_ w2 u_ x29) ((GR.zS _ (m12_ (zF rfl h_)) (KX.keep hX_ (by decide)))) (by decide), fun h_ => zG (d := some 45) (t := 5) (φ := fun u_ => (rSl zD).v O2_ w2 u_ x29) ((GR.zS _ (m15_ (zF rfl h_)) (KX.keep hX_ (by decide)))) (by decide), fun hp_ hq_ => jP (φ := fun u_ => OwnL 2 zA 33 (Fr w0) O2_ w2 (u_) x27) hA_ (by decide) f_, fun hp_ => no_tf (zF rfl hp_) (hafter_ 14 (by kernel_rfl))⟩ trivial
 case z8_4 =>
  intro S_ a' w' hA_ hJ_ hS_ hafter_ hbef_ hK hg K_ Q_ hK_
  subst eJ_
  obtain ⟨O_, hB_, k0_, m4_, m5_, m6_, m7_, m10_, m12_, m15_, v0_0_, v0_1_⟩ := hJ_
  refine x_ok (φ := SP.ptrz (rSl (rInt .i64)) O_ x_0.Sights (of_decide_eq_true rfl) (fun _ => rfl)) (by exact okl_fldZ (S := ze) rfl (by decide) (fun _ => rfl) sb_colletlaw43_Case_2 fl25_2 (kq hK q2) (jj yX (GR.zS _ f2 k0_))) fun v_ w2 hE hv_ => ?_
  have hB2_ := Base.step hB_ hE hO
  exact hK_ v_ w2 ⟨O_, hB2_, (k0_.trans (KX.keep (KX.ext hE) (by decide))), fun _ => jP (φ := fun u_ => PtrZ (rSl (rInt .i64)) O_ w2 u_ x_0.Sights) hA_ (by decide) hv_, fun h_ => zG (d := some 46) (t := 47) (φ := fun u_ => (rSl (rInt .i64)).v O_ w2 u_ x_0.Sights) ((GR.zS _ (m5_ (zF rfl h_)) (KX.keep (KX.ext hE) (by decide)))) (by decide), fun h_ => zG (d := some 46) (t := 48) (φ := fun u_ => PtrZ (rSl (rInt .i64)) O_ w2 u_ x_0.Sights) ((PtrZ.keep (m6_ (zF rfl h_)) (KX.keep (KX.ext hE) (by decide)) (by decide) (fun _ => rfl))) (by decide), fun h_ => zG (d := some 46) (t := 49) (φ := fun u_ => (rSl (rInt .i64)).v O_ w2 u_ x_0.Sights) ((GR.zS _ (m7_ (zF rfl h_)) (KX.keep (KX.ext hE) (by decide)))) (by decide), fun h_ => zG (d := some 46) (t := 52) (φ := fun u_ => (rSl (rInt .i64)).v O_ w2 u_ x28) ((GR.zS _ (m10_ (zF rfl h_)) (KX.keep (KX.ext hE) (by decide)))) (by decide), fun h_ => zG (d := some 46) (t := 54) (φ := fun u_ => (rSl zD).v O_ w2 u_ x29) ((GR.zS _ (m12_ (zF rfl h_)) (KX.keep (KX.ext hE) (by decide)))) (by decide), fun h_ => zG (d := some 46) (t := 5) (φ := fun u_ => (rSl zD).v O_ w2 u_ x29) ((GR.zS _ (m15_ (zF rfl h_)) (KX.keep (KX.ext hE) (by decide)))) (by decide), fun hp_ hq_ => zG (d := some 46) (t := 45) (φ := fun u_ => OwnL 2 zA 33 (Fr w0) O_ w2 (u_) x27) (OwnL.kx (v0_0_ (zF rfl hp_) (zd hq_)) (KX.ext hE) (by decide) (by decide)) (by decide), fun hp_ => zG (d := some 46) (t := 4) (φ := fun u_ => OwnL 2 zA 33 (Fr w0) O_ w2 (u_) x27) (OwnL.kx (v0_1_ (zF rfl hp_)) (KX.ext hE) (by decide) (by decide)) (by decide)⟩ trivial
 case z8_5 =>
  intro S_ a' w' hA_ hJ_ hS_ hafter_ hbef_ hK hg K_ Q_ hK_
  subst eJ_
  obtain ⟨O_, hB_, k0_, m4_, m5_, m6_, m7_, m10_, m12_, m15_, v0_0_, v0_1_⟩ := hJ_
  refine x_ok (φ := SP.vl (rSl (rInt .i64)) O_ x_0.Sights) (by exact vC (r := (rSl (rInt .i64))) (fun _ => rfl) ty23 rfl rfl rfl (PtrZ.ptr (m4_ (zF rfl (hbef_ 4 (by kernel_rfl)))))) fun v_ w2 hE hv_ => ?_
  have hB2_ := Base.step hB_ hE hO
  exact hK_ v_ w2 ⟨O_, hB2_, (k0_.trans (KX.keep (KX.ext hE) (by decide))), fun h_ => zG (d := some 47) (t := 46) (φ := fun u_ => PtrZ (rSl (rInt .i64)) O_ w2 u_ x_0.Sights) ((PtrZ.keep (m4_ (zF rfl h_)) (KX.keep (KX.ext hE) (by decide)) (by decide) (fun _ => rfl))) (by decide), fun _ => jP (φ := fun u_ => (rSl (rInt .i64)).v O_ w2 u_ x_0.Sights) hA_ (by decide) hv_, fun h_ => zG (d := some 47) (t := 48) (φ := fun u_ => PtrZ (rSl (rInt .i64)) O_ w2 u_ x_0.Sights) ((PtrZ.keep (m6_ (zF rfl h_)) (KX.keep (KX.ext hE) (by decide)) (by decide) (fun _ => rfl))) (by decide), fun h_ => zG (d := some 47) (t := 49) (φ := fun u_ => (rSl (rInt .i64)).v O_ w2 u_ x_0.Sights) ((GR.zS _ (m7_ (zF rfl h_)) (KX.keep (KX.ext hE) (by decide)))) (by decide), fun h_ => zG (d := some 47) (t := 52) (φ := fun u_ => (rSl (rInt .i64)).v O_ w2 u_ x28) ((GR.zS _ (m10_ (zF rfl h_)) (KX.keep (KX.ext hE) (by decide)))) (by decide), fun h_ => zG (d := some 47) (t := 54) (φ := fun u_ => (rSl zD).v O_ w2 u_ x29) ((GR.zS _ (m12_ (zF rfl h_)) (KX.keep (KX.ext hE) (by decide)))) (by decide), fun h_ => zG (d := some 47) (t := 5) (φ := fun u_ => (rSl zD).v O_ w2 u_ x29) ((GR.zS _ (m15_ (zF rfl h_)) (KX.keep (KX.ext hE) (by decide)))) (by decide), fun hp_ hq_ => zG (d := some 47) (t := 45) (φ := fun u_ => OwnL 2 zA 33 (Fr w0) O_ w2 (u_) x27) (OwnL.kx (v0_0_ (zF rfl hp_) (zd hq_)) (KX.ext hE) (by decide) (by decide)) (by decide), fun hp_ => zG (d := some 47) (t := 4) (φ := fun u_ => OwnL 2 zA 33 (Fr w0) O_ w2 (u_) x27) (OwnL.kx (v0_1_ (zF rfl hp_)) (KX.ext hE) (by decide) (by decide)) (by decide)⟩ trivial
 case z8_6 =>
  intro S_ a' w' hA_ hJ_ hS_ hafter_ hbef_ hK hg K_ Q_ hK_
  subst eJ_
  obtain ⟨O_, hB_, k0_, m4_, m5_, m6_, m7_, m10_, m12_, m15_, v0_0_, v0_1_⟩ := hJ_
  refine x_ok (φ := SP.ptrz (rSl (rInt .i64)) O_ x_0.Sights (of_decide_eq_true rfl) (fun _ => rfl)) (by exact okl_fldZ (S := ze) rfl (by decide) (fun _ => rfl) sb_colletlaw43_Case_2 fl25_2 (kq hK q2) (jj yX (GR.zS _ f2 k0_))) fun v_ w2 hE hv_ => ?_
  have hB2_ := Base.step hB_ hE hO
  exact hK_ v_ w2 ⟨O_, hB2_, (k0_.trans (KX.keep (KX.ext hE) (by decide))), fun h_ => zG (d := some 48) (t := 46) (φ := fun u_ => PtrZ (rSl (rInt .i64)) O_ w2 u_ x_0.Sights) ((PtrZ.keep (m4_ (zF rfl h_)) (KX.keep (KX.ext hE) (by decide)) (by decide) (fun _ => rfl))) (by decide), fun h_ => zG (d := some 48) (t := 47) (φ := fun u_ => (rSl (rInt .i64)).v O_ w2 u_ x_0.Sights) ((GR.zS _ (m5_ (zF rfl h_)) (KX.keep (KX.ext hE) (by decide)))) (by decide), fun _ => jP (φ := fun u_ => PtrZ (rSl (rInt .i64)) O_ w2 u_ x_0.Sights) hA_ (by decide) hv_, fun h_ => zG (d := some 48) (t := 49) (φ := fun u_ => (rSl (rInt .i64)).v O_ w2 u_ x_0.Sights) ((GR.zS _ (m7_ (zF rfl h_)) (KX.keep (KX.ext hE) (by decide)))) (by decide), fun h_ => zG (d := some 48) (t := 52) (φ := fun u_ => (rSl (rInt .i64)).v O_ w2 u_ x28) ((GR.zS _ (m10_ (zF rfl h_)) (KX.keep (KX.ext hE) (by decide)))) (by decide), fun h_ => zG (d := some 48) (t := 54) (φ := fun u_ => (rSl zD).v O_ w2 u_ x29) ((GR.zS _ (m12_ (zF rfl h_)) (KX.keep (KX.ext hE) (by decide)))) (by decide), fun h_ => zG (d := some 48) (t := 5) (φ := fun u_ => (rSl zD).v O_ w2 u_ x29) ((GR.zS _ (m15_ (zF rfl h_)) (KX.keep (KX.ext hE) (by decide)))) (by decide), fun hp_ hq_ => zG (d := some 48) (t := 45) (φ := fun u_ => OwnL 2 zA 33 (Fr w0) O_ w2 (u_) x27) (OwnL.kx (v0_0_ (zF rfl hp_) (zd hq_)) (KX.ext hE) (by decide) (by decide)) (by decide), fun hp_ => zG (d := some 48) (t := 4) (φ := fun u_ => OwnL 2 zA 33 (Fr w0) O_ w2 (u_) x27) (OwnL.kx (v0_1_ (zF rfl hp_)) (KX.ext hE) (by decide) (by decide)) (by decide)⟩ trivial
 case z8_7 =>
  intro S_ a' w' hA_ hJ_ hS_ hafter_ hbef_ hK hg K_ Q_ hK_
  subst eJ_
  obtain ⟨O_, hB_, k0_, m4_, m5_, m6_, m7_, m10_, m12_, m15_, v0_0_, v0_1_⟩ := hJ_
  refine x_ok (φ := SP.vl (rSl (rInt .i64)) O_ x_0.Sights) (by exact vC (r := (rSl (rInt .i64))) (fun _ => rfl) ty23 rfl rfl rfl (PtrZ.ptr (m6_ (zF rfl (hbef_ 6 (by kernel_rfl)))))) fun v_ w2 hE hv_ => ?_
  have hB2_ := Base.step hB_ hE hO
  exact hK_ v_ w2 ⟨O_, hB2_, (k0_.trans (KX.keep (KX.ext hE) (by decide))), fun h_ => zG (d := some 49) (t := 46) (φ := fun u_ => PtrZ (rSl (rInt .i64)) O_ w2 u_ x_0.Sights) ((PtrZ.keep (m4_ (zF rfl h_)) (KX.keep (KX.ext hE) (by decide)) (by decide) (fun _ => rfl))) (by decide), fun h_ => zG (d := some 49) (t := 47) (φ := fun u_ => (rSl (rInt .i64)).v O_ w2 u_ x_0.Sights) ((GR.zS _ (m5_ (zF rfl h_)) (KX.keep (KX.ext hE) (by decide)))) (by decide), fun h_ => zG (d := some 49) (t := 48) (φ := fun u_ => PtrZ (rSl (rInt .i64)) O_ w2 u_ x_0.Sights) ((PtrZ.keep (m6_ (zF rfl h_)) (KX.keep (KX.ext hE) (by decide)) (by decide) (fun _ => rfl))) (by decide), fun _ => jP (φ := fun u_ => (rSl (rInt .i64)).v O_ w2 u_ x_0.Sights) hA_ (by decide) hv_, fun h_ => zG (d := some 49) (t := 52) (φ := fun u_ => (rSl (rInt .i64)).v O_ w2 u_ x28) ((GR.zS _ (m10_ (zF rfl h_)) (KX.keep (KX.ext hE) (by decide)))) (by decide), fun h_ => zG (d := some 49) (t := 54) (φ := fun u_ => (rSl zD).v O_ w2 u_ x29) ((GR.zS _ (m12_ (zF rfl h_)) (KX.keep (KX.ext hE) (by decide)))) (by decide), fun h_ => zG (d := some 49) (t := 5) (φ := fun u_ => (rSl zD).v O_ w2 u_ x29) ((GR.zS _ (m15_ (zF rfl h_)) (KX.keep (KX.ext hE) (by decide)))) (by decide), fun hp_ hq_ => zG (d := some 49) (t := 45) (φ := fun u_ => OwnL 2 zA 33 (Fr w0) O_ w2 (u_) x27) (OwnL.kx (v0_0_ (zF rfl hp_) (zd hq_)) (KX.ext hE) (by decide) (by decide)) (by decide), fun hp_ => zG (d := some 49) (t := 4) (φ := fun u_ => OwnL 2 zA 33 (Fr w0) O_ w2 (u_) x27) (OwnL.kx (v0_1_ (zF rfl hp_)) (KX.ext hE) (by decide) (by decide)) (by decide)⟩ trivial
 case z8_8 =>
  intro S_ a' w' hA_ hJ_ hS_ hafter_ hbef_ hK hg K_ Q_ hK_
  have hJ2_ := hJ_; rw [eJ_] at hJ2_; obtain ⟨O_, hB_, k0_, m4_, m5_, m6_, m7_, m10_, m12_, m15_, v0_0_, v0_1_⟩ := hJ2_
  refine x_ok (φ := SP.isv (.int .i64 (x_0.Sights.length : Int))) (by exact zg (r := (rInt .i64)) ty23 rfl (rd_of (m7_ (zF rfl (hbef_ 7 (by kernel_rfl)))))) fun v_ w2 hE hv_ => hK_ v_ w2 (T_ rfl rfl rfl rfl rfl rfl rfl rfl rfl (by decide) (by decide) (by decide) (by decide) (by decide) (by decide) (by decide) (by decide) (by decide) hE hJ_) hv_
 case z8_9 =>
  intro S_ a' w' hA_ hJ_ hS_ hafter_ hbef_ hK hg K_ Q_ hK_
  refine x_ok (φ := SP.isv (.int .i64 (min (x_0.Sights.length : Int) 30))) (by exact ok_min (ks 8 hK 50 rfl) rfl) fun v_ w2 hE hv_ => hK_ v_ w2 (T_ rfl rfl rfl rfl rfl rfl rfl rfl rfl (by decide) (by decide) (by decide) (by decide) (by decide) (by decide) (by decide) (by decide) (by decide) hE hJ_) hv_
 case z8_10 =>
  intro S_ a' w' hA_ hJ_ hS_ hafter_ hbef_ hK hg K_ Q_ hK_
  subst eJ_
  obtain ⟨O_, hB_, k0_, m4_, m5_, m6_, m7_, m10_, m12_, m15_, v0_0_, v0_1_⟩ := hJ_
  refine x_ok (φ := SP.vl (rSl (rInt .i64)) O_ x28) (by exact okl_slice_h (r := (rInt .i64)) ty23 ty3 rfl rfl (m5_ (zF rfl (hbef_ 5 (by kernel_rfl)))) (ks 9 hK 51 rfl) hx28) fun v_ w2 hE hv_ => ?_
  have hB2_ := Base.step hB_ hE hO
  exact hK_ v_ w2 ⟨O_, hB2_, (k0_.trans (KX.keep (KX.ext hE) (by decide))), fun h_ => zG (d := some 52) (t := 46) (φ := fun u_ => PtrZ (rSl (rInt .i64)) O_ w2 u_ x_0.Sights) ((PtrZ.keep (m4_ (zF rfl h_)) (KX.keep (KX.ext hE) (by decide)) (by decide) (fun _ => rfl))) (by decide), fun h_ => zG (d := some 52) (t := 47) (φ := fun u_ => (rSl (rInt .i64)).v O_ w2 u_ x_0.Sights) ((GR.zS _ (m5_ (zF rfl h_)) (KX.keep (KX.ext hE) (by decide)))) (by decide), fun h_ => zG (d := some 52) (t := 48) (φ := fun u_ => PtrZ (rSl (rInt .i64)) O_ w2 u_ x_0.Sights) ((PtrZ.keep (m6_ (zF rfl h_)) (KX.keep (KX.ext hE) (by decide)) (by decide) (fun _ => rfl))) (by decide), fun h_ => zG (d := some 52) (t := 49) (φ := fun u_ => (rSl (rInt .i64)).v O_ w2 u_ x_0.Sights) ((GR.zS _ (m7_ (zF rfl h_)) (KX.keep (KX.ext hE) (by decide)))) (by decide), fun _ => jP (φ := fun u_ => (rSl (rInt .i64)).v O_ w2 u_ x28) hA_ (by decide) hv_, fun h_ => zG (d := some 52) (t := 54) (φ := fun u_ => (rSl zD).v O_ w2 u_ x29) ((GR.zS _ (m12_ (zF rfl h_)) (KX.keep (KX.ext hE) (by decide)))) (by decide), fun h_ => zG (d := some 52) (t := 5) (φ := fun u_ => (rSl zD).v O_ w2 u_ x29) ((GR.zS _ (m15_ (zF rfl h_)) (KX.keep (KX.ext hE) (by decide)))) (by decide), fun hp_ hq_ => zG (d := some 52) (t := 45) (φ := fun u_ => OwnL 2 zA 33 (Fr w0) O_ w2 (u_) x27) (OwnL.kx (v0_0_ (zF rfl hp_) (zd hq_)) (KX.ext hE) (by decide) (by decide)) (by decide), fun hp_ => zG (d := some 52) (t := 4) (φ := fun u_ => OwnL 2 zA 33 (Fr w0) O_ w2 (u_) x27) (OwnL.kx (v0_1_ (zF rfl hp_)) (KX.ext hE) (by decide) (by decide)) (by decide)⟩ trivial
 case z8_11 =>
  intro S_ a' w' hA_ hJ_ hS_ hafter_ hbef_ hK hg K_ Q_ hK_
  refine x_ok (φ := SP.isv (.int .i64 x3)) (by exact zJ (kq hK q7)) fun v_ w2 hE hv_ => hK_ v_ w2 (T_ rfl rfl rfl rfl rfl rfl rfl rfl rfl (by decide) (by decide) (by decide) (by decide) (by decide) (by decide) (by decide) (by decide) (by decide) hE hJ_) hv_
 case z8_12 =>
  intro S_ a' w' hA_ hJ_ hS_ hafter_ hbef_ hK hg K_ Q_ hK_
  subst eJ_
  obtain ⟨O_, hB_, k0_, m4_, m5_, m6_, m7_, m10_, m12_, m15_, v0_0_, v0_1_⟩ := hJ_
  refine x_ok (φ := SP.vl (rSl zD) O_ x29) (by have c_ := ok_colletref43_Sights hB_.ok (m10_ (zF rfl (hbef_ 10 (by kernel_rfl)))) hx29; exact yL (zz fn37 rfl (ks 11 hK 53 rfl) c_) (fun _ _ _ h => (OwnR.val h (fun g hg => hB_.ok g (OwnR.ge h g hg).1)))) fun v_ w2 hE hv_ => ?_
  have hB2_ := Base.step hB_ hE hO
  exact hK_ v_ w2 ⟨O_, hB2_, (k0_.trans (KX.keep (KX.ext hE) (by decide))), fun h_ => zG (d := some 54) (t := 46) (φ := fun u_ => PtrZ (rSl (rInt .i64)) O_ w2 u_ x_0.Sights) ((PtrZ.keep (m4_ (zF rfl h_)) (KX.keep (KX.ext hE) (by decide)) (by decide) (fun _ => rfl))) (by decide), fun h_ => zG (d := some 54) (t := 47) (φ := fun u_ => (rSl (rInt .i64)).v O_ w2 u_ x_0.Sights) ((GR.zS _ (m5_ (zF rfl h_)) (KX.keep (KX.ext hE) (by decide)))) (by decide), fun h_ => zG (d := some 54) (t := 48) (φ := fun u_ => PtrZ (rSl (rInt .i64)) O_ w2 u_ x_0.Sights) ((PtrZ.keep (m6_ (zF rfl h_)) (KX.keep (KX.ext hE) (by decide)) (by decide) (fun _ => rfl))) (by decide), fun h_ => zG (d := some 54) (t := 49) (φ := fun u_ => (rSl (rInt .i64)).v O_ w2 u_ x_0.Sights) ((GR.zS _ (m7_ (zF rfl h_)) (KX.keep (KX.ext hE) (by decide)))) (by decide), fun h_ => zG (d := some 54) (t := 52) (φ := fun u_ => (rSl (rInt .i64)).v O_ w2 u_ x28) ((GR.zS _ (m10_ (zF rfl h_)) (KX.keep (KX.ext hE) (by decide)))) (by decide), fun _ => jP (φ := fun u_ => (rSl zD).v O_ w2 u_ x29) hA_ (by decide) hv_, fun h_ => zG (d := some 54) (t := 5) (φ := fun u_ => (rSl zD).v O_ w2 u_ x29) ((GR.zS _ (m15_ (zF rfl h_)) (KX.keep (KX.ext hE) (by decide)))) (by decide), fun hp_ hq_ => zG (d := some 54) (t := 45) (φ := fun u_ => OwnL 2 zA 33 (Fr w0) O_ w2 (u_) x27) (OwnL.kx (v0_0_ (zF rfl hp_) (zd hq_)) (KX.ext hE) (by decide) (by decide)) (by decide), fun hp_ => zG (d := some 54) (t := 4) (φ := fun u_ => OwnL 2 zA 33 (Fr w0) O_ w2 (u_) x27) (OwnL.kx (v0_1_ (zF rfl hp_)) (KX.ext hE) (by decide) (by decide)) (by decide)⟩ trivial
 case z8_13 =>
  intro S_ a' w' hA_ hJ_ hS_ hafter_ hbef_ hK hg K_ Q_ hK_
  refine x_ok (φ := SP.isv (.int .i64 x3)) (by exact zJ (kq hK q7)) fun v_ w2 hE hv_ => hK_ v_ w2 (T_ rfl rfl rfl rfl rfl rfl rfl rfl rfl (by decide) (by decide) (by decide) (by decide) (by decide) (by decide) (by decide) (by decide) (by decide) hE hJ_) hv_
 case z8_14 =>
  intro S_ a' w' hA_ hJ_ hS_ hafter_ hbef_ hK hg K_ Q_ hK_
  subst eJ_
  obtain ⟨O_, hB_, k0_, m4_, m5_, m6_, m7_, m10_, m12_, m15_, v0_0_, v0_1_⟩ := hJ_
  refine x_ok (φ := SP.isv (a'.get 45)) (zC rfl) fun v_ w2 hE hv_ => ?_
  replace hv_ : v_ = a'.get 45 := hv_
  have hB2_ := Base.step hB_ hE hO
  exact hK_ v_ w2 ⟨O_, hB2_, (k0_.trans (KX.keep (KX.ext hE) (by decide))), fun h_ => zG (d := some 4) (t := 46) (φ := fun u_ => PtrZ (rSl (rInt .i64)) O_ w2 u_ x_0.Sights) ((PtrZ.keep (m4_ (zF rfl h_)) (KX.keep (KX.ext hE) (by decide)) (by decide) (fun _ => rfl))) (by decide), fun h_ => zG (d := some 4) (t := 47) (φ := fun u_ => (rSl (rInt .i64)).v O_ w2 u_ x_0.Sights) ((GR.zS _ (m5_ (zF rfl h_)) (KX.keep (KX.ext hE) (by decide)))) (by decide), fun h_ => zG (d := some 4) (t := 48) (φ := fun u_ => PtrZ (rSl (rInt .i64)) O_ w2 u_ x_0.Sights) ((PtrZ.keep (m6_ (zF rfl h_)) (KX.keep (KX.ext hE) (by decide)) (by decide) (fun _ => rfl))) (by decide), fun h_ => zG (d := some 4) (t := 49) (φ := fun u_ => (rSl (rInt .i64)).v O_ w2 u_ x_0.Sights) ((GR.zS _ (m7_ (zF rfl h_)) (KX.keep (KX.ext hE) (by decide)))) (by decide), fun h_ => zG (d := some 4) (t := 52) (φ := fun u_ => (rSl (rInt .i64)).v O_ w2 u_ x28) ((GR.zS _ (m10_ (zF rfl h_)) (KX.keep (KX.ext hE) (by decide)))) (by decide), fun h_ => zG (d := some 4) (t := 54) (φ := fun u_ => (rSl zD).v O_ w2 u_ x29) ((GR.zS _ (m12_ (zF rfl h_)) (KX.keep (KX.ext hE) (by decide)))) (by decide), fun h_ => zG (d := some 4) (t := 5) (φ := fun u_ => (rSl zD).v O_ w2 u_ x29) ((GR.zS _ (m15_ (zF rfl h_)) (KX.keep (KX.ext hE) (by decide)))) (by decide), fun hp_ hq_ => addS_me hq_, fun hp_ => jP (φ := fun u_ => OwnL 2 zA 33 (Fr w0) O_ w2 (u_) x27) hA_ (by decide) (by rw [hv_]; exact OwnL.ext (v0_0_ (zF rfl (hbef_ 3 (by kernel_rfl))) hS_) hE)⟩ trivial
 case z8_15 =>
  intro S_ a' w' hA_ hJ_ hS_ hafter_ hbef_ hK hg K_ Q_ hK_
  subst eJ_
  obtain ⟨O_, hB_, k0_, m4_, m5_, m6_, m7_, m10_, m12_, m15_, v0_0_, v0_1_⟩ := hJ_
  refine x_ok (φ := SP.isv (a'.get 54)) (zC rfl) fun v_ w2 hE hv_ => ?_
  replace hv_ : v_ = a'.get 54 := hv_
  have hB2_ := Base.step hB_ hE hO
  exact hK_ v_ w2 ⟨O_, hB2_, (k0_.trans (KX.keep (KX.ext hE) (by decide))), fun h_ => zG (d := some 5) (t := 46) (φ := fun u_ => PtrZ (rSl (rInt .i64)) O_ w2 u_ x_0.Sights) ((PtrZ.keep (m4_ (zF rfl h_)) (KX.keep (KX.ext hE) (by decide)) (by decide) (fun _ => rfl))) (by decide), fun h_ => zG (d := some 5) (t := 47) (φ := fun u_ => (rSl (rInt .i64)).v O_ w2 u_ x_0.Sights) ((GR.zS _ (m5_ (zF rfl h_)) (KX.keep (KX.ext hE) (by decide)))) (by decide), fun h_ => zG (d := some 5) (t := 48) (φ := fun u_ => PtrZ (rSl (rInt .i64)) O_ w2 u_ x_0.Sights) ((PtrZ.keep (m6_ (zF rfl h_)) (KX.keep (KX.ext hE) (by decide)) (by decide) (fun _ => rfl))) (by decide), fun h_ => zG (d := some 5) (t := 49) (φ := fun u_ => (rSl (rInt .i64)).v O_ w2 u_ x_0.Sights) ((GR.zS _ (m7_ (zF rfl h_)) (KX.keep (KX.ext hE) (by decide)))) (by decide), fun h_ => zG (d := some 5) (t := 52) (φ := fun u_ => (rSl (rInt .i64)).v O_ w2 u_ x28) ((GR.zS _ (m10_ (zF rfl h_)) (KX.keep (KX.ext hE) (by decide)))) (by decide), fun h_ => zG (d := some 5) (t := 54) (φ := fun u_ => (rSl zD).v O_ w2 u_ x29) ((GR.zS _ (m12_ (zF rfl h_)) (KX.keep (KX.ext hE) (by decide)))) (by decide), fun _ => jP (φ := fun u_ => (rSl zD).v O_ w2 u_ x29) hA_ (by decide) (by rw [hv_]; exact (GR.zS _ (m12_ (zF rfl (hbef_ 12 (by kernel_rfl)))) (KX.keep (KX.ext hE) (by decide)))), fun hp_ hq_ => zG (d := some 5) (t := 45) (φ := fun u_ => OwnL 2 zA 33 (Fr w0) O_ w2 (u_) x27) (OwnL.kx (v0_0_ (zF rfl hp_) (zd hq_)) (KX.ext hE) (by decide) (by decide)) (by decide), fun hp_ => zG (d := some 5) (t := 4) (φ := fun u_ => OwnL 2 zA 33 (Fr w0) O_ w2 (u_) x27) (OwnL.kx (v0_1_ (zF rfl hp_)) (KX.ext hE) (by decide) (by decide)) (by decide)⟩ trivial
 case z8_16 =>
  intro S_ a' w' hA_ hJ_ hS_ hafter_ hbef_ hK hg K_ Q_ hK_
  refine x_ok (φ := SP.isv (.int .i64 x3)) (by exact zC (ks 13 hK 55 rfl)) fun v_ w2 hE hv_ => hK_ v_ w2 (T_ rfl rfl rfl rfl rfl rfl rfl rfl rfl (by decide) (by decide) (by decide) (by decide) (by decide) (by decide) (by decide) (by decide) (by decide) hE hJ_) hv_
 case zsk8 =>
  subst eJ_
  intro i_ o_ S_ a_ w_ ho_ hact_ hA_ hS_ hbef_ hJ_
  obtain ⟨O_, hB_, k0_, m4_, m5_, m6_, m7_, m10_, m12_, m15_, v0_0_, v0_1_⟩ := hJ_
  exact ⟨O_, hB_, k0_, fun h_ => by obtain ⟨h1_, h2_⟩ := yG (j := 4) hact_ rfl h_; exact zG (t := 46) (φ := fun u_ => PtrZ (rSl (rInt .i64)) O_ w_ u_ x_0.Sights) (m4_ h1_) (zv (j := 4) (by kernel_rfl) ho_ h2_), fun h_ => by obtain ⟨h1_, h2_⟩ := yG (j := 5) hact_ rfl h_; exact zG (t := 47) (φ := fun u_ => (rSl (rInt .i64)).v O_ w_ u_ x_0.Sights) (m5_ h1_) (zv (j := 5) (by kernel_rfl) ho_ h2_), fun h_ => by obtain ⟨h1_, h2_⟩ := yG (j := 6) hact_ rfl h_; exact zG (t := 48) (φ := fun u_ => PtrZ (rSl (rInt .i64)) O_ w_ u_ x_0.Sights) (m6_ h1_) (zv (j := 6) (by kernel_rfl) ho_ h2_), fun h_ => by obtain ⟨h1_, h2_⟩ := yG (j := 7) hact_ rfl h_; exact zG (t := 49) (φ := fun u_ => (rSl (rInt .i64)).v O_ w_ u_ x_0.Sights) (m7_ h1_) (zv (j := 7) (by kernel_rfl) ho_ h2_), fun h_ => by obtain ⟨h1_, h2_⟩ := yG (j := 10) hact_ rfl h_; exact zG (t := 52) (φ := fun u_ => (rSl (rInt .i64)).v O_ w_ u_ x28) (m10_ h1_) (zv (j := 10) (by kernel_rfl) ho_ h2_), fun h_ => by obtain ⟨h1_, h2_⟩ := yG (j := 12) hact_ rfl h_; exact zG (t := 54) (φ := fun u_ => (rSl zD).v O_ w_ u_ x29) (m12_ h1_) (zv (j := 12) (by kernel_rfl) ho_ h2_), fun h_ => by obtain ⟨h1_, h2_⟩ := yG (j := 15) hact_ rfl h_; exact zG (t := 5) (φ := fun u_ => (rSl zD).v O_ w_ u_ x29) (m15_ h1_) (zv (j := 15) (by kernel_rfl) ho_ h2_), fun hp_ hq_ => by obtain ⟨h1_, h2_⟩ := yG (j := 3) hact_ rfl hp_; exact zG (t := 45) (φ := fun u_ => OwnL 2 zA 33 (Fr w0) O_ w_ (u_) x27) (v0_0_ h1_ (zd hq_)) (zv (j := 3) (by kernel_rfl) ho_ h2_), fun hp_ => by obtain ⟨h1_, h2_⟩ := yG (j := 14) hact_ rfl hp_; exact zG (t := 4) (φ := fun u_ => OwnL 2 zA 33 (Fr w0) O_ w_ (u_) x27) (v0_1_ h1_) (zv (j := 14) (by kernel_rfl) ho_ h2_)⟩
 case zst8 => subst eJ_; exact fun w1_ hE_ => ⟨O26, (Base.step hB hE_ hO), (Keep.ext hE_), fun h_ => no_ft h_, fun h_ => no_ft h_, fun h_ => no_ft h_, fun h_ => no_ft h_, fun h_ => no_ft h_, fun h_ => no_ft h_, fun h_ => no_ft h_, fun hp_ => no_ft hp_, fun hp_ => no_ft hp_⟩
 case zok8 | zgd8 => kernel_rfl
 subst eJ_; clear T_
 intro a14 w14 hA HF hJ_
 obtain ⟨O30, hB_, k0_, m4_, m5_, m6_, m7_, m10_, m12_, m15_, v0_0_, v0_1_⟩ := hJ_
 have f32 := (v0_1_ rfl)
 obtain ⟨u31, q4'⟩ : ∃ u, a14.get 4 = u := ⟨_, rfl⟩
 rw [q4'] at f32
 have q4 := q4'; clear q4'
 have f34 := m15_ rfl
 obtain ⟨u33, q5'⟩ : ∃ u, a14.get 5 = u := ⟨_, rfl⟩
 rw [q5'] at f34
 have q5 := q5'; clear q5'
 have q6' := ksv (j := 16) (HF 6) rfl rfl rfl
 have q6 := q6'; clear q6'
 clear q1; clear q2; clear q7; clear q8; clear HF
 replace f2 := GR.zS _ f2 k0_
 replace f23 := GR.zS _ f23 k0_
 clear hB; have hB := hB_; clear hB_; clear k0_ m4_ m5_ m6_ m7_ m10_ m12_ m15_ v0_0_ v0_1_; refine zB (wp_ret ?_)
 have h := Comp.run_pure h; subst h
 exact retPure3 Try.results9 hA q4 q5 q6 hB.ext ⟨_, _, _, rfl, (OwnL.res f32 (by decide) hB.zero), (hB.res (rSl zD) f34), rfl⟩
theorem ok_colletref43_Odd {O : Tags} {w0 : World} (hO : OkO O w0) {v_0 : Value} {x_0 : api_Claim} (h_0 : zA.v O w0 v_0 x_0) {x_1 : Vector Int 3} {n : Nat} {y : api_Claim} (h : (colletref43_Odd x_0 x_1).run n = some y) : Pure Try.prog 10 #[v_0, .agg (jN (fun x => [.int .i64 x]) x_1).toArray] w0 (SP.vl zA O y).holds := by
 unfold colletref43_Odd at h
 refine zW Try.func10 rfl 50 Try.ntmps10 (by simp) fun a0 hA hs0 => ?_
 have q0 : a0.get 0 = v_0 := hs0 0 _ rfl
 have q1 : a0.get 1 = .agg (jN (fun x => [.int .i64 x]) x_1).toArray := hs0 1 _ rfl
 clear hs0
 have hB : Base (Fr w0) O w0 O w0 := Base.start hO
 refine wp_seq ?_
 obtain ⟨u1, u3, e_, f2, f4⟩ := openV_api_Claim h_0; subst e_
 refine' rbT [] hA hB hO .nil ?zk1
 intro a1 w1 hA hE hB HF; replace q0 := kf HF q0; replace q1 := kf HF q1; clear HF; replace f2 := vx f2 hE; replace f4 := vx f4 hE; clear hE
 refine l_ok (φ := SP.box w1.heap.size #[.int .i64 x_0.Party, .int .i64 x_0.Kind, .int .i64 x_0.Gauge, u1, u3] 33) hO hB (by exact ok_box (v := .agg #[.int .i64 x_0.Party, .int .i64 x_0.Kind, .int .i64 x_0.Gauge, u1, u3]) (Nat.le_refl _) q0) rfl fun u5 w2 hE hB' f6 => ?_
 clear hB'; obtain ⟨O7, b9, hB', hX, e_, f8⟩ := boxNew hO hB hE f6 1 (by decide)
 subst e_; clear hB f6; have hB := hB'; clear hB'
 replace f2 := vk f2 hX; replace f4 := vk f4 hX; clear hX hE
 refine zQ hA (by decide) fun a3 hA q_ hfr => ?_
 replace q0 := (hfr _ rfl).trans q0; replace q1 := (hfr _ rfl).trans q1; have q2 := q_; clear q_ hfr
 refine l_ok (φ := SP.vl (rBox (rVec 3 1 (fun x => [.int .i64 x]) (fun _ => rfl) (fun _ => by simp [Value.oneCell']))) O7 x_1) hO hB (by exact okl_boxV (r := (rVec 3 1 (fun x => [.int .i64 x]) (fun _ => rfl) (fun _ => by simp [Value.oneCell']))) (by intro h; cases h) hB.ok q1 (by first | exact (rC_v (x := x_1)).2 rfl | exact ⟨_, rfl, rfl⟩)) rfl fun u10 w4 hE hB' f11 => ?_
 clear hB; have hB := hB'; clear hB'; replace f8 := f8.ext hE; replace f2 := vx f2 hE; replace f4 := vx f4 hE; clear hE
 refine zQ hA (by decide) fun a5 hA q_ hfr => ?_
 replace q1 := (hfr _ rfl).trans q1; replace q2 := (hfr _ rfl).trans q2; have q3 := q_; clear q_ hfr
 refine l_ok (φ := SP.box w4.heap.size #[.int .i64 0, .int .i64 0, .int .i64 0, .slice none 0 0, .slice none 0 0] 33) hO hB (by exact jr (Nat.le_refl _) ty33) rfl fun u12 w6 hE hB' f13 => ?_
 clear hB'; obtain ⟨O14, b16, hB', hX, e_, f15⟩ := boxNew hO hB hE f13 2 (by decide)
 subst e_; clear hB f13; have hB := hB'; clear hB'
 replace f11 := vk f11 hX
 replace f8 := f8.kx hX (by decide)
 replace f2 := vk f2 hX; replace f4 := vk f4 hX; clear hX hE
 refine zQ hA (by decide) fun a7 hA q_ hfr => ?_
 replace q2 := (hfr _ rfl).trans q2; replace q3 := (hfr _ rfl).trans q3; have q4 := q_; clear q_ hfr; refine zE (zB (wp_seq ?_)); obtain ⟨x17, hx17, h⟩ := Comp.run_bind h; obtain ⟨x18, hx18, h⟩ := Comp.run_bind h; obtain ⟨x19, hx19, h⟩ := Comp.run_bind h; obtain ⟨x20, hx20, h⟩ := Comp.run_bind h
 refine' rb [SP.ptrz (rInt .i64) O14 x17 (of_decide_eq_true rfl) (fun _ => rfl), SP.isv (.int .i64 x17), SP.vl (rSl (rInt .i64)) O14 [x17, 0, 1, 2, 3, 4, 5, 6, 7, 8, 15, 16, (-1), (-2)], SP.ptrz (rInt .i64) O14 x18 (of_decide_eq_true rfl) (fun _ => rfl), SP.isv (.int .i64 x18), SP.isv (.int .i64 x19), SP.ptr (rInt .i64) O14 x20, SP.isv (.int .i64 x20), _] mixed hA hB hO (.cons ?z2_0 (cn (fun hE hK => za (rInt .i64) (fun _ => rfl) ty3 rfl rfl rfl (PtrZ.ptr (kspS (φ := SP.ptrz (rInt .i64) O14 x17 (of_decide_eq_true rfl) (fun _ => rfl)) (j := 0) (hK 6 rfl) rfl rfl rfl)) (fun _ _ _ h => zU.1 h)) (cn (fun hE hK => zP (r := (rInt .i64)) (fun _ => rfl) rfl (OkO.ext hB.ok hE) ty23 ty3 (zM (ks 1 hK 7 rfl) (zM rfl (zM rfl (zM rfl (zM rfl (zM rfl (zM rfl (zM rfl (zM rfl (zM rfl (zM rfl (zM rfl (zM rfl (zM rfl zh)))))))))))))) ⟨(by exact zU.2 rfl), ⟨(by exact zU.2 rfl), ⟨(by exact zU.2 rfl), ⟨(by exact zU.2 rfl), ⟨(by exact zU.2 rfl), ⟨(by exact zU.2 rfl), ⟨(by exact zU.2 rfl), ⟨(by exact zU.2 rfl), ⟨(by exact zU.2 rfl), ⟨(by exact zU.2 rfl), ⟨(by exact zU.2 rfl), ⟨(by exact zU.2 rfl), ⟨(by exact zU.2 rfl), ⟨(by exact zU.2 rfl), trivial⟩⟩⟩⟩⟩⟩⟩⟩⟩⟩⟩⟩⟩⟩ rfl (by decide)) (.cons ?z2_3 (cn (fun hE hK => za (rInt .i64) (fun _ => rfl) ty3 rfl rfl rfl (PtrZ.ptr (kspS (φ := SP.ptrz (rInt .i64) O14 x18 (of_decide_eq_true rfl) (fun _ => rfl)) (j := 3) (hK 9 rfl) rfl rfl rfl)) (fun _ _ _ h => zU.1 h)) (cn (fun hE hK => zz fn12 (ks 4 hK 10 rfl) rfl (jA (OkO.ext hB.ok hE)  hx19)) (cn (fun hE hK => zp (r := (rInt .i64)) (O := O14) ty23 ty3 rfl rfl (rd_of (kp (SP.vl (rSl (rInt .i64)) O14 [x17, 0, 1, 2, 3, 4, 5, 6, 7, 8, 15, 16, (-1), (-2)]) 2 hK 8 rfl)) (ks 5 hK 11 rfl) hx20) (cn (fun hE hK => za (rInt .i64) (fun _ => rfl) ty3 rfl rfl rfl (kp (SP.ptr (rInt .i64) O14 x20) 6 hK 12 rfl) (fun _ _ _ h => zU.1 h)) (cn (fun hE hK => zC (ks 7 hK 13 rfl)) .nil))))))))) ?zk2
 case z2_0 => intro a' w' hE hK hg; exact okl_idxArrZ (r := (rInt .i64)) (f := (fun x => [.int .i64 x])) (hl := (fun _ => rfl)) (ho := (fun _ => by simp [Value.oneCell'])) (by decide) (fun _ => rfl) (fun _ _ _ => rfl) ty26 ty3 (kq hK q3) (jj (by intro h; cases h) (vx f11 hE)) rfl hx17
 case z2_3 => intro a' w' hE hK hg; exact okl_idxArrZ (r := (rInt .i64)) (f := (fun x => [.int .i64 x])) (hl := (fun _ => rfl)) (ho := (fun _ => by simp [Value.oneCell'])) (by decide) (fun _ => rfl) (fun _ _ _ => rfl) ty26 ty3 (kq hK q3) (jj (by intro h; cases h) (vx f11 hE)) rfl hx18
 intro a8 w8 hA hE hB HF; refine kr3 HF q2 q3 q4 ?_; clear q2 q3 q4; intro q2 q3 q4; have q5 := ksv (HF 5) rfl rfl rfl; clear HF; replace f11 := vx f11 hE; replace f8 := f8.ext hE; replace f2 := vx f2 hE; replace f4 := vx f4 hE; replace f15 := f15.ext hE; clear hE; refine zE (zB ?_)
 refine zY (fun a w => ∃ (O69 : Tags) (x24 : Int) (x25 : Int) (x26 : Int) (x27 : List Int) (x30 : List Int) (u28 : Value) (u31 : Value), a.fit 50 ∧ Base (Fr w0) O w0 O69 w ∧ a.get 2 = .pointer (some ⟨b9, 0, none⟩) ∧ a.get 4 = .pointer (some ⟨b16, 0, none⟩) ∧ OwnB 2 (Fr w0) O69 w b16 #[.int .i64 0, .int .i64 0, .int .i64 0, .slice none 0 0, .slice none 0 0] 33 ∧ OwnB 1 (Fr w0) O69 w b9 #[.int .i64 x24, .int .i64 x25, .int .i64 x26, u28, u31] 33 ∧ (rSl (rInt .i64)).v O69 w u28 x27 ∧ (rSl (rInt .i64)).v O69 w u31 x30 ∧ (vV x24 x25 x26 x27 x30).run n = some y) ?_ ?_
 ·
  refine wp_seq ?_; obtain ⟨x21, hx21, h⟩ := Comp.run_bind h; obtain ⟨x22, hx22, h⟩ := Comp.run_bind h
  refine' rb [SP.ptrz (rInt .i64) O14 x21 (of_decide_eq_true rfl) (fun _ => rfl), SP.isv (.int .i64 x21), SP.isv (.int .i64 x22)] mixed hA hB hO (.cons ?z3_0 (cn (fun hE hK => za (rInt .i64) (fun _ => rfl) ty3 rfl rfl rfl (PtrZ.ptr (kspS (φ := SP.ptrz (rInt .i64) O14 x21 (of_decide_eq_true rfl) (fun _ => rfl)) (j := 0) (hK 14 rfl) rfl rfl rfl)) (fun _ _ _ h => zU.1 h)) (cn (fun hE hK => zz fn12 (ks 1 hK 15 rfl) rfl (jA (OkO.ext hB.ok hE)  hx22)) .nil))) ?zk3
  case z3_0 => intro a' w' hE hK hg; exact okl_idxArrZ (r := (rInt .i64)) (f := (fun x => [.int .i64 x])) (hl := (fun _ => rfl)) (ho := (fun _ => by simp [Value.oneCell'])) (by decide) (fun _ => rfl) (fun _ _ _ => rfl) ty26 ty3 (kq hK q3) (jj (by intro h; cases h) (vx f11 hE)) rfl hx21
  intro a9 w9 hA hE hB HF; refine kr3 HF q2 q4 q5 ?_; clear q2 q4 q5; intro q2 q4 q5; have q16 := ksv (HF 16) rfl rfl rfl; clear q3 HF; replace f11 := vx f11 hE; replace f8 := f8.ext hE; replace f2 := vx f2 hE; replace f4 := vx f4 hE; replace f15 := f15.ext hE; clear hE; refine zE (zB (wp_block (wp_seq ?_)))
  refine' rb [_, _] mixed hA hB hO (cn (fun hE hK => yO (kq hK q16) rfl) (cn (fun hE hK => zC (ks 0 hK 18 rfl)) .nil)) ?zk4
  intro a10 w10 hA hE hB HF; refine kr4 HF q2 q4 q5 q16 ?_; clear q2 q4 q5 q16; intro q2 q4 q5 q16; have q17 := ksv (HF 17) rfl rfl rfl; clear HF; replace f8 := f8.ext hE; replace f2 := vx f2 hE; replace f4 := vx f4 hE; replace f15 := f15.ext hE; clear hE; refine zE (zB ?_)
  revert h; refine cnd q17 (fun h => ?_) (fun h => ?_)
  ·
   refine' rbT [_, SP.isv (.pointer (some ⟨b9, 0, none⟩))] hA hB hO (mv q5 (cn (fun hE hK => zO fl33_0 (kq hK q2)) .nil)) ?zk5
   intro a11 w11 hA hE hB HF; replace q2 := kf HF q2; replace q4 := kf HF q4; have q19 := ksv (HF 19) rfl rfl rfl; have q20 := ksv (HF 20) rfl rfl rfl; clear q5 q16 q17 HF; replace f8 := f8.ext hE; replace f2 := vx f2 hE; replace f4 := vx f4 hE; replace f15 := f15.ext hE; clear hE
   refine jb (cs' := #[.int .i64 x20, .int .i64 x_0.Kind, .int .i64 x_0.Gauge, u1, u3]) hO hB (yH hB) ty3 q20 q19 rfl rfl f8 (by simp) rfl fun w12 f23 hB' hX => ?_
   clear hB f8; have hB := hB'; clear hB'; replace f2 := vk f2 hX; replace f4 := vk f4 hX
   replace f15 := f15.kx hX (by decide)
   clear hX; refine zE (zm (zB ?_))
   exact ⟨_, _, _, _, _, _, _, _, hA, hB, q2, q4, f15, f23, f2, f4, h⟩
  ·
   refine wp_seq ?_
   refine' rb [_, _] mixed hA hB hO (cn (fun hE hK => yO (kq hK q16) rfl) (cn (fun hE hK => zC (ks 0 hK 22 rfl)) .nil)) ?zk6
   intro a13 w13 hA hE hB HF; refine kr4 HF q2 q4 q5 q16 ?_; clear q2 q4 q5 q16; intro q2 q4 q5 q16; have q21 := ksv (HF 21) rfl rfl rfl; clear q17 HF; replace f8 := f8.ext hE; replace f2 := vx f2 hE; replace f4 := vx f4 hE; replace f15 := f15.ext hE; clear hE; refine zE (zB ?_)
   revert h; refine cnd q21 (fun h => ?_) (fun h => ?_)
   ·
    refine' rbT [_, SP.isv (.pointer (some ⟨b9, 1, none⟩))] hA hB hO (mv q5 (cn (fun hE hK => zO fl33_1 (kq hK q2)) .nil)) ?zk7
    intro a14 w14 hA hE hB HF; replace q2 := kf HF q2; replace q4 := kf HF q4; have q23 := ksv (HF 23) rfl rfl rfl; have q24 := ksv (HF 24) rfl rfl rfl; clear q5 q16 q21 HF; replace f8 := f8.ext hE; replace f2 := vx f2 hE; replace f4 := vx f4 hE; replace f15 := f15.ext hE; clear hE
    refine jb (cs' := #[.int .i64 x_0.Party, .int .i64 x20, .int .i64 x_0.Gauge, u1, u3]) hO hB (yH hB) ty3 q24 q23 rfl rfl f8 (by simp) rfl fun w15 f33 hB' hX => ?_
    clear hB f8; have hB := hB'; clear hB'; replace f2 := vk f2 hX; replace f4 := vk f4 hX
    replace f15 := f15.kx hX (by decide)
    clear hX; refine zE (zm (zB ?_))
    exact ⟨_, _, _, _, _, _, _, _, hA, hB, q2, q4, f15, f33, f2, f4, h⟩
   ·
    refine wp_seq ?_
    refine' rb [_, _] mixed hA hB hO (cn (fun hE hK => yO (kq hK q16) rfl) (cn (fun hE hK => zC (ks 0 hK 26 rfl)) .nil)) ?zk8
    intro a16 w16 hA hE hB HF; refine kr4 HF q2 q4 q5 q16 ?_; clear q2 q4 q5 q16; intro q2 q4 q5 q16; have q25 := ksv (HF 25) rfl rfl rfl; clear q21 HF; replace f8 := f8.ext hE; replace f2 := vx f2 hE; replace f4 := vx f4 hE; replace f15 := f15.ext hE; clear hE; refine zE (zB ?_)
    revert h; refine cnd q25 (fun h => ?_) (fun h => ?_)
    ·
     refine' rbT [_, SP.isv (.pointer (some ⟨b9, 2, none⟩))] hA hB hO (mv q5 (cn (fun hE hK => zO fl33_2 (kq hK q2)) .nil)) ?zk9
     intro a17 w17 hA hE hB HF; replace q2 := kf HF q2; replace q4 := kf HF q4; have q27 := ksv (HF 27) rfl rfl rfl; have q28 := ksv (HF 28) rfl rfl rfl; clear q5 q16 q25 HF; replace f8 := f8.ext hE; replace f2 := vx f2 hE; replace f4 := vx f4 hE; replace f15 := f15.ext hE; clear hE
     refine jb (cs' := #[.int .i64 x_0.Party, .int .i64 x_0.Kind, .int .i64 x20, u1, u3]) hO hB (yH hB) ty3 q28 q27 rfl rfl f8 (by simp) rfl fun w18 f34 hB' hX => ?_
     clear hB f8; have hB := hB'; clear hB'; replace f2 := vk f2 hX; replace f4 := vk f4 hX
     replace f15 := f15.kx hX (by decide)
     clear hX; refine zE (zm (zB ?_))
     exact ⟨_, _, _, _, _, _, _, _, hA, hB, q2, q4, f15, f34, f2, f4, h⟩
    ·
     refine wp_seq ?_
     refine' rb [_, _] mixed hA hB hO (cn (fun hE hK => yO (kq hK q16) rfl) (cn (fun hE hK => zC (ks 0 hK 30 rfl)) .nil)) ?zk10
     intro a19 w19 hA hE hB HF; refine kr4 HF q2 q4 q5 q16 ?_; clear q2 q4 q5 q16; intro q2 q4 q5 q16; have q29 := ksv (HF 29) rfl rfl rfl; clear q25 HF; replace f8 := f8.ext hE; replace f2 := vx f2 hE; replace f4 := vx f4 hE; replace f15 := f15.ext hE; clear hE; refine zE (zB ?_)
     revert h; refine cnd q29 (fun h => ?_) (fun h => ?_)
     ·
      refine' rbT [] hA hB hO .nil ?zk11
      intro a20 w20 hA hE hB HF; refine kr3 HF q2 q4 q5 ?_; clear q2 q4 q5; intro q2 q4 q5; clear q16 q29 HF; replace f8 := f8.ext hE; replace f2 := vx f2 hE; replace f4 := vx f4 hE; replace f15 := f15.ext hE; clear hE
      refine l_ok (φ := SP.ownr (rInt .i64) 3 w20.heap.size O14 []) hO hB (by exact jf (r := (rInt .i64)) (fun _ => rfl) rfl hB.ok ty23 ty3 (Nat.le_refl _) zh trivial rfl (by decide)) rfl fun u35 w21 hE hB' f36 => ?_
      clear hB'; obtain ⟨O37, hB', hX, f38⟩ := ownNew hO hB hE f36 rfl 3 (by decide)
      clear hB f36; have hB := hB'; clear hB'
      replace f8 := f8.kx hX (by decide)
      replace f2 := vk f2 hX; replace f4 := vk f4 hX
      replace f15 := f15.kx hX (by decide)
      clear hX hE
      refine zQ hA (by decide) fun a22 hA q_ hfr => ?_
      refine kd3 hfr q2 q4 q5 ?_; clear q2 q4 q5; intro q2 q4 q5; have q31 := q_; clear q_ hfr
      refine l_ok (φ := SP.isv (.pointer (some ⟨b9, 3, none⟩))) hO hB (by exact zO fl33_3 q2) rfl fun u_ w23 hE hB' hv_ => ?_
      replace hv_ := Eq.symm hv_; subst hv_; clear hB; have hB := hB'; clear hB'
      replace f38 := f38.ext hE; replace f8 := f8.ext hE; replace f2 := vx f2 hE; replace f4 := vx f4 hE; replace f15 := f15.ext hE; clear hE
      refine zQ hA (by decide) fun a24 hA q_ hfr => ?_
      refine kd4 hfr q2 q4 q5 q31 ?_; clear q2 q4 q5 q31; intro q2 q4 q5 q31; have q32 := q_; clear q_ hfr
      refine l_ok (φ := SP.isv (u1)) hO hB (by exact zj ty23 rfl q32 f8.own rfl) rfl fun u_ w25 hE hB' hv_ => ?_
      replace hv_ := Eq.symm hv_; subst hv_; clear hB; have hB := hB'; clear hB'
      replace f38 := f38.ext hE; replace f8 := f8.ext hE; replace f2 := vx f2 hE; replace f4 := vx f4 hE; replace f15 := f15.ext hE; clear hE
      refine zQ hA (by decide) fun a26 hA q_ hfr => ?_
      refine kd5 hfr q2 q4 q5 q31 q32 ?_; clear q2 q4 q5 q31 q32; intro q2 q4 q5 q31 q32; have q33 := q_; clear q_ hfr; obtain ⟨x39, hx39, h⟩ := Comp.run_bind h
      refine gQ (r := (rInt .i64)) (fun _ => rfl) rfl ty23 ty3 rfl (by decide) hO hB (yH hB) q31 f38 q33 (rd_of f2) hx39 (by decide) fun u40 w27 O41 f42 hB' hX => ?_
      clear hB; have hB := hB'; clear hB'; clear f38; replace f2 := vk f2 hX
      replace f8 := f8.kx hX (by decide)
      replace f4 := vk f4 hX
      replace f15 := f15.kx hX (by decide)
      clear hX
      refine zQ hA (by decide) fun a28 hA q_ hfr => ?_
      refine kd5 hfr q2 q4 q5 q31 q33 ?_; clear q2 q4 q5 q31 q33; intro q2 q4 q5 q31 q33; have q34 := q_; clear q_ hfr
      refine l_ok (φ := SP.isv (.int .i64 x20)) hO hB (by exact zJ q5) rfl fun u_ w29 hE hB' hv_ => ?_
      replace hv_ := Eq.symm hv_; subst hv_; clear hB; have hB := hB'; clear hB'
      replace f42 := f42.ext hE; replace f8 := f8.ext hE; replace f2 := vx f2 hE; replace f4 := vx f4 hE; replace f15 := f15.ext hE; clear hE
      refine zQ hA (by decide) fun a30 hA q_ hfr => ?_
      refine kd4 hfr q2 q4 q5 q34 ?_; clear q2 q4 q5 q34; intro q2 q4 q5 q34; have q35 := q_; clear q_ hfr
      refine l_ok (φ := SP.vl (rSl (rInt .i64)) O41 [x20]) hO hB (by exact zP (r := (rInt .i64)) (fun _ => rfl) rfl hB.ok ty23 ty3 (zM q35 zh) ⟨(by exact zU.2 rfl), trivial⟩ rfl (by decide)) rfl fun u43 w31 hE hB' f44 => ?_
      clear hB; have hB := hB'; clear hB'; replace f42 := f42.ext hE; replace f8 := f8.ext hE; replace f2 := vx f2 hE; replace f4 := vx f4 hE; replace f15 := f15.ext hE; clear hE
      refine zQ hA (by decide) fun a32 hA q_ hfr => ?_
      refine kd4 hfr q2 q4 q34 q35 ?_; clear q2 q4 q34 q35; intro q2 q4 q34 q35; have q36 := q_; clear q_ hfr; obtain ⟨x45, hx45, h⟩ := Comp.run_bind h
      refine gQ (r := (rInt .i64)) (fun _ => rfl) rfl ty23 ty3 rfl (by decide) hO hB (yH hB) q34 f42 q36 (rd_of f44) hx45 (by decide) fun u46 w33 O47 f48 hB' hX => ?_
      clear hB; have hB := hB'; clear hB'; clear f42; replace f44 := vk f44 hX
      replace f8 := f8.kx hX (by decide)
      replace f2 := vk f2 hX; replace f4 := vk f4 hX
      replace f15 := f15.kx hX (by decide)
      clear hX
      refine zQ hA (by decide) fun a34 hA q_ hfr => ?_
      refine kd4 hfr q2 q4 q34 q36 ?_; clear q2 q4 q34 q36; intro q2 q4 q34 q36; have q37 := q_; clear q_ hfr
      refine l_ok (φ := SP.isv (.pointer (some ⟨b9, 3, none⟩))) hO hB (by exact zO fl33_3 q2) rfl fun u_ w35 hE hB' hv_ => ?_
      replace hv_ := Eq.symm hv_; subst hv_; clear hB; have hB := hB'; clear hB'
      replace f48 := f48.ext hE; replace f8 := f8.ext hE; replace f2 := vx f2 hE; replace f4 := vx f4 hE; replace f15 := f15.ext hE; clear hE
      refine zQ hA (by decide) fun a36 hA q_ hfr => ?_
      refine kd3 hfr q2 q4 q37 ?_; clear q2 q4 q37; intro q2 q4 q37; have q38 := q_; clear q_ hfr
      refine jb (cs' := #[.int .i64 x_0.Party, .int .i64 x_0.Kind, .int .i64 x_0.Gauge, u46, u3]) hO hB (yH hB) ty23 q38 q37 (own_cells f48) (own_one f48) f8 (by simp) rfl fun w37 f49 hB' hX => ?_
      clear hB f8; have hB := hB'; clear hB'
      replace f48 := f48.kx hX (by decide) (by decide)
      replace f2 := vk f2 hX; replace f4 := vk f4 hX
      replace f15 := f15.kx hX (by decide)
      clear hX; refine zE (zm (zB ?_))
      obtain ⟨O50, hB', hX, f51⟩ := freezeL hO hB f48 (by decide)
      clear f48 hB; have hB := hB'; clear hB'
      replace f49 := f49.kx hX (by decide)
      replace f4 := vk f4 hX
      replace f15 := f15.kx hX (by decide)
      clear hX
      exact ⟨_, _, _, _, _, _, _, _, hA, hB, q2, q4, f15, f49, f51, f4, h⟩
     ·
      refine wp_seq ?_
      refine' rb [_, _] mixed hA hB hO (cn (fun hE hK => yO (kq hK q16) rfl) (cn (fun hE hK => zC (ks 0 hK 40 rfl)) .nil)) ?zk12
      intro a38 w38 hA hE hB HF; refine kr3 HF q2 q4 q5 ?_; clear q2 q4 q5; intro q2 q4 q5; have q39 := ksv (HF 39) rfl rfl rfl; clear q16 q29 HF; replace f8 := f8.ext hE; replace f2 := vx f2 hE; replace f4 := vx f4 hE; replace f15 := f15.ext hE; clear hE; refine zE (zB ?_)
      revert h; refine cnd q39 (fun h => ?_) (fun h => ?_)
      ·
       refine' rbT [] hA hB hO .nil ?zk13
       intro a39 w39 hA hE hB HF; refine kr3 HF q2 q4 q5 ?_; clear q2 q4 q5; intro q2 q4 q5; clear q39 HF; replace f8 := f8.ext hE; replace f2 := vx f2 hE; replace f4 := vx f4 hE; replace f15 := f15.ext hE; clear hE
       refine l_ok (φ := SP.ownr (rInt .i64) 3 w39.heap.size O14 []) hO hB (by exact jf (r := (rInt .i64)) (fun _ => rfl) rfl hB.ok ty23 ty3 (Nat.le_refl _) zh trivial rfl (by decide)) rfl fun u52 w40 hE hB' f53 => ?_
       clear hB'; obtain ⟨O54, hB', hX, f55⟩ := ownNew hO hB hE f53 rfl 4 (by decide)
       clear hB f53; have hB := hB'; clear hB'
       replace f8 := f8.kx hX (by decide)
       replace f2 := vk f2 hX; replace f4 := vk f4 hX
       replace f15 := f15.kx hX (by decide)
       clear hX hE
       refine zQ hA (by decide) fun a41 hA q_ hfr => ?_
       refine kd3 hfr q2 q4 q5 ?_; clear q2 q4 q5; intro q2 q4 q5; have q41 := q_; clear q_ hfr
       refine l_ok (φ := SP.isv (.pointer (some ⟨b9, 4, none⟩))) hO hB (by exact zO fl33_4 q2) rfl fun u_ w42 hE hB' hv_ => ?_
       replace hv_ := Eq.symm hv_; subst hv_; clear hB; have hB := hB'; clear hB'
       replace f55 := f55.ext hE; replace f8 := f8.ext hE; replace f2 := vx f2 hE; replace f4 := vx f4 hE; replace f15 := f15.ext hE; clear hE
       refine zQ hA (by decide) fun a43 hA q_ hfr => ?_
       refine kd4 hfr q2 q4 q5 q41 ?_; clear q2 q4 q5 q41; intro q2 q4 q5 q41; have q42 := q_; clear q_ hfr
       refine l_ok (φ := SP.isv (u3)) hO hB (by exact zj ty23 rfl q42 f8.own rfl) rfl fun u_ w44 hE hB' hv_ => ?_
       replace hv_ := Eq.symm hv_; subst hv_; clear hB; have hB := hB'; clear hB'
       replace f55 := f55.ext hE; replace f8 := f8.ext hE; replace f2 := vx f2 hE; replace f4 := vx f4 hE; replace f15 := f15.ext hE; clear hE
       refine zQ hA (by decide) fun a45 hA q_ hfr => ?_
       refine kd5 hfr q2 q4 q5 q41 q42 ?_; clear q2 q4 q5 q41 q42; intro q2 q4 q5 q41 q42; have q43 := q_; clear q_ hfr; obtain ⟨x56, hx56, h⟩ := Comp.run_bind h
       refine gQ (r := (rInt .i64)) (fun _ => rfl) rfl ty23 ty3 rfl (by decide) hO hB (yH hB) q41 f55 q43 (rd_of f4) hx56 (by decide) fun u57 w46 O58 f59 hB' hX => ?_
       clear hB; have hB := hB'; clear hB'; clear f55; replace f4 := vk f4 hX
       replace f8 := f8.kx hX (by decide)
       replace f2 := vk f2 hX
       replace f15 := f15.kx hX (by decide)
       clear hX
       refine zQ hA (by decide) fun a47 hA q_ hfr => ?_
       refine kd5 hfr q2 q4 q5 q41 q43 ?_; clear q2 q4 q5 q41 q43; intro q2 q4 q5 q41 q43; have q44 := q_; clear q_ hfr
       refine l_ok (φ := SP.isv (.int .i64 x20)) hO hB (by exact zJ q5) rfl fun u_ w48 hE hB' hv_ => ?_
       replace hv_ := Eq.symm hv_; subst hv_; clear hB; have hB := hB'; clear hB'
       replace f59 := f59.ext hE; replace f8 := f8.ext hE; replace f2 := vx f2 hE; replace f4 := vx f4 hE; replace f15 := f15.ext hE; clear hE
       refine zQ hA (by decide) fun a49 hA q_ hfr => ?_
       refine kd4 hfr q2 q4 q5 q44 ?_; clear q2 q4 q5 q44; intro q2 q4 q5 q44; have q45 := q_; clear q_ hfr
       refine l_ok (φ := SP.vl (rSl (rInt .i64)) O58 [x20]) hO hB (by exact zP (r := (rInt .i64)) (fun _ => rfl) rfl hB.ok ty23 ty3 (zM q45 zh) ⟨(by exact zU.2 rfl), trivial⟩ rfl (by decide)) rfl fun u60 w50 hE hB' f61 => ?_
       clear hB; have hB := hB'; clear hB'; replace f59 := f59.ext hE; replace f8 := f8.ext hE; replace f2 := vx f2 hE; replace f4 := vx f4 hE; replace f15 := f15.ext hE; clear hE
       refine zQ hA (by decide) fun a51 hA q_ hfr => ?_
       refine kd4 hfr q2 q4 q44 q45 ?_; clear q2 q4 q44 q45; intro q2 q4 q44 q45; have q46 := q_; clear q_ hfr; obtain ⟨x62, hx62, h⟩ := Comp.run_bind h
       refine gQ (r := (rInt .i64)) (fun _ => rfl) rfl ty23 ty3 rfl (by decide) hO hB (yH hB) q44 f59 q46 (rd_of f61) hx62 (by decide) fun u63 w52 O64 f65 hB' hX => ?_
       clear hB; have hB := hB'; clear hB'; clear f59; replace f61 := vk f61 hX
       replace f8 := f8.kx hX (by decide)
       replace f2 := vk f2 hX; replace f4 := vk f4 hX
       replace f15 := f15.kx hX (by decide)
       clear hX
       refine zQ hA (by decide) fun a53 hA q_ hfr => ?_
       refine kd4 hfr q2 q4 q44 q46 ?_; clear q2 q4 q44 q46; intro q2 q4 q44 q46; have q47 := q_; clear q_ hfr
       refine l_ok (φ := SP.isv (.pointer (some ⟨b9, 4, none⟩))) hO hB (by exact zO fl33_4 q2) rfl fun u_ w54 hE hB' hv_ => ?_
       replace hv_ := Eq.symm hv_; subst hv_; clear hB; have hB := hB'; clear hB'
       replace f65 := f65.ext hE; replace f8 := f8.ext hE; replace f2 := vx f2 hE; replace f4 := vx f4 hE; replace f15 := f15.ext hE; clear hE
       refine zQ hA (by decide) fun a55 hA q_ hfr => ?_
       refine kd3 hfr q2 q4 q47 ?_; clear q2 q4 q47; intro q2 q4 q47; have q48 := q_; clear q_ hfr
       refine jb (cs' := #[.int .i64 x_0.Party, .int .i64 x_0.Kind, .int .i64 x_0.Gauge, u1, u63]) hO hB (yH hB) ty23 q48 q47 (own_cells f65) (own_one f65) f8 (by simp) rfl fun w56 f66 hB' hX => ?_
       clear hB f8; have hB := hB'; clear hB'
       replace f65 := f65.kx hX (by decide) (by decide)
       replace f2 := vk f2 hX; replace f4 := vk f4 hX
       replace f15 := f15.kx hX (by decide)
       clear hX; refine zE (zm (zB ?_))
       obtain ⟨O67, hB', hX, f68⟩ := freezeL hO hB f65 (by decide)
       clear f65 hB; have hB := hB'; clear hB'
       replace f66 := f66.kx hX (by decide)
       replace f2 := vk f2 hX
       replace f15 := f15.kx hX (by decide)
       clear hX
       exact ⟨_, _, _, _, _, _, _, _, hA, hB, q2, q4, f15, f66, f2, f68, h⟩
      ·
       refine wp_skip (zm (zB ?_))
       exact ⟨_, _, _, _, _, _, _, _, hA, hB, q2, q4, f15, f8, f2, f4, h⟩
 intro a57 w57 hI
 clear hA hB h q2 q3 q4 q5 f11 f15 f2 f4 f8
 obtain ⟨O69, x24, x25, x26, x27, x30, u28, u31, hA, hB, q2, q4, f15, f23, f29, f32, h⟩ := hI
 unfold vV at h; refine wp_seq ?_
 refine' rbT [SP.isv (.agg #[.int .i64 x24, .int .i64 x25, .int .i64 x26, u28, u31])] hA hB hO (cn (fun hE hK => gU ty33 rfl (kq hK q2) (OwnB.ext f23 hE).own rfl) .nil) ?zk14
 intro a58 w58 hA hE hB HF; replace q4 := kf HF q4; have q49 := ksv (HF 49) rfl rfl rfl; clear q2 HF; replace f23 := f23.ext hE; replace f29 := vx f29 hE; replace f32 := vx f32 hE; replace f15 := f15.ext hE; clear hE
 refine jB (vs := [.int .i64 x24, .int .i64 x25, .int .i64 x26, u28, u31]) (cs' := #[.int .i64 x24, .int .i64 x25, .int .i64 x26, u28, u31]) hO hB (yH hB) ty33 q4 q49 rfl (by intro c_ hc_; simp only [List.mem_cons, List.not_mem_nil, or_false] at hc_; rcases hc_ with rfl | rfl | rfl | rfl | rfl <;> first | rfl | assumption | exact sl_one f29 rfl rfl | exact sl_one f32 rfl rfl) f15 (by simp) rfl fun w59 f70 hB' hX => ?_
 clear hB f15; have hB := hB'; clear hB'; replace f29 := vk f29 hX; replace f32 := vk f32 hX; clear hX; refine zE (zB (wp_ret ?_))
 have h := Comp.run_pure h; subst h
 exact retG1 Try.results10 hA (.agg q4 ty33 rfl rfl f70.own) ⟨_, rfl, hB.ext, (hB.res zA ⟨_, ⟨_, _, rfl, rfl, ⟨_, _, rfl, rfl, ⟨_, _, rfl, rfl, ⟨_, _, rfl, (vf (r := (rSl (rInt .i64))) f29 rfl rfl), ⟨_, _, rfl, (vf (r := (rSl (rInt .i64))) f32 rfl rfl), rfl⟩⟩⟩⟩⟩, rfl⟩)⟩
theorem ok_colletlaw43_few {O : Tags} {w0 : World} (hO : OkO O w0) {v_0 : Value} {x_0 : List api_Claim} (h_0 : (rSl zA).v O w0 v_0 x_0) {n : Nat} {y : (List api_Claim)} (h : (colletlaw43_few x_0).run n = some y) : Pure Try.prog 11 #[v_0] w0 (SP.ownr zA 33 (w0.heap.size) O y).holds := by
 unfold colletlaw43_few at h
 refine zW Try.func11 rfl 41 Try.ntmps11 (by simp) fun a0 hA hs0 => ?_
 have q0 : a0.get 0 = v_0 := hs0 0 _ rfl
 clear hs0
 have hB : Base (Fr w0) O w0 O w0 := Base.start hO
 refine wp_seq ?_
 refine' rb [_] mixed hA hB hO (cn (fun hE hK => zC rfl) .nil) ?zk1
 intro a1 w1 hA hE hB HF; replace q0 := kf HF q0; clear HF; replace h_0 := vx h_0 hE; clear hE; refine zE (zB (wp_seq ?_))
 refine' rb [_] mixed hA hB hO (cn (fun hE hK => zC rfl) .nil) ?zk2
 intro a2 w2 hA hE hB HF; replace q0 := kf HF q0; have q3 := ksv (HF 3) rfl rfl rfl; clear HF; replace h_0 := vx h_0 hE; clear hE; refine zE (zB ?_)
 refine zY (fun a w => ∃ (O39 : Tags) (x36 : List api_Claim) (u37 : Value), a.fit 41 ∧ Base (Fr w0) O w0 O39 w ∧ a.get 3 = u37 ∧ OwnL 1 zA 33 (Fr w0) O39 w u37 x36 ∧ (colletlaw43_few_j1 x36).run n = some y) ?_ ?_
 ·
  refine wp_seq ?_
  refine' rb [_] mixed hA hB hO (cn (fun hE hK => zC rfl) .nil) ?zk3
  intro a3 w3 hA hE hB HF; replace q0 := kf HF q0; replace q3 := kf HF q3; have q4 := ksv (HF 4) rfl rfl rfl; clear HF; replace h_0 := vx h_0 hE; clear hE; refine zE (zB (wp_block ?_))
  obtain ⟨e2, he2, hk2⟩ := Comp.run_bind h; clear h
  refine yt (fun m a w => ∃ (O5 : Tags) (x1 : List api_Claim) (x4 : Int) (u2 : Value), a.fit 41 ∧ Base (Fr w0) O w0 O5 w ∧ a.get 0 = v_0 ∧ (rSl zA).v O5 w v_0 x_0 ∧ a.get 3 = u2 ∧ OwnL 1 zA 33 (Fr w0) O5 w u2 x1 ∧ a.get 4 = .int .i64 x4 ∧ Comp.loopN (fun s => jL x_0 s.1 s.2) n m (x1, x4) = some e2) (m := n) ?st2 ?_
  case st2 =>
   exact ⟨_, _, _, _, hA, hB, q0, h_0, q3, (OwnL.nil _ _ _ _ _ _), q4, Comp.zk he2⟩
  intro m_ a4 w4 hI
  clear hA hB he2 q0 q3 q4 h_0
  obtain ⟨O5, x1, x4, u2, hA, hB, q0, h_0, q3, f3, q4, hl⟩ := hI
  obtain ⟨m2, hlt2, st2, h, hnext2, hdone2⟩ := Comp.zZ hl; clear hl
  replace h : (jL x_0 x1 x4).run n = some st2 := h
  unfold jL at h; refine wp_seq (wp_seq ?_)
  refine' rb [_, _, _, _, _, _, _, _] mixed hA hB hO (mv q4 (mv q0 (cn (fun hE hK => zg (r := zA) ty27 (ks 1 hK 7 rfl) (rd_of (vx h_0 hE))) (cn (fun hE hK => zy (ks 0 hK 6 rfl) (ks 2 hK 8 rfl)) (cn (fun hE hK => zJ (ks 3 hK 9 rfl)) (mv q4 (.cons (fun _ _ hE hK hg => zy (kg 5 hK 11 rfl hg) rfl) (cn (fun hE hK => zV (ks 4 hK 10 rfl) (fun hb => kg 6 hK 12 rfl (zf rfl rfl hb)) (fun _ => rfl)) .nil)))))))) ?zk4
  intro a5 w5 hA hE hB HF; refine kr3 HF q0 q3 q4 ?_; clear q0 q3 q4; intro q0 q3 q4; have q13 := ksv (HF 13) rfl rfl rfl; clear HF; replace h_0 := vx h_0 hE; replace f3 := f3.ext hE; clear hE
  obtain ⟨x6, hx_, h⟩ := Comp.run_bind h; replace hx_ := Comp.run_pure hx_; rw [hx_] at q13; clear hx_
  refine zE (zB ?_)
  revert h; refine cnd q13 (fun h => ?_) (fun h => ?_)
  ·
   refine wp_skip (zB (wp_seq (wp_block (wp_seq ?_)))); obtain ⟨x7, hx7, h⟩ := Comp.run_bind h
   refine' rbT [_, _, SP.ptr zA O5 x7, SP.vl zA O5 x7] hA hB hO (mv q0 (mv q4 (cn (fun hE hK => zp (r := zA) (O := O5) ty27 ty33 rfl (ks 0 hK 16 rfl) (rd_of (vx h_0 hE)) (ks 1 hK 17 rfl) hx7) (cn (fun hE hK => vC (r := zA) zK ty33 rfl rfl rfl (kp (SP.ptr zA O5 x7) 2 hK 18 rfl)) .nil)))) ?zk5
   intro a6 w6 hA hE hB HF; refine kr3 HF q0 q3 q4 ?_; clear q0 q3 q4; intro q0 q3 q4; obtain ⟨u8, q19, f9⟩ := kx (HF 19) rfl rfl rfl; clear q13 HF; replace h_0 := vx h_0 hE; replace f3 := f3.ext hE; clear hE
   refine l_ok (φ := SP.box w6.heap.size #[.int .i64 0, .int .i64 0, .int .i64 0, .slice none 0 0, .slice none 0 0] 33) hO hB (by exact jr (Nat.le_refl _) ty33) rfl fun u10 w7 hE hB' f11 => ?_
   clear hB'; obtain ⟨O12, b14, hB', hX, e_, f13⟩ := boxNew hO hB hE f11 2 (by decide)
   subst e_; clear hB f11; have hB := hB'; clear hB'
   replace h_0 := vk h_0 hX
   replace f3 := f3.kx hX (by decide) (by decide)
   replace f9 := vk f9 hX; clear hX hE
   refine zQ hA (by decide) fun a8 hA q_ hfr => ?_
   refine kd4 hfr q0 q3 q4 q19 ?_; clear q0 q3 q4 q19; intro q0 q3 q4 q19; have q5 := q_; clear q_ hfr
   obtain ⟨u15, u17, e_, f16, f18⟩ := openV_api_Claim f9; subst e_
   refine jB (vs := [.int .i64 x7.Party, .int .i64 x7.Kind, .int .i64 x7.Gauge, u15, u17]) (cs' := #[.int .i64 x7.Party, .int .i64 x7.Kind, .int .i64 x7.Gauge, u15, u17]) hO hB (yH hB) ty33 q5 q19 rfl (by intro c_ hc_; simp only [List.mem_cons, List.not_mem_nil, or_false] at hc_; rcases hc_ with rfl | rfl | rfl | rfl | rfl <;> first | rfl | assumption | exact sl_one f16 rfl rfl | exact sl_one f18 rfl rfl) f13 (by simp) rfl fun w9 f19 hB' hX => ?_
   clear hB f13; have hB := hB'; clear hB'; replace h_0 := vk h_0 hX
   replace f3 := f3.kx hX (by decide) (by decide)
   replace f16 := vk f16 hX; replace f18 := vk f18 hX; clear hX; refine zE (zB (wp_seq ?_)); obtain ⟨x20, hx20, h⟩ := Comp.run_bind h; obtain ⟨x21, hx21, h⟩ := Comp.run_bind h
   obtain ⟨J_, eJ_⟩ : ∃ J_ : (Nat → Bool) → Act → World → Prop, J_ = (fun S_ a_ w_ => ∃ O_ : Tags, Base (Fr w0) O w0 O_ w_ ∧ Keep 0 O12 w9 O_ w_ ∧ Keep 1 O12 w9 O_ w_ ∧ (S_ 6 = true → (rSl (rInt .i64)).v O_ w_ (a_.get 26) x20) ∧ (S_ 13 = true → (rSl (rInt .i64)).v O_ w_ (a_.get 33) x21) ∧ (S_ 15 = false → OwnB 2 (Fr w0) O_ w_ b14 #[.int .i64 x7.Party, .int .i64 x7.Kind, .int .i64 x7.Gauge, u15, u17] 33) ∧ (S_ 15 = true → S_ 17 = false → OwnB 2 (Fr w0) O_ w_ b14 #[.int .i64 x7.Party, .int .i64 x7.Kind, .int .i64 x7.Gauge, (a_.get 26), u17] 33) ∧ (S_ 17 = true → OwnB 2 (Fr w0) O_ w_ b14 #[.int .i64 x7.Party, .int .i64 x7.Kind, .int .i64 x7.Gauge, (a_.get 26), (a_.get 33)] 33)) := ⟨_, rfl⟩
   have T_ : ∀ {i_ : Nat} {d_ : Option Tmp} {v_ : Value} {S_ a' w' w2}, Nat.beq 6 i_ = false → Nat.beq 13 i_ = false → Nat.beq 15 i_ = false → Nat.beq 17 i_ = false → d_ ≠ some 26 → d_ ≠ some 33 → Ext w' w2 → J_ S_ a' w' → J_ (addS S_ i_) (a'.put d_ v_) w2 := by
    subst eJ_; intro i_ d_ v_ S_ a' w' w2 n6_ n13_ n15_ n17_ s26_ s33_ hE hJ_
    obtain ⟨O_, hB_, k0_, kk0_, m6_, m13_, v1_0_, v1_1_, v1_2_⟩ := hJ_
    exact ⟨O_, (Base.step hB_ hE hO), (k0_.trans (KX.keep (KX.ext hE) (by decide))), (kk0_.trans (KX.keep (KX.ext hE) (by decide))), fun h_ => zG (d := d_) (t := 26) (φ := fun u_ => (rSl (rInt .i64)).v O_ w2 u_ x20) ((GR.zS _ (m6_ (zF n6_ h_)) (KX.keep (KX.ext hE) (by decide)))) s26_, fun h_ => zG (d := d_) (t := 33) (φ := fun u_ => (rSl (rInt .i64)).v O_ w2 u_ x21) ((GR.zS _ (m13_ (zF n13_ h_)) (KX.keep (KX.ext hE) (by decide)))) s33_, fun hq_ => OwnB.kx (v1_0_ (zd hq_)) (KX.ext hE) (by decide), fun hp_ hq_ => (by rw [get_put_o s26_]; exact OwnB.kx (v1_1_ (zF n15_ hp_) (zd hq_)) (KX.ext hE) (by decide)), fun hp_ => (by rw [get_put_o s26_, get_put_o s33_]; exact OwnB.kx (v1_2_ (zF n17_ hp_)) (KX.ext hE) (by decide))⟩
   refine' regionX (draw := true) J_ [SP.isv (.pointer (some ⟨b14, 3, none⟩)), SP.isv (u15), SP.isv (.pointer (some ⟨b14, 3, none⟩)), SP.isv (u15), SP.isv (.int .i64 (x7.Sure.length : Int)), SP.isv (.int .i64 (min (x7.Sure.length : Int) 5)), SP.tt, SP.isv (.pointer (some ⟨b14, 4, none⟩)), SP.isv (u17), SP.isv (.pointer (some ⟨b14, 4, none⟩)), SP.isv (u17), SP.isv (.int .i64 (x7.Touched.length : Int)), SP.isv (.int .i64 (min (x7.Touched.length : Int) 5)), SP.tt, SP.isv (.pointer (some ⟨b14, 3, none⟩)), SP.tt, SP.isv (.pointer (some ⟨b14, 4, none⟩)), SP.tt] mixed hA (.cons (zi _) (.cons (zi _) (.cons (zi _) (.cons (zi _) (.cons (zi _) (.cons (zi _) (.cons (gZ _) (.cons (zi _) (.cons (zi _) (.cons (zi _) (.cons (zi _) (.cons (zi _) (.cons (zi _) (.cons (gZ _) (.cons (zi _) (.cons (gZ _) (.cons (zi _) (.cons (gZ _) .nil)))))))))))))))))) (.cons ?z6_0 (.cons ?z6_1 (.cons ?z6_2 (.cons ?z6_3 (.cons ?z6_4 (.cons ?z6_5 (.cons ?z6_6 (.cons ?z6_7 (.cons ?z6_8 (.cons ?z6_9 (.cons ?z6_10 (.cons ?z6_11 (.cons ?z6_12 (.cons ?z6_13 (.cons ?z6_14 (.cons ?z6_15 (.cons ?z6_16 (.cons ?z6_17 .nil)))))))))))))))))) ?zsk6 ?zst6 ?zok6 ?zgd6 ?zk6
   case z6_0 =>
    intro S_ a' w' hA_ hJ_ hS_ hafter_ hbef_ hK hg K_ Q_ hK_
    refine x_ok (φ := SP.isv (.pointer (some ⟨b14, 3, none⟩))) (by exact zO fl33_3 (kq hK q5)) fun v_ w2 hE hv_ => hK_ v_ w2 (T_ rfl rfl rfl rfl (by decide) (by decide) hE hJ_) hv_
   case z6_1 =>
    intro S_ a' w' hA_ hJ_ hS_ hafter_ hbef_ hK hg K_ Q_ hK_
    have hJ2_ := hJ_; rw [eJ_] at hJ2_; obtain ⟨O_, hB_, k0_, kk0_, m6_, m13_, v1_0_, v1_1_, v1_2_⟩ := hJ2_
    refine x_ok (φ := SP.isv (u15)) (by exact zj ty23 rfl (ks 0 hK 20 rfl) (v1_0_ (hafter_ 15 (by kernel_rfl))).own rfl) fun v_ w2 hE hv_ => hK_ v_ w2 (T_ rfl rfl rfl rfl (by decide) (by decide) hE hJ_) hv_
   case z6_2 =>
    intro S_ a' w' hA_ hJ_ hS_ hafter_ hbef_ hK hg K_ Q_ hK_
    refine x_ok (φ := SP.isv (.pointer (some ⟨b14, 3, none⟩))) (by exact zO fl33_3 (kq hK q5)) fun v_ w2 hE hv_ => hK_ v_ w2 (T_ rfl rfl rfl rfl (by decide) (by decide) hE hJ_) hv_
   case z6_3 =>
    intro S_ a' w' hA_ hJ_ hS_ hafter_ hbef_ hK hg K_ Q_ hK_
    have hJ2_ := hJ_; rw [eJ_] at hJ2_; obtain ⟨O_, hB_, k0_, kk0_, m6_, m13_, v1_0_, v1_1_, v1_2_⟩ := hJ2_
    refine x_ok (φ := SP.isv (u15)) (by exact zj ty23 rfl (ks 2 hK 22 rfl) (v1_0_ (hafter_ 15 (by kernel_rfl))).own rfl) fun v_ w2 hE hv_ => hK_ v_ w2 (T_ rfl rfl rfl rfl (by decide) (by decide) hE hJ_) hv_
   case z6_4 =>
    intro S_ a' w' hA_ hJ_ hS_ hafter_ hbef_ hK hg K_ Q_ hK_
    have hJ2_ := hJ_; rw [eJ_] at hJ2_; obtain ⟨O_, hB_, k0_, kk0_, m6_, m13_, v1_0_, v1_1_, v1_2_⟩ := hJ2_
    refine x_ok (φ := SP.isv (.int .i64 (x7.Sure.length : Int))) (by exact zg (r := (rInt .i64)) ty23 (ks 3 hK 23 rfl) (rd_of (GR.zS _ f16 k0_))) fun v_ w2 hE hv_ => hK_ v_ w2 (T_ rfl rfl rfl rfl (by decide) (by decide) hE hJ_) hv_
   case z6_5 =>
    intro S_ a' w' hA_ hJ_ hS_ hafter_ hbef_ hK hg K_ Q_ hK_
    refine x_ok (φ := SP.isv (.int .i64 (min (x7.Sure.length : Int) 5))) (by exact ok_min (ks 4 hK 24 rfl) rfl) fun v_ w2 hE hv_ => hK_ v_ w2 (T_ rfl rfl rfl rfl (by decide) (by decide) hE hJ_) hv_
   case z6_6 =>
    intro S_ a' w' hA_ hJ_ hS_ hafter_ hbef_ hK hg K_ Q_ hK_
    subst eJ_
    obtain ⟨O_, hB_, k0_, kk0_, m6_, m13_, v1_0_, v1_1_, v1_2_⟩ := hJ_
    refine x_ok (φ := SP.vl (rSl (rInt .i64)) O_ x20) (by exact okl_slice_h (r := (rInt .i64)) ty23 ty3 rfl (ks 1 hK 21 rfl) (GR.zS _ f16 k0_) (ks 5 hK 25 rfl) hx20) fun v_ w2 hE hv_ => ?_
    have hB2_ := Base.step hB_ hE hO
    exact hK_ v_ w2 ⟨O_, hB2_, (k0_.trans (KX.keep (KX.ext hE) (by decide))), (kk0_.trans (KX.keep (KX.ext hE) (by decide))), fun _ => jP (φ := fun u_ => (rSl (rInt .i64)).v O_ w2 u_ x20) hA_ (by decide) hv_, fun h_ => zG (d := some 26) (t := 33) (φ := fun u_ => (rSl (rInt .i64)).v O_ w2 u_ x21) ((GR.zS _ (m13_ (zF rfl h_)) (KX.keep (KX.ext hE) (by decide)))) (by decide), fun hq_ => OwnB.kx (v1_0_ (zd hq_)) (KX.ext hE) (by decide), fun hp_ hq_ => no_tf (zF rfl hp_) (hafter_ 15 (by kernel_rfl)), fun hp_ => no_tf (zF rfl hp_) (hafter_ 17 (by kernel_rfl))⟩ trivial
   case z6_7 =>
    intro S_ a' w' hA_ hJ_ hS_ hafter_ hbef_ hK hg K_ Q_ hK_
    refine x_ok (φ := SP.isv (.pointer (some ⟨b14, 4, none⟩))) (by exact zO fl33_4 (kq hK q5)) fun v_ w2 hE hv_ => hK_ v_ w2 (T_ rfl rfl rfl rfl (by decide) (by decide) hE hJ_) hv_
   case z6_8 =>
    intro S_ a' w' hA_ hJ_ hS_ hafter_ hbef_ hK hg K_ Q_ hK_
    have hJ2_ := hJ_; rw [eJ_] at hJ2_; obtain ⟨O_, hB_, k0_, kk0_, m6_, m13_, v1_0_, v1_1_, v1_2_⟩ := hJ2_
    refine x_ok (φ := SP.isv (u17)) (by exact zj ty23 rfl (ks 7 hK 27 rfl) (v1_0_ (hafter_ 15 (by kernel_rfl))).own rfl) fun v_ w2 hE hv_ => hK_ v_ w2 (T_ rfl rfl rfl rfl (by decide) (by decide) hE hJ_) hv_
   case z6_9 =>
    intro S_ a' w' hA_ hJ_ hS_ hafter_ hbef_ hK hg K_ Q_ hK_
    refine x_ok (φ := SP.isv (.pointer (some ⟨b14, 4, none⟩))) (by exact zO fl33_4 (kq hK q5)) fun v_ w2 hE hv_ => hK_ v_ w2 (T_ rfl rfl rfl rfl (by decide) (by decide) hE hJ_) hv_
   case z6_10 =>
    intro S_ a' w' hA_ hJ_ hS_ hafter_ hbef_ hK hg K_ Q_ hK_
    have hJ2_ := hJ_; rw [eJ_] at hJ2_; obtain ⟨O_, hB_, k0_, kk0_, m6_, m13_, v1_0_, v1_1_, v1_2_⟩ := hJ2_
    refine x_ok (φ := SP.isv (u17)) (by exact zj ty23 rfl (ks 9 hK 29 rfl) (v1_0_ (hafter_ 15 (by kernel_rfl))).own rfl) fun v_ w2 hE hv_ => hK_ v_ w2 (T_ rfl rfl rfl rfl (by decide) (by decide) hE hJ_) hv_
   case z6_11 =>
    intro S_ a' w' hA_ hJ_ hS_ hafter_ hbef_ hK hg K_ Q_ hK_
    have hJ2_ := hJ_; rw [eJ_] at hJ2_; obtain ⟨O_, hB_, k0_, kk0_, m6_, m13_, v1_0_, v1_1_, v1_2_⟩ := hJ2_
    refine x_ok (φ := SP.isv (.int .i64 (x7.Touched.length : Int))) (by exact zg (r := (rInt .i64)) ty23 (ks 10 hK 30 rfl) (rd_of (GR.zS _ f18 k0_))) fun v_ w2 hE hv_ => hK_ v_ w2 (T_ rfl rfl rfl rfl (by decide) (by decide) hE hJ_) hv_
   case z6_12 =>
    intro S_ a' w' hA_ hJ_ hS_ hafter_ hbef_ hK hg K_ Q_ hK_
    refine x_ok (φ := SP.isv (.int .i64 (min (x7.Touched.length : Int) 5))) (by exact ok_min (ks 11 hK 31 rfl) rfl) fun v_ w2 hE hv_ => hK_ v_ w2 (T_ rfl rfl rfl rfl (by decide) (by decide) hE hJ_) hv_
   case z6_13 =>
    intro S_ a' w' hA_ hJ_ hS_ hafter_ hbef_ hK hg K_ Q_ hK_
    subst eJ_
    obtain ⟨O_, hB_, k0_, kk0_, m6_, m13_, v1_0_, v1_1_, v1_2_⟩ := hJ_
    refine x_ok (φ := SP.vl (rSl (rInt .i64)) O_ x21) (by exact okl_slice_h (r := (rInt .i64)) ty23 ty3 rfl (ks 8 hK 28 rfl) (GR.zS _ f18 k0_) (ks 12 hK 32 rfl) hx21) fun v_ w2 hE hv_ => ?_
    have hB2_ := Base.step hB_ hE hO
    exact hK_ v_ w2 ⟨O_, hB2_, (k0_.trans (KX.keep (KX.ext hE) (by decide))), (kk0_.trans (KX.keep (KX.ext hE) (by decide))), fun h_ => zG (d := some 33) (t := 26) (φ := fun u_ => (rSl (rInt .i64)).v O_ w2 u_ x20) ((GR.zS _ (m6_ (zF rfl h_)) (KX.keep (KX.ext hE) (by decide)))) (by decide), fun _ => jP (φ := fun u_ => (rSl (rInt .i64)).v O_ w2 u_ x21) hA_ (by decide) hv_, fun hq_ => OwnB.kx (v1_0_ (zd hq_)) (KX.ext hE) (by decide), fun hp_ hq_ => (by rw [get_put_o (d := some 33) (t := 26) (by decide)]; exact OwnB.kx (v1_1_ (zF rfl hp_) (zd hq_)) (KX.ext hE) (by decide)), fun hp_ => no_tf (zF rfl hp_) (hafter_ 17 (by kernel_rfl))⟩ trivial
   case z6_14 =>
    intro S_ a' w' hA_ hJ_ hS_ hafter_ hbef_ hK hg K_ Q_ hK_
    refine x_ok (φ := SP.isv (.pointer (some ⟨b14, 3, none⟩))) (by exact zO fl33_3 (kq hK q5)) fun v_ w2 hE hv_ => hK_ v_ w2 (T_ rfl rfl rfl rfl (by decide) (by decide) hE hJ_) hv_
   case z6_15 =>
    intro S_ a' w' hA_ hJ_ hS_ hafter_ hbef_ hK hg K_ Q_ hK_
    subst eJ_
    obtain ⟨O_, hB_, k0_, kk0_, m6_, m13_, v1_0_, v1_1_, v1_2_⟩ := hJ_
    refine x_store1 (cs' := #[.int .i64 x7.Party, .int .i64 x7.Kind, .int .i64 x7.Gauge, (a'.get 26), u17]) hO hB_ (yH hB_) ty23 (ks 14 hK 34 rfl) rfl (sl_cells (m6_ (zF rfl (hbef_ 6 (by kernel_rfl)))) rfl rfl) (sl_one (m6_ (zF rfl (hbef_ 6 (by kernel_rfl)))) rfl rfl) (v1_0_ hS_) (by simp) rfl fun w2 f_ hB2_ hX_ => ?_
    exact hK_ undef w2 ⟨O_, hB2_, (k0_.trans (KX.keep hX_ (by decide))), (kk0_.trans (KX.keep hX_ (by decide))), fun h_ => zG (d := none) (t := 26) (φ := fun u_ => (rSl (rInt .i64)).v O_ w2 u_ x20) ((GR.zS _ (m6_ (zF rfl h_)) (KX.keep hX_ (by decide)))) (by decide), fun h_ => zG (d := none) (t := 33) (φ := fun u_ => (rSl (rInt .i64)).v O_ w2 u_ x21) ((GR.zS _ (m13_ (zF rfl h_)) (KX.keep hX_ (by decide)))) (by decide), fun hq_ => addS_me hq_, fun hp_ hq_ => f_, fun hp_ => no_tf (zF rfl hp_) (hafter_ 17 (by kernel_rfl))⟩ trivial
   case z6_16 =>
    intro S_ a' w' hA_ hJ_ hS_ hafter_ hbef_ hK hg K_ Q_ hK_
    refine x_ok (φ := SP.isv (.pointer (some ⟨b14, 4, none⟩))) (by exact zO fl33_4 (kq hK q5)) fun v_ w2 hE hv_ => hK_ v_ w2 (T_ rfl rfl rfl rfl (by decide) (by decide) hE hJ_) hv_
   case z6_17 =>
    intro S_ a' w' hA_ hJ_ hS_ hafter_ hbef_ hK hg K_ Q_ hK_
    subst eJ_
    obtain ⟨O_, hB_, k0_, kk0_, m6_, m13_, v1_0_, v1_1_, v1_2_⟩ := hJ_
    refine x_store1 (cs' := #[.int .i64 x7.Party, .int .i64 x7.Kind, .int .i64 x7.Gauge, (a'.get 26), (a'.get 33)]) hO hB_ (yH hB_) ty23 (ks 16 hK 35 rfl) rfl (sl_cells (m13_ (zF rfl (hbef_ 13 (by kernel_rfl)))) rfl rfl) (sl_one (m13_ (zF rfl (hbef_ 13 (by kernel_rfl)))) rfl rfl) (v1_1_ (zF rfl (hbef_ 15 (by kernel_rfl))) hS_) (by simp) rfl fun w2 f_ hB2_ hX_ => ?_
    exact hK_ undef w2 ⟨O_, hB2_, (k0_.trans (KX.keep hX_ (by decide))), (kk0_.trans (KX.keep hX_ (by decide))), fun h_ => zG (d := none) (t := 26) (φ := fun u_ => (rSl (rInt .i64)).v O_ w2 u_ x20) ((GR.zS _ (m6_ (zF rfl h_)) (KX.keep hX_ (by decide)))) (by decide), fun h_ => zG (d := none) (t := 33) (φ := fun u_ => (rSl (rInt .i64)).v O_ w2 u_ x21) ((GR.zS _ (m13_ (zF rfl h_)) (KX.keep hX_ (by decide)))) (by decide), fun hq_ => no_tf (hbef_ 15 (by kernel_rfl)) hq_, fun hp_ hq_ => addS_me hq_, fun hp_ => f_⟩ trivial
   case zsk6 =>
    subst eJ_
    intro i_ o_ S_ a_ w_ ho_ hact_ hA_ hS_ hbef_ hJ_
    obtain ⟨O_, hB_, k0_, kk0_, m6_, m13_, v1_0_, v1_1_, v1_2_⟩ := hJ_
    exact ⟨O_, hB_, k0_, kk0_, fun h_ => by obtain ⟨h1_, h2_⟩ := yG (j := 6) hact_ rfl h_; exact zG (t := 26) (φ := fun u_ => (rSl (rInt .i64)).v O_ w_ u_ x20) (m6_ h1_) (zv (j := 6) (by kernel_rfl) ho_ h2_), fun h_ => by obtain ⟨h1_, h2_⟩ := yG (j := 13) hact_ rfl h_; exact zG (t := 33) (φ := fun u_ => (rSl (rInt .i64)).v O_ w_ u_ x21) (m13_ h1_) (zv (j := 13) (by kernel_rfl) ho_ h2_), fun hq_ => (v1_0_ (zd hq_)), fun hp_ hq_ => by obtain ⟨h1_, h2_⟩ := yG (j := 15) hact_ rfl hp_; exact (by rw [get_put_o (t := 26) (zv (j := 6) (by kernel_rfl) ho_ (skip_ne hact_ rfl))]; exact (v1_1_ h1_ (zd hq_))), fun hp_ => by obtain ⟨h1_, h2_⟩ := yG (j := 17) hact_ rfl hp_; exact (by rw [get_put_o (t := 26) (zv (j := 6) (by kernel_rfl) ho_ (skip_ne hact_ rfl)), get_put_o (t := 33) (zv (j := 13) (by kernel_rfl) ho_ (skip_ne hact_ rfl))]; exact (v1_2_ h1_))⟩
   case zst6 => subst eJ_; exact fun w1_ hE_ => ⟨O12, (Base.step hB hE_ hO), (Keep.ext hE_), (Keep.ext hE_), fun h_ => no_ft h_, fun h_ => no_ft h_, fun _ => OwnB.ext f19 hE_, fun hp_ => no_ft hp_, fun hp_ => no_ft hp_⟩
   case zok6 | zgd6 => kernel_rfl
   subst eJ_; clear T_
   intro a10 w10 hA HF hJ_
   obtain ⟨O22, hB_, k0_, kk0_, m6_, m13_, v1_0_, v1_1_, v1_2_⟩ := hJ_
   replace q0 := kn (HF 0) rfl q0
   replace q3 := kn (HF 3) rfl q3
   replace q4 := kn (HF 4) rfl q4
   replace q5 := kn (HF 5) rfl q5
   clear HF
   replace h_0 := GR.zS _ h_0 k0_
   replace f3 := OwnL.keep f3 k0_ kk0_
   have f23 := (v1_2_ rfl)
   have f25 := m6_ rfl
   obtain ⟨u24, zu24_⟩ : ∃ u, a10.get 26 = u := ⟨_, rfl⟩; rw [zu24_] at f25
   rw [zu24_] at f23
   have f27 := m13_ rfl
   obtain ⟨u26, zu26_⟩ : ∃ u, a10.get 33 = u := ⟨_, rfl⟩; rw [zu26_] at f27
   rw [zu26_] at f23
   clear f19; clear hB; have hB := hB_; clear hB_; clear k0_ kk0_ m6_ m13_ v1_0_ v1_1_ v1_2_; refine zB ?_
   refine' rbT [_, SP.isv (.agg #[.int .i64 x7.Party, .int .i64 x7.Kind, .int .i64 x7.Gauge, u24, u26]), SP.vl (rSl zA) O22 [(api_Claim.mk x7.Party x7.Kind x7.Gauge x20 x21)]] hA hB hO (mv q3 (cn (fun hE hK => gU ty33 rfl (kq hK q5) (OwnB.ext f23 hE).own rfl) (cn (fun hE hK => zP (r := zA) zK rfl (OkO.ext hB.ok hE) ty27 ty33 (zM (ks 1 hK 37 rfl) zh) ⟨⟨_, ⟨_, _, rfl, rfl, ⟨_, _, rfl, rfl, ⟨_, _, rfl, rfl, ⟨_, _, rfl, (vf (r := (rSl (rInt .i64))) (vx f25 hE) rfl rfl), ⟨_, _, rfl, (vf (r := (rSl (rInt .i64))) (vx f27 hE) rfl rfl), rfl⟩⟩⟩⟩⟩, rfl⟩, trivial⟩ rfl (by decide)) .nil))) ?zk7
   intro a11 w11 hA hE hB HF; refine kr3 HF q0 q3 q4 ?_; clear q0 q3 q4; intro q0 q3 q4; obtain ⟨u28, q38, f29⟩ := kx (HF 38) rfl rfl rfl; have q36 := ksv (HF 36) rfl rfl rfl; clear q5 HF; replace h_0 := vx h_0 hE; replace f3 := f3.ext hE; replace f23 := f23.ext hE; replace f25 := vx f25 hE; replace f27 := vx f27 hE; clear hE; obtain ⟨x30, hx30, h⟩ := Comp.run_bind h
   refine gQ (r := zA) zK rfl ty27 ty33 rfl (by decide) hO hB (yH hB) q36 f3 q38 (rd_of f29) hx30 (by decide) fun u31 w12 O32 f33 hB' hX => ?_
   clear hB; have hB := hB'; clear hB'; clear f3; replace h_0 := vk h_0 hX; replace f29 := vk f29 hX; clear hX
   refine zQ hA (by decide) fun a13 hA q_ hfr => ?_
   refine kd5 hfr q0 q3 q4 q36 q38 ?_; clear q0 q3 q4 q36 q38; intro q0 q3 q4 q36 q38; have q39 := q_; clear q_ hfr
   refine l_ok (φ := SP.isv (u31)) hO hB (by exact zC q39) rfl fun u_ w14 hE hB' hv_ => ?_
   replace hv_ := Eq.symm hv_; subst hv_; clear hB; have hB := hB'; clear hB'
   replace h_0 := vx h_0 hE; replace f33 := f33.ext hE; clear hE
   refine zQ hA (by decide) fun a15 hA q_ hfr => ?_
   replace q0 := (hfr 0 rfl).trans q0
   replace q4 := (hfr 4 rfl).trans q4
   replace q39 := (hfr 39 rfl).trans q39
   clear q3; have q3 := q_; clear q_ hfr; refine zE (zm (zB ?_))
   refine' rb [_, _, _] mixed hA hB hO (mv q4 (cn (fun hE hK => yP (ks 0 hK 14 rfl) rfl) (cn (fun hE hK => zC (ks 1 hK 15 rfl)) .nil))) ?zk8
   intro a16 w16 hA hE hB HF; replace q0 := kf HF q0; replace q3 := kf HF q3; replace q4 := ksv (HF 4) rfl rfl rfl; clear HF; replace h_0 := vx h_0 hE; replace f33 := f33.ext hE; clear hE; refine zE (zB ?_)
   have h := hnext2 _ (Comp.run_pure h).symm
   refine ⟨m2, hlt2, ?_⟩
   exact ⟨_, _, _, _, hA, hB, q0, h_0, q3, f33, q4, h⟩
  ·
   refine wp_exit (zT (zT (zw ?_)))
   have hd_ := hdone2 _ (Comp.run_pure h).symm; clear h
   subst hd_; have h := hk2; clear hk2; try dsimp only at h
   refine zB ?_
   exact ⟨_, _, _, hA, hB, q3, f3, h⟩
 intro a17 w17 hI
 clear hA hB h q0 q3 h_0
 obtain ⟨O39, x36, u37, hA, hB, q3, f38, h⟩ := hI
 unfold colletlaw43_few_j1 at h; refine wp_seq ?_
 refine' rb [_, _] mixed hA hB hO (mv q3 (cn (fun hE hK => zC (ks 0 hK 40 rfl)) .nil)) ?zk9
 intro a18 w18 hA hE hB HF; have q2 := ksv (HF 2) rfl rfl rfl; clear q3 HF; replace f38 := f38.ext hE; clear hE; refine zE (zB (wp_ret ?_))
 have h := Comp.run_pure h; subst h
 exact zb Try.results11 hA q2 hB.ext (OwnL.res f38 (by decide) hB.zero)
theorem ok_colletref43_increases {O : Tags} {w0 : World} (hO : OkO O w0) {v_0 : Value} {x_0 : List Int} (h_0 : (rSl (rInt .i64)).v O w0 v_0 x_0) {n : Nat} {y : Bool} (h : (va x_0).run n = some y) : Pure Try.prog 60 #[v_0] w0 (SP.isv (.bool y)).holds := by
 unfold va at h
 refine zW Try.func60 rfl 20 Try.ntmps60 (by simp) fun a0 hA hs0 => ?_
 have q0 : a0.get 0 = v_0 := hs0 0 _ rfl
 clear hs0
 have hB : Base (Fr w0) O w0 O w0 := Base.start hO
 refine wp_seq ?_
 refine' rb [_] mixed hA hB hO (cn (fun hE hK => zC rfl) .nil) ?zk1
 intro a1 w1 hA hE hB HF; replace q0 := kf HF q0; clear HF; replace h_0 := vx h_0 hE; clear hE; refine zE (zB ?_)
 refine zY (fun a w => ∃ (O6 : Tags), a.fit 20 ∧ Base (Fr w0) O w0 O6 w ∧ (jC ).run n = some y) ?_ ?_
 ·
  refine wp_seq ?_
  refine' rb [_] mixed hA hB hO (cn (fun hE hK => zC rfl) .nil) ?zk2
  intro a2 w2 hA hE hB HF; replace q0 := kf HF q0; have q3 := ksv (HF 3) rfl rfl rfl; clear HF; replace h_0 := vx h_0 hE; clear hE; refine zE (zB (wp_block ?_))
  obtain ⟨e2, he2, hk2⟩ := Comp.run_bind h; clear h
  refine yt (fun m a w => ∃ (O2 : Tags) (x1 : Int), a.fit 20 ∧ Base (Fr w0) O w0 O2 w ∧ a.get 0 = v_0 ∧ (rSl (rInt .i64)).v O2 w v_0 x_0 ∧ a.get 3 = .int .i64 x1 ∧ Comp.loopN (fun s => gI x_0 s) n m x1 = some e2) (m := n) ?st2 ?_
  case st2 =>
   exact ⟨_, _, hA, hB, q0, h_0, q3, Comp.zk he2⟩
  intro m_ a3 w3 hI
  clear hA hB he2 q0 q3 h_0
  obtain ⟨O2, x1, hA, hB, q0, h_0, q3, hl⟩ := hI
  obtain ⟨m2, hlt2, st2, h, hnext2, hdone2⟩ := Comp.zZ hl; clear hl
  replace h : (gI x_0 x1).run n = some st2 := h
  unfold gI at h; refine wp_seq (wp_seq ?_)
  refine' rb [_, _, _, _] mixed hA hB hO (mv q3 (mv q0 (cn (fun hE hK => zg (r := (rInt .i64)) ty23 (ks 1 hK 5 rfl) (rd_of (vx h_0 hE))) (cn (fun hE hK => zy (ks 0 hK 4 rfl) (ks 2 hK 6 rfl)) .nil)))) ?zk3
  intro a4 w4 hA hE hB HF; replace q0 := kf HF q0; replace q3 := kf HF q3; have q7 := ksv (HF 7) rfl rfl rfl; clear HF; replace h_0 := vx h_0 hE; clear hE; refine zE (zB ?_)
  revert h; refine cnd q7 (fun h => ?_) (fun h => ?_)
  ·
   refine wp_skip (zB (wp_seq (wp_block (wp_seq ?_)))); obtain ⟨x3, hx3, h⟩ := Comp.run_bind h; obtain ⟨x4, hx4, h⟩ := Comp.run_bind h
   refine' rb [_, _, SP.ptr (rInt .i64) O2 x3, SP.isv (.int .i64 x3), _, _, _, SP.ptr (rInt .i64) O2 x4, SP.isv (.int .i64 x4), _] mixed hA hB hO (mv q0 (mv q3 (cn (fun hE hK => zp (r := (rInt .i64)) (O := O2) ty23 ty3 rfl (ks 0 hK 10 rfl) (rd_of (vx h_0 hE)) (ks 1 hK 11 rfl) hx3) (cn (fun hE hK => za (rInt .i64) (fun _ => rfl) ty3 rfl rfl rfl (kp (SP.ptr (rInt .i64) O2 x3) 2 hK 12 rfl) (fun _ _ _ h => zU.1 h)) (mv q0 (mv q3 (cn (fun hE hK => ok_sub (ks 5 hK 15 rfl) rfl) (cn (fun hE hK => zp (r := (rInt .i64)) (O := O2) ty23 ty3 rfl (ks 4 hK 14 rfl) (rd_of (vx h_0 hE)) (ks 6 hK 16 rfl) hx4) (cn (fun hE hK => za (rInt .i64) (fun _ => rfl) ty3 rfl rfl rfl (kp (SP.ptr (rInt .i64) O2 x4) 7 hK 17 rfl) (fun _ _ _ h => zU.1 h)) (cn (fun hE hK => ok_leq (ks 3 hK 13 rfl) (ks 8 hK 18 rfl)) .nil)))))))))) ?zk4
   intro a5 w5 hA hE hB HF; replace q0 := kf HF q0; replace q3 := kf HF q3; have q19 := ksv (HF 19) rfl rfl rfl; clear q7 HF; replace h_0 := vx h_0 hE; clear hE; refine zE (zB ?_)
   revert h; refine cnd q19 (fun h => ?_) (fun h => ?_)
   ·
    refine wp_seq ?_
    refine' rb [_] mixed hA hB hO (cn (fun hE hK => zC rfl) .nil) ?zk5
    intro a6 w6 hA hE hB HF; have q2 := ksv (HF 2) rfl rfl rfl; clear q0 q3 q19 HF; replace h_0 := vx h_0 hE; clear hE; refine zE (zB (wp_ret (yA (zN (zN (yA (zN ?_)))))))
    have hd_ := hdone2 _ (Comp.run_pure h).symm; clear h
    subst hd_; have h := hk2; clear hk2; try dsimp only at h
    have h := Comp.run_pure h; subst h
    exact zb Try.results60 hA q2 hB.ext rfl
   ·
    refine wp_skip (zm (zB ?_))
    refine' rb [_, _, _] mixed hA hB hO (mv q3 (cn (fun hE hK => yP (ks 0 hK 8 rfl) rfl) (cn (fun hE hK => zC (ks 1 hK 9 rfl)) .nil))) ?zk6
    intro a7 w7 hA hE hB HF; replace q0 := kf HF q0; replace q3 := ksv (HF 3) rfl rfl rfl; clear q19 HF; replace h_0 := vx h_0 hE; clear hE; refine zE (zB ?_)
    have h := hnext2 _ (Comp.run_pure h).symm
    refine ⟨m2, hlt2, ?_⟩
    exact ⟨_, _, hA, hB, q0, h_0, q3, h⟩
  ·
   refine wp_exit (zT (zT (zw ?_)))
   have hd_ := hdone2 _ (Comp.run_pure h).symm; clear h
   subst hd_; have h := hk2; clear hk2; try dsimp only at h
   refine zB ?_
   exact ⟨_, hA, hB, h⟩
 intro a8 w8 hI
 clear hA hB h q0 h_0
 obtain ⟨O6, hA, hB, h⟩ := hI
 unfold jC at h; refine wp_seq ?_
 refine' rb [_] mixed hA hB hO (cn (fun hE hK => zC rfl) .nil) ?zk7
 intro a9 w9 hA hE hB HF; have q2 := ksv (HF 2) rfl rfl rfl; clear HF; clear hE; refine zE (zB (wp_ret ?_))
 have h := Comp.run_pure h; subst h
 exact zb Try.results60 hA q2 hB.ext rfl
theorem ok_colletref43_below {O : Tags} {w0 : World} (hO : OkO O w0) {v_0 : Value} {x_0 : List Int} (h_0 : (rSl (rInt .i64)).v O w0 v_0 x_0) {x_1 : Int} {n : Nat} {y : Bool} (h : (ji x_0 x_1).run n = some y) : Pure Try.prog 61 #[v_0, .int .i64 x_1] w0 (SP.isv (.bool y)).holds := by
 unfold ji at h
 refine zW Try.func61 rfl 25 Try.ntmps61 (by simp) fun a0 hA hs0 => ?_
 have q0 : a0.get 0 = v_0 := hs0 0 _ rfl
 have q1 : a0.get 1 = .int .i64 x_1 := hs0 1 _ rfl
 clear hs0
 have hB : Base (Fr w0) O w0 O w0 := Base.start hO
 refine wp_seq ?_
 refine' rb [_] mixed hA hB hO (cn (fun hE hK => zC rfl) .nil) ?zk1
 intro a1 w1 hA hE hB HF; replace q0 := kf HF q0; replace q1 := kf HF q1; clear HF; replace h_0 := vx h_0 hE; clear hE; refine zE (zB ?_)
 refine zY (fun a w => ∃ (O7 : Tags), a.fit 25 ∧ Base (Fr w0) O w0 O7 w ∧ (colletref43_below_j1 ).run n = some y) ?_ ?_
 ·
  refine wp_seq ?_
  refine' rb [_] mixed hA hB hO (cn (fun hE hK => zC rfl) .nil) ?zk2
  intro a2 w2 hA hE hB HF; replace q0 := kf HF q0; replace q1 := kf HF q1; have q5 := ksv (HF 5) rfl rfl rfl; clear HF; replace h_0 := vx h_0 hE; clear hE; refine zE (zB (wp_block ?_))
  obtain ⟨e2, he2, hk2⟩ := Comp.run_bind h; clear h
  refine yt (fun m a w => ∃ (O2 : Tags) (x1 : Int), a.fit 25 ∧ Base (Fr w0) O w0 O2 w ∧ a.get 0 = v_0 ∧ (rSl (rInt .i64)).v O2 w v_0 x_0 ∧ a.get 1 = .int .i64 x_1 ∧ a.get 5 = .int .i64 x1 ∧ Comp.loopN (fun s => yw x_0 x_1 s) n m x1 = some e2) (m := n) ?st2 ?_
  case st2 =>
   exact ⟨_, _, hA, hB, q0, h_0, q1, q5, Comp.zk he2⟩
  intro m_ a3 w3 hI
  clear hA hB he2 q0 q1 q5 h_0
  obtain ⟨O2, x1, hA, hB, q0, h_0, q1, q5, hl⟩ := hI
  obtain ⟨m2, hlt2, st2, h, hnext2, hdone2⟩ := Comp.zZ hl; clear hl
  replace h : (yw x_0 x_1 x1).run n = some st2 := h
  unfold yw at h; refine wp_seq (wp_seq ?_)
  refine' rb [_, _, _, _] mixed hA hB hO (mv q5 (mv q0 (cn (fun hE hK => zg (r := (rInt .i64)) ty23 (ks 1 hK 7 rfl) (rd_of (vx h_0 hE))) (cn (fun hE hK => zy (ks 0 hK 6 rfl) (ks 2 hK 8 rfl)) .nil)))) ?zk3
  intro a4 w4 hA hE hB HF; refine kr3 HF q0 q1 q5 ?_; clear q0 q1 q5; intro q0 q1 q5; have q9 := ksv (HF 9) rfl rfl rfl; clear HF; replace h_0 := vx h_0 hE; clear hE; refine zE (zB ?_)
  revert h; refine cnd q9 (fun h => ?_) (fun h => ?_)
  ·
   refine wp_skip (zB (wp_seq (wp_block (wp_seq ?_)))); obtain ⟨x3, hx3, h⟩ := Comp.run_bind h; obtain ⟨x4, hx4, h⟩ := Comp.run_bind h
   refine' rb [_, _, SP.ptr (rInt .i64) O2 x3, SP.isv (.int .i64 x3), _, _, _, _, SP.ptr (rInt .i64) O2 x4, SP.isv (.int .i64 x4), _, _, _] mixed hA hB hO (mv q0 (mv q5 (cn (fun hE hK => zp (r := (rInt .i64)) (O := O2) ty23 ty3 rfl (ks 0 hK 12 rfl) (rd_of (vx h_0 hE)) (ks 1 hK 13 rfl) hx3) (cn (fun hE hK => za (rInt .i64) (fun _ => rfl) ty3 rfl rfl rfl (kp (SP.ptr (rInt .i64) O2 x3) 2 hK 14 rfl) (fun _ _ _ h => zU.1 h)) (cn (fun hE hK => zy (ks 3 hK 15 rfl) rfl) (cn (fun hE hK => zJ (ks 4 hK 16 rfl)) (mv q0 (mv q5 (.cons (fun _ _ hE hK hg => zp (r := (rInt .i64)) (O := O2) ty23 ty3 rfl (kg 6 hK 18 rfl hg) (rd_of (vx h_0 hE)) (kg 7 hK 19 rfl hg) (zr hx4 hg)) (.cons (fun _ _ hE hK hg => za (rInt .i64) (fun _ => rfl) ty3 rfl rfl rfl (kspS (φ := SP.ptr (rInt .i64) O2 x4) (j := 8) (hK 20 rfl) rfl rfl hg) (fun _ _ _ h => zU.1 h)) (mv q1 (.cons (fun _ _ hE hK hg => ok_geq (kg 9 hK 21 rfl hg) (kg 10 hK 22 rfl hg)) (cn (fun hE hK => zV (ks 5 hK 17 rfl) (fun _ => rfl) (fun hb => kg 11 hK 23 rfl (zf rfl rfl hb))) .nil))))))))))))) ?zk4
   intro a5 w5 hA hE hB HF; refine kr3 HF q0 q1 q5 ?_; clear q0 q1 q5; intro q0 q1 q5; have q24 := ksv (HF 24) rfl rfl rfl; clear q9 HF; replace h_0 := vx h_0 hE; clear hE
   obtain ⟨x5, hx_, h⟩ := Comp.run_bind h; replace hx_ := Comp.run_pure hx_; rw [hx_] at q24; clear hx_
   refine zE (zB ?_)
   revert h; refine cnd q24 (fun h => ?_) (fun h => ?_)
   ·
    refine wp_seq ?_
    refine' rb [_] mixed hA hB hO (cn (fun hE hK => zC rfl) .nil) ?zk5
    intro a6 w6 hA hE hB HF; have q4 := ksv (HF 4) rfl rfl rfl; clear q0 q1 q5 q24 HF; replace h_0 := vx h_0 hE; clear hE; refine zE (zB (wp_ret (yA (zN (zN (yA (zN ?_)))))))
    have hd_ := hdone2 _ (Comp.run_pure h).symm; clear h
    subst hd_; have h := hk2; clear hk2; try dsimp only at h
    have h := Comp.run_pure h; subst h
    exact zb Try.results61 hA q4 hB.ext rfl
   ·
    refine wp_skip (zm (zB ?_))
    refine' rb [_, _, _] mixed hA hB hO (mv q5 (cn (fun hE hK => yP (ks 0 hK 10 rfl) rfl) (cn (fun hE hK => zC (ks 1 hK 11 rfl)) .nil))) ?zk6
    intro a7 w7 hA hE hB HF; replace q0 := kf HF q0; replace q1 := kf HF q1; replace q5 := ksv (HF 5) rfl rfl rfl; clear q24 HF; replace h_0 := vx h_0 hE; clear hE; refine zE (zB ?_)
    have h := hnext2 _ (Comp.run_pure h).symm
    refine ⟨m2, hlt2, ?_⟩
    exact ⟨_, _, hA, hB, q0, h_0, q1, q5, h⟩
  ·
   refine wp_exit (zT (zT (zw ?_)))
   have hd_ := hdone2 _ (Comp.run_pure h).symm; clear h
   subst hd_; have h := hk2; clear hk2; try dsimp only at h
   refine zB ?_
   exact ⟨_, hA, hB, h⟩
 intro a8 w8 hI
 clear hA hB h q0 q1 h_0
 obtain ⟨O7, hA, hB, h⟩ := hI
 unfold colletref43_below_j1 at h; refine wp_seq ?_
 refine' rb [_] mixed hA hB hO (cn (fun hE hK => zC rfl) .nil) ?zk7
 intro a9 w9 hA hE hB HF; have q4 := ksv (HF 4) rfl rfl rfl; clear HF; clear hE; refine zE (zB (wp_ret ?_))
 have h := Comp.run_pure h; subst h
 exact zb Try.results61 hA q4 hB.ext rfl
theorem ok_colletref43_has {O : Tags} {w0 : World} (hO : OkO O w0) {v_0 : Value} {x_0 : List Int} (h_0 : (rSl (rInt .i64)).v O w0 v_0 x_0) {x_1 : Int} {n : Nat} {y : Bool} (h : (jn x_0 x_1).run n = some y) : Pure Try.prog 79 #[v_0, .int .i64 x_1] w0 (SP.isv (.bool y)).holds := by
 unfold jn at h
 refine zW Try.func79 rfl 18 Try.ntmps79 (by simp) fun a0 hA hs0 => ?_
 have q0 : a0.get 0 = v_0 := hs0 0 _ rfl
 have q1 : a0.get 1 = .int .i64 x_1 := hs0 1 _ rfl
 clear hs0
 have hB : Base (Fr w0) O w0 O w0 := Base.start hO
 refine wp_seq ?_
 refine' rb [_] mixed hA hB hO (cn (fun hE hK => zC rfl) .nil) ?zk1
 intro a1 w1 hA hE hB HF; replace q0 := kf HF q0; replace q1 := kf HF q1; clear HF; replace h_0 := vx h_0 hE; clear hE; refine zE (zB ?_)
 refine zY (fun a w => ∃ (O5 : Tags), a.fit 18 ∧ Base (Fr w0) O w0 O5 w ∧ (colletref43_has_j1 ).run n = some y) ?_ ?_
 ·
  refine wp_seq ?_
  refine' rb [_] mixed hA hB hO (cn (fun hE hK => zC rfl) .nil) ?zk2
  intro a2 w2 hA hE hB HF; replace q0 := kf HF q0; replace q1 := kf HF q1; have q5 := ksv (HF 5) rfl rfl rfl; clear HF; replace h_0 := vx h_0 hE; clear hE; refine zE (zB (wp_block ?_))
  obtain ⟨e2, he2, hk2⟩ := Comp.run_bind h; clear h
  refine yt (fun m a w => ∃ (O2 : Tags) (x1 : Int), a.fit 18 ∧ Base (Fr w0) O w0 O2 w ∧ a.get 0 = v_0 ∧ (rSl (rInt .i64)).v O2 w v_0 x_0 ∧ a.get 1 = .int .i64 x_1 ∧ a.get 5 = .int .i64 x1 ∧ Comp.loopN (fun s => vU x_0 x_1 s) n m x1 = some e2) (m := n) ?st2 ?_
  case st2 =>
   exact ⟨_, _, hA, hB, q0, h_0, q1, q5, Comp.zk he2⟩
  intro m_ a3 w3 hI
  clear hA hB he2 q0 q1 q5 h_0
  obtain ⟨O2, x1, hA, hB, q0, h_0, q1, q5, hl⟩ := hI
  obtain ⟨m2, hlt2, st2, h, hnext2, hdone2⟩ := Comp.zZ hl; clear hl
  replace h : (vU x_0 x_1 x1).run n = some st2 := h
  unfold vU at h; refine wp_seq (wp_seq ?_)
  refine' rb [_, _, _, _] mixed hA hB hO (mv q5 (mv q0 (cn (fun hE hK => zg (r := (rInt .i64)) ty23 (ks 1 hK 7 rfl) (rd_of (vx h_0 hE))) (cn (fun hE hK => zy (ks 0 hK 6 rfl) (ks 2 hK 8 rfl)) .nil)))) ?zk3
  intro a4 w4 hA hE hB HF; refine kr3 HF q0 q1 q5 ?_; clear q0 q1 q5; intro q0 q1 q5; have q9 := ksv (HF 9) rfl rfl rfl; clear HF; replace h_0 := vx h_0 hE; clear hE; refine zE (zB ?_)
  revert h; refine cnd q9 (fun h => ?_) (fun h => ?_)
  ·
   refine wp_skip (zB (wp_seq (wp_block (wp_seq ?_)))); obtain ⟨x3, hx3, h⟩ := Comp.run_bind h
   refine' rb [_, _, SP.ptr (rInt .i64) O2 x3, SP.isv (.int .i64 x3), _, _] mixed hA hB hO (mv q0 (mv q5 (cn (fun hE hK => zp (r := (rInt .i64)) (O := O2) ty23 ty3 rfl (ks 0 hK 12 rfl) (rd_of (vx h_0 hE)) (ks 1 hK 13 rfl) hx3) (cn (fun hE hK => za (rInt .i64) (fun _ => rfl) ty3 rfl rfl rfl (kp (SP.ptr (rInt .i64) O2 x3) 2 hK 14 rfl) (fun _ _ _ h => zU.1 h)) (mv q1 (cn (fun hE hK => yO (ks 3 hK 15 rfl) (ks 4 hK 16 rfl)) .nil)))))) ?zk4
   intro a5 w5 hA hE hB HF; refine kr3 HF q0 q1 q5 ?_; clear q0 q1 q5; intro q0 q1 q5; have q17 := ksv (HF 17) rfl rfl rfl; clear q9 HF; replace h_0 := vx h_0 hE; clear hE; refine zE (zB ?_)
   revert h; refine cnd q17 (fun h => ?_) (fun h => ?_)
   ·
    refine wp_seq ?_
    refine' rb [_] mixed hA hB hO (cn (fun hE hK => zC rfl) .nil) ?zk5
    intro a6 w6 hA hE hB HF; have q4 := ksv (HF 4) rfl rfl rfl; clear q0 q1 q5 q17 HF; replace h_0 := vx h_0 hE; clear hE; refine zE (zB (wp_ret (yA (zN (zN (yA (zN ?_)))))))
    have hd_ := hdone2 _ (Comp.run_pure h).symm; clear h
    subst hd_; have h := hk2; clear hk2; try dsimp only at h
    have h := Comp.run_pure h; subst h
    exact zb Try.results79 hA q4 hB.ext rfl
   ·
    refine wp_skip (zm (zB ?_))
    refine' rb [_, _, _] mixed hA hB hO (mv q5 (cn (fun hE hK => yP (ks 0 hK 10 rfl) rfl) (cn (fun hE hK => zC (ks 1 hK 11 rfl)) .nil))) ?zk6
    intro a7 w7 hA hE hB HF; replace q0 := kf HF q0; replace q1 := kf HF q1; replace q5 := ksv (HF 5) rfl rfl rfl; clear q17 HF; replace h_0 := vx h_0 hE; clear hE; refine zE (zB ?_)
    have h := hnext2 _ (Comp.run_pure h).symm
    refine ⟨m2, hlt2, ?_⟩
    exact ⟨_, _, hA, hB, q0, h_0, q1, q5, h⟩
  ·
   refine wp_exit (zT (zT (zw ?_)))
   have hd_ := hdone2 _ (Comp.run_pure h).symm; clear h
   subst hd_; have h := hk2; clear hk2; try dsimp only at h
   refine zB ?_
   exact ⟨_, hA, hB, h⟩
 intro a8 w8 hI
 clear hA hB h q0 q1 h_0
 obtain ⟨O5, hA, hB, h⟩ := hI
 unfold colletref43_has_j1 at h; refine wp_seq ?_
 refine' rb [_] mixed hA hB hO (cn (fun hE hK => zC rfl) .nil) ?zk7
 intro a9 w9 hA hE hB HF; have q4 := ksv (HF 4) rfl rfl rfl; clear HF; clear hE; refine zE (zB (wp_ret ?_))
 have h := Comp.run_pure h; subst h
 exact zb Try.results79 hA q4 hB.ext rfl
theorem ok_colletref43_within {O : Tags} {w0 : World} (hO : OkO O w0) {v_0 : Value} {x_0 : List Int} (h_0 : (rSl (rInt .i64)).v O w0 v_0 x_0) {v_1 : Value} {x_1 : List Int} (h_1 : (rSl (rInt .i64)).v O w0 v_1 x_1) {n : Nat} {y : Bool} (h : (kC x_0 x_1).run n = some y) : Pure Try.prog 62 #[v_0, v_1] w0 (SP.isv (.bool y)).holds := by
 unfold kC at h
 refine zW Try.func62 rfl 19 Try.ntmps62 (by simp) fun a0 hA hs0 => ?_
 have q0 : a0.get 0 = v_0 := hs0 0 _ rfl
 have q1 : a0.get 1 = v_1 := hs0 1 _ rfl
 clear hs0
 have hB : Base (Fr w0) O w0 O w0 := Base.start hO
 refine wp_seq ?_
 refine' rb [_] mixed hA hB hO (cn (fun hE hK => zC rfl) .nil) ?zk1
 intro a1 w1 hA hE hB HF; replace q0 := kf HF q0; replace q1 := kf HF q1; clear HF; replace h_0 := vx h_0 hE; replace h_1 := vx h_1 hE; clear hE; refine zE (zB ?_)
 refine zY (fun a w => ∃ (O6 : Tags), a.fit 19 ∧ Base (Fr w0) O w0 O6 w ∧ (kB ).run n = some y) ?_ ?_
 ·
  refine wp_seq ?_
  refine' rb [_] mixed hA hB hO (cn (fun hE hK => zC rfl) .nil) ?zk2
  intro a2 w2 hA hE hB HF; replace q0 := kf HF q0; replace q1 := kf HF q1; have q5 := ksv (HF 5) rfl rfl rfl; clear HF; replace h_0 := vx h_0 hE; replace h_1 := vx h_1 hE; clear hE; refine zE (zB (wp_block ?_))
  obtain ⟨e2, he2, hk2⟩ := Comp.run_bind h; clear h
  refine yt (fun m a w => ∃ (O2 : Tags) (x1 : Int), a.fit 19 ∧ Base (Fr w0) O w0 O2 w ∧ a.get 0 = v_0 ∧ (rSl (rInt .i64)).v O2 w v_0 x_0 ∧ a.get 1 = v_1 ∧ (rSl (rInt .i64)).v O2 w v_1 x_1 ∧ a.get 5 = .int .i64 x1 ∧ Comp.loopN (fun s => yl x_0 x_1 s) n m x1 = some e2) (m := n) ?st2 ?_
  case st2 =>
   exact ⟨_, _, hA, hB, q0, h_0, q1, h_1, q5, Comp.zk he2⟩
  intro m_ a3 w3 hI
  clear hA hB he2 q0 q1 q5 h_0 h_1
  obtain ⟨O2, x1, hA, hB, q0, h_0, q1, h_1, q5, hl⟩ := hI
  obtain ⟨m2, hlt2, st2, h, hnext2, hdone2⟩ := Comp.zZ hl; clear hl
  replace h : (yl x_0 x_1 x1).run n = some st2 := h
  unfold yl at h; refine wp_seq (wp_seq ?_)
  refine' rb [_, _, _, _] mixed hA hB hO (mv q5 (mv q0 (cn (fun hE hK => zg (r := (rInt .i64)) ty23 (ks 1 hK 7 rfl) (rd_of (vx h_0 hE))) (cn (fun hE hK => zy (ks 0 hK 6 rfl) (ks 2 hK 8 rfl)) .nil)))) ?zk3
  intro a4 w4 hA hE hB HF; refine kr3 HF q0 q1 q5 ?_; clear q0 q1 q5; intro q0 q1 q5; have q9 := ksv (HF 9) rfl rfl rfl; clear HF; replace h_0 := vx h_0 hE; replace h_1 := vx h_1 hE; clear hE; refine zE (zB ?_)
  revert h; refine cnd q9 (fun h => ?_) (fun h => ?_)
  ·
   refine wp_skip (zB (wp_seq (wp_block (wp_seq ?_)))); obtain ⟨x3, hx3, h⟩ := Comp.run_bind h; obtain ⟨x4, hx4, h⟩ := Comp.run_bind h
   refine' rb [_, _, _, SP.ptr (rInt .i64) O2 x3, SP.isv (.int .i64 x3), SP.isv (.bool x4), _] mixed hA hB hO (mv q1 (mv q0 (mv q5 (cn (fun hE hK => zp (r := (rInt .i64)) (O := O2) ty23 ty3 rfl (ks 1 hK 13 rfl) (rd_of (vx h_0 hE)) (ks 2 hK 14 rfl) hx3) (cn (fun hE hK => za (rInt .i64) (fun _ => rfl) ty3 rfl rfl rfl (kp (SP.ptr (rInt .i64) O2 x3) 3 hK 15 rfl) (fun _ _ _ h => zU.1 h)) (cn (fun hE hK => zz fn79 (ks 0 hK 12 rfl) (ks 4 hK 16 rfl) (ok_colletref43_has (OkO.ext hB.ok hE) (vx h_1 hE) hx4)) (cn (fun hE hK => jz (ks 5 hK 17 rfl)) .nil))))))) ?zk4
   intro a5 w5 hA hE hB HF; refine kr3 HF q0 q1 q5 ?_; clear q0 q1 q5; intro q0 q1 q5; have q18 := ksv (HF 18) rfl rfl rfl; clear q9 HF; replace h_0 := vx h_0 hE; replace h_1 := vx h_1 hE; clear hE; refine zE (zB ?_)
   revert h; refine cnd q18 (fun h => ?_) (fun h => ?_)
   ·
    refine wp_seq ?_
    refine' rb [_] mixed hA hB hO (cn (fun hE hK => zC rfl) .nil) ?zk5
    intro a6 w6 hA hE hB HF; have q4 := ksv (HF 4) rfl rfl rfl; clear q0 q1 q5 q18 HF; replace h_0 := vx h_0 hE; replace h_1 := vx h_1 hE; clear hE; refine zE (zB (wp_ret (yA (zN (zN (yA (zN ?_)))))))
    have hd_ := hdone2 _ (Comp.run_pure h).symm; clear h
    subst hd_; have h := hk2; clear hk2; try dsimp only at h
    have h := Comp.run_pure h; subst h
    exact zb Try.results62 hA q4 hB.ext rfl
   ·
    refine wp_skip (zm (zB ?_))
    refine' rb [_, _, _] mixed hA hB hO (mv q5 (cn (fun hE hK => yP (ks 0 hK 10 rfl) rfl) (cn (fun hE hK => zC (ks 1 hK 11 rfl)) .nil))) ?zk6
    intro a7 w7 hA hE hB HF; replace q0 := kf HF q0; replace q1 := kf HF q1; replace q5 := ksv (HF 5) rfl rfl rfl; clear q18 HF; replace h_0 := vx h_0 hE; replace h_1 := vx h_1 hE; clear hE; refine zE (zB ?_)
    have h := hnext2 _ (Comp.run_pure h).symm
    refine ⟨m2, hlt2, ?_⟩
    exact ⟨_, _, hA, hB, q0, h_0, q1, h_1, q5, h⟩
  ·
   refine wp_exit (zT (zT (zw ?_)))
   have hd_ := hdone2 _ (Comp.run_pure h).symm; clear h
   subst hd_; have h := hk2; clear hk2; try dsimp only at h
   refine zB ?_
   exact ⟨_, hA, hB, h⟩
 intro a8 w8 hI
 clear hA hB h q0 q1 h_0 h_1
 obtain ⟨O6, hA, hB, h⟩ := hI
 unfold kB at h; refine wp_seq ?_
 refine' rb [_] mixed hA hB hO (cn (fun hE hK => zC rfl) .nil) ?zk7
 intro a9 w9 hA hE hB HF; have q4 := ksv (HF 4) rfl rfl rfl; clear HF; clear hE; refine zE (zB (wp_ret ?_))
 have h := Comp.run_pure h; subst h
 exact zb Try.results62 hA q4 hB.ext rfl
end Go.Proofs.Ytebmpjdegajhgaa
end
