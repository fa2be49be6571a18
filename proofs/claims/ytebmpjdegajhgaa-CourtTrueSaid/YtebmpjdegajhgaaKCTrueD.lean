/- Lemmas behind a claim of this seat. No statement of the program stands here. -/
import Derived.Test.YtebmpjdegajhgaaKCTrueC
set_option linter.unusedSimpArgs false
set_option linter.unusedVariables false
section
namespace Go.Proofs.Ytebmpjdegajhgaa
open Go Go.RowKit Go.Eng Go.Lift Go.F
set_option linter.unusedVariables false
set_option linter.unusedSimpArgs false
set_option maxRecDepth 100000
set_option maxHeartbeats 4000000 in
theorem ok_colletref43_Claims {O : Tags} {w0 : World} (hO : OkO O w0) {v_0 : Value} {x_0 : List (List Int)} (h_0 : (rSl (rSl (rInt .i64))).v O w0 v_0 x_0) {x_1 : Int} {x_2 : Int} {n : Nat} {y : (List api_Claim)} (h : (gM x_0 x_1 x_2).run n = some y) : Pure Try.prog 36 #[v_0, .int .i64 x_1, .int .i64 x_2] w0 (SP.ownr zB 33 (w0.heap.size) O y).holds := by
 unfold gM at h
 refine zS Try.func36 rfl 84 Try.ntmps36 (by simp) fun a0 hA hs0 => ?_
 have q0 : a0.get 0 = v_0 := hs0 0 _ rfl
 have q1 : a0.get 1 = .int .i64 x_1 := hs0 1 _ rfl
 have q2 : a0.get 2 = .int .i64 x_2 := hs0 2 _ rfl
 clear hs0
 have hB : Base (Fr w0) O w0 O w0 := Base.start hO
 refine wp_seq ?_
 refine' rb [_] mixed hA hB hO (cn (fun hE hK => zC rfl) .nil) ?zk1
 intro a1 w1 hA hE hB HF; refine kr3 HF q0 q1 q2 ?_; clear q0 q1 q2; intro q0 q1 q2; clear HF; replace h_0 := vx h_0 hE; clear hE; refine zD (zA (wp_seq ?_))
 refine' rb [_] mixed hA hB hO (cn (fun hE hK => zC rfl) .nil) ?zk2
 intro a2 w2 hA hE hB HF; refine kr3 HF q0 q1 q2 ?_; clear q0 q1 q2; intro q0 q1 q2; have q7 := ksv (HF 7) rfl rfl rfl; clear HF; replace h_0 := vx h_0 hE; clear hE; refine zD (zA (wp_seq ?_))
 refine' rb [_] mixed hA hB hO (cn (fun hE hK => zC rfl) .nil) ?zk3
 intro a3 w3 hA hE hB HF; refine kr4 HF q0 q1 q2 q7 ?_; clear q0 q1 q2 q7; intro q0 q1 q2 q7; have q8 := ksv (HF 8) rfl rfl rfl; clear HF; replace h_0 := vx h_0 hE; clear hE; refine zD (zA (wp_seq ?_))
 refine' rb [_] mixed hA hB hO (cn (fun hE hK => zC rfl) .nil) ?zk4
 intro a4 w4 hA hE hB HF; refine kr5 HF q0 q1 q2 q7 q8 ?_; clear q0 q1 q2 q7 q8; intro q0 q1 q2 q7 q8; have q9 := ksv (HF 9) rfl rfl rfl; clear HF; replace h_0 := vx h_0 hE; clear hE; refine zD (zA ?_)
 refine zY (fun a w => ∃ (O85 : Tags) (x82 : List api_Claim) (u83 : Value), a.fit 84 ∧ Base (Fr w0) O w0 O85 w ∧ a.get 7 = u83 ∧ OwnL 1 zB 33 (Fr w0) O85 w u83 x82 ∧ (jA x82).run n = some y) ?_ ?_
 ·
  refine wp_seq ?_
  refine' rb [_] mixed hA hB hO (cn (fun hE hK => zC rfl) .nil) ?zk5
  intro a5 w5 hA hE hB HF; refine kr6 HF q0 q1 q2 q7 q8 q9 ?_; clear q0 q1 q2 q7 q8 q9; intro q0 q1 q2 q7 q8 q9; have q10 := ksv (HF 10) rfl rfl rfl; clear HF; replace h_0 := vx h_0 hE; clear hE; refine zD (zA (wp_block ?_))
  obtain ⟨e2, he2, hk2⟩ := Comp.run_bind h; clear h
  refine vg (fun m a w => ∃ (O7 : Tags) (x1 : List api_Claim) (x4 : Bool) (x5 : Int) (x6 : Int) (u2 : Value), a.fit 84 ∧ Base (Fr w0) O w0 O7 w ∧ a.get 0 = v_0 ∧ (rSl (rSl (rInt .i64))).v O7 w v_0 x_0 ∧ a.get 1 = .int .i64 x_1 ∧ a.get 2 = .int .i64 x_2 ∧ a.get 7 = u2 ∧ OwnL 1 zB 33 (Fr w0) O7 w u2 x1 ∧ a.get 8 = .bool x4 ∧ a.get 9 = .int .i64 x5 ∧ a.get 10 = .int .i64 x6 ∧ Comp.loopN (fun s => vU x_0 x_2 x_1 s.1 s.2.1 s.2.2.1 s.2.2.2) n m (x1, x4, x5, x6) = some e2) (m := n) ?st2 ?_
  case st2 =>
   exact ⟨_, _, _, _, _, _, hA, hB, q0, h_0, q1, q2, q7, (OwnL.nil _ _ _ _ _ _), q8, q9, q10, Comp.yB he2⟩
  intro m_ a6 w6 hI
  clear hA hB he2 q0 q1 q2 q7 q8 q9 q10 h_0
  obtain ⟨O7, x1, x4, x5, x6, u2, hA, hB, q0, h_0, q1, q2, q7, f3, q8, q9, q10, hl⟩ := hI
  obtain ⟨m2, hlt2, st2, h, hnext2, hdone2⟩ := Comp.zg hl; clear hl
  replace h : (vU x_0 x_2 x_1 x1 x4 x5 x6).run n = some st2 := h
  unfold vU at h; refine wp_seq (wp_seq ?_)
  refine' rb [_, _, _, _, _, _, _, _, _, _] mixed hA hB hO (mv q10 (mv q0 (cn (fun hE hK => zw (r := (rSl (rInt .i64))) ty22 (ks 1 hK 16 rfl) (rd_of (vx h_0 hE))) (cn (fun hE hK => yY (ks 0 hK 15 rfl) (ks 2 hK 17 rfl)) (cn (fun hE hK => zI (ks 3 hK 18 rfl)) (mv q7 (.cons (fun _ _ hE hK hg => zw (r := zB) ty27 (kg 5 hK 20 rfl hg) (OwnL.rd (OwnL.ext f3 hE))) (mv q2 (.cons (fun _ _ hE hK hg => yY (kg 6 hK 21 rfl hg) (kg 7 hK 22 rfl hg)) (cn (fun hE hK => zh (ks 4 hK 19 rfl) (fun hb => kg 8 hK 23 rfl (yG rfl rfl hb)) (fun _ => rfl)) .nil)))))))))) ?zk6
  intro a7 w7 hA hE hB HF; refine kr7 HF q0 q1 q2 q7 q8 q9 q10 ?_; clear q0 q1 q2 q7 q8 q9 q10; intro q0 q1 q2 q7 q8 q9 q10; have q24 := ksv (HF 24) rfl rfl rfl; clear HF; replace h_0 := vx h_0 hE; replace f3 := f3.ext hE; clear hE
  obtain ⟨x8, hx_, h⟩ := Comp.run_bind h; replace hx_ := Comp.run_pure hx_; rw [hx_] at q24; clear hx_
  refine zD (zA ?_)
  revert h; refine cnd q24 (fun h => ?_) (fun h => ?_)
  ·
   refine wp_skip (zA ?_)
   refine zY (fun a w => ∃ (O79 : Tags) (x43 : List api_Claim) (x46 : Bool) (x47 : Int) (u44 : Value), a.fit 84 ∧ Base (Fr w0) O w0 O79 w ∧ a.get 0 = v_0 ∧ (rSl (rSl (rInt .i64))).v O79 w v_0 x_0 ∧ a.get 1 = .int .i64 x_1 ∧ a.get 2 = .int .i64 x_2 ∧ a.get 7 = u44 ∧ OwnL 1 zB 33 (Fr w0) O79 w u44 x43 ∧ a.get 8 = .bool x46 ∧ a.get 9 = .int .i64 x47 ∧ a.get 10 = .int .i64 x6 ∧ (vV x6 x43 x46 x47).run n = some st2) ?_ ?_
   ·
    refine wp_block (wp_seq ?_); obtain ⟨x9, hx9, h⟩ := Comp.run_bind h
    refine' rbT [_, _, SP.ptr (rSl (rInt .i64)) O7 x9, SP.vl (rSl (rInt .i64)) O7 x9] hA hB hO (mv q0 (mv q10 (cn (fun hE hK => yV (r := (rSl (rInt .i64))) (O := O7) ty22 ty23 rfl (ks 0 hK 27 rfl) (rd_of (vx h_0 hE)) (ks 1 hK 28 rfl) hx9) (cn (fun hE hK => yz (r := (rSl (rInt .i64))) (fun _ => rfl) ty23 rfl rfl rfl (kp (SP.ptr (rSl (rInt .i64)) O7 x9) 2 hK 29 rfl)) .nil)))) ?zk7
    intro a8 w8 hA hE hB HF; refine kr7 HF q0 q1 q2 q7 q8 q9 q10 ?_; clear q0 q1 q2 q7 q8 q9 q10; intro q0 q1 q2 q7 q8 q9 q10; obtain ⟨u10, q30, f11⟩ := kx (HF 30) rfl rfl rfl; clear q24 HF; replace h_0 := vx h_0 hE; replace f3 := f3.ext hE; clear hE
    refine l_ok (φ := SP.isv (.agg #[u10, .int .i64 0])) hO hB (by refine gE (vals := [(0, u10)]) (out := [u10, .int .i64 0]) plc88 ty88 ?_ rfl ?_ rfl; exact (vH (v := u10) q30 pk_nil); exact (.cons rfl (sl_cells f11 rfl rfl) rfl (leb rfl) .nil)) rfl fun u_ w9 hE hB' hv_ => ?_
    replace hv_ := Eq.symm hv_; subst hv_; clear hB; have hB := hB'; clear hB'
    replace h_0 := vx h_0 hE; replace f3 := f3.ext hE; replace f11 := vx f11 hE; clear hE
    refine zO hA (by decide) fun a10 hA q_ hfr => ?_
    refine kd8 hfr q0 q1 q2 q7 q8 q9 q10 q30 ?_; clear q0 q1 q2 q7 q8 q9 q10 q30; intro q0 q1 q2 q7 q8 q9 q10 q30; have q31 := q_; clear q_ hfr
    refine l_ok (φ := SP.box w9.heap.size #[u10, .int .i64 0] 88) hO hB (by exact ok_box (v := .agg #[u10, .int .i64 0]) (Nat.le_refl _) q31) rfl fun u12 w11 hE hB' f13 => ?_
    clear hB'; obtain ⟨O14, b16, hB', hX, e_, f15⟩ := boxNew hO hB hE f13 2 (by decide)
    subst e_; clear hB f13; have hB := hB'; clear hB'
    replace h_0 := vk h_0 hX
    replace f3 := f3.kx hX (by decide) (by decide)
    replace f11 := vk f11 hX; clear hX hE
    refine zO hA (by decide) fun a12 hA q_ hfr => ?_
    refine kd8 hfr q0 q1 q2 q7 q8 q9 q10 q31 ?_; clear q0 q1 q2 q7 q8 q9 q10 q31; intro q0 q1 q2 q7 q8 q9 q10 q31; have q32 := q_; clear q_ hfr
    refine l_ok (φ := SP.isv (.pointer (some ⟨b16, 0, none⟩))) hO hB (by exact zC q32) rfl fun u_ w13 hE hB' hv_ => ?_
    replace hv_ := Eq.symm hv_; subst hv_; clear hB; have hB := hB'; clear hB'
    replace h_0 := vx h_0 hE; replace f3 := f3.ext hE; replace f15 := f15.ext hE; replace f11 := vx f11 hE; clear hE
    refine zO hA (by decide) fun a14 hA q_ hfr => ?_
    refine kd8 hfr q0 q1 q2 q7 q8 q9 q10 q32 ?_; clear q0 q1 q2 q7 q8 q9 q10 q32; intro q0 q1 q2 q7 q8 q9 q10 q32; have q11 := q_; clear q_ hfr; refine zD (zA (wp_seq ?_)); obtain ⟨x17, hx17, h⟩ := Comp.run_bind h; obtain ⟨x18, hx18, h⟩ := Comp.run_bind h; obtain ⟨x19, hx19, h⟩ := Comp.run_bind h
    obtain ⟨J_, eJ_⟩ : ∃ J_ : (Nat → Bool) → Act → World → Prop, J_ = (fun S_ a_ w_ => ∃ O_ : Tags, Base (Fr w0) O w0 O_ w_ ∧ Keep 0 O14 w13 O_ w_ ∧ Keep 1 O14 w13 O_ w_ ∧ (S_ 0 = true → (rSl (rInt .i64)).v O_ w_ (a_.get 33) [2, 2, 3, 1]) ∧ (S_ 3 = true → PtrZ (rInt .i64) O_ w_ (a_.get 36) x18) ∧ (S_ 2 = false → BoxO 2 (Fr w0) O_ w_ b16 88 za (colletref01_Draw.mk x9 0)) ∧ (S_ 2 = true → S_ 6 = false → BoxO 2 (Fr w0) O_ w_ b16 88 za x17.1) ∧ (S_ 6 = true → BoxO 2 (Fr w0) O_ w_ b16 88 za x19.1) ∧ (S_ 9 = true → S_ 10 = false → OwnBP 3 (Fr w0) O_ w_ (a_.get 12) #[.int .i64 0, .int .i64 0, .int .i64 0, .slice none 0 0, .slice none 0 0] 33) ∧ (S_ 10 = true → OwnBP 3 (Fr w0) O_ w_ (a_.get 12) #[.int .i64 (IntKind.wrap .i64 (x19.2 - 1)), .int .i64 x18, .int .i64 0, .slice none 0 0, .slice none 0 0] 33)) := ⟨_, rfl⟩
    have T_ : ∀ {i_ : Nat} {d_ : Option Tmp} {v_ : Value} {S_ a' w' w2}, Nat.beq 0 i_ = false → Nat.beq 2 i_ = false → Nat.beq 3 i_ = false → Nat.beq 6 i_ = false → Nat.beq 9 i_ = false → Nat.beq 10 i_ = false → d_ ≠ some 12 → d_ ≠ some 33 → d_ ≠ some 36 → Ext w' w2 → J_ S_ a' w' → J_ (addS S_ i_) (a'.put d_ v_) w2 := by
     subst eJ_; intro i_ d_ v_ S_ a' w' w2 n0_ n2_ n3_ n6_ n9_ n10_ s12_ s33_ s36_ hE hJ_
     obtain ⟨O_, hB_, k0_, kk0_, m0_, m3_, v1_0_, v1_1_, v1_2_, v2_0_, v2_1_⟩ := hJ_
     exact ⟨O_, (Base.step hB_ hE hO), (k0_.trans (KX.keep (KX.ext hE) (by decide))), (kk0_.trans (KX.keep (KX.ext hE) (by decide))), fun h_ => zG (d := d_) (t := 33) (φ := fun u_ => (rSl (rInt .i64)).v O_ w2 u_ [2, 2, 3, 1]) ((GR.zM _ (m0_ (zF n0_ h_)) (KX.keep (KX.ext hE) (by decide)))) s33_, fun h_ => zG (d := d_) (t := 36) (φ := fun u_ => PtrZ (rInt .i64) O_ w2 u_ x18) ((PtrZ.keep (m3_ (zF n3_ h_)) (KX.keep (KX.ext hE) (by decide)) (by decide) (fun _ => rfl))) s36_, fun hq_ => BoxO.kx (v1_0_ (zW hq_)) (KX.ext hE) (by decide) (by decide), fun hp_ hq_ => BoxO.kx (v1_1_ (zF n2_ hp_) (zW hq_)) (KX.ext hE) (by decide) (by decide), fun hp_ => BoxO.kx (v1_2_ (zF n6_ hp_)) (KX.ext hE) (by decide) (by decide), fun hp_ hq_ => zG (d := d_) (t := 12) (φ := fun u_ => OwnBP 3 (Fr w0) O_ w2 (u_) #[.int .i64 0, .int .i64 0, .int .i64 0, .slice none 0 0, .slice none 0 0] 33) (OwnBP.kx (v2_0_ (zF n9_ hp_) (zW hq_)) (KX.ext hE) (by decide)) s12_, fun hp_ => zG (d := d_) (t := 12) (φ := fun u_ => OwnBP 3 (Fr w0) O_ w2 (u_) #[.int .i64 (IntKind.wrap .i64 (x19.2 - 1)), .int .i64 x18, .int .i64 0, .slice none 0 0, .slice none 0 0] 33) (OwnBP.kx (v2_1_ (zF n10_ hp_)) (KX.ext hE) (by decide)) s12_⟩
    refine' regionX (draw := true) J_ [SP.tt, SP.isv (.pointer (some ⟨b16, 0, none⟩)), SP.isv (.int .i64 x17.2), SP.tt, SP.isv (.int .i64 x18), SP.isv (.pointer (some ⟨b16, 0, none⟩)), SP.isv (.int .i64 x19.2), SP.isv (.int .i64 (IntKind.wrap .i64 (x19.2 - 1))), SP.isv (.agg #[.int .i64 (IntKind.wrap .i64 (x19.2 - 1)), .int .i64 x18, .int .i64 0, .slice none 0 0, .slice none 0 0]), SP.tt, SP.tt] mixed hA (.cons (go _) (.cons (zk _) (.cons (zk _) (.cons (go _) (.cons (zk _) (.cons (zk _) (.cons (zk _) (.cons (zk _) (.cons (zk _) (.cons (go _) (.cons (go _) .nil))))))))))) (.cons ?z8_0 (.cons ?z8_1 (.cons ?z8_2 (.cons ?z8_3 (.cons ?z8_4 (.cons ?z8_5 (.cons ?z8_6 (.cons ?z8_7 (.cons ?z8_8 (.cons ?z8_9 (.cons ?z8_10 .nil))))))))))) ?zsk8 ?zst8 ?zok8 ?zgd8 ?zk8
    case z8_0 =>
     intro S_ a' w' hA_ hJ_ hS_ hafter_ hbef_ hK hg K_ Q_ hK_
     subst eJ_
     obtain ⟨O_, hB_, k0_, kk0_, m0_, m3_, v1_0_, v1_1_, v1_2_, v2_0_, v2_1_⟩ := hJ_
     refine x_ok (φ := SP.vl (rSl (rInt .i64)) O_ [2, 2, 3, 1]) (by exact zR (r := (rInt .i64)) (fun _ => rfl) rfl hB_.ok ty23 ty3 (zV rfl (zV rfl (zV rfl (zV rfl zz)))) ⟨(by exact zZ.2 rfl), ⟨(by exact zZ.2 rfl), ⟨(by exact zZ.2 rfl), ⟨(by exact zZ.2 rfl), trivial⟩⟩⟩⟩ rfl (by decide)) fun v_ w2 hE hv_ => ?_
     have hB2_ := Base.step hB_ hE hO
     exact hK_ v_ w2 ⟨O_, hB2_, (k0_.trans (KX.keep (KX.ext hE) (by decide))), (kk0_.trans (KX.keep (KX.ext hE) (by decide))), fun _ => jM (φ := fun u_ => (rSl (rInt .i64)).v O_ w2 u_ [2, 2, 3, 1]) hA_ (by decide) hv_, fun h_ => zG (d := some 33) (t := 36) (φ := fun u_ => PtrZ (rInt .i64) O_ w2 u_ x18) ((PtrZ.keep (m3_ (zF rfl h_)) (KX.keep (KX.ext hE) (by decide)) (by decide) (fun _ => rfl))) (by decide), fun hq_ => BoxO.kx (v1_0_ (zW hq_)) (KX.ext hE) (by decide) (by decide), fun hp_ hq_ => BoxO.kx (v1_1_ (zF rfl hp_) (zW hq_)) (KX.ext hE) (by decide) (by decide), fun hp_ => BoxO.kx (v1_2_ (zF rfl hp_)) (KX.ext hE) (by decide) (by decide), fun hp_ hq_ => zG (d := some 33) (t := 12) (φ := fun u_ => OwnBP 3 (Fr w0) O_ w2 (u_) #[.int .i64 0, .int .i64 0, .int .i64 0, .slice none 0 0, .slice none 0 0] 33) (OwnBP.kx (v2_0_ (zF rfl hp_) (zW hq_)) (KX.ext hE) (by decide)) (by decide), fun hp_ => zG (d := some 33) (t := 12) (φ := fun u_ => OwnBP 3 (Fr w0) O_ w2 (u_) #[.int .i64 (IntKind.wrap .i64 (x19.2 - 1)), .int .i64 x18, .int .i64 0, .slice none 0 0, .slice none 0 0] 33) (OwnBP.kx (v2_1_ (zF rfl hp_)) (KX.ext hE) (by decide)) (by decide)⟩ trivial
    case z8_1 =>
     intro S_ a' w' hA_ hJ_ hS_ hafter_ hbef_ hK hg K_ Q_ hK_
     refine x_ok (φ := SP.isv (.pointer (some ⟨b16, 0, none⟩))) (by exact zI (kq hK q11)) fun v_ w2 hE hv_ => hK_ v_ w2 (T_ rfl rfl rfl rfl rfl rfl (by decide) (by decide) (by decide) hE hJ_) hv_
    case z8_2 =>
     intro S_ a' w' hA_ hJ_ hS_ hafter_ hbef_ hK hg K_ Q_ hK_
     subst eJ_
     obtain ⟨O_, hB_, k0_, kk0_, m0_, m3_, v1_0_, v1_1_, v1_2_, v2_0_, v2_1_⟩ := hJ_
     refine x_pio (r := za) hO hB_ (yJ hB_) fn54 (map2 (ks 1 hK 34 rfl) rfl) (yW hB_.ok (BoxO.arg (v1_0_ hS_) (by decide)) hx17) (v1_0_ hS_) fun v_ w2 f_ hB2_ hX_ hv_ => ?_
     exact hK_ v_ w2 ⟨O_, hB2_, (k0_.trans (KX.keep hX_ (by decide))), (kk0_.trans (KX.keep hX_ (by decide))), fun h_ => zG (d := some 35) (t := 33) (φ := fun u_ => (rSl (rInt .i64)).v O_ w2 u_ [2, 2, 3, 1]) ((GR.zM _ (m0_ (zF rfl h_)) (KX.keep hX_ (by decide)))) (by decide), fun h_ => zG (d := some 35) (t := 36) (φ := fun u_ => PtrZ (rInt .i64) O_ w2 u_ x18) ((PtrZ.keep (m3_ (zF rfl h_)) (KX.keep hX_ (by decide)) (by decide) (fun _ => rfl))) (by decide), fun hq_ => addS_me hq_, fun hp_ hq_ => f_, fun hp_ => no_tf (zF rfl hp_) (hafter_ 6 (by kernel_rfl)), fun hp_ hq_ => zG (d := some 35) (t := 12) (φ := fun u_ => OwnBP 3 (Fr w0) O_ w2 (u_) #[.int .i64 0, .int .i64 0, .int .i64 0, .slice none 0 0, .slice none 0 0] 33) (OwnBP.kx (v2_0_ (zF rfl hp_) (zW hq_)) hX_ (by decide)) (by decide), fun hp_ => zG (d := some 35) (t := 12) (φ := fun u_ => OwnBP 3 (Fr w0) O_ w2 (u_) #[.int .i64 (IntKind.wrap .i64 (x19.2 - 1)), .int .i64 x18, .int .i64 0, .slice none 0 0, .slice none 0 0] 33) (OwnBP.kx (v2_1_ (zF rfl hp_)) hX_ (by decide)) (by decide)⟩ hv_
    case z8_3 =>
     intro S_ a' w' hA_ hJ_ hS_ hafter_ hbef_ hK hg K_ Q_ hK_
     subst eJ_
     obtain ⟨O_, hB_, k0_, kk0_, m0_, m3_, v1_0_, v1_1_, v1_2_, v2_0_, v2_1_⟩ := hJ_
     refine x_ok (φ := SP.ptrz (rInt .i64) O_ x18 (of_decide_eq_true rfl) (fun _ => rfl)) (by exact okl_idxZ (r := (rInt .i64)) (by decide) (fun _ => rfl) ty23 ty3 rfl rfl (m0_ (zF rfl (hbef_ 0 (by kernel_rfl)))) (ks 2 hK 35 rfl) hx18) fun v_ w2 hE hv_ => ?_
     have hB2_ := Base.step hB_ hE hO
     exact hK_ v_ w2 ⟨O_, hB2_, (k0_.trans (KX.keep (KX.ext hE) (by decide))), (kk0_.trans (KX.keep (KX.ext hE) (by decide))), fun h_ => zG (d := some 36) (t := 33) (φ := fun u_ => (rSl (rInt .i64)).v O_ w2 u_ [2, 2, 3, 1]) ((GR.zM _ (m0_ (zF rfl h_)) (KX.keep (KX.ext hE) (by decide)))) (by decide), fun _ => jM (φ := fun u_ => PtrZ (rInt .i64) O_ w2 u_ x18) hA_ (by decide) hv_, fun hq_ => BoxO.kx (v1_0_ (zW hq_)) (KX.ext hE) (by decide) (by decide), fun hp_ hq_ => BoxO.kx (v1_1_ (zF rfl hp_) (zW hq_)) (KX.ext hE) (by decide) (by decide), fun hp_ => BoxO.kx (v1_2_ (zF rfl hp_)) (KX.ext hE) (by decide) (by decide), fun hp_ hq_ => zG (d := some 36) (t := 12) (φ := fun u_ => OwnBP 3 (Fr w0) O_ w2 (u_) #[.int .i64 0, .int .i64 0, .int .i64 0, .slice none 0 0, .slice none 0 0] 33) (OwnBP.kx (v2_0_ (zF rfl hp_) (zW hq_)) (KX.ext hE) (by decide)) (by decide), fun hp_ => zG (d := some 36) (t := 12) (φ := fun u_ => OwnBP 3 (Fr w0) O_ w2 (u_) #[.int .i64 (IntKind.wrap .i64 (x19.2 - 1)), .int .i64 x18, .int .i64 0, .slice none 0 0, .slice none 0 0] 33) (OwnBP.kx (v2_1_ (zF rfl hp_)) (KX.ext hE) (by decide)) (by decide)⟩ trivial
    case z8_4 =>
     intro S_ a' w' hA_ hJ_ hS_ hafter_ hbef_ hK hg K_ Q_ hK_
     have hJ2_ := hJ_; rw [eJ_] at hJ2_; obtain ⟨O_, hB_, k0_, kk0_, m0_, m3_, v1_0_, v1_1_, v1_2_, v2_0_, v2_1_⟩ := hJ2_
     refine x_ok (φ := SP.isv (.int .i64 x18)) (by exact zn (rInt .i64) (fun _ => rfl) ty3 rfl rfl rfl (PtrZ.ptr (m3_ (zF rfl (hbef_ 3 (by kernel_rfl))))) (fun _ _ _ h => zZ.1 h)) fun v_ w2 hE hv_ => hK_ v_ w2 (T_ rfl rfl rfl rfl rfl rfl (by decide) (by decide) (by decide) hE hJ_) hv_
    case z8_5 =>
     intro S_ a' w' hA_ hJ_ hS_ hafter_ hbef_ hK hg K_ Q_ hK_
     refine x_ok (φ := SP.isv (.pointer (some ⟨b16, 0, none⟩))) (by exact zI (kq hK q11)) fun v_ w2 hE hv_ => hK_ v_ w2 (T_ rfl rfl rfl rfl rfl rfl (by decide) (by decide) (by decide) hE hJ_) hv_
    case z8_6 =>
     intro S_ a' w' hA_ hJ_ hS_ hafter_ hbef_ hK hg K_ Q_ hK_
     subst eJ_
     obtain ⟨O_, hB_, k0_, kk0_, m0_, m3_, v1_0_, v1_1_, v1_2_, v2_0_, v2_1_⟩ := hJ_
     refine x_pio (r := za) hO hB_ (yJ hB_) fn54 (map2 (ks 5 hK 38 rfl) rfl) (yW hB_.ok (BoxO.arg (v1_1_ (zF rfl (hbef_ 2 (by kernel_rfl))) hS_) (by decide)) hx19) (v1_1_ (zF rfl (hbef_ 2 (by kernel_rfl))) hS_) fun v_ w2 f_ hB2_ hX_ hv_ => ?_
     exact hK_ v_ w2 ⟨O_, hB2_, (k0_.trans (KX.keep hX_ (by decide))), (kk0_.trans (KX.keep hX_ (by decide))), fun h_ => zG (d := some 39) (t := 33) (φ := fun u_ => (rSl (rInt .i64)).v O_ w2 u_ [2, 2, 3, 1]) ((GR.zM _ (m0_ (zF rfl h_)) (KX.keep hX_ (by decide)))) (by decide), fun h_ => zG (d := some 39) (t := 36) (φ := fun u_ => PtrZ (rInt .i64) O_ w2 u_ x18) ((PtrZ.keep (m3_ (zF rfl h_)) (KX.keep hX_ (by decide)) (by decide) (fun _ => rfl))) (by decide), fun hq_ => no_tf (hbef_ 2 (by kernel_rfl)) hq_, fun hp_ hq_ => addS_me hq_, fun hp_ => f_, fun hp_ hq_ => zG (d := some 39) (t := 12) (φ := fun u_ => OwnBP 3 (Fr w0) O_ w2 (u_) #[.int .i64 0, .int .i64 0, .int .i64 0, .slice none 0 0, .slice none 0 0] 33) (OwnBP.kx (v2_0_ (zF rfl hp_) (zW hq_)) hX_ (by decide)) (by decide), fun hp_ => zG (d := some 39) (t := 12) (φ := fun u_ => OwnBP 3 (Fr w0) O_ w2 (u_) #[.int .i64 (IntKind.wrap .i64 (x19.2 - 1)), .int .i64 x18, .int .i64 0, .slice none 0 0, .slice none 0 0] 33) (OwnBP.kx (v2_1_ (zF rfl hp_)) hX_ (by decide)) (by decide)⟩ hv_
    case z8_7 =>
     intro S_ a' w' hA_ hJ_ hS_ hafter_ hbef_ hK hg K_ Q_ hK_
     refine x_ok (φ := SP.isv (.int .i64 (IntKind.wrap .i64 (x19.2 - 1)))) (by exact ok_sub (ks 6 hK 39 rfl) rfl) fun v_ w2 hE hv_ => hK_ v_ w2 (T_ rfl rfl rfl rfl rfl rfl (by decide) (by decide) (by decide) hE hJ_) hv_
    case z8_8 =>
     intro S_ a' w' hA_ hJ_ hS_ hafter_ hbef_ hK hg K_ Q_ hK_
     refine x_ok (φ := SP.isv (.agg #[.int .i64 (IntKind.wrap .i64 (x19.2 - 1)), .int .i64 x18, .int .i64 0, .slice none 0 0, .slice none 0 0])) (by exact gE plc33 ty33 (vH (v := .int .i64 x18) (ksv (j := 4) (hK 37 rfl) rfl rfl rfl) (vH (v := .int .i64 (IntKind.wrap .i64 (x19.2 - 1))) (ksv (j := 7) (hK 40 rfl) rfl rfl rfl) pk_nil)) rfl (.cons rfl rfl rfl (leb rfl) (.cons rfl rfl rfl (leb rfl) .nil)) rfl) fun v_ w2 hE hv_ => hK_ v_ w2 (T_ rfl rfl rfl rfl rfl rfl (by decide) (by decide) (by decide) hE hJ_) hv_
    case z8_9 =>
     intro S_ a' w' hA_ hJ_ hS_ hafter_ hbef_ hK hg K_ Q_ hK_
     subst eJ_
     obtain ⟨O_, hB_, k0_, kk0_, m0_, m3_, v1_0_, v1_1_, v1_2_, v2_0_, v2_1_⟩ := hJ_
     refine x_ok (φ := SP.box w'.heap.size #[.int .i64 0, .int .i64 0, .int .i64 0, .slice none 0 0, .slice none 0 0] 33) (by exact ga (Nat.le_refl _) ty33) fun v_ w2 hE hv_ => ?_
     obtain ⟨O2_, b_, hB2_, hX_, e_, f_⟩ := boxNew hO hB_ hE hv_ 3 (by decide)
     exact hK_ v_ w2 ⟨O2_, hB2_, (k0_.trans (KX.keep hX_ (by decide))), (kk0_.trans (KX.keep hX_ (by decide))), fun h_ => zG (d := some 12) (t := 33) (φ := fun u_ => (rSl (rInt .i64)).v O2_ w2 u_ [2, 2, 3, 1]) ((GR.zM _ (m0_ (zF rfl h_)) (KX.keep hX_ (by decide)))) (by decide), fun h_ => zG (d := some 12) (t := 36) (φ := fun u_ => PtrZ (rInt .i64) O2_ w2 u_ x18) ((PtrZ.keep (m3_ (zF rfl h_)) (KX.keep hX_ (by decide)) (by decide) (fun _ => rfl))) (by decide), fun hq_ => BoxO.kx (v1_0_ (zW hq_)) hX_ (by decide) (by decide), fun hp_ hq_ => BoxO.kx (v1_1_ (zF rfl hp_) (zW hq_)) hX_ (by decide) (by decide), fun hp_ => BoxO.kx (v1_2_ (zF rfl hp_)) hX_ (by decide) (by decide), fun hp_ hq_ => jM (φ := fun u_ => OwnBP 3 (Fr w0) O2_ w2 (u_) #[.int .i64 0, .int .i64 0, .int .i64 0, .slice none 0 0, .slice none 0 0] 33) hA_ (by decide) ⟨b_, e_, f_⟩, fun hp_ => no_tf (zF rfl hp_) (hafter_ 10 (by kernel_rfl))⟩ trivial
    case z8_10 =>
     intro S_ a' w' hA_ hJ_ hS_ hafter_ hbef_ hK hg K_ Q_ hK_
     subst eJ_
     obtain ⟨O_, hB_, k0_, kk0_, m0_, m3_, v1_0_, v1_1_, v1_2_, v2_0_, v2_1_⟩ := hJ_
     obtain ⟨b_, eb_, fb_⟩ := (v2_0_ (zF rfl (hbef_ 9 (by kernel_rfl))) hS_)
     refine x_storeSub (vs := [.int .i64 (IntKind.wrap .i64 (x19.2 - 1)), .int .i64 x18, .int .i64 0, .slice none 0 0, .slice none 0 0]) (cs' := #[.int .i64 (IntKind.wrap .i64 (x19.2 - 1)), .int .i64 x18, .int .i64 0, .slice none 0 0, .slice none 0 0]) hO hB_ (yJ hB_) ty33 eb_ (ks 8 hK 41 rfl) rfl (by simp [Value.oneCell']) fb_ (by simp) rfl fun w2 f_ hB2_ hX_ => ?_
     exact hK_ undef w2 ⟨O_, hB2_, (k0_.trans (KX.keep hX_ (by decide))), (kk0_.trans (KX.keep hX_ (by decide))), fun h_ => zG (d := none) (t := 33) (φ := fun u_ => (rSl (rInt .i64)).v O_ w2 u_ [2, 2, 3, 1]) ((GR.zM _ (m0_ (zF rfl h_)) (KX.keep hX_ (by decide)))) (by decide), fun h_ => zG (d := none) (t := 36) (φ := fun u_ => PtrZ (rInt .i64) O_ w2 u_ x18) ((PtrZ.keep (m3_ (zF rfl h_)) (KX.keep hX_ (by decide)) (by decide) (fun _ => rfl))) (by decide), fun hq_ => BoxO.kx (v1_0_ (zW hq_)) hX_ (by decide) (by decide), fun hp_ hq_ => BoxO.kx (v1_1_ (zF rfl hp_) (zW hq_)) hX_ (by decide) (by decide), fun hp_ => BoxO.kx (v1_2_ (zF rfl hp_)) hX_ (by decide) (by decide), fun hp_ hq_ => addS_me hq_, fun hp_ => zG (d := none) (t := 12) (φ := fun u_ => OwnBP 3 (Fr w0) O_ w2 (u_) #[.int .i64 (IntKind.wrap .i64 (x19.2 - 1)), .int .i64 x18, .int .i64 0, .slice none 0 0, .slice none 0 0] 33) (⟨b_, eb_, f_⟩) (by decide)⟩ trivial
    case zsk8 =>
     subst eJ_
     intro i_ o_ S_ a_ w_ ho_ hact_ hA_ hS_ hbef_ hJ_
     obtain ⟨O_, hB_, k0_, kk0_, m0_, m3_, v1_0_, v1_1_, v1_2_, v2_0_, v2_1_⟩ := hJ_
     exact ⟨O_, hB_, k0_, kk0_, fun h_ => by obtain ⟨h1_, h2_⟩ := yK (j := 0) hact_ rfl h_; exact zG (t := 33) (φ := fun u_ => (rSl (rInt .i64)).v O_ w_ u_ [2, 2, 3, 1]) (m0_ h1_) (yF (j := 0) (by kernel_rfl) ho_ h2_), fun h_ => by obtain ⟨h1_, h2_⟩ := yK (j := 3) hact_ rfl h_; exact zG (t := 36) (φ := fun u_ => PtrZ (rInt .i64) O_ w_ u_ x18) (m3_ h1_) (yF (j := 3) (by kernel_rfl) ho_ h2_), fun hq_ => (v1_0_ (zW hq_)), fun hp_ hq_ => by obtain ⟨h1_, h2_⟩ := yK (j := 2) hact_ rfl hp_; exact (v1_1_ h1_ (zW hq_)), fun hp_ => by obtain ⟨h1_, h2_⟩ := yK (j := 6) hact_ rfl hp_; exact (v1_2_ h1_), fun hp_ hq_ => by obtain ⟨h1_, h2_⟩ := yK (j := 9) hact_ rfl hp_; exact zG (t := 12) (φ := fun u_ => OwnBP 3 (Fr w0) O_ w_ (u_) #[.int .i64 0, .int .i64 0, .int .i64 0, .slice none 0 0, .slice none 0 0] 33) (v2_0_ h1_ (zW hq_)) (yF (j := 9) (by kernel_rfl) ho_ h2_), fun hp_ => by obtain ⟨h1_, h2_⟩ := yK (j := 10) hact_ rfl hp_; exact zG (t := 12) (φ := fun u_ => OwnBP 3 (Fr w0) O_ w_ (u_) #[.int .i64 (IntKind.wrap .i64 (x19.2 - 1)), .int .i64 x18, .int .i64 0, .slice none 0 0, .slice none 0 0] 33) (v2_1_ h1_) (yF (j := 9) (by kernel_rfl) ho_ (skip_ne hact_ rfl))⟩
    case zst8 => subst eJ_; exact fun w1_ hE_ => ⟨O14, (Base.step hB hE_ hO), (Keep.ext hE_), (Keep.ext hE_), fun h_ => no_ft h_, fun h_ => no_ft h_, fun _ => BoxO.ext ⟨_, f15, ⟨_, _, rfl, (va (r := (rSl (rInt .i64))) f11 rfl rfl), ⟨_, _, rfl, rfl, rfl⟩⟩⟩ hE_, fun hp_ => no_ft hp_, fun hp_ => no_ft hp_, fun hp_ => no_ft hp_, fun hp_ => no_ft hp_⟩
    case zok8 | zgd8 => kernel_rfl
    subst eJ_; clear T_
    intro a15 w15 hA HF hJ_
    obtain ⟨O20, hB_, k0_, kk0_, m0_, m3_, v1_0_, v1_1_, v1_2_, v2_0_, v2_1_⟩ := hJ_
    replace q0 := kn (HF 0) rfl q0
    replace q1 := kn (HF 1) rfl q1
    replace q2 := kn (HF 2) rfl q2
    replace q7 := kn (HF 7) rfl q7
    replace q8 := kn (HF 8) rfl q8
    replace q9 := kn (HF 9) rfl q9
    replace q10 := kn (HF 10) rfl q10
    replace q11 := kn (HF 11) rfl q11
    obtain ⟨b21, q12', f22⟩ := (v2_1_ rfl)
    have q12 := q12'; clear q12'
    clear HF
    replace h_0 := GR.zM _ h_0 k0_
    replace f3 := OwnL.keep f3 k0_ kk0_
    have f23 := (v1_2_ rfl)
    clear f15; clear hB; have hB := hB_; clear hB_
    have hz_ := f23; clear f23; obtain ⟨cs_, f24, hr_⟩ := hz_
    obtain ⟨u25, e_, f26⟩ := vv hr_; subst e_
    clear k0_ kk0_ m0_ m3_ v1_0_ v1_1_ v1_2_ v2_0_ v2_1_; refine zA (wp_seq ?_); obtain ⟨x27, hx27, h⟩ := Comp.run_bind h
    refine' rbT [_, _, _] hA hB hO (mv q11 (mv q1 (cn (fun hE hK => okl_shl rfl (ks 1 hK 43 rfl) (ye hx27)) .nil))) ?zk9
    intro a16 w16 hA hE hB HF; refine kr9 HF q0 q1 q2 q7 q8 q9 q10 q11 q12 ?_; clear q0 q1 q2 q7 q8 q9 q10 q11 q12; intro q0 q1 q2 q7 q8 q9 q10 q11 q12; have q42 := ksv (HF 42) rfl rfl rfl; have q44 := ksv (HF 44) rfl rfl rfl; clear HF; replace h_0 := vx h_0 hE; replace f3 := f3.ext hE; replace f24 := f24.ext hE; replace f26 := vx f26 hE; replace f22 := f22.ext hE; clear hE; obtain ⟨x28, hx28, h⟩ := Comp.run_bind h
    refine l_pio (r := za) (x := x19.1) hO hB (yJ hB) fn54 (map2 q42 q44) (yW hB.ok (BoxO.arg (show BoxO 2 (Fr w0) O20 w16 b16 88 za x19.1 from ⟨_, f24, ⟨_, _, rfl, (va (r := (rSl (rInt .i64))) f26 rfl rfl), ⟨_, _, rfl, rfl, rfl⟩⟩⟩) (by decide)) hx28) ⟨_, f24, ⟨_, _, rfl, (va (r := (rSl (rInt .i64))) f26 rfl rfl), ⟨_, _, rfl, rfl, rfl⟩⟩⟩ fun u29 w17 f31 hB' hX f30 => ?_
    clear hB f24; have hB := hB'; clear hB'; replace h_0 := vk h_0 hX
    replace f3 := f3.kx hX (by decide) (by decide)
    replace f26 := vk f26 hX
    replace f22 := f22.kx hX (by decide)
    clear hX
    have hz_ := f31; clear f31; obtain ⟨cs_, f32, hr_⟩ := hz_
    obtain ⟨u33, e_, f34⟩ := vv hr_; subst e_
    replace f30 : _ = _ := f30; subst f30
    refine zO hA (by decide) fun a18 hA q_ hfr => ?_
    refine kd11 hfr q0 q1 q2 q7 q8 q9 q10 q11 q12 q42 q44 ?_; clear q0 q1 q2 q7 q8 q9 q10 q11 q12 q42 q44; intro q0 q1 q2 q7 q8 q9 q10 q11 q12 q42 q44; have q45 := q_; clear q_ hfr
    refine l_ok (φ := SP.isv (.int .i64 x28.2)) hO hB (by exact zC q45) rfl fun u_ w19 hE hB' hv_ => ?_
    replace hv_ := Eq.symm hv_; subst hv_; clear hB; have hB := hB'; clear hB'
    replace h_0 := vx h_0 hE; replace f3 := f3.ext hE; replace f32 := f32.ext hE; replace f34 := vx f34 hE; replace f22 := f22.ext hE; clear hE
    refine zO hA (by decide) fun a20 hA q_ hfr => ?_
    refine kd10 hfr q0 q1 q2 q7 q8 q9 q10 q11 q12 q45 ?_; clear q0 q1 q2 q7 q8 q9 q10 q11 q12 q45; intro q0 q1 q2 q7 q8 q9 q10 q11 q12 q45; have q13 := q_; clear q_ hfr; refine zD (zA (wp_seq ?_)); obtain ⟨x35, hx35, h⟩ := Comp.run_bind h
    refine' rbT [_, _, _] hA hB hO (mv q11 (mv q1 (cn (fun hE hK => okl_shl rfl (ks 1 hK 47 rfl) (ye hx35)) .nil))) ?zk10
    intro a21 w21 hA hE hB HF; refine kr9 HF q0 q1 q2 q7 q8 q9 q10 q12 q13 ?_; clear q0 q1 q2 q7 q8 q9 q10 q12 q13; intro q0 q1 q2 q7 q8 q9 q10 q12 q13; have q46 := ksv (HF 46) rfl rfl rfl; have q48 := ksv (HF 48) rfl rfl rfl; clear q11 HF; replace h_0 := vx h_0 hE; replace f3 := f3.ext hE; replace f32 := f32.ext hE; replace f34 := vx f34 hE; replace f22 := f22.ext hE; clear hE; obtain ⟨x36, hx36, h⟩ := Comp.run_bind h
    refine l_pio (r := za) (x := x28.1) hO hB (yJ hB) fn54 (map2 q46 q48) (yW hB.ok (BoxO.arg (show BoxO 2 (Fr w0) O20 w21 b16 88 za x28.1 from ⟨_, f32, ⟨_, _, rfl, (va (r := (rSl (rInt .i64))) f34 rfl rfl), ⟨_, _, rfl, rfl, rfl⟩⟩⟩) (by decide)) hx36) ⟨_, f32, ⟨_, _, rfl, (va (r := (rSl (rInt .i64))) f34 rfl rfl), ⟨_, _, rfl, rfl, rfl⟩⟩⟩ fun u37 w22 f39 hB' hX f38 => ?_
    clear hB f32; have hB := hB'; clear hB'; replace h_0 := vk h_0 hX
    replace f3 := f3.kx hX (by decide) (by decide)
    replace f34 := vk f34 hX
    replace f22 := f22.kx hX (by decide)
    clear hX
    have hz_ := f39; clear f39; obtain ⟨cs_, f40, hr_⟩ := hz_
    obtain ⟨u41, e_, f42⟩ := vv hr_; subst e_
    replace f38 : _ = _ := f38; subst f38
    refine zO hA (by decide) fun a23 hA q_ hfr => ?_
    refine kd11 hfr q0 q1 q2 q7 q8 q9 q10 q12 q13 q46 q48 ?_; clear q0 q1 q2 q7 q8 q9 q10 q12 q13 q46 q48; intro q0 q1 q2 q7 q8 q9 q10 q12 q13 q46 q48; have q49 := q_; clear q_ hfr
    refine l_ok (φ := SP.isv (.int .i64 x36.2)) hO hB (by exact zC q49) rfl fun u_ w24 hE hB' hv_ => ?_
    replace hv_ := Eq.symm hv_; subst hv_; clear hB; have hB := hB'; clear hB'
    replace h_0 := vx h_0 hE; replace f3 := f3.ext hE; replace f22 := f22.ext hE; clear hE
    refine zO hA (by decide) fun a25 hA q_ hfr => ?_
    refine kd10 hfr q0 q1 q2 q7 q8 q9 q10 q12 q13 q49 ?_; clear q0 q1 q2 q7 q8 q9 q10 q12 q13 q49; intro q0 q1 q2 q7 q8 q9 q10 q12 q13 q49; have q14 := q_; clear q_ hfr; refine zD (zA ?_)
    refine zY (fun a w => ∃ (O72 : Tags) (x52 : Bool) (x53 : Int) (x54 : Int) (x55 : Int) (x56 : Int) (x57 : List Int) (x60 : List Int) (u58 : Value) (u61 : Value), a.fit 84 ∧ Base (Fr w0) O w0 O72 w ∧ a.get 0 = v_0 ∧ (rSl (rSl (rInt .i64))).v O72 w v_0 x_0 ∧ a.get 1 = .int .i64 x_1 ∧ a.get 2 = .int .i64 x_2 ∧ a.get 7 = u2 ∧ OwnL 1 zB 33 (Fr w0) O72 w u2 x1 ∧ a.get 8 = .bool x52 ∧ a.get 9 = .int .i64 x53 ∧ a.get 10 = .int .i64 x6 ∧ a.get 12 = .pointer (some ⟨b21, 0, none⟩) ∧ OwnB 3 (Fr w0) O72 w b21 #[.int .i64 x54, .int .i64 x55, .int .i64 x56, u58, u61] 33 ∧ (rSl (rInt .i64)).v O72 w u58 x57 ∧ (rSl (rInt .i64)).v O72 w u61 x60 ∧ (yb x1 x6 x52 x53 x54 x55 x56 x57 x60).run n = some st2) ?_ ?_
    ·
     refine wp_seq ?_
     refine' rb [SP.isv (.pointer (some ⟨b21, 1, none⟩)), SP.isv (.int .i64 x18)] mixed hA hB hO (cn (fun hE hK => zJ fl33_1 (kq hK q12)) (cn (fun hE hK => zX ty3 rfl (ks 0 hK 50 rfl) (OwnB.ext f22 hE).own rfl) .nil)) ?zk11
     intro a26 w26 hA hE hB HF; refine kr10 HF q0 q1 q2 q7 q8 q9 q10 q12 q13 q14 ?_; clear q0 q1 q2 q7 q8 q9 q10 q12 q13 q14; intro q0 q1 q2 q7 q8 q9 q10 q12 q13 q14; have q51 := ksv (HF 51) rfl rfl rfl; clear HF; replace h_0 := vx h_0 hE; replace f3 := f3.ext hE; replace f22 := f22.ext hE; clear hE; refine zD (zA (wp_block (wp_seq ?_)))
     refine' rb [_, _] mixed hA hB hO (cn (fun hE hK => yR (kq hK q51) rfl) (cn (fun hE hK => zC (ks 0 hK 53 rfl)) .nil)) ?zk12
     intro a27 w27 hA hE hB HF; refine kr11 HF q0 q1 q2 q7 q8 q9 q10 q12 q13 q14 q51 ?_; clear q0 q1 q2 q7 q8 q9 q10 q12 q13 q14 q51; intro q0 q1 q2 q7 q8 q9 q10 q12 q13 q14 q51; have q52 := ksv (HF 52) rfl rfl rfl; clear HF; replace h_0 := vx h_0 hE; replace f3 := f3.ext hE; replace f22 := f22.ext hE; clear hE; refine zD (zA ?_)
     revert h; refine cnd q52 (fun h => ?_) (fun h => ?_)
     ·
      refine wp_seq (wp_seq ?_)
      refine' rb [_] mixed hA hB hO (mv q8 .nil) ?zk13
      intro a28 w28 hA hE hB HF; refine kr10 HF q0 q1 q2 q7 q8 q9 q10 q12 q13 q14 ?_; clear q0 q1 q2 q7 q8 q9 q10 q12 q13 q14; intro q0 q1 q2 q7 q8 q9 q10 q12 q13 q14; have q54 := ksv (HF 54) rfl rfl rfl; clear q51 q52 HF; replace h_0 := vx h_0 hE; replace f3 := f3.ext hE; replace f22 := f22.ext hE; clear hE; refine zD (zA ?_)
      revert h; refine cnd q54 (fun h => ?_) (fun h => ?_)
      ·
       refine wp_exit ?_
       refine (zT (ex_other rfl (zT (yS ?_))))
       refine zA ?_
       exact ⟨_, _, _, _, _, hA, hB, q0, h_0, q1, q2, q7, f3, q8, q9, q10, h⟩
      ·
       refine wp_skip (zA (wp_seq ?_))
       refine' rb [_] mixed hA hB hO (cn (fun hE hK => zC rfl) .nil) ?zk14
       intro a29 w29 hA hE hB HF; refine kr9 HF q0 q1 q2 q7 q9 q10 q12 q13 q14 ?_; clear q0 q1 q2 q7 q9 q10 q12 q13 q14; intro q0 q1 q2 q7 q9 q10 q12 q13 q14; replace q8 := ksv (HF 8) rfl rfl rfl; clear q54 HF; replace h_0 := vx h_0 hE; replace f3 := f3.ext hE; replace f22 := f22.ext hE; clear hE; refine zD (zA ?_); obtain ⟨x48, hx48, h⟩ := Comp.run_bind h
       refine' rbT [_, _, _, _, SP.vl (rSl (rInt .i64)) O20 x48, SP.isv (.pointer (some ⟨b21, 4, none⟩))] hA hB hO (mv q13 (mv q14 (cn (fun hE hK => okb_or (ks 0 hK 55 rfl) (ks 1 hK 56 rfl)) (mv q1 (.cons (fun _ _ hE hK hg => yO (yg fn55 (ks 2 hK 57 rfl) (ks 3 hK 58 rfl) (kF (OkO.ext hB.ok hE)  hx48)) (fun _ _ _ h => (OwnR.val h (fun g hg => (OkO.ext hB.ok hE) g (OwnR.ge h g hg).1)))) (cn (fun hE hK => zJ fl33_4 (kq hK q12)) .nil)))))) ?zk15
       intro a30 w30 hA hE hB HF; refine kr8 HF q0 q1 q2 q7 q8 q9 q10 q12 ?_; clear q0 q1 q2 q7 q8 q9 q10 q12; intro q0 q1 q2 q7 q8 q9 q10 q12; obtain ⟨u49, q59, f50⟩ := kx (HF 59) rfl rfl rfl; have q60 := ksv (HF 60) rfl rfl rfl; clear q13 q14 HF; replace h_0 := vx h_0 hE; replace f3 := f3.ext hE; replace f22 := f22.ext hE; clear hE
       refine js (cs' := #[.int .i64 (IntKind.wrap .i64 (x19.2 - 1)), .int .i64 x18, .int .i64 0, .slice none 0 0, u49]) hO hB (yJ hB) ty23 q60 q59 (sl_cells f50 rfl rfl) (sl_one f50 rfl rfl) f22 (by simp) rfl fun w31 f51 hB' hX => ?_
       clear hB f22; have hB := hB'; clear hB'; replace h_0 := vk h_0 hX
       replace f3 := f3.kx hX (by decide) (by decide)
       replace f50 := vk f50 hX; clear hX; refine zD (yA (zA ?_))
       exact ⟨_, _, _, _, _, _, _, _, _, _, hA, hB, q0, h_0, q1, q2, q7, f3, q8, q9, q10, q12, f51, (jX _ _ _ 0), f50, h⟩
     ·
      refine wp_seq ?_
      refine' rb [_, _] mixed hA hB hO (cn (fun hE hK => yR (kq hK q51) rfl) (cn (fun hE hK => zC (ks 0 hK 62 rfl)) .nil)) ?zk16
      intro a32 w32 hA hE hB HF; refine kr11 HF q0 q1 q2 q7 q8 q9 q10 q12 q13 q14 q51 ?_; clear q0 q1 q2 q7 q8 q9 q10 q12 q13 q14 q51; intro q0 q1 q2 q7 q8 q9 q10 q12 q13 q14 q51; have q61 := ksv (HF 61) rfl rfl rfl; clear q52 HF; replace h_0 := vx h_0 hE; replace f3 := f3.ext hE; replace f22 := f22.ext hE; clear hE; refine zD (zA ?_)
      revert h; refine cnd q61 (fun h => ?_) (fun h => ?_)
      ·
       obtain ⟨x63, hx63, h⟩ := Comp.run_bind h; obtain ⟨x64, hx64, h⟩ := Comp.run_bind h
       refine' rbT [_, _, _, _, SP.vl (rSl (rInt .i64)) O20 x63, _, _, SP.vl (rSl (rInt .i64)) O20 x64, SP.isv (.pointer (some ⟨b21, 3, none⟩))] hA hB hO (mv q13 (mv q14 (cn (fun hE hK => jY (ks 0 hK 63 rfl) (ks 1 hK 64 rfl)) (mv q1 (.cons (fun _ _ hE hK hg => yO (yg fn55 (ks 2 hK 65 rfl) (ks 3 hK 66 rfl) (kF (OkO.ext hB.ok hE)  hx63)) (fun _ _ _ h => (OwnR.val h (fun g hg => (OkO.ext hB.ok hE) g (OwnR.ge h g hg).1)))) (mv q13 (mv q1 (.cons (fun _ _ hE hK hg => yO (yg fn55 (ks 5 hK 68 rfl) (ks 6 hK 69 rfl) (kF (OkO.ext hB.ok hE)  hx64)) (fun _ _ _ h => (OwnR.val h (fun g hg => (OkO.ext hB.ok hE) g (OwnR.ge h g hg).1)))) (cn (fun hE hK => zJ fl33_3 (kq hK q12)) .nil))))))))) ?zk17
       intro a33 w33 hA hE hB HF; refine kr8 HF q0 q1 q2 q7 q8 q9 q10 q12 ?_; clear q0 q1 q2 q7 q8 q9 q10 q12; intro q0 q1 q2 q7 q8 q9 q10 q12; obtain ⟨u65, q67, f66⟩ := kx (HF 67) rfl rfl rfl; obtain ⟨u67, q70, f68⟩ := kx (HF 70) rfl rfl rfl; have q71 := ksv (HF 71) rfl rfl rfl; clear q13 q14 q51 q61 HF; replace h_0 := vx h_0 hE; replace f3 := f3.ext hE; replace f22 := f22.ext hE; clear hE
       refine js (cs' := #[.int .i64 (IntKind.wrap .i64 (x19.2 - 1)), .int .i64 x18, .int .i64 0, u65, .slice none 0 0]) hO hB (yJ hB) ty23 q71 q67 (sl_cells f66 rfl rfl) (sl_one f66 rfl rfl) f22 (by simp) rfl fun w34 f69 hB' hX => ?_
       clear hB f22; have hB := hB'; clear hB'; replace h_0 := vk h_0 hX
       replace f3 := f3.kx hX (by decide) (by decide)
       replace f66 := vk f66 hX; replace f68 := vk f68 hX; clear hX
       refine l_ok (φ := SP.isv (.pointer (some ⟨b21, 4, none⟩))) hO hB (by exact zJ fl33_4 q12) rfl fun u_ w35 hE hB' hv_ => ?_
       replace hv_ := Eq.symm hv_; subst hv_; clear hB; have hB := hB'; clear hB'
       replace h_0 := vx h_0 hE; replace f3 := f3.ext hE; replace f68 := vx f68 hE; replace f69 := f69.ext hE; replace f66 := vx f66 hE; clear hE
       refine zO hA (by decide) fun a36 hA q_ hfr => ?_
       refine kd9 hfr q0 q1 q2 q7 q8 q9 q10 q12 q70 ?_; clear q0 q1 q2 q7 q8 q9 q10 q12 q70; intro q0 q1 q2 q7 q8 q9 q10 q12 q70; have q72 := q_; clear q_ hfr
       refine js (cs' := #[.int .i64 (IntKind.wrap .i64 (x19.2 - 1)), .int .i64 x18, .int .i64 0, u65, u67]) hO hB (yJ hB) ty23 q72 q70 (sl_cells f68 rfl rfl) (sl_one f68 rfl rfl) f69 (by simp) rfl fun w37 f70 hB' hX => ?_
       clear hB f69; have hB := hB'; clear hB'; replace h_0 := vk h_0 hX
       replace f3 := f3.kx hX (by decide) (by decide)
       replace f68 := vk f68 hX; replace f66 := vk f66 hX; clear hX; refine zD (yA (zA ?_))
       exact ⟨_, _, _, _, _, _, _, _, _, _, hA, hB, q0, h_0, q1, q2, q7, f3, q8, q9, q10, q12, f70, f66, f68, h⟩
      ·
       refine wp_seq ?_
       refine' rb [_, _] mixed hA hB hO (cn (fun hE hK => yR (kq hK q51) rfl) (cn (fun hE hK => zC (ks 0 hK 74 rfl)) .nil)) ?zk18
       intro a38 w38 hA hE hB HF; refine kr8 HF q0 q1 q2 q7 q8 q9 q10 q12 ?_; clear q0 q1 q2 q7 q8 q9 q10 q12; intro q0 q1 q2 q7 q8 q9 q10 q12; have q73 := ksv (HF 73) rfl rfl rfl; clear q13 q14 q51 q61 HF; replace h_0 := vx h_0 hE; replace f3 := f3.ext hE; replace f22 := f22.ext hE; clear hE; refine zD (zA ?_)
       revert h; refine cnd q73 (fun h => ?_) (fun h => ?_)
       ·
        refine wp_seq ?_
        refine' rbT [_, SP.isv (.pointer (some ⟨b21, 2, none⟩))] hA hB hO (mv q9 (cn (fun hE hK => zJ fl33_2 (kq hK q12)) .nil)) ?zk19
        intro a39 w39 hA hE hB HF; refine kr8 HF q0 q1 q2 q7 q8 q9 q10 q12 ?_; clear q0 q1 q2 q7 q8 q9 q10 q12; intro q0 q1 q2 q7 q8 q9 q10 q12; have q75 := ksv (HF 75) rfl rfl rfl; have q76 := ksv (HF 76) rfl rfl rfl; clear q73 HF; replace h_0 := vx h_0 hE; replace f3 := f3.ext hE; replace f22 := f22.ext hE; clear hE
        refine js (cs' := #[.int .i64 (IntKind.wrap .i64 (x19.2 - 1)), .int .i64 x18, .int .i64 x5, .slice none 0 0, .slice none 0 0]) hO hB (yJ hB) ty3 q76 q75 rfl rfl f22 (by simp) rfl fun w40 f71 hB' hX => ?_
        clear hB f22; have hB := hB'; clear hB'; replace h_0 := vk h_0 hX
        replace f3 := f3.kx hX (by decide) (by decide)
        clear hX; refine zD (zA ?_)
        refine' rb [_, _, _] mixed hA hB hO (mv q9 (cn (fun hE hK => yp (ks 0 hK 77 rfl) rfl) (cn (fun hE hK => zC (ks 1 hK 78 rfl)) .nil))) ?zk20
        intro a41 w41 hA hE hB HF; refine kr7 HF q0 q1 q2 q7 q8 q10 q12 ?_; clear q0 q1 q2 q7 q8 q10 q12; intro q0 q1 q2 q7 q8 q10 q12; replace q9 := ksv (HF 9) rfl rfl rfl; clear HF; replace h_0 := vx h_0 hE; replace f3 := f3.ext hE; replace f71 := f71.ext hE; clear hE; refine zD (yA (zA ?_))
        exact ⟨_, _, _, _, _, _, _, _, _, _, hA, hB, q0, h_0, q1, q2, q7, f3, q8, q9, q10, q12, f71, (jX _ _ _ 0), (jX _ _ _ 0), h⟩
       ·
        refine wp_skip (yA (zA ?_))
        exact ⟨_, _, _, _, _, _, _, _, _, _, hA, hB, q0, h_0, q1, q2, q7, f3, q8, q9, q10, q12, f22, (jX _ _ _ 0), (jX _ _ _ 0), h⟩
    intro a42 w42 hI
    clear hA hB h q0 q1 q2 q7 q8 q9 q10 q12 q13 q14 f22 f3 h_0
    obtain ⟨O72, x52, x53, x54, x55, x56, x57, x60, u58, u61, hA, hB, q0, h_0, q1, q2, q7, f3, q8, q9, q10, q12, f51, f59, f62, h⟩ := hI
    unfold yb at h
    refine' rbT [_, SP.isv (.agg #[.int .i64 x54, .int .i64 x55, .int .i64 x56, u58, u61]), SP.vl (rSl zB) O72 [(api_Claim.mk x54 x55 x56 x57 x60)]] hA hB hO (mv q7 (cn (fun hE hK => vc ty33 rfl (kq hK q12) (OwnB.ext f51 hE).own rfl) (cn (fun hE hK => zR (r := zB) zP rfl (OkO.ext hB.ok hE) ty27 ty33 (zV (ks 1 hK 80 rfl) zz) ⟨⟨_, ⟨_, _, rfl, rfl, ⟨_, _, rfl, rfl, ⟨_, _, rfl, rfl, ⟨_, _, rfl, (va (r := (rSl (rInt .i64))) (vx f59 hE) rfl rfl), ⟨_, _, rfl, (va (r := (rSl (rInt .i64))) (vx f62 hE) rfl rfl), rfl⟩⟩⟩⟩⟩, rfl⟩, trivial⟩ rfl (by decide)) .nil))) ?zk21
    intro a43 w43 hA hE hB HF; refine kr7 HF q0 q1 q2 q7 q8 q9 q10 ?_; clear q0 q1 q2 q7 q8 q9 q10; intro q0 q1 q2 q7 q8 q9 q10; obtain ⟨u73, q81, f74⟩ := kx (HF 81) rfl rfl rfl; have q79 := ksv (HF 79) rfl rfl rfl; clear q12 HF; replace h_0 := vx h_0 hE; replace f3 := f3.ext hE; replace f51 := f51.ext hE; replace f59 := vx f59 hE; replace f62 := vx f62 hE; clear hE; obtain ⟨x75, hx75, h⟩ := Comp.run_bind h
    refine jt (r := zB) zP rfl ty27 ty33 rfl (by decide) hO hB (yJ hB) q79 f3 q81 (rd_of f74) hx75 (by decide) fun u76 w44 O77 f78 hB' hX => ?_
    clear hB; have hB := hB'; clear hB'; clear f3; replace h_0 := vk h_0 hX; replace f74 := vk f74 hX; clear hX
    refine zO hA (by decide) fun a45 hA q_ hfr => ?_
    refine kd9 hfr q0 q1 q2 q7 q8 q9 q10 q79 q81 ?_; clear q0 q1 q2 q7 q8 q9 q10 q79 q81; intro q0 q1 q2 q7 q8 q9 q10 q79 q81; have q82 := q_; clear q_ hfr
    refine l_ok (φ := SP.isv (u76)) hO hB (by exact zC q82) rfl fun u_ w46 hE hB' hv_ => ?_
    replace hv_ := Eq.symm hv_; subst hv_; clear hB; have hB := hB'; clear hB'
    replace h_0 := vx h_0 hE; replace f78 := f78.ext hE; clear hE
    refine zO hA (by decide) fun a47 hA q_ hfr => ?_
    replace q0 := (hfr 0 rfl).trans q0
    replace q1 := (hfr 1 rfl).trans q1
    replace q2 := (hfr 2 rfl).trans q2
    replace q8 := (hfr 8 rfl).trans q8
    replace q9 := (hfr 9 rfl).trans q9
    replace q10 := (hfr 10 rfl).trans q10
    replace q82 := (hfr 82 rfl).trans q82
    clear q7; have q7 := q_; clear q_ hfr; refine zD (yA (zA ?_))
    exact ⟨_, _, _, _, _, hA, hB, q0, h_0, q1, q2, q7, f78, q8, q9, q10, h⟩
   intro a48 w48 hI
   clear hA hB h q0 q1 q2 q7 q8 q9 q10 q24 f3 h_0
   obtain ⟨O79, x43, x46, x47, u44, hA, hB, q0, h_0, q1, q2, q7, f45, q8, q9, q10, h⟩ := hI
   unfold vV at h
   refine' rb [_, _, _] mixed hA hB hO (mv q10 (cn (fun hE hK => yp (ks 0 hK 25 rfl) rfl) (cn (fun hE hK => zC (ks 1 hK 26 rfl)) .nil))) ?zk22
   intro a49 w49 hA hE hB HF; refine kr6 HF q0 q1 q2 q7 q8 q9 ?_; clear q0 q1 q2 q7 q8 q9; intro q0 q1 q2 q7 q8 q9; replace q10 := ksv (HF 10) rfl rfl rfl; clear HF; replace h_0 := vx h_0 hE; replace f45 := f45.ext hE; clear hE; refine zD (zA ?_)
   have h := hnext2 _ (Comp.run_pure h).symm
   refine ⟨m2, hlt2, ?_⟩
   exact ⟨_, _, _, _, _, _, hA, hB, q0, h_0, q1, q2, q7, f45, q8, q9, q10, h⟩
  ·
   refine wp_exit (zT (zT (yS ?_)))
   have hd_ := hdone2 _ (Comp.run_pure h).symm; clear h
   subst hd_; have h := hk2; clear hk2; try dsimp only at h
   refine zA ?_
   exact ⟨_, _, _, hA, hB, q7, f3, h⟩
 intro a50 w50 hI
 clear hA hB h q0 q1 q2 q7 q8 q9 h_0
 obtain ⟨O85, x82, u83, hA, hB, q7, f84, h⟩ := hI
 unfold jA at h; refine wp_seq ?_
 refine' rb [_, _] mixed hA hB hO (mv q7 (cn (fun hE hK => zC (ks 0 hK 83 rfl)) .nil)) ?zk23
 intro a51 w51 hA hE hB HF; have q6 := ksv (HF 6) rfl rfl rfl; clear q7 HF; replace f84 := f84.ext hE; clear hE; refine zD (zA (wp_ret ?_))
 have h := Comp.run_pure h; subst h
 exact zd Try.results36 hA q6 hB.ext (OwnL.res f84 (by decide) hB.zero)
theorem ok_colletref43_Sights {O : Tags} {w0 : World} (hO : OkO O w0) {v_0 : Value} {x_0 : List Int} (h_0 : (rSl (rInt .i64)).v O w0 v_0 x_0) {x_1 : Int} {n : Nat} {y : (List api_Sight)} (h : (gL x_0 x_1).run n = some y) : Pure Try.prog 37 #[v_0, .int .i64 x_1] w0 (SP.ownr zE 64 (w0.heap.size) O y).holds := by
 unfold gL at h
 refine zS Try.func37 rfl 38 Try.ntmps37 (by simp) fun a0 hA hs0 => ?_
 have q0 : a0.get 0 = v_0 := hs0 0 _ rfl
 have q1 : a0.get 1 = .int .i64 x_1 := hs0 1 _ rfl
 clear hs0
 have hB : Base (Fr w0) O w0 O w0 := Base.start hO
 refine wp_seq ?_
 refine' rb [_] mixed hA hB hO (cn (fun hE hK => zC rfl) .nil) ?zk1
 intro a1 w1 hA hE hB HF; replace q0 := kf HF q0; replace q1 := kf HF q1; clear HF; replace h_0 := vx h_0 hE; clear hE; refine zD (zA (wp_seq ?_))
 refine' rbT [_] hA hB hO (mv q0 .nil) ?zk2
 intro a2 w2 hA hE hB HF; replace q0 := kf HF q0; replace q1 := kf HF q1; have q8 := ksv (HF 8) rfl rfl rfl; clear HF; replace h_0 := vx h_0 hE; clear hE
 refine l_ok (φ := SP.isv (.agg #[v_0, .int .i64 0])) hO hB (by refine gE (vals := [(0, v_0)]) (out := [v_0, .int .i64 0]) plc88 ty88 ?_ rfl ?_ rfl; exact (vH (v := v_0) q8 pk_nil); exact (.cons rfl (sl_cells h_0 rfl rfl) rfl (leb rfl) .nil)) rfl fun u_ w3 hE hB' hv_ => ?_
 replace hv_ := Eq.symm hv_; subst hv_; clear hB; have hB := hB'; clear hB'
 replace h_0 := vx h_0 hE; clear hE
 refine zO hA (by decide) fun a4 hA q_ hfr => ?_
 refine kd3 hfr q0 q1 q8 ?_; clear q0 q1 q8; intro q0 q1 q8; have q9 := q_; clear q_ hfr
 refine l_ok (φ := SP.box w3.heap.size #[v_0, .int .i64 0] 88) hO hB (by exact ok_box (v := .agg #[v_0, .int .i64 0]) (Nat.le_refl _) q9) rfl fun u1 w5 hE hB' f2 => ?_
 clear hB'; obtain ⟨O3, b5, hB', hX, e_, f4⟩ := boxNew hO hB hE f2 1 (by decide)
 subst e_; clear hB f2; have hB := hB'; clear hB'
 replace h_0 := vk h_0 hX; clear hX hE
 refine zO hA (by decide) fun a6 hA q_ hfr => ?_
 refine kd3 hfr q0 q1 q9 ?_; clear q0 q1 q9; intro q0 q1 q9; have q10 := q_; clear q_ hfr
 refine l_ok (φ := SP.isv (.pointer (some ⟨b5, 0, none⟩))) hO hB (by exact zC q10) rfl fun u_ w7 hE hB' hv_ => ?_
 replace hv_ := Eq.symm hv_; subst hv_; clear hB; have hB := hB'; clear hB'
 replace h_0 := vx h_0 hE; replace f4 := f4.ext hE; clear hE
 refine zO hA (by decide) fun a8 hA q_ hfr => ?_
 refine kd3 hfr q0 q1 q10 ?_; clear q0 q1 q10; intro q0 q1 q10; have q5 := q_; clear q_ hfr; refine zD (zA (wp_seq ?_))
 refine' rb [_] mixed hA hB hO (cn (fun hE hK => zC rfl) .nil) ?zk3
 intro a9 w9 hA hE hB HF; refine kr3 HF q0 q1 q5 ?_; clear q0 q1 q5; intro q0 q1 q5; have q6 := ksv (HF 6) rfl rfl rfl; clear HF; replace h_0 := vx h_0 hE; replace f4 := f4.ext hE; clear hE; refine zD (zA ?_)
 refine zY (fun a w => ∃ (O33 : Tags) (x30 : List api_Sight) (u31 : Value), a.fit 38 ∧ Base (Fr w0) O w0 O33 w ∧ a.get 6 = u31 ∧ OwnL 2 zE 64 (Fr w0) O33 w u31 x30 ∧ (gz x30).run n = some y) ?_ ?_
 ·
  refine wp_seq ?_
  refine' rb [_] mixed hA hB hO (cn (fun hE hK => zC rfl) .nil) ?zk4
  intro a10 w10 hA hE hB HF; refine kr4 HF q0 q1 q5 q6 ?_; clear q0 q1 q5 q6; intro q0 q1 q5 q6; have q7 := ksv (HF 7) rfl rfl rfl; clear HF; replace h_0 := vx h_0 hE; replace f4 := f4.ext hE; clear hE; refine zD (zA (wp_block ?_))
  obtain ⟨e2, he2, hk2⟩ := Comp.run_bind h; clear h
  refine vg (fun m a w => ∃ (O14 : Tags) (x6 : List api_Sight) (x9 : Int) (x10 : List Int) (x13 : Int) (u7 : Value) (u11 : Value), a.fit 38 ∧ Base (Fr w0) O w0 O14 w ∧ a.get 0 = v_0 ∧ (rSl (rInt .i64)).v O14 w v_0 x_0 ∧ a.get 1 = .int .i64 x_1 ∧ a.get 5 = .pointer (some ⟨b5, 0, none⟩) ∧ a.get 6 = u7 ∧ OwnL 2 zE 64 (Fr w0) O14 w u7 x6 ∧ a.get 7 = .int .i64 x9 ∧ OwnB 1 (Fr w0) O14 w b5 #[u11, .int .i64 x13] 88 ∧ (rSl (rInt .i64)).v O14 w u11 x10 ∧ Comp.loopN (fun s => vS x_0 x_1 s.1 s.2.1 s.2.2.1 s.2.2.2) n m (x6, x9, x10, x13) = some e2) (m := n) ?st2 ?_
  case st2 =>
   exact ⟨_, _, _, _, _, _, _, hA, hB, q0, h_0, q1, q5, q6, (OwnL.nil _ _ _ _ _ _), q7, f4, h_0, Comp.yB he2⟩
  intro m_ a11 w11 hI
  clear hA hB he2 q0 q1 q5 q6 q7 f4 h_0
  obtain ⟨O14, x6, x9, x10, x13, u7, u11, hA, hB, q0, h_0, q1, q5, q6, f8, q7, f4, f12, hl⟩ := hI
  obtain ⟨m2, hlt2, st2, h, hnext2, hdone2⟩ := Comp.zg hl; clear hl
  replace h : (vS x_0 x_1 x6 x9 x10 x13).run n = some st2 := h
  unfold vS at h; refine wp_seq (wp_seq ?_)
  refine' rb [_, _, _, _, _, _, _, _, _] mixed hA hB hO (mv q7 (cn (fun hE hK => yp (ks 0 hK 11 rfl) rfl) (mv q0 (cn (fun hE hK => zw (r := (rInt .i64)) ty23 (ks 2 hK 13 rfl) (rd_of (vx h_0 hE))) (cn (fun hE hK => yY (ks 1 hK 12 rfl) (ks 3 hK 14 rfl)) (cn (fun hE hK => zI (ks 4 hK 15 rfl)) (mv q7 (.cons (fun _ _ hE hK hg => yY (kg 6 hK 17 rfl hg) rfl) (cn (fun hE hK => zh (ks 5 hK 16 rfl) (fun hb => kg 7 hK 18 rfl (yG rfl rfl hb)) (fun _ => rfl)) .nil))))))))) ?zk5
  intro a12 w12 hA hE hB HF; refine kr5 HF q0 q1 q5 q6 q7 ?_; clear q0 q1 q5 q6 q7; intro q0 q1 q5 q6 q7; have q19 := ksv (HF 19) rfl rfl rfl; clear HF; replace h_0 := vx h_0 hE; replace f8 := f8.ext hE; replace f4 := f4.ext hE; replace f12 := vx f12 hE; clear hE
  obtain ⟨x15, hx_, h⟩ := Comp.run_bind h; replace hx_ := Comp.run_pure hx_; rw [hx_] at q19; clear hx_
  refine zD (zA ?_)
  revert h; refine cnd q19 (fun h => ?_) (fun h => ?_)
  ·
   refine wp_skip (zA (wp_seq (wp_block ?_))); obtain ⟨x16, hx16, h⟩ := Comp.run_bind h; obtain ⟨x17, hx17, h⟩ := Comp.run_bind h; obtain ⟨x18, hx18, h⟩ := Comp.run_bind h; obtain ⟨x19, hx19, h⟩ := Comp.run_bind h; obtain ⟨x20, hx20, h⟩ := Comp.run_bind h
   obtain ⟨J_, eJ_⟩ : ∃ J_ : (Nat → Bool) → Act → World → Prop, J_ = (fun S_ a_ w_ => ∃ O_ : Tags, Base (Fr w0) O w0 O_ w_ ∧ Keep 0 O14 w12 O_ w_ ∧ (S_ 1 = true → (rSl (rInt .i64)).v O_ w_ (a_.get 23) [0, 0, 1, 2]) ∧ (S_ 4 = true → PtrZ (rInt .i64) O_ w_ (a_.get 26) x17) ∧ (S_ 13 = true → (rSl zE).v O_ w_ (a_.get 35) [(api_Sight.mk x17 x18.2 (decide (x19.2 = 1)))]) ∧ (S_ 14 = false → OwnL 2 zE 64 (Fr w0) O_ w_ u7 x6) ∧ (S_ 14 = true → S_ 15 = false → OwnL 2 zE 64 (Fr w0) O_ w_ (a_.get 36) x20) ∧ (S_ 15 = true → OwnL 2 zE 64 (Fr w0) O_ w_ (a_.get 6) x20) ∧ (S_ 3 = false → BoxO 1 (Fr w0) O_ w_ b5 88 za (colletref01_Draw.mk x10 x13)) ∧ (S_ 3 = true → S_ 8 = false → BoxO 1 (Fr w0) O_ w_ b5 88 za x16.1) ∧ (S_ 8 = true → S_ 10 = false → BoxO 1 (Fr w0) O_ w_ b5 88 za x18.1) ∧ (S_ 10 = true → BoxO 1 (Fr w0) O_ w_ b5 88 za x19.1)) := ⟨_, rfl⟩
   have T_ : ∀ {i_ : Nat} {d_ : Option Tmp} {v_ : Value} {S_ a' w' w2}, Nat.beq 1 i_ = false → Nat.beq 3 i_ = false → Nat.beq 4 i_ = false → Nat.beq 8 i_ = false → Nat.beq 10 i_ = false → Nat.beq 13 i_ = false → Nat.beq 14 i_ = false → Nat.beq 15 i_ = false → d_ ≠ some 6 → d_ ≠ some 23 → d_ ≠ some 26 → d_ ≠ some 35 → d_ ≠ some 36 → Ext w' w2 → J_ S_ a' w' → J_ (addS S_ i_) (a'.put d_ v_) w2 := by
    subst eJ_; intro i_ d_ v_ S_ a' w' w2 n1_ n3_ n4_ n8_ n10_ n13_ n14_ n15_ s6_ s23_ s26_ s35_ s36_ hE hJ_
    obtain ⟨O_, hB_, k0_, m1_, m4_, m13_, v0_0_, v0_1_, v0_2_, v1_0_, v1_1_, v1_2_, v1_3_⟩ := hJ_
    exact ⟨O_, (Base.step hB_ hE hO), (k0_.trans (KX.keep (KX.ext hE) (by decide))), fun h_ => zG (d := d_) (t := 23) (φ := fun u_ => (rSl (rInt .i64)).v O_ w2 u_ [0, 0, 1, 2]) ((GR.zM _ (m1_ (zF n1_ h_)) (KX.keep (KX.ext hE) (by decide)))) s23_, fun h_ => zG (d := d_) (t := 26) (φ := fun u_ => PtrZ (rInt .i64) O_ w2 u_ x17) ((PtrZ.keep (m4_ (zF n4_ h_)) (KX.keep (KX.ext hE) (by decide)) (by decide) (fun _ => rfl))) s26_, fun h_ => zG (d := d_) (t := 35) (φ := fun u_ => (rSl zE).v O_ w2 u_ [(api_Sight.mk x17 x18.2 (decide (x19.2 = 1)))]) ((GR.zM _ (m13_ (zF n13_ h_)) (KX.keep (KX.ext hE) (by decide)))) s35_, fun hq_ => OwnL.kx (v0_0_ (zW hq_)) (KX.ext hE) (by decide) (by decide), fun hp_ hq_ => zG (d := d_) (t := 36) (φ := fun u_ => OwnL 2 zE 64 (Fr w0) O_ w2 (u_) x20) (OwnL.kx (v0_1_ (zF n14_ hp_) (zW hq_)) (KX.ext hE) (by decide) (by decide)) s36_, fun hp_ => zG (d := d_) (t := 6) (φ := fun u_ => OwnL 2 zE 64 (Fr w0) O_ w2 (u_) x20) (OwnL.kx (v0_2_ (zF n15_ hp_)) (KX.ext hE) (by decide) (by decide)) s6_, fun hq_ => BoxO.kx (v1_0_ (zW hq_)) (KX.ext hE) (by decide) (by decide), fun hp_ hq_ => BoxO.kx (v1_1_ (zF n3_ hp_) (zW hq_)) (KX.ext hE) (by decide) (by decide), fun hp_ hq_ => BoxO.kx (v1_2_ (zF n8_ hp_) (zW hq_)) (KX.ext hE) (by decide) (by decide), fun hp_ => BoxO.kx (v1_3_ (zF n10_ hp_)) (KX.ext hE) (by decide) (by decide)⟩
   refine' regionX (draw := true) J_ [SP.isv (u7), SP.tt, SP.isv (.pointer (some ⟨b5, 0, none⟩)), SP.isv (.int .i64 x16.2), SP.tt, SP.isv (.int .i64 x17), SP.isv (.pointer (some ⟨b5, 0, none⟩)), SP.isv (.int .i64 x_1), SP.isv (.int .i64 x18.2), SP.isv (.pointer (some ⟨b5, 0, none⟩)), SP.isv (.int .i64 x19.2), SP.isv (.bool (decide (x19.2 = 1))), SP.isv (.agg #[.int .i64 x17, .int .i64 x18.2, .bool (decide (x19.2 = 1))]), SP.tt, SP.tt, SP.tt] mixed hA (.cons (zk _) (.cons (go _) (.cons (zk _) (.cons (zk _) (.cons (go _) (.cons (zk _) (.cons (zk _) (.cons (zk _) (.cons (zk _) (.cons (zk _) (.cons (zk _) (.cons (zk _) (.cons (zk _) (.cons (go _) (.cons (go _) (.cons (go _) .nil)))))))))))))))) (.cons ?z6_0 (.cons ?z6_1 (.cons ?z6_2 (.cons ?z6_3 (.cons ?z6_4 (.cons ?z6_5 (.cons ?z6_6 (.cons ?z6_7 (.cons ?z6_8 (.cons ?z6_9 (.cons ?z6_10 (.cons ?z6_11 (.cons ?z6_12 (.cons ?z6_13 (.cons ?z6_14 (.cons ?z6_15 .nil)))))))))))))))) ?zsk6 ?zst6 ?zok6 ?zgd6 ?zk6
   case z6_0 =>
    intro S_ a' w' hA_ hJ_ hS_ hafter_ hbef_ hK hg K_ Q_ hK_
    refine x_ok (φ := SP.isv (u7)) (by exact zI (kq hK q6)) fun v_ w2 hE hv_ => hK_ v_ w2 (T_ rfl rfl rfl rfl rfl rfl rfl rfl (by decide) (by decide) (by decide) (by decide) (by decide) hE hJ_) hv_
   case z6_1 =>
    intro S_ a' w' hA_ hJ_ hS_ hafter_ hbef_ hK hg K_ Q_ hK_
    subst eJ_
    obtain ⟨O_, hB_, k0_, m1_, m4_, m13_, v0_0_, v0_1_, v0_2_, v1_0_, v1_1_, v1_2_, v1_3_⟩ := hJ_
    refine x_ok (φ := SP.vl (rSl (rInt .i64)) O_ [0, 0, 1, 2]) (by exact zR (r := (rInt .i64)) (fun _ => rfl) rfl hB_.ok ty23 ty3 (zV rfl (zV rfl (zV rfl (zV rfl zz)))) ⟨(by exact zZ.2 rfl), ⟨(by exact zZ.2 rfl), ⟨(by exact zZ.2 rfl), ⟨(by exact zZ.2 rfl), trivial⟩⟩⟩⟩ rfl (by decide)) fun v_ w2 hE hv_ => ?_
    have hB2_ := Base.step hB_ hE hO
    exact hK_ v_ w2 ⟨O_, hB2_, (k0_.trans (KX.keep (KX.ext hE) (by decide))), fun _ => jM (φ := fun u_ => (rSl (rInt .i64)).v O_ w2 u_ [0, 0, 1, 2]) hA_ (by decide) hv_, fun h_ => zG (d := some 23) (t := 26) (φ := fun u_ => PtrZ (rInt .i64) O_ w2 u_ x17) ((PtrZ.keep (m4_ (zF rfl h_)) (KX.keep (KX.ext hE) (by decide)) (by decide) (fun _ => rfl))) (by decide), fun h_ => zG (d := some 23) (t := 35) (φ := fun u_ => (rSl zE).v O_ w2 u_ [(api_Sight.mk x17 x18.2 (decide (x19.2 = 1)))]) ((GR.zM _ (m13_ (zF rfl h_)) (KX.keep (KX.ext hE) (by decide)))) (by decide), fun hq_ => OwnL.kx (v0_0_ (zW hq_)) (KX.ext hE) (by decide) (by decide), fun hp_ hq_ => zG (d := some 23) (t := 36) (φ := fun u_ => OwnL 2 zE 64 (Fr w0) O_ w2 (u_) x20) (OwnL.kx (v0_1_ (zF rfl hp_) (zW hq_)) (KX.ext hE) (by decide) (by decide)) (by decide), fun hp_ => zG (d := some 23) (t := 6) (φ := fun u_ => OwnL 2 zE 64 (Fr w0) O_ w2 (u_) x20) (OwnL.kx (v0_2_ (zF rfl hp_)) (KX.ext hE) (by decide) (by decide)) (by decide), fun hq_ => BoxO.kx (v1_0_ (zW hq_)) (KX.ext hE) (by decide) (by decide), fun hp_ hq_ => BoxO.kx (v1_1_ (zF rfl hp_) (zW hq_)) (KX.ext hE) (by decide) (by decide), fun hp_ hq_ => BoxO.kx (v1_2_ (zF rfl hp_) (zW hq_)) (KX.ext hE) (by decide) (by decide), fun hp_ => BoxO.kx (v1_3_ (zF rfl hp_)) (KX.ext hE) (by decide) (by decide)⟩ trivial
   case z6_2 =>
    intro S_ a' w' hA_ hJ_ hS_ hafter_ hbef_ hK hg K_ Q_ hK_
    refine x_ok (φ := SP.isv (.pointer (some ⟨b5, 0, none⟩))) (by exact zI (kq hK q5)) fun v_ w2 hE hv_ => hK_ v_ w2 (T_ rfl rfl rfl rfl rfl rfl rfl rfl (by decide) (by decide) (by decide) (by decide) (by decide) hE hJ_) hv_
   case z6_3 =>
    intro S_ a' w' hA_ hJ_ hS_ hafter_ hbef_ hK hg K_ Q_ hK_
    subst eJ_
    obtain ⟨O_, hB_, k0_, m1_, m4_, m13_, v0_0_, v0_1_, v0_2_, v1_0_, v1_1_, v1_2_, v1_3_⟩ := hJ_
    refine x_pio (r := za) hO hB_ (yJ hB_) fn54 (map2 (ks 2 hK 24 rfl) rfl) (yW hB_.ok (BoxO.arg (v1_0_ hS_) (by decide)) hx16) (v1_0_ hS_) fun v_ w2 f_ hB2_ hX_ hv_ => ?_
    exact hK_ v_ w2 ⟨O_, hB2_, (k0_.trans (KX.keep hX_ (by decide))), fun h_ => zG (d := some 25) (t := 23) (φ := fun u_ => (rSl (rInt .i64)).v O_ w2 u_ [0, 0, 1, 2]) ((GR.zM _ (m1_ (zF rfl h_)) (KX.keep hX_ (by decide)))) (by decide), fun h_ => zG (d := some 25) (t := 26) (φ := fun u_ => PtrZ (rInt .i64) O_ w2 u_ x17) ((PtrZ.keep (m4_ (zF rfl h_)) (KX.keep hX_ (by decide)) (by decide) (fun _ => rfl))) (by decide), fun h_ => zG (d := some 25) (t := 35) (φ := fun u_ => (rSl zE).v O_ w2 u_ [(api_Sight.mk x17 x18.2 (decide (x19.2 = 1)))]) ((GR.zM _ (m13_ (zF rfl h_)) (KX.keep hX_ (by decide)))) (by decide), fun hq_ => OwnL.kx (v0_0_ (zW hq_)) hX_ (by decide) (by decide), fun hp_ hq_ => zG (d := some 25) (t := 36) (φ := fun u_ => OwnL 2 zE 64 (Fr w0) O_ w2 (u_) x20) (OwnL.kx (v0_1_ (zF rfl hp_) (zW hq_)) hX_ (by decide) (by decide)) (by decide), fun hp_ => zG (d := some 25) (t := 6) (φ := fun u_ => OwnL 2 zE 64 (Fr w0) O_ w2 (u_) x20) (OwnL.kx (v0_2_ (zF rfl hp_)) hX_ (by decide) (by decide)) (by decide), fun hq_ => addS_me hq_, fun hp_ hq_ => f_, fun hp_ hq_ => no_tf (zF rfl hp_) (hafter_ 8 (by kernel_rfl)), fun hp_ => no_tf (zF rfl hp_) (hafter_ 10 (by kernel_rfl))⟩ hv_
   case z6_4 =>
    intro S_ a' w' hA_ hJ_ hS_ hafter_ hbef_ hK hg K_ Q_ hK_
    subst eJ_
    obtain ⟨O_, hB_, k0_, m1_, m4_, m13_, v0_0_, v0_1_, v0_2_, v1_0_, v1_1_, v1_2_, v1_3_⟩ := hJ_
    refine x_ok (φ := SP.ptrz (rInt .i64) O_ x17 (of_decide_eq_true rfl) (fun _ => rfl)) (by exact okl_idxZ (r := (rInt .i64)) (by decide) (fun _ => rfl) ty23 ty3 rfl rfl (m1_ (zF rfl (hbef_ 1 (by kernel_rfl)))) (ks 3 hK 25 rfl) hx17) fun v_ w2 hE hv_ => ?_
    have hB2_ := Base.step hB_ hE hO
    exact hK_ v_ w2 ⟨O_, hB2_, (k0_.trans (KX.keep (KX.ext hE) (by decide))), fun h_ => zG (d := some 26) (t := 23) (φ := fun u_ => (rSl (rInt .i64)).v O_ w2 u_ [0, 0, 1, 2]) ((GR.zM _ (m1_ (zF rfl h_)) (KX.keep (KX.ext hE) (by decide)))) (by decide), fun _ => jM (φ := fun u_ => PtrZ (rInt .i64) O_ w2 u_ x17) hA_ (by decide) hv_, fun h_ => zG (d := some 26) (t := 35) (φ := fun u_ => (rSl zE).v O_ w2 u_ [(api_Sight.mk x17 x18.2 (decide (x19.2 = 1)))]) ((GR.zM _ (m13_ (zF rfl h_)) (KX.keep (KX.ext hE) (by decide)))) (by decide), fun hq_ => OwnL.kx (v0_0_ (zW hq_)) (KX.ext hE) (by decide) (by decide), fun hp_ hq_ => zG (d := some 26) (t := 36) (φ := fun u_ => OwnL 2 zE 64 (Fr w0) O_ w2 (u_) x20) (OwnL.kx (v0_1_ (zF rfl hp_) (zW hq_)) (KX.ext hE) (by decide) (by decide)) (by decide), fun hp_ => zG (d := some 26) (t := 6) (φ := fun u_ => OwnL 2 zE 64 (Fr w0) O_ w2 (u_) x20) (OwnL.kx (v0_2_ (zF rfl hp_)) (KX.ext hE) (by decide) (by decide)) (by decide), fun hq_ => BoxO.kx (v1_0_ (zW hq_)) (KX.ext hE) (by decide) (by decide), fun hp_ hq_ => BoxO.kx (v1_1_ (zF rfl hp_) (zW hq_)) (KX.ext hE) (by decide) (by decide), fun hp_ hq_ => BoxO.kx (v1_2_ (zF rfl hp_) (zW hq_)) (KX.ext hE) (by decide) (by decide), fun hp_ => BoxO.kx (v1_3_ (zF rfl hp_)) (KX.ext hE) (by decide) (by decide)⟩ trivial
   case z6_5 =>
    intro S_ a' w' hA_ hJ_ hS_ hafter_ hbef_ hK hg K_ Q_ hK_
    have hJ2_ := hJ_; rw [eJ_] at hJ2_; obtain ⟨O_, hB_, k0_, m1_, m4_, m13_, v0_0_, v0_1_, v0_2_, v1_0_, v1_1_, v1_2_, v1_3_⟩ := hJ2_
    refine x_ok (φ := SP.isv (.int .i64 x17)) (by exact zn (rInt .i64) (fun _ => rfl) ty3 rfl rfl rfl (PtrZ.ptr (m4_ (zF rfl (hbef_ 4 (by kernel_rfl))))) (fun _ _ _ h => zZ.1 h)) fun v_ w2 hE hv_ => hK_ v_ w2 (T_ rfl rfl rfl rfl rfl rfl rfl rfl (by decide) (by decide) (by decide) (by decide) (by decide) hE hJ_) hv_
   case z6_6 =>
    intro S_ a' w' hA_ hJ_ hS_ hafter_ hbef_ hK hg K_ Q_ hK_
    refine x_ok (φ := SP.isv (.pointer (some ⟨b5, 0, none⟩))) (by exact zI (kq hK q5)) fun v_ w2 hE hv_ => hK_ v_ w2 (T_ rfl rfl rfl rfl rfl rfl rfl rfl (by decide) (by decide) (by decide) (by decide) (by decide) hE hJ_) hv_
   case z6_7 =>
    intro S_ a' w' hA_ hJ_ hS_ hafter_ hbef_ hK hg K_ Q_ hK_
    refine x_ok (φ := SP.isv (.int .i64 x_1)) (by exact zI (kq hK q1)) fun v_ w2 hE hv_ => hK_ v_ w2 (T_ rfl rfl rfl rfl rfl rfl rfl rfl (by decide) (by decide) (by decide) (by decide) (by decide) hE hJ_) hv_
   case z6_8 =>
    intro S_ a' w' hA_ hJ_ hS_ hafter_ hbef_ hK hg K_ Q_ hK_
    subst eJ_
    obtain ⟨O_, hB_, k0_, m1_, m4_, m13_, v0_0_, v0_1_, v0_2_, v1_0_, v1_1_, v1_2_, v1_3_⟩ := hJ_
    refine x_pio (r := za) hO hB_ (yJ hB_) fn54 (map2 (ks 6 hK 28 rfl) (ks 7 hK 29 rfl)) (yW hB_.ok (BoxO.arg (v1_1_ (zF rfl (hbef_ 3 (by kernel_rfl))) hS_) (by decide)) hx18) (v1_1_ (zF rfl (hbef_ 3 (by kernel_rfl))) hS_) fun v_ w2 f_ hB2_ hX_ hv_ => ?_
    exact hK_ v_ w2 ⟨O_, hB2_, (k0_.trans (KX.keep hX_ (by decide))), fun h_ => zG (d := some 30) (t := 23) (φ := fun u_ => (rSl (rInt .i64)).v O_ w2 u_ [0, 0, 1, 2]) ((GR.zM _ (m1_ (zF rfl h_)) (KX.keep hX_ (by decide)))) (by decide), fun h_ => zG (d := some 30) (t := 26) (φ := fun u_ => PtrZ (rInt .i64) O_ w2 u_ x17) ((PtrZ.keep (m4_ (zF rfl h_)) (KX.keep hX_ (by decide)) (by decide) (fun _ => rfl))) (by decide), fun h_ => zG (d := some 30) (t := 35) (φ := fun u_ => (rSl zE).v O_ w2 u_ [(api_Sight.mk x17 x18.2 (decide (x19.2 = 1)))]) ((GR.zM _ (m13_ (zF rfl h_)) (KX.keep hX_ (by decide)))) (by decide), fun hq_ => OwnL.kx (v0_0_ (zW hq_)) hX_ (by decide) (by decide), fun hp_ hq_ => zG (d := some 30) (t := 36) (φ := fun u_ => OwnL 2 zE 64 (Fr w0) O_ w2 (u_) x20) (OwnL.kx (v0_1_ (zF rfl hp_) (zW hq_)) hX_ (by decide) (by decide)) (by decide), fun hp_ => zG (d := some 30) (t := 6) (φ := fun u_ => OwnL 2 zE 64 (Fr w0) O_ w2 (u_) x20) (OwnL.kx (v0_2_ (zF rfl hp_)) hX_ (by decide) (by decide)) (by decide), fun hq_ => no_tf (hbef_ 3 (by kernel_rfl)) hq_, fun hp_ hq_ => addS_me hq_, fun hp_ hq_ => f_, fun hp_ => no_tf (zF rfl hp_) (hafter_ 10 (by kernel_rfl))⟩ hv_
   case z6_9 =>
    intro S_ a' w' hA_ hJ_ hS_ hafter_ hbef_ hK hg K_ Q_ hK_
    refine x_ok (φ := SP.isv (.pointer (some ⟨b5, 0, none⟩))) (by exact zI (kq hK q5)) fun v_ w2 hE hv_ => hK_ v_ w2 (T_ rfl rfl rfl rfl rfl rfl rfl rfl (by decide) (by decide) (by decide) (by decide) (by decide) hE hJ_) hv_
   case z6_10 =>
    intro S_ a' w' hA_ hJ_ hS_ hafter_ hbef_ hK hg K_ Q_ hK_
    subst eJ_
    obtain ⟨O_, hB_, k0_, m1_, m4_, m13_, v0_0_, v0_1_, v0_2_, v1_0_, v1_1_, v1_2_, v1_3_⟩ := hJ_
    refine x_pio (r := za) hO hB_ (yJ hB_) fn54 (map2 (ks 9 hK 31 rfl) rfl) (yW hB_.ok (BoxO.arg (v1_2_ (zF rfl (hbef_ 8 (by kernel_rfl))) hS_) (by decide)) hx19) (v1_2_ (zF rfl (hbef_ 8 (by kernel_rfl))) hS_) fun v_ w2 f_ hB2_ hX_ hv_ => ?_
    exact hK_ v_ w2 ⟨O_, hB2_, (k0_.trans (KX.keep hX_ (by decide))), fun h_ => zG (d := some 32) (t := 23) (φ := fun u_ => (rSl (rInt .i64)).v O_ w2 u_ [0, 0, 1, 2]) ((GR.zM _ (m1_ (zF rfl h_)) (KX.keep hX_ (by decide)))) (by decide), fun h_ => zG (d := some 32) (t := 26) (φ := fun u_ => PtrZ (rInt .i64) O_ w2 u_ x17) ((PtrZ.keep (m4_ (zF rfl h_)) (KX.keep hX_ (by decide)) (by decide) (fun _ => rfl))) (by decide), fun h_ => zG (d := some 32) (t := 35) (φ := fun u_ => (rSl zE).v O_ w2 u_ [(api_Sight.mk x17 x18.2 (decide (x19.2 = 1)))]) ((GR.zM _ (m13_ (zF rfl h_)) (KX.keep hX_ (by decide)))) (by decide), fun hq_ => OwnL.kx (v0_0_ (zW hq_)) hX_ (by decide) (by decide), fun hp_ hq_ => zG (d := some 32) (t := 36) (φ := fun u_ => OwnL 2 zE 64 (Fr w0) O_ w2 (u_) x20) (OwnL.kx (v0_1_ (zF rfl hp_) (zW hq_)) hX_ (by decide) (by decide)) (by decide), fun hp_ => zG (d := some 32) (t := 6) (φ := fun u_ => OwnL 2 zE 64 (Fr w0) O_ w2 (u_) x20) (OwnL.kx (v0_2_ (zF rfl hp_)) hX_ (by decide) (by decide)) (by decide), fun hq_ => no_tf (hbef_ 3 (by kernel_rfl)) hq_, fun hp_ hq_ => no_tf (hbef_ 8 (by kernel_rfl)) hq_, fun hp_ hq_ => addS_me hq_, fun hp_ => f_⟩ hv_
   case z6_11 =>
    intro S_ a' w' hA_ hJ_ hS_ hafter_ hbef_ hK hg K_ Q_ hK_
    refine x_ok (φ := SP.isv (.bool (decide (x19.2 = 1)))) (by exact yR (ks 10 hK 32 rfl) rfl) fun v_ w2 hE hv_ => hK_ v_ w2 (T_ rfl rfl rfl rfl rfl rfl rfl rfl (by decide) (by decide) (by decide) (by decide) (by decide) hE hJ_) hv_
   case z6_12 =>
    intro S_ a' w' hA_ hJ_ hS_ hafter_ hbef_ hK hg K_ Q_ hK_
    refine x_ok (φ := SP.isv (.agg #[.int .i64 x17, .int .i64 x18.2, .bool (decide (x19.2 = 1))])) (by exact gE plc64 ty64 (vH (v := .int .i64 x17) (ksv (j := 5) (hK 27 rfl) rfl rfl rfl) (vH (v := .int .i64 x18.2) (ksv (j := 8) (hK 30 rfl) rfl rfl rfl) (vH (v := .bool (decide (x19.2 = 1))) (ksv (j := 11) (hK 33 rfl) rfl rfl rfl) pk_nil))) rfl (.cons rfl rfl rfl (leb rfl) (.cons rfl rfl rfl (leb rfl) (.cons rfl rfl rfl (leb rfl) .nil))) rfl) fun v_ w2 hE hv_ => hK_ v_ w2 (T_ rfl rfl rfl rfl rfl rfl rfl rfl (by decide) (by decide) (by decide) (by decide) (by decide) hE hJ_) hv_
   case z6_13 =>
    intro S_ a' w' hA_ hJ_ hS_ hafter_ hbef_ hK hg K_ Q_ hK_
    subst eJ_
    obtain ⟨O_, hB_, k0_, m1_, m4_, m13_, v0_0_, v0_1_, v0_2_, v1_0_, v1_1_, v1_2_, v1_3_⟩ := hJ_
    refine x_ok (φ := SP.vl (rSl zE) O_ [(api_Sight.mk x17 x18.2 (decide (x19.2 = 1)))]) (by exact zR (r := zE) yh rfl hB_.ok ty28 ty64 (zV (ks 12 hK 34 rfl) zz) ⟨(by first | exact (rC_v (x := (api_Sight.mk x17 x18.2 (decide (x19.2 = 1))))).2 rfl | exact ⟨_, rfl, rfl⟩), trivial⟩ rfl (by decide)) fun v_ w2 hE hv_ => ?_
    have hB2_ := Base.step hB_ hE hO
    exact hK_ v_ w2 ⟨O_, hB2_, (k0_.trans (KX.keep (KX.ext hE) (by decide))), fun h_ => zG (d := some 35) (t := 23) (φ := fun u_ => (rSl (rInt .i64)).v O_ w2 u_ [0, 0, 1, 2]) ((GR.zM _ (m1_ (zF rfl h_)) (KX.keep (KX.ext hE) (by decide)))) (by decide), fun h_ => zG (d := some 35) (t := 26) (φ := fun u_ => PtrZ (rInt .i64) O_ w2 u_ x17) ((PtrZ.keep (m4_ (zF rfl h_)) (KX.keep (KX.ext hE) (by decide)) (by decide) (fun _ => rfl))) (by decide), fun _ => jM (φ := fun u_ => (rSl zE).v O_ w2 u_ [(api_Sight.mk x17 x18.2 (decide (x19.2 = 1)))]) hA_ (by decide) hv_, fun hq_ => OwnL.kx (v0_0_ (zW hq_)) (KX.ext hE) (by decide) (by decide), fun hp_ hq_ => zG (d := some 35) (t := 36) (φ := fun u_ => OwnL 2 zE 64 (Fr w0) O_ w2 (u_) x20) (OwnL.kx (v0_1_ (zF rfl hp_) (zW hq_)) (KX.ext hE) (by decide) (by decide)) (by decide), fun hp_ => zG (d := some 35) (t := 6) (φ := fun u_ => OwnL 2 zE 64 (Fr w0) O_ w2 (u_) x20) (OwnL.kx (v0_2_ (zF rfl hp_)) (KX.ext hE) (by decide) (by decide)) (by decide), fun hq_ => BoxO.kx (v1_0_ (zW hq_)) (KX.ext hE) (by decide) (by decide), fun hp_ hq_ => BoxO.kx (v1_1_ (zF rfl hp_) (zW hq_)) (KX.ext hE) (by decide) (by decide), fun hp_ hq_ => BoxO.kx (v1_2_ (zF rfl hp_) (zW hq_)) (KX.ext hE) (by decide) (by decide), fun hp_ => BoxO.kx (v1_3_ (zF rfl hp_)) (KX.ext hE) (by decide) (by decide)⟩ trivial
   case z6_14 =>
    intro S_ a' w' hA_ hJ_ hS_ hafter_ hbef_ hK hg K_ Q_ hK_
    subst eJ_
    obtain ⟨O_, hB_, k0_, m1_, m4_, m13_, v0_0_, v0_1_, v0_2_, v1_0_, v1_1_, v1_2_, v1_3_⟩ := hJ_
    refine x_append (r := zE) yh rfl ty28 ty64 rfl (by decide) hO hB_ (yJ hB_) (ks 0 hK 22 rfl) (v0_0_ hS_) rfl (rd_of (m13_ (zF rfl (hbef_ 13 (by kernel_rfl))))) hx20 (by decide) fun u_ w2 O2_ f_ hB2_ hX_ => ?_
    exact hK_ u_ w2 ⟨O2_, hB2_, (k0_.trans (KX.keep hX_ (by decide))), fun h_ => zG (d := some 36) (t := 23) (φ := fun u_ => (rSl (rInt .i64)).v O2_ w2 u_ [0, 0, 1, 2]) ((GR.zM _ (m1_ (zF rfl h_)) (KX.keep hX_ (by decide)))) (by decide), fun h_ => zG (d := some 36) (t := 26) (φ := fun u_ => PtrZ (rInt .i64) O2_ w2 u_ x17) ((PtrZ.keep (m4_ (zF rfl h_)) (KX.keep hX_ (by decide)) (by decide) (fun _ => rfl))) (by decide), fun h_ => zG (d := some 36) (t := 35) (φ := fun u_ => (rSl zE).v O2_ w2 u_ [(api_Sight.mk x17 x18.2 (decide (x19.2 = 1)))]) ((GR.zM _ (m13_ (zF rfl h_)) (KX.keep hX_ (by decide)))) (by decide), fun hq_ => addS_me hq_, fun hp_ hq_ => jM (φ := fun u_ => OwnL 2 zE 64 (Fr w0) O2_ w2 (u_) x20) hA_ (by decide) f_, fun hp_ => no_tf (zF rfl hp_) (hafter_ 15 (by kernel_rfl)), fun hq_ => BoxO.kx (v1_0_ (zW hq_)) hX_ (by decide) (by decide), fun hp_ hq_ => BoxO.kx (v1_1_ (zF rfl hp_) (zW hq_)) hX_ (by decide) (by decide), fun hp_ hq_ => BoxO.kx (v1_2_ (zF rfl hp_) (zW hq_)) hX_ (by decide) (by decide), fun hp_ => BoxO.kx (v1_3_ (zF rfl hp_)) hX_ (by decide) (by decide)⟩ trivial
   case z6_15 =>
    intro S_ a' w' hA_ hJ_ hS_ hafter_ hbef_ hK hg K_ Q_ hK_
    subst eJ_
    obtain ⟨O_, hB_, k0_, m1_, m4_, m13_, v0_0_, v0_1_, v0_2_, v1_0_, v1_1_, v1_2_, v1_3_⟩ := hJ_
    refine x_ok (φ := SP.isv (a'.get 36)) (zC rfl) fun v_ w2 hE hv_ => ?_
    replace hv_ : v_ = a'.get 36 := hv_
    have hB2_ := Base.step hB_ hE hO
    exact hK_ v_ w2 ⟨O_, hB2_, (k0_.trans (KX.keep (KX.ext hE) (by decide))), fun h_ => zG (d := some 6) (t := 23) (φ := fun u_ => (rSl (rInt .i64)).v O_ w2 u_ [0, 0, 1, 2]) ((GR.zM _ (m1_ (zF rfl h_)) (KX.keep (KX.ext hE) (by decide)))) (by decide), fun h_ => zG (d := some 6) (t := 26) (φ := fun u_ => PtrZ (rInt .i64) O_ w2 u_ x17) ((PtrZ.keep (m4_ (zF rfl h_)) (KX.keep (KX.ext hE) (by decide)) (by decide) (fun _ => rfl))) (by decide), fun h_ => zG (d := some 6) (t := 35) (φ := fun u_ => (rSl zE).v O_ w2 u_ [(api_Sight.mk x17 x18.2 (decide (x19.2 = 1)))]) ((GR.zM _ (m13_ (zF rfl h_)) (KX.keep (KX.ext hE) (by decide)))) (by decide), fun hq_ => no_tf (hbef_ 14 (by kernel_rfl)) hq_, fun hp_ hq_ => addS_me hq_, fun hp_ => jM (φ := fun u_ => OwnL 2 zE 64 (Fr w0) O_ w2 (u_) x20) hA_ (by decide) (by rw [hv_]; exact OwnL.ext (v0_1_ (zF rfl (hbef_ 14 (by kernel_rfl))) hS_) hE), fun hq_ => BoxO.kx (v1_0_ (zW hq_)) (KX.ext hE) (by decide) (by decide), fun hp_ hq_ => BoxO.kx (v1_1_ (zF rfl hp_) (zW hq_)) (KX.ext hE) (by decide) (by decide), fun hp_ hq_ => BoxO.kx (v1_2_ (zF rfl hp_) (zW hq_)) (KX.ext hE) (by decide) (by decide), fun hp_ => BoxO.kx (v1_3_ (zF rfl hp_)) (KX.ext hE) (by decide) (by decide)⟩ trivial
   case zsk6 =>
    subst eJ_
    intro i_ o_ S_ a_ w_ ho_ hact_ hA_ hS_ hbef_ hJ_
    obtain ⟨O_, hB_, k0_, m1_, m4_, m13_, v0_0_, v0_1_, v0_2_, v1_0_, v1_1_, v1_2_, v1_3_⟩ := hJ_
    exact ⟨O_, hB_, k0_, fun h_ => by obtain ⟨h1_, h2_⟩ := yK (j := 1) hact_ rfl h_; exact zG (t := 23) (φ := fun u_ => (rSl (rInt .i64)).v O_ w_ u_ [0, 0, 1, 2]) (m1_ h1_) (yF (j := 1) (by kernel_rfl) ho_ h2_), fun h_ => by obtain ⟨h1_, h2_⟩ := yK (j := 4) hact_ rfl h_; exact zG (t := 26) (φ := fun u_ => PtrZ (rInt .i64) O_ w_ u_ x17) (m4_ h1_) (yF (j := 4) (by kernel_rfl) ho_ h2_), fun h_ => by obtain ⟨h1_, h2_⟩ := yK (j := 13) hact_ rfl h_; exact zG (t := 35) (φ := fun u_ => (rSl zE).v O_ w_ u_ [(api_Sight.mk x17 x18.2 (decide (x19.2 = 1)))]) (m13_ h1_) (yF (j := 13) (by kernel_rfl) ho_ h2_), fun hq_ => (v0_0_ (zW hq_)), fun hp_ hq_ => by obtain ⟨h1_, h2_⟩ := yK (j := 14) hact_ rfl hp_; exact zG (t := 36) (φ := fun u_ => OwnL 2 zE 64 (Fr w0) O_ w_ (u_) x20) (v0_1_ h1_ (zW hq_)) (yF (j := 14) (by kernel_rfl) ho_ h2_), fun hp_ => by obtain ⟨h1_, h2_⟩ := yK (j := 15) hact_ rfl hp_; exact zG (t := 6) (φ := fun u_ => OwnL 2 zE 64 (Fr w0) O_ w_ (u_) x20) (v0_2_ h1_) (yF (j := 15) (by kernel_rfl) ho_ h2_), fun hq_ => (v1_0_ (zW hq_)), fun hp_ hq_ => by obtain ⟨h1_, h2_⟩ := yK (j := 3) hact_ rfl hp_; exact (v1_1_ h1_ (zW hq_)), fun hp_ hq_ => by obtain ⟨h1_, h2_⟩ := yK (j := 8) hact_ rfl hp_; exact (v1_2_ h1_ (zW hq_)), fun hp_ => by obtain ⟨h1_, h2_⟩ := yK (j := 10) hact_ rfl hp_; exact (v1_3_ h1_)⟩
   case zst6 => subst eJ_; exact fun w1_ hE_ => ⟨O14, (Base.step hB hE_ hO), (Keep.ext hE_), fun h_ => no_ft h_, fun h_ => no_ft h_, fun h_ => no_ft h_, fun _ => OwnL.ext f8 hE_, fun hp_ => no_ft hp_, fun hp_ => no_ft hp_, fun _ => BoxO.ext ⟨_, f4, ⟨_, _, rfl, (va (r := (rSl (rInt .i64))) f12 rfl rfl), ⟨_, _, rfl, rfl, rfl⟩⟩⟩ hE_, fun hp_ => no_ft hp_, fun hp_ => no_ft hp_, fun hp_ => no_ft hp_⟩
   case zok6 | zgd6 => kernel_rfl
   subst eJ_; clear T_
   intro a13 w13 hA HF hJ_
   obtain ⟨O21, hB_, k0_, m1_, m4_, m13_, v0_0_, v0_1_, v0_2_, v1_0_, v1_1_, v1_2_, v1_3_⟩ := hJ_
   replace q0 := kn (HF 0) rfl q0
   replace q1 := kn (HF 1) rfl q1
   replace q5 := kn (HF 5) rfl q5
   have f23 := (v0_2_ rfl)
   obtain ⟨u22, q6'⟩ : ∃ u, a13.get 6 = u := ⟨_, rfl⟩
   rw [q6'] at f23
   clear q6
   have q6 := q6'; clear q6'
   replace q7 := kn (HF 7) rfl q7
   clear q19; clear HF
   replace h_0 := GR.zM _ h_0 k0_
   have f24 := (v1_3_ rfl)
   clear f8; clear f4; clear hB; have hB := hB_; clear hB_
   have hz_ := f24; clear f24; obtain ⟨cs_, f25, hr_⟩ := hz_
   obtain ⟨u26, e_, f27⟩ := vv hr_; subst e_
   clear k0_ m1_ m4_ m13_ v0_0_ v0_1_ v0_2_ v1_0_ v1_1_ v1_2_ v1_3_; refine yA (zA ?_)
   refine' rb [_, _, _] mixed hA hB hO (mv q7 (cn (fun hE hK => yp (ks 0 hK 20 rfl) rfl) (cn (fun hE hK => zC (ks 1 hK 21 rfl)) .nil))) ?zk7
   intro a14 w14 hA hE hB HF; refine kr4 HF q0 q1 q5 q6 ?_; clear q0 q1 q5 q6; intro q0 q1 q5 q6; replace q7 := ksv (HF 7) rfl rfl rfl; clear HF; replace h_0 := vx h_0 hE; replace f23 := f23.ext hE; replace f25 := f25.ext hE; replace f27 := vx f27 hE; clear hE; refine zD (zA ?_)
   have h := hnext2 _ (Comp.run_pure h).symm
   refine ⟨m2, hlt2, ?_⟩
   exact ⟨_, _, _, _, _, _, _, hA, hB, q0, h_0, q1, q5, q6, f23, q7, f25, f27, h⟩
  ·
   refine wp_exit (zT (zT (yS ?_)))
   have hd_ := hdone2 _ (Comp.run_pure h).symm; clear h
   subst hd_; have h := hk2; clear hk2; try dsimp only at h
   refine zA ?_
   exact ⟨_, _, _, hA, hB, q6, f8, h⟩
 intro a15 w15 hI
 clear hA hB h q0 q1 q5 q6 f4 h_0
 obtain ⟨O33, x30, u31, hA, hB, q6, f32, h⟩ := hI
 unfold gz at h; refine wp_seq ?_
 refine' rb [_, _] mixed hA hB hO (mv q6 (cn (fun hE hK => zC (ks 0 hK 37 rfl)) .nil)) ?zk8
 intro a16 w16 hA hE hB HF; have q4 := ksv (HF 4) rfl rfl rfl; clear q6 HF; replace f32 := f32.ext hE; clear hE; refine zD (zA (wp_ret ?_))
 have h := Comp.run_pure h; subst h
 exact zd Try.results37 hA q4 hB.ext (OwnL.res f32 (by decide) hB.zero)
theorem ok_colletlaw43_Case_made {O : Tags} {w0 : World} (hO : OkO O w0) {v_0 : Value} {x_0 : colletlaw43_Case} (h_0 : zU.v O w0 v_0 x_0) {x_1 : Int} {n : Nat} {y : ((List api_Claim) × (List api_Sight) × Int)} (h : (vZ x_0 x_1).run n = some y) : Pure Try.prog 9 #[v_0, .int .i64 x_1] w0 (SP.tup3 (SP.ownr zB 33 (w0.heap.size) O y.1) (SP.vl (rSl zE) O y.2.1) (SP.isv (.int .i64 y.2.2))).holds := by
 unfold vZ at h
 refine zS Try.func9 rfl 56 Try.ntmps9 (by simp) fun a0 hA hs0 => ?_
 have q0 : a0.get 0 = v_0 := hs0 0 _ rfl
 have q1 : a0.get 1 = .int .i64 x_1 := hs0 1 _ rfl
 clear hs0
 have hB : Base (Fr w0) O w0 O w0 := Base.start hO
 refine wp_seq ?_
 refine' rb [SP.vl (rBox zU) O x_0, _, _, _] mixed hA hB hO (cn (fun hE hK => jo (r := zU) yE (OkO.ext hB.ok hE) (kq hK q0) (vx h_0 hE)) (cn (fun hE hK => zC rfl) (cn (fun hE hK => zC rfl) (cn (fun hE hK => zC rfl) .nil)))) ?zk1
 intro a1 w1 hA hE hB HF; replace q1 := kf HF q1; obtain ⟨u1, q2, f2⟩ := kx (HF 2) rfl rfl rfl; clear q0 HF; replace h_0 := vx h_0 hE; clear hE; refine zD (zA (wp_seq ?_))
 refine' rb [SP.ptr (rInt .u8) O x_0.Cells, SP.isv (.int .u8 x_0.Cells), _, _, _, _] mixed hA hB hO (cn (fun hE hK => yj (S := zU) yE rfl (fun _ => rfl) sb_colletlaw43_Case_1 fl25_1 (kq hK q2) (vx f2 hE)) (cn (fun hE hK => zn (rInt .u8) (fun _ => rfl) ty5 rfl rfl rfl (kp (SP.ptr (rInt .u8) O x_0.Cells) 0 hK 10 rfl) (fun _ _ _ h => zZ.1 h)) (cn (fun hE hK => ok_convI ty5 ty3 (ks 1 hK 11 rfl)) (cn (fun hE hK => ok_rem (ks 2 hK 12 rfl) rfl (by decide)) (cn (fun hE hK => yp rfl (ks 3 hK 13 rfl)) (cn (fun hE hK => zC (ks 4 hK 14 rfl)) .nil)))))) ?zk2
 intro a2 w2 hA hE hB HF; replace q1 := kf HF q1; replace q2 := kf HF q2; have q7 := ksv (HF 7) rfl rfl rfl; clear HF; replace f2 := vx f2 hE; clear hE
 obtain ⟨x3, hx_, h⟩ := Comp.run_bind h; replace hx_ := Comp.run_pure hx_; rw [hx_] at q7; clear hx_
 refine zD (zA (wp_seq ?_))
 refine' rb [_] mixed hA hB hO (cn (fun hE hK => zC rfl) .nil) ?zk3
 intro a3 w3 hA hE hB HF; refine kr3 HF q1 q2 q7 ?_; clear q1 q2 q7; intro q1 q2 q7; have q8 := ksv (HF 8) rfl rfl rfl; clear HF; replace f2 := vx f2 hE; clear hE; refine zD (zA ?_)
 refine zY (fun a w => ∃ (O26 : Tags) (x21 : List (List Int)) (u22 : Value), a.fit 56 ∧ Base (Fr w0) O w0 O26 w ∧ a.get 1 = .int .i64 x_1 ∧ a.get 2 = u1 ∧ (rBox zU).v O26 w u1 x_0 ∧ a.get 7 = .int .i64 x3 ∧ a.get 8 = u22 ∧ (rSl (rSl (rInt .i64))).v O26 w u22 x21 ∧ (gQ x3 x_1 x_0 x21).run n = some y) ?_ ?_
 ·
  refine wp_seq ?_
  refine' rb [_] mixed hA hB hO (cn (fun hE hK => zC rfl) .nil) ?zk4
  intro a4 w4 hA hE hB HF; refine kr4 HF q1 q2 q7 q8 ?_; clear q1 q2 q7 q8; intro q1 q2 q7 q8; have q9 := ksv (HF 9) rfl rfl rfl; clear HF; replace f2 := vx f2 hE; clear hE; refine zD (zA (wp_block ?_))
  obtain ⟨e2, he2, hk2⟩ := Comp.run_bind h; clear h
  refine vg (fun m a w => ∃ (O8 : Tags) (x4 : List (List Int)) (x7 : Int) (u5 : Value), a.fit 56 ∧ Base (Fr w0) O w0 O8 w ∧ a.get 1 = .int .i64 x_1 ∧ a.get 2 = u1 ∧ (rBox zU).v O8 w u1 x_0 ∧ a.get 7 = .int .i64 x3 ∧ a.get 8 = u5 ∧ OwnL 1 (rSl (rInt .i64)) 23 (Fr w0) O8 w u5 x4 ∧ a.get 9 = .int .i64 x7 ∧ Comp.loopN (fun s => yX x_0 s.1 s.2) n m (x4, x7) = some e2) (m := n) ?st2 ?_
  case st2 =>
   exact ⟨_, _, _, _, hA, hB, q1, q2, f2, q7, q8, (OwnL.nil _ _ _ _ _ _), q9, Comp.yB he2⟩
  intro m_ a5 w5 hI
  clear hA hB he2 q1 q2 q7 q8 q9 f2
  obtain ⟨O8, x4, x7, u5, hA, hB, q1, q2, f2, q7, q8, f6, q9, hl⟩ := hI
  obtain ⟨m2, hlt2, st2, h, hnext2, hdone2⟩ := Comp.zg hl; clear hl
  replace h : (yX x_0 x4 x7).run n = some st2 := h
  unfold yX at h; refine wp_seq (wp_seq ?_)
  refine' rb [_, SP.ptr (rSl (rSl (rInt .i64))) O8 x_0.Claims, SP.vl (rSl (rSl (rInt .i64))) O8 x_0.Claims, _, _, _, _, _, _] mixed hA hB hO (mv q9 (cn (fun hE hK => yj (S := zU) yE rfl (fun _ => rfl) jz fl25_0 (kq hK q2) (vx f2 hE)) (cn (fun hE hK => yz (r := (rSl (rSl (rInt .i64)))) (fun _ => rfl) ty22 rfl rfl rfl (kp (SP.ptr (rSl (rSl (rInt .i64))) O8 x_0.Claims) 1 hK 16 rfl)) (cn (fun hE hK => zw (r := (rSl (rInt .i64))) ty22 rfl (rd_of (kp (SP.vl (rSl (rSl (rInt .i64))) O8 x_0.Claims) 2 hK 17 rfl))) (cn (fun hE hK => yY (ks 0 hK 15 rfl) (ks 3 hK 18 rfl)) (cn (fun hE hK => zI (ks 4 hK 19 rfl)) (mv q9 (.cons (fun _ _ hE hK hg => yY (kg 6 hK 21 rfl hg) rfl) (cn (fun hE hK => zh (ks 5 hK 20 rfl) (fun hb => kg 7 hK 22 rfl (yG rfl rfl hb)) (fun _ => rfl)) .nil))))))))) ?zk5
  intro a6 w6 hA hE hB HF; refine kr5 HF q1 q2 q7 q8 q9 ?_; clear q1 q2 q7 q8 q9; intro q1 q2 q7 q8 q9; have q23 := ksv (HF 23) rfl rfl rfl; clear HF; replace f2 := vx f2 hE; replace f6 := f6.ext hE; clear hE
  obtain ⟨x9, hx_, h⟩ := Comp.run_bind h; replace hx_ := Comp.run_pure hx_; rw [hx_] at q23; clear hx_
  refine zD (zA ?_)
  revert h; refine cnd q23 (fun h => ?_) (fun h => ?_)
  ·
   refine wp_skip (zA (wp_seq (wp_block ?_))); obtain ⟨x10, hx10, h⟩ := Comp.run_bind h; obtain ⟨x11, hx11, h⟩ := Comp.run_bind h; obtain ⟨x12, hx12, h⟩ := Comp.run_bind h
   refine' rb [_, SP.ptr (rSl (rSl (rInt .i64))) O8 x_0.Claims, SP.vl (rSl (rSl (rInt .i64))) O8 x_0.Claims, _, SP.ptr (rSl (rInt .i64)) O8 x10, SP.vl (rSl (rInt .i64)) O8 x10, SP.ptr (rSl (rSl (rInt .i64))) O8 x_0.Claims, SP.vl (rSl (rSl (rInt .i64))) O8 x_0.Claims, _, SP.ptr (rSl (rInt .i64)) O8 x11, SP.vl (rSl (rInt .i64)) O8 x11, _, _, SP.vl (rSl (rInt .i64)) O8 x12, SP.vl (rSl (rSl (rInt .i64))) O8 [x12]] mixed hA hB hO (mv q8 (cn (fun hE hK => yj (S := zU) yE rfl (fun _ => rfl) jz fl25_0 (kq hK q2) (vx f2 hE)) (cn (fun hE hK => yz (r := (rSl (rSl (rInt .i64)))) (fun _ => rfl) ty22 rfl rfl rfl (kp (SP.ptr (rSl (rSl (rInt .i64))) O8 x_0.Claims) 1 hK 27 rfl)) (mv q9 (cn (fun hE hK => yV (r := (rSl (rInt .i64))) (O := O8) ty22 ty23 rfl rfl (rd_of (kp (SP.vl (rSl (rSl (rInt .i64))) O8 x_0.Claims) 2 hK 28 rfl)) (ks 3 hK 29 rfl) hx10) (cn (fun hE hK => yz (r := (rSl (rInt .i64))) (fun _ => rfl) ty23 rfl rfl rfl (kp (SP.ptr (rSl (rInt .i64)) O8 x10) 4 hK 30 rfl)) (cn (fun hE hK => yj (S := zU) yE rfl (fun _ => rfl) jz fl25_0 (kq hK q2) (vx f2 hE)) (cn (fun hE hK => yz (r := (rSl (rSl (rInt .i64)))) (fun _ => rfl) ty22 rfl rfl rfl (kp (SP.ptr (rSl (rSl (rInt .i64))) O8 x_0.Claims) 6 hK 32 rfl)) (mv q9 (cn (fun hE hK => yV (r := (rSl (rInt .i64))) (O := O8) ty22 ty23 rfl rfl (rd_of (kp (SP.vl (rSl (rSl (rInt .i64))) O8 x_0.Claims) 7 hK 33 rfl)) (ks 8 hK 34 rfl) hx11) (cn (fun hE hK => yz (r := (rSl (rInt .i64))) (fun _ => rfl) ty23 rfl rfl rfl (kp (SP.ptr (rSl (rInt .i64)) O8 x11) 9 hK 35 rfl)) (cn (fun hE hK => zw (r := (rInt .i64)) ty23 rfl (rd_of (kp (SP.vl (rSl (rInt .i64)) O8 x11) 10 hK 36 rfl))) (cn (fun hE hK => ok_min (ks 11 hK 37 rfl) rfl) (cn (fun hE hK => okl_slice_h (r := (rInt .i64)) ty23 ty3 rfl rfl (kp (SP.vl (rSl (rInt .i64)) O8 x10) 5 hK 31 rfl) (ks 12 hK 38 rfl) hx12) (cn (fun hE hK => zR (r := (rSl (rInt .i64))) (fun _ => rfl) rfl (OkO.ext hB.ok hE) ty22 ty23 (zV rfl zz) ⟨(kp (SP.vl (rSl (rInt .i64)) O8 x12) 13 hK 39 rfl), trivial⟩ rfl (by decide)) .nil))))))))))))))) ?zk6
   intro a7 w7 hA hE hB HF; refine kr5 HF q1 q2 q7 q8 q9 ?_; clear q1 q2 q7 q8 q9; intro q1 q2 q7 q8 q9; obtain ⟨u13, q40, f14⟩ := kx (HF 40) rfl rfl rfl; have q26 := ksv (HF 26) rfl rfl rfl; clear q23 HF; replace f2 := vx f2 hE; replace f6 := f6.ext hE; clear hE; obtain ⟨x15, hx15, h⟩ := Comp.run_bind h
   refine jt (r := (rSl (rInt .i64))) (fun _ => rfl) rfl ty22 ty23 rfl (by decide) hO hB (yJ hB) q26 f6 q40 (rd_of f14) hx15 (by decide) fun u16 w8 O17 f18 hB' hX => ?_
   clear hB; have hB := hB'; clear hB'; clear f6; replace f2 := vk f2 hX; replace f14 := vk f14 hX; clear hX
   refine zO hA (by decide) fun a9 hA q_ hfr => ?_
   refine kd7 hfr q1 q2 q7 q8 q9 q26 q40 ?_; clear q1 q2 q7 q8 q9 q26 q40; intro q1 q2 q7 q8 q9 q26 q40; have q41 := q_; clear q_ hfr
   refine l_ok (φ := SP.isv (u16)) hO hB (by exact zC q41) rfl fun u_ w10 hE hB' hv_ => ?_
   replace hv_ := Eq.symm hv_; subst hv_; clear hB; have hB := hB'; clear hB'
   replace f2 := vx f2 hE; replace f18 := f18.ext hE; clear hE
   refine zO hA (by decide) fun a11 hA q_ hfr => ?_
   replace q1 := (hfr 1 rfl).trans q1
   replace q2 := (hfr 2 rfl).trans q2
   replace q7 := (hfr 7 rfl).trans q7
   replace q9 := (hfr 9 rfl).trans q9
   replace q41 := (hfr 41 rfl).trans q41
   clear q8; have q8 := q_; clear q_ hfr; refine zD (yA (zA ?_))
   refine' rb [_, _, _] mixed hA hB hO (mv q9 (cn (fun hE hK => yp (ks 0 hK 24 rfl) rfl) (cn (fun hE hK => zC (ks 1 hK 25 rfl)) .nil))) ?zk7
   intro a12 w12 hA hE hB HF; refine kr4 HF q1 q2 q7 q8 ?_; clear q1 q2 q7 q8; intro q1 q2 q7 q8; replace q9 := ksv (HF 9) rfl rfl rfl; clear HF; replace f2 := vx f2 hE; replace f18 := f18.ext hE; clear hE; refine zD (zA ?_)
   have h := hnext2 _ (Comp.run_pure h).symm
   refine ⟨m2, hlt2, ?_⟩
   exact ⟨_, _, _, _, hA, hB, q1, q2, f2, q7, q8, f18, q9, h⟩
  ·
   refine wp_exit (zT (zT (yS ?_)))
   have hd_ := hdone2 _ (Comp.run_pure h).symm; clear h
   subst hd_; have h := hk2; clear hk2; try dsimp only at h
   refine zA ?_
   obtain ⟨O24, hB', hX, f25⟩ := freezeL hO hB f6 (by decide)
   clear f6 hB; have hB := hB'; clear hB'; replace f2 := vk f2 hX; clear hX
   exact ⟨_, _, _, hA, hB, q1, q2, f2, q7, q8, f25, h⟩
 intro a13 w13 hI
 clear hA hB h q1 q2 q7 q8 f2
 obtain ⟨O26, x21, u22, hA, hB, q1, q2, f2, q7, q8, f23, h⟩ := hI
 unfold gQ at h; refine wp_seq ?_; obtain ⟨x27, hx27, h⟩ := Comp.run_bind h; obtain ⟨x28, hx28, h⟩ := Comp.run_bind h; obtain ⟨x29, hx29, h⟩ := Comp.run_bind h
 obtain ⟨J_, eJ_⟩ : ∃ J_ : (Nat → Bool) → Act → World → Prop, J_ = (fun S_ a_ w_ => ∃ O_ : Tags, Base (Fr w0) O w0 O_ w_ ∧ Keep 0 O26 w13 O_ w_ ∧ (S_ 4 = true → PtrZ (rSl (rInt .i64)) O_ w_ (a_.get 46) x_0.Sights) ∧ (S_ 5 = true → (rSl (rInt .i64)).v O_ w_ (a_.get 47) x_0.Sights) ∧ (S_ 6 = true → PtrZ (rSl (rInt .i64)) O_ w_ (a_.get 48) x_0.Sights) ∧ (S_ 7 = true → (rSl (rInt .i64)).v O_ w_ (a_.get 49) x_0.Sights) ∧ (S_ 10 = true → (rSl (rInt .i64)).v O_ w_ (a_.get 52) x28) ∧ (S_ 12 = true → (rSl zE).v O_ w_ (a_.get 54) x29) ∧ (S_ 15 = true → (rSl zE).v O_ w_ (a_.get 5) x29) ∧ (S_ 3 = true → S_ 14 = false → OwnL 2 zB 33 (Fr w0) O_ w_ (a_.get 45) x27) ∧ (S_ 14 = true → OwnL 2 zB 33 (Fr w0) O_ w_ (a_.get 4) x27)) := ⟨_, rfl⟩
 have T_ : ∀ {i_ : Nat} {d_ : Option Tmp} {v_ : Value} {S_ a' w' w2}, Nat.beq 3 i_ = false → Nat.beq 4 i_ = false → Nat.beq 5 i_ = false → Nat.beq 6 i_ = false → Nat.beq 7 i_ = false → Nat.beq 10 i_ = false → Nat.beq 12 i_ = false → Nat.beq 14 i_ = false → Nat.beq 15 i_ = false → d_ ≠ some 4 → d_ ≠ some 5 → d_ ≠ some 45 → d_ ≠ some 46 → d_ ≠ some 47 → d_ ≠ some 48 → d_ ≠ some 49 → d_ ≠ some 52 → d_ ≠ some 54 → Ext w' w2 → J_ S_ a' w' → J_ (addS S_ i_) (a'.put d_ v_) w2 := by
  subst eJ_; intro i_ d_ v_ S_ a' w' w2 n3_ n4_ n5_ n6_ n7_ n10_ n12_ n14_ n15_ s4_ s5_ s45_ s46_ s47_ s48_ s49_ s52_ s54_ hE hJ_
  obtain ⟨O_, hB_, k0_, m4_, m5_, m6_, m7_, m10_, m12_, m15_, v0_0_, v0_1_⟩ := hJ_
  exact ⟨O_, (Base.step hB_ hE hO), (k0_.trans (KX.keep (KX.ext hE) (by decide))), fun h_ => zG (d := d_) (t := 46) (φ := fun u_ => PtrZ (rSl (rInt .i64)) O_ w2 u_ x_0.Sights) ((PtrZ.keep (m4_ (zF n4_ h_)) (KX.keep (KX.ext hE) (by decide)) (by decide) (fun _ => rfl))) s46_, fun h_ => zG (d := d_) (t := 47) (φ := fun u_ => (rSl (rInt .i64)).v O_ w2 u_ x_0.Sights) ((GR.zM _ (m5_ (zF n5_ h_)) (KX.keep (KX.ext hE) (by decide)))) s47_, fun h_ => zG (d := d_) (t := 48) (φ := fun u_ => PtrZ (rSl (rInt .i64)) O_ w2 u_ x_0.Sights) ((PtrZ.keep (m6_ (zF n6_ h_)) (KX.keep (KX.ext hE) (by decide)) (by decide) (fun _ => rfl))) s48_, fun h_ => zG (d := d_) (t := 49) (φ := fun u_ => (rSl (rInt .i64)).v O_ w2 u_ x_0.Sights) ((GR.zM _ (m7_ (zF n7_ h_)) (KX.keep (KX.ext hE) (by decide)))) s49_, fun h_ => zG (d := d_) (t := 52) (φ := fun u_ => (rSl (rInt .i64)).v O_ w2 u_ x28) ((GR.zM _ (m10_ (zF n10_ h_)) (KX.keep (KX.ext hE) (by decide)))) s52_, fun h_ => zG (d := d_) (t := 54) (φ := fun u_ => (rSl zE).v O_ w2 u_ x29) ((GR.zM _ (m12_ (zF n12_ h_)) (KX.keep (KX.ext hE) (by decide)))) s54_, fun h_ => zG (d := d_) (t := 5) (φ := fun u_ => (rSl zE).v O_ w2 u_ x29) ((GR.zM _ (m15_ (zF n15_ h_)) (KX.keep (KX.ext hE) (by decide)))) s5_, fun hp_ hq_ => zG (d := d_) (t := 45) (φ := fun u_ => OwnL 2 zB 33 (Fr w0) O_ w2 (u_) x27) (OwnL.kx (v0_0_ (zF n3_ hp_) (zW hq_)) (KX.ext hE) (by decide) (by decide)) s45_, fun hp_ => zG (d := d_) (t := 4) (φ := fun u_ => OwnL 2 zB 33 (Fr w0) O_ w2 (u_) x27) (OwnL.kx (v0_1_ (zF n14_ hp_)) (KX.ext hE) (by decide) (by decide)) s4_⟩
 refine' regionX (draw := true) J_ [SP.isv (u22), SP.isv (.int .i64 x3), SP.isv (.int .i64 x_1), SP.tt, SP.tt, SP.tt, SP.tt, SP.tt, SP.isv (.int .i64 (x_0.Sights.length : Int)), SP.isv (.int .i64 (min (x_0.Sights.length : Int) 30)), SP.tt, SP.isv (.int .i64 x3), SP.tt, SP.isv (.int .i64 x3), SP.tt, SP.tt, SP.isv (.int .i64 x3)] mixed hA (.cons (zk _) (.cons (zk _) (.cons (zk _) (.cons (go _) (.cons (go _) (.cons (go _) (.cons (go _) (.cons (go _) (.cons (zk _) (.cons (zk _) (.cons (go _) (.cons (zk _) (.cons (go _) (.cons (zk _) (.cons (go _) (.cons (go _) (.cons (zk _) .nil))))))))))))))))) (.cons ?z8_0 (.cons ?z8_1 (.cons ?z8_2 (.cons ?z8_3 (.cons ?z8_4 (.cons ?z8_5 (.cons ?z8_6 (.cons ?z8_7 (.cons ?z8_8 (.cons ?z8_9 (.cons ?z8_10 (.cons ?z8_11 (.cons ?z8_12 (.cons ?z8_13 (.cons ?z8_14 (.cons ?z8_15 (.cons ?z8_16 .nil))))))))))))))))) ?zsk8 ?zst8 ?zok8 ?zgd8 ?zk8
 case z8_0 =>
  intro S_ a' w' hA_ hJ_ hS_ hafter_ hbef_ hK hg K_ Q_ hK_
  refine x_ok (φ := SP.isv (u22)) (by exact zI (kq hK q8)) fun v_ w2 hE hv_ => hK_ v_ w2 (T_ rfl rfl rfl rfl rfl rfl rfl rfl rfl (by decide) (by decide) (by decide) (by decide) (by decide) (by decide) (by decide) (by decide) (by decide) hE hJ_) hv_
 case z8_1 =>
  intro S_ a' w' hA_ hJ_ hS_ hafter_ hbef_ hK hg K_ Q_ hK_
  refine x_ok (φ := SP.isv (.int .i64 x3)) (by exact zI (kq hK q7)) fun v_ w2 hE hv_ => hK_ v_ w2 (T_ rfl rfl rfl rfl rfl rfl rfl rfl rfl (by decide) (by decide) (by decide) (by decide) (by decide) (by decide) (by decide) (by decide) (by decide) hE hJ_) hv_
 case z8_2 =>
  intro S_ a' w' hA_ hJ_ hS_ hafter_ hbef_ hK hg K_ Q_ hK_
  refine x_ok (φ := SP.isv (.int .i64 x_1)) (by exact zI (kq hK q1)) fun v_ w2 hE hv_ => hK_ v_ w2 (T_ rfl rfl rfl rfl rfl rfl rfl rfl rfl (by decide) (by decide) (by decide) (by decide) (by decide) (by decide) (by decide) (by decide) (by decide) hE hJ_) hv_
 case z8_3 =>
  intro S_ a' w' hA_ hJ_ hS_ hafter_ hbef_ hK hg K_ Q_ hK_
  subst eJ_
  obtain ⟨O_, hB_, k0_, m4_, m5_, m6_, m7_, m10_, m12_, m15_, v0_0_, v0_1_⟩ := hJ_
  refine x_ok (φ := SP.ownr zB 33 w'.heap.size O_ x27) (by have c_ := ok_colletref43_Claims hB_.ok (GR.zM _ f23 k0_) hx27; exact yO (vd fn36 (ks 0 hK 42 rfl) (ks 1 hK 43 rfl) (ks 2 hK 44 rfl) c_) (fun _ _ _ h => h)) fun v_ w2 hE hv_ => ?_
  obtain ⟨O2_, hB2_, hX_, f_⟩ := ownNew hO hB_ hE hv_ rfl 2 (by decide)
  exact hK_ v_ w2 ⟨O2_, hB2_, (k0_.trans (KX.keep hX_ (by decide))), fun h_ => zG (d := some 45) (t := 46) (φ := fun u_ => PtrZ (rSl (rInt .i64)) O2_ w2 u_ x_0.Sights) ((PtrZ.keep (m4_ (zF rfl h_)) (KX.keep hX_ (by decide)) (by decide) (fun _ => rfl))) (by decide), fun h_ => zG (d := some 45) (t := 47) (φ := fun u_ => (rSl (rInt .i64)).v O2_ w2 u_ x_0.Sights) ((GR.zM _ (m5_ (zF rfl h_)) (KX.keep hX_ (by decide)))) (by decide), fun h_ => zG (d := some 45) (t := 48) (φ := fun u_ => PtrZ (rSl (rInt .i64)) O2_ w2 u_ x_0.Sights) ((PtrZ.keep (m6_ (zF rfl h_)) (KX.keep hX_ (by decide)) (by decide) (fun _ => rfl))) (by decide), fun h_ => zG (d := some 45) (t := 49) (φ := fun u_ => (rSl (rInt .i64)).v O2_ w2 u_ x_0.Sights) ((GR.zM _ (m7_ (zF rfl h_)) (KX.keep hX_ (by decide)))) (by decide), fun h_ => zG (d := some 45) (t := 52) (φ := fun u_ => (rSl (rInt .i64)).v O2_ w2 u_ x28) ((GR.zM _ (m10_ (zF rfl h_)) (KX.keep hX_ (by decide)))) (by decide), fun h_ => zG (d := some 45) (t := 54) (φ := fun u_ => (rSl zE).v O2_ w2 u_ x29) ((GR.zM _ (m12_ (zF rfl h_)) (KX.keep hX_ (by decide)))) (by decide), fun h_ => zG (d := some 45) (t := 5) (φ := fun u_ => (rSl zE).v O2_ w2 u_ x29) ((GR.zM _ (m15_ (zF rfl h_)) (KX.keep hX_ (by decide)))) (by decide), fun hp_ hq_ => jM (φ := fun u_ => OwnL 2 zB 33 (Fr w0) O2_ w2 (u_) x27) hA_ (by decide) f_, fun hp_ => no_tf (zF rfl hp_) (hafter_ 14 (by kernel_rfl))⟩ trivial
 case z8_4 =>
  intro S_ a' w' hA_ hJ_ hS_ hafter_ hbef_ hK hg K_ Q_ hK_
  subst eJ_
  obtain ⟨O_, hB_, k0_, m4_, m5_, m6_, m7_, m10_, m12_, m15_, v0_0_, v0_1_⟩ := hJ_
  refine x_ok (φ := SP.ptrz (rSl (rInt .i64)) O_ x_0.Sights (of_decide_eq_true rfl) (fun _ => rfl)) (by exact okl_fldZ (S := zU) rfl (by decide) (fun _ => rfl) sb_colletlaw43_Case_2 fl25_2 (kq hK q2) (ptrz_of_box yE (GR.zM _ f2 k0_))) fun v_ w2 hE hv_ => ?_
  have hB2_ := Base.step hB_ hE hO
  exact hK_ v_ w2 ⟨O_, hB2_, (k0_.trans (KX.keep (KX.ext hE) (by decide))), fun _ => jM (φ := fun u_ => PtrZ (rSl (rInt .i64)) O_ w2 u_ x_0.Sights) hA_ (by decide) hv_, fun h_ => zG (d := some 46) (t := 47) (φ := fun u_ => (rSl (rInt .i64)).v O_ w2 u_ x_0.Sights) ((GR.zM _ (m5_ (zF rfl h_)) (KX.keep (KX.ext hE) (by decide)))) (by decide), fun h_ => zG (d := some 46) (t := 48) (φ := fun u_ => PtrZ (rSl (rInt .i64)) O_ w2 u_ x_0.Sights) ((PtrZ.keep (m6_ (zF rfl h_)) (KX.keep (KX.ext hE) (by decide)) (by decide) (fun _ => rfl))) (by decide), fun h_ => zG (d := some 46) (t := 49) (φ := fun u_ => (rSl (rInt .i64)).v O_ w2 u_ x_0.Sights) ((GR.zM _ (m7_ (zF rfl h_)) (KX.keep (KX.ext hE) (by decide)))) (by decide), fun h_ => zG (d := some 46) (t := 52) (φ := fun u_ => (rSl (rInt .i64)).v O_ w2 u_ x28) ((GR.zM _ (m10_ (zF rfl h_)) (KX.keep (KX.ext hE) (by decide)))) (by decide), fun h_ => zG (d := some 46) (t := 54) (φ := fun u_ => (rSl zE).v O_ w2 u_ x29) ((GR.zM _ (m12_ (zF rfl h_)) (KX.keep (KX.ext hE) (by decide)))) (by decide), fun h_ => zG (d := some 46) (t := 5) (φ := fun u_ => (rSl zE).v O_ w2 u_ x29) ((GR.zM _ (m15_ (zF rfl h_)) (KX.keep (KX.ext hE) (by decide)))) (by decide), fun hp_ hq_ => zG (d := some 46) (t := 45) (φ := fun u_ => OwnL 2 zB 33 (Fr w0) O_ w2 (u_) x27) (OwnL.kx (v0_0_ (zF rfl hp_) (zW hq_)) (KX.ext hE) (by decide) (by decide)) (by decide), fun hp_ => zG (d := some 46) (t := 4) (φ := fun u_ => OwnL 2 zB 33 (Fr w0) O_ w2 (u_) x27) (OwnL.kx (v0_1_ (zF rfl hp_)) (KX.ext hE) (by decide) (by decide)) (by decide)⟩ trivial
 case z8_5 =>
  intro S_ a' w' hA_ hJ_ hS_ hafter_ hbef_ hK hg K_ Q_ hK_
  subst eJ_
  obtain ⟨O_, hB_, k0_, m4_, m5_, m6_, m7_, m10_, m12_, m15_, v0_0_, v0_1_⟩ := hJ_
  refine x_ok (φ := SP.vl (rSl (rInt .i64)) O_ x_0.Sights) (by exact yz (r := (rSl (rInt .i64))) (fun _ => rfl) ty23 rfl rfl rfl (PtrZ.ptr (m4_ (zF rfl (hbef_ 4 (by kernel_rfl)))))) fun v_ w2 hE hv_ => ?_
  have hB2_ := Base.step hB_ hE hO
  exact hK_ v_ w2 ⟨O_, hB2_, (k0_.trans (KX.keep (KX.ext hE) (by decide))), fun h_ => zG (d := some 47) (t := 46) (φ := fun u_ => PtrZ (rSl (rInt .i64)) O_ w2 u_ x_0.Sights) ((PtrZ.keep (m4_ (zF rfl h_)) (KX.keep (KX.ext hE) (by decide)) (by decide) (fun _ => rfl))) (by decide), fun _ => jM (φ := fun u_ => (rSl (rInt .i64)).v O_ w2 u_ x_0.Sights) hA_ (by decide) hv_, fun h_ => zG (d := some 47) (t := 48) (φ := fun u_ => PtrZ (rSl (rInt .i64)) O_ w2 u_ x_0.Sights) ((PtrZ.keep (m6_ (zF rfl h_)) (KX.keep (KX.ext hE) (by decide)) (by decide) (fun _ => rfl))) (by decide), fun h_ => zG (d := some 47) (t := 49) (φ := fun u_ => (rSl (rInt .i64)).v O_ w2 u_ x_0.Sights) ((GR.zM _ (m7_ (zF rfl h_)) (KX.keep (KX.ext hE) (by decide)))) (by decide), fun h_ => zG (d := some 47) (t := 52) (φ := fun u_ => (rSl (rInt .i64)).v O_ w2 u_ x28) ((GR.zM _ (m10_ (zF rfl h_)) (KX.keep (KX.ext hE) (by decide)))) (by decide), fun h_ => zG (d := some 47) (t := 54) (φ := fun u_ => (rSl zE).v O_ w2 u_ x29) ((GR.zM _ (m12_ (zF rfl h_)) (KX.keep (KX.ext hE) (by decide)))) (by decide), fun h_ => zG (d := some 47) (t := 5) (φ := fun u_ => (rSl zE).v O_ w2 u_ x29) ((GR.zM _ (m15_ (zF rfl h_)) (KX.keep (KX.ext hE) (by decide)))) (by decide), fun hp_ hq_ => zG (d := some 47) (t := 45) (φ := fun u_ => OwnL 2 zB 33 (Fr w0) O_ w2 (u_) x27) (OwnL.kx (v0_0_ (zF rfl hp_) (zW hq_)) (KX.ext hE) (by decide) (by decide)) (by decide), fun hp_ => zG (d := some 47) (t := 4) (φ := fun u_ => OwnL 2 zB 33 (Fr w0) O_ w2 (u_) x27) (OwnL.kx (v0_1_ (zF rfl hp_)) (KX.ext hE) (by decide) (by decide)) (by decide)⟩ trivial
 case z8_6 =>
  intro S_ a' w' hA_ hJ_ hS_ hafter_ hbef_ hK hg K_ Q_ hK_
  subst eJ_
  obtain ⟨O_, hB_, k0_, m4_, m5_, m6_, m7_, m10_, m12_, m15_, v0_0_, v0_1_⟩ := hJ_
  refine x_ok (φ := SP.ptrz (rSl (rInt .i64)) O_ x_0.Sights (of_decide_eq_true rfl) (fun _ => rfl)) (by exact okl_fldZ (S := zU) rfl (by decide) (fun _ => rfl) sb_colletlaw43_Case_2 fl25_2 (kq hK q2) (ptrz_of_box yE (GR.zM _ f2 k0_))) fun v_ w2 hE hv_ => ?_
  have hB2_ := Base.step hB_ hE hO
  exact hK_ v_ w2 ⟨O_, hB2_, (k0_.trans (KX.keep (KX.ext hE) (by decide))), fun h_ => zG (d := some 48) (t := 46) (φ := fun u_ => PtrZ (rSl (rInt .i64)) O_ w2 u_ x_0.Sights) ((PtrZ.keep (m4_ (zF rfl h_)) (KX.keep (KX.ext hE) (by decide)) (by decide) (fun _ => rfl))) (by decide), fun h_ => zG (d := some 48) (t := 47) (φ := fun u_ => (rSl (rInt .i64)).v O_ w2 u_ x_0.Sights) ((GR.zM _ (m5_ (zF rfl h_)) (KX.keep (KX.ext hE) (by decide)))) (by decide), fun _ => jM (φ := fun u_ => PtrZ (rSl (rInt .i64)) O_ w2 u_ x_0.Sights) hA_ (by decide) hv_, fun h_ => zG (d := some 48) (t := 49) (φ := fun u_ => (rSl (rInt .i64)).v O_ w2 u_ x_0.Sights) ((GR.zM _ (m7_ (zF rfl h_)) (KX.keep (KX.ext hE) (by decide)))) (by decide), fun h_ => zG (d := some 48) (t := 52) (φ := fun u_ => (rSl (rInt .i64)).v O_ w2 u_ x28) ((GR.zM _ (m10_ (zF rfl h_)) (KX.keep (KX.ext hE) (by decide)))) (by decide), fun h_ => zG (d := some 48) (t := 54) (φ := fun u_ => (rSl zE).v O_ w2 u_ x29) ((GR.zM _ (m12_ (zF rfl h_)) (KX.keep (KX.ext hE) (by decide)))) (by decide), fun h_ => zG (d := some 48) (t := 5) (φ := fun u_ => (rSl zE).v O_ w2 u_ x29) ((GR.zM _ (m15_ (zF rfl h_)) (KX.keep (KX.ext hE) (by decide)))) (by decide), fun hp_ hq_ => zG (d := some 48) (t := 45) (φ := fun u_ => OwnL 2 zB 33 (Fr w0) O_ w2 (u_) x27) (OwnL.kx (v0_0_ (zF rfl hp_) (zW hq_)) (KX.ext hE) (by decide) (by decide)) (by decide), fun hp_ => zG (d := some 48) (t := 4) (φ := fun u_ => OwnL 2 zB 33 (Fr w0) O_ w2 (u_) x27) (OwnL.kx (v0_1_ (zF rfl hp_)) (KX.ext hE) (by decide) (by decide)) (by decide)⟩ trivial
 case z8_7 =>
  intro S_ a' w' hA_ hJ_ hS_ hafter_ hbef_ hK hg K_ Q_ hK_
  subst eJ_
  obtain ⟨O_, hB_, k0_, m4_, m5_, m6_, m7_, m10_, m12_, m15_, v0_0_, v0_1_⟩ := hJ_
  refine x_ok (φ := SP.vl (rSl (rInt .i64)) O_ x_0.Sights) (by exact yz (r := (rSl (rInt .i64))) (fun _ => rfl) ty23 rfl rfl rfl (PtrZ.ptr (m6_ (zF rfl (hbef_ 6 (by kernel_rfl)))))) fun v_ w2 hE hv_ => ?_
  have hB2_ := Base.step hB_ hE hO
  exact hK_ v_ w2 ⟨O_, hB2_, (k0_.trans (KX.keep (KX.ext hE) (by decide))), fun h_ => zG (d := some 49) (t := 46) (φ := fun u_ => PtrZ (rSl (rInt .i64)) O_ w2 u_ x_0.Sights) ((PtrZ.keep (m4_ (zF rfl h_)) (KX.keep (KX.ext hE) (by decide)) (by decide) (fun _ => rfl))) (by decide), fun h_ => zG (d := some 49) (t := 47) (φ := fun u_ => (rSl (rInt .i64)).v O_ w2 u_ x_0.Sights) ((GR.zM _ (m5_ (zF rfl h_)) (KX.keep (KX.ext hE) (by decide)))) (by decide), fun h_ => zG (d := some 49) (t := 48) (φ := fun u_ => PtrZ (rSl (rInt .i64)) O_ w2 u_ x_0.Sights) ((PtrZ.keep (m6_ (zF rfl h_)) (KX.keep (KX.ext hE) (by decide)) (by decide) (fun _ => rfl))) (by decide), fun _ => jM (φ := fun u_ => (rSl (rInt .i64)).v O_ w2 u_ x_0.Sights) hA_ (by decide) hv_, fun h_ => zG (d := some 49) (t := 52) (φ := fun u_ => (rSl (rInt .i64)).v O_ w2 u_ x28) ((GR.zM _ (m10_ (zF rfl h_)) (KX.keep (KX.ext hE) (by decide)))) (by decide), fun h_ => zG (d := some 49) (t := 54) (φ := fun u_ => (rSl zE).v O_ w2 u_ x29) ((GR.zM _ (m12_ (zF rfl h_)) (KX.keep (KX.ext hE) (by decide)))) (by decide), fun h_ => zG (d := some 49) (t := 5) (φ := fun u_ => (rSl zE).v O_ w2 u_ x29) ((GR.zM _ (m15_ (zF rfl h_)) (KX.keep (KX.ext hE) (by decide)))) (by decide), fun hp_ hq_ => zG (d := some 49) (t := 45) (φ := fun u_ => OwnL 2 zB 33 (Fr w0) O_ w2 (u_) x27) (OwnL.kx (v0_0_ (zF rfl hp_) (zW hq_)) (KX.ext hE) (by decide) (by decide)) (by decide), fun hp_ => zG (d := some 49) (t := 4) (φ := fun u_ => OwnL 2 zB 33 (Fr w0) O_ w2 (u_) x27) (OwnL.kx (v0_1_ (zF rfl hp_)) (KX.ext hE) (by decide) (by decide)) (by decide)⟩ trivial
 case z8_8 =>
  intro S_ a' w' hA_ hJ_ hS_ hafter_ hbef_ hK hg K_ Q_ hK_
  have hJ2_ := hJ_; rw [eJ_] at hJ2_; obtain ⟨O_, hB_, k0_, m4_, m5_, m6_, m7_, m10_, m12_, m15_, v0_0_, v0_1_⟩ := hJ2_
  refine x_ok (φ := SP.isv (.int .i64 (x_0.Sights.length : Int))) (by exact zw (r := (rInt .i64)) ty23 rfl (rd_of (m7_ (zF rfl (hbef_ 7 (by kernel_rfl)))))) fun v_ w2 hE hv_ => hK_ v_ w2 (T_ rfl rfl rfl rfl rfl rfl rfl rfl rfl (by decide) (by decide) (by decide) (by decide) (by decide) (by decide) (by decide) (by decide) (by decide) hE hJ_) hv_
 case z8_9 =>
  intro S_ a' w' hA_ hJ_ hS_ hafter_ hbef_ hK hg K_ Q_ hK_
  refine x_ok (φ := SP.isv (.int .i64 (min (x_0.Sights.length : Int) 30))) (by exact ok_min (ks 8 hK 50 rfl) rfl) fun v_ w2 hE hv_ => hK_ v_ w2 (T_ rfl rfl rfl rfl rfl rfl rfl rfl rfl (by decide) (by decide) (by decide) (by decide) (by decide) (by decide) (by decide) (by decide) (by decide) hE hJ_) hv_
 case z8_10 =>
  intro S_ a' w' hA_ hJ_ hS_ hafter_ hbef_ hK hg K_ Q_ hK_
  subst eJ_
  obtain ⟨O_, hB_, k0_, m4_, m5_, m6_, m7_, m10_, m12_, m15_, v0_0_, v0_1_⟩ := hJ_
  refine x_ok (φ := SP.vl (rSl (rInt .i64)) O_ x28) (by exact okl_slice_h (r := (rInt .i64)) ty23 ty3 rfl rfl (m5_ (zF rfl (hbef_ 5 (by kernel_rfl)))) (ks 9 hK 51 rfl) hx28) fun v_ w2 hE hv_ => ?_
  have hB2_ := Base.step hB_ hE hO
  exact hK_ v_ w2 ⟨O_, hB2_, (k0_.trans (KX.keep (KX.ext hE) (by decide))), fun h_ => zG (d := some 52) (t := 46) (φ := fun u_ => PtrZ (rSl (rInt .i64)) O_ w2 u_ x_0.Sights) ((PtrZ.keep (m4_ (zF rfl h_)) (KX.keep (KX.ext hE) (by decide)) (by decide) (fun _ => rfl))) (by decide), fun h_ => zG (d := some 52) (t := 47) (φ := fun u_ => (rSl (rInt .i64)).v O_ w2 u_ x_0.Sights) ((GR.zM _ (m5_ (zF rfl h_)) (KX.keep (KX.ext hE) (by decide)))) (by decide), fun h_ => zG (d := some 52) (t := 48) (φ := fun u_ => PtrZ (rSl (rInt .i64)) O_ w2 u_ x_0.Sights) ((PtrZ.keep (m6_ (zF rfl h_)) (KX.keep (KX.ext hE) (by decide)) (by decide) (fun _ => rfl))) (by decide), fun h_ => zG (d := some 52) (t := 49) (φ := fun u_ => (rSl (rInt .i64)).v O_ w2 u_ x_0.Sights) ((GR.zM _ (m7_ (zF rfl h_)) (KX.keep (KX.ext hE) (by decide)))) (by decide), fun _ => jM (φ := fun u_ => (rSl (rInt .i64)).v O_ w2 u_ x28) hA_ (by decide) hv_, fun h_ => zG (d := some 52) (t := 54) (φ := fun u_ => (rSl zE).v O_ w2 u_ x29) ((GR.zM _ (m12_ (zF rfl h_)) (KX.keep (KX.ext hE) (by decide)))) (by decide), fun h_ => zG (d := some 52) (t := 5) (φ := fun u_ => (rSl zE).v O_ w2 u_ x29) ((GR.zM _ (m15_ (zF rfl h_)) (KX.keep (KX.ext hE) (by decide)))) (by decide), fun hp_ hq_ => zG (d := some 52) (t := 45) (φ := fun u_ => OwnL 2 zB 33 (Fr w0) O_ w2 (u_) x27) (OwnL.kx (v0_0_ (zF rfl hp_) (zW hq_)) (KX.ext hE) (by decide) (by decide)) (by decide), fun hp_ => zG (d := some 52) (t := 4) (φ := fun u_ => OwnL 2 zB 33 (Fr w0) O_ w2 (u_) x27) (OwnL.kx (v0_1_ (zF rfl hp_)) (KX.ext hE) (by decide) (by decide)) (by decide)⟩ trivial
 case z8_11 =>
  intro S_ a' w' hA_ hJ_ hS_ hafter_ hbef_ hK hg K_ Q_ hK_
  refine x_ok (φ := SP.isv (.int .i64 x3)) (by exact zI (kq hK q7)) fun v_ w2 hE hv_ => hK_ v_ w2 (T_ rfl rfl rfl rfl rfl rfl rfl rfl rfl (by decide) (by decide) (by decide) (by decide) (by decide) (by decide) (by decide) (by decide) (by decide) hE hJ_) hv_
 case z8_12 =>
  intro S_ a' w' hA_ hJ_ hS_ hafter_ hbef_ hK hg K_ Q_ hK_
  subst eJ_
  obtain ⟨O_, hB_, k0_, m4_, m5_, m6_, m7_, m10_, m12_, m15_, v0_0_, v0_1_⟩ := hJ_
  refine x_ok (φ := SP.vl (rSl zE) O_ x29) (by have c_ := ok_colletref43_Sights hB_.ok (m10_ (zF rfl (hbef_ 10 (by kernel_rfl)))) hx29; exact yO (yg fn37 rfl (ks 11 hK 53 rfl) c_) (fun _ _ _ h => (OwnR.val h (fun g hg => hB_.ok g (OwnR.ge h g hg).1)))) fun v_ w2 hE hv_ => ?_
  have hB2_ := Base.step hB_ hE hO
  exact hK_ v_ w2 ⟨O_, hB2_, (k0_.trans (KX.keep (KX.ext hE) (by decide))), fun h_ => zG (d := some 54) (t := 46) (φ := fun u_ => PtrZ (rSl (rInt .i64)) O_ w2 u_ x_0.Sights) ((PtrZ.keep (m4_ (zF rfl h_)) (KX.keep (KX.ext hE) (by decide)) (by decide) (fun _ => rfl))) (by decide), fun h_ => zG (d := some 54) (t := 47) (φ := fun u_ => (rSl (rInt .i64)).v O_ w2 u_ x_0.Sights) ((GR.zM _ (m5_ (zF rfl h_)) (KX.keep (KX.ext hE) (by decide)))) (by decide), fun h_ => zG (d := some 54) (t := 48) (φ := fun u_ => PtrZ (rSl (rInt .i64)) O_ w2 u_ x_0.Sights) ((PtrZ.keep (m6_ (zF rfl h_)) (KX.keep (KX.ext hE) (by decide)) (by decide) (fun _ => rfl))) (by decide), fun h_ => zG (d := some 54) (t := 49) (φ := fun u_ => (rSl (rInt .i64)).v O_ w2 u_ x_0.Sights) ((GR.zM _ (m7_ (zF rfl h_)) (KX.keep (KX.ext hE) (by decide)))) (by decide), fun h_ => zG (d := some 54) (t := 52) (φ := fun u_ => (rSl (rInt .i64)).v O_ w2 u_ x28) ((GR.zM _ (m10_ (zF rfl h_)) (KX.keep (KX.ext hE) (by decide)))) (by decide), fun _ => jM (φ := fun u_ => (rSl zE).v O_ w2 u_ x29) hA_ (by decide) hv_, fun h_ => zG (d := some 54) (t := 5) (φ := fun u_ => (rSl zE).v O_ w2 u_ x29) ((GR.zM _ (m15_ (zF rfl h_)) (KX.keep (KX.ext hE) (by decide)))) (by decide), fun hp_ hq_ => zG (d := some 54) (t := 45) (φ := fun u_ => OwnL 2 zB 33 (Fr w0) O_ w2 (u_) x27) (OwnL.kx (v0_0_ (zF rfl hp_) (zW hq_)) (KX.ext hE) (by decide) (by decide)) (by decide), fun hp_ => zG (d := some 54) (t := 4) (φ := fun u_ => OwnL 2 zB 33 (Fr w0) O_ w2 (u_) x27) (OwnL.kx (v0_1_ (zF rfl hp_)) (KX.ext hE) (by decide) (by decide)) (by decide)⟩ trivial
 case z8_13 =>
  intro S_ a' w' hA_ hJ_ hS_ hafter_ hbef_ hK hg K_ Q_ hK_
  refine x_ok (φ := SP.isv (.int .i64 x3)) (by exact zI (kq hK q7)) fun v_ w2 hE hv_ => hK_ v_ w2 (T_ rfl rfl rfl rfl rfl rfl rfl rfl rfl (by decide) (by decide) (by decide) (by decide) (by decide) (by decide) (by decide) (by decide) (by decide) hE hJ_) hv_
 case z8_14 =>
  intro S_ a' w' hA_ hJ_ hS_ hafter_ hbef_ hK hg K_ Q_ hK_
  subst eJ_
  obtain ⟨O_, hB_, k0_, m4_, m5_, m6_, m7_, m10_, m12_, m15_, v0_0_, v0_1_⟩ := hJ_
  refine x_ok (φ := SP.isv (a'.get 45)) (zC rfl) fun v_ w2 hE hv_ => ?_
  replace hv_ : v_ = a'.get 45 := hv_
  have hB2_ := Base.step hB_ hE hO
  exact hK_ v_ w2 ⟨O_, hB2_, (k0_.trans (KX.keep (KX.ext hE) (by decide))), fun h_ => zG (d := some 4) (t := 46) (φ := fun u_ => PtrZ (rSl (rInt .i64)) O_ w2 u_ x_0.Sights) ((PtrZ.keep (m4_ (zF rfl h_)) (KX.keep (KX.ext hE) (by decide)) (by decide) (fun _ => rfl))) (by decide), fun h_ => zG (d := some 4) (t := 47) (φ := fun u_ => (rSl (rInt .i64)).v O_ w2 u_ x_0.Sights) ((GR.zM _ (m5_ (zF rfl h_)) (KX.keep (KX.ext hE) (by decide)))) (by decide), fun h_ => zG (d := some 4) (t := 48) (φ := fun u_ => PtrZ (rSl (rInt .i64)) O_ w2 u_ x_0.Sights) ((PtrZ.keep (m6_ (zF rfl h_)) (KX.keep (KX.ext hE) (by decide)) (by decide) (fun _ => rfl))) (by decide), fun h_ => zG (d := some 4) (t := 49) (φ := fun u_ => (rSl (rInt .i64)).v O_ w2 u_ x_0.Sights) ((GR.zM _ (m7_ (zF rfl h_)) (KX.keep (KX.ext hE) (by decide)))) (by decide), fun h_ => zG (d := some 4) (t := 52) (φ := fun u_ => (rSl (rInt .i64)).v O_ w2 u_ x28) ((GR.zM _ (m10_ (zF rfl h_)) (KX.keep (KX.ext hE) (by decide)))) (by decide), fun h_ => zG (d := some 4) (t := 54) (φ := fun u_ => (rSl zE).v O_ w2 u_ x29) ((GR.zM _ (m12_ (zF rfl h_)) (KX.keep (KX.ext hE) (by decide)))) (by decide), fun h_ => zG (d := some 4) (t := 5) (φ := fun u_ => (rSl zE).v O_ w2 u_ x29) ((GR.zM _ (m15_ (zF rfl h_)) (KX.keep (KX.ext hE) (by decide)))) (by decide), fun hp_ hq_ => addS_me hq_, fun hp_ => jM (φ := fun u_ => OwnL 2 zB 33 (Fr w0) O_ w2 (u_) x27) hA_ (by decide) (by rw [hv_]; exact OwnL.ext (v0_0_ (zF rfl (hbef_ 3 (by kernel_rfl))) hS_) hE)⟩ trivial
 case z8_15 =>
  intro S_ a' w' hA_ hJ_ hS_ hafter_ hbef_ hK hg K_ Q_ hK_
  subst eJ_
  obtain ⟨O_, hB_, k0_, m4_, m5_, m6_, m7_, m10_, m12_, m15_, v0_0_, v0_1_⟩ := hJ_
  refine x_ok (φ := SP.isv (a'.get 54)) (zC rfl) fun v_ w2 hE hv_ => ?_
  replace hv_ : v_ = a'.get 54 := hv_
  have hB2_ := Base.step hB_ hE hO
  exact hK_ v_ w2 ⟨O_, hB2_, (k0_.trans (KX.keep (KX.ext hE) (by decide))), fun h_ => zG (d := some 5) (t := 46) (φ := fun u_ => PtrZ (rSl (rInt .i64)) O_ w2 u_ x_0.Sights) ((PtrZ.keep (m4_ (zF rfl h_)) (KX.keep (KX.ext hE) (by decide)) (by decide) (fun _ => rfl))) (by decide), fun h_ => zG (d := some 5) (t := 47) (φ := fun u_ => (rSl (rInt .i64)).v O_ w2 u_ x_0.Sights) ((GR.zM _ (m5_ (zF rfl h_)) (KX.keep (KX.ext hE) (by decide)))) (by decide), fun h_ => zG (d := some 5) (t := 48) (φ := fun u_ => PtrZ (rSl (rInt .i64)) O_ w2 u_ x_0.Sights) ((PtrZ.keep (m6_ (zF rfl h_)) (KX.keep (KX.ext hE) (by decide)) (by decide) (fun _ => rfl))) (by decide), fun h_ => zG (d := some 5) (t := 49) (φ := fun u_ => (rSl (rInt .i64)).v O_ w2 u_ x_0.Sights) ((GR.zM _ (m7_ (zF rfl h_)) (KX.keep (KX.ext hE) (by decide)))) (by decide), fun h_ => zG (d := some 5) (t := 52) (φ := fun u_ => (rSl (rInt .i64)).v O_ w2 u_ x28) ((GR.zM _ (m10_ (zF rfl h_)) (KX.keep (KX.ext hE) (by decide)))) (by decide), fun h_ => zG (d := some 5) (t := 54) (φ := fun u_ => (rSl zE).v O_ w2 u_ x29) ((GR.zM _ (m12_ (zF rfl h_)) (KX.keep (KX.ext hE) (by decide)))) (by decide), fun _ => jM (φ := fun u_ => (rSl zE).v O_ w2 u_ x29) hA_ (by decide) (by rw [hv_]; exact (GR.zM _ (m12_ (zF rfl (hbef_ 12 (by kernel_rfl)))) (KX.keep (KX.ext hE) (by decide)))), fun hp_ hq_ => zG (d := some 5) (t := 45) (φ := fun u_ => OwnL 2 zB 33 (Fr w0) O_ w2 (u_) x27) (OwnL.kx (v0_0_ (zF rfl hp_) (zW hq_)) (KX.ext hE) (by decide) (by decide)) (by decide), fun hp_ => zG (d := some 5) (t := 4) (φ := fun u_ => OwnL 2 zB 33 (Fr w0) O_ w2 (u_) x27) (OwnL.kx (v0_1_ (zF rfl hp_)) (KX.ext hE) (by decide) (by decide)) (by decide)⟩ trivial
 case z8_16 =>
  intro S_ a' w' hA_ hJ_ hS_ hafter_ hbef_ hK hg K_ Q_ hK_
  refine x_ok (φ := SP.isv (.int .i64 x3)) (by exact zC (ks 13 hK 55 rfl)) fun v_ w2 hE hv_ => hK_ v_ w2 (T_ rfl rfl rfl rfl rfl rfl rfl rfl rfl (by decide) (by decide) (by decide) (by decide) (by decide) (by decide) (by decide) (by decide) (by decide) hE hJ_) hv_
 case zsk8 =>
  subst eJ_
  intro i_ o_ S_ a_ w_ ho_ hact_ hA_ hS_ hbef_ hJ_
  obtain ⟨O_, hB_, k0_, m4_, m5_, m6_, m7_, m10_, m12_, m15_, v0_0_, v0_1_⟩ := hJ_
  exact ⟨O_, hB_, k0_, fun h_ => by obtain ⟨h1_, h2_⟩ := yK (j := 4) hact_ rfl h_; exact zG (t := 46) (φ := fun u_ => PtrZ (rSl (rInt .i64)) O_ w_ u_ x_0.Sights) (m4_ h1_) (yF (j := 4) (by kernel_rfl) ho_ h2_), fun h_ => by obtain ⟨h1_, h2_⟩ := yK (j := 5) hact_ rfl h_; exact zG (t := 47) (φ := fun u_ => (rSl (rInt .i64)).v O_ w_ u_ x_0.Sights) (m5_ h1_) (yF (j := 5) (by kernel_rfl) ho_ h2_), fun h_ => by obtain ⟨h1_, h2_⟩ := yK (j := 6) hact_ rfl h_; exact zG (t := 48) (φ := fun u_ => PtrZ (rSl (rInt .i64)) O_ w_ u_ x_0.Sights) (m6_ h1_) (yF (j := 6) (by kernel_rfl) ho_ h2_), fun h_ => by obtain ⟨h1_, h2_⟩ := yK (j := 7) hact_ rfl h_; exact zG (t := 49) (φ := fun u_ => (rSl (rInt .i64)).v O_ w_ u_ x_0.Sights) (m7_ h1_) (yF (j := 7) (by kernel_rfl) ho_ h2_), fun h_ => by obtain ⟨h1_, h2_⟩ := yK (j := 10) hact_ rfl h_; exact zG (t := 52) (φ := fun u_ => (rSl (rInt .i64)).v O_ w_ u_ x28) (m10_ h1_) (yF (j := 10) (by kernel_rfl) ho_ h2_), fun h_ => by obtain ⟨h1_, h2_⟩ := yK (j := 12) hact_ rfl h_; exact zG (t := 54) (φ := fun u_ => (rSl zE).v O_ w_ u_ x29) (m12_ h1_) (yF (j := 12) (by kernel_rfl) ho_ h2_), fun h_ => by obtain ⟨h1_, h2_⟩ := yK (j := 15) hact_ rfl h_; exact zG (t := 5) (φ := fun u_ => (rSl zE).v O_ w_ u_ x29) (m15_ h1_) (yF (j := 15) (by kernel_rfl) ho_ h2_), fun hp_ hq_ => by obtain ⟨h1_, h2_⟩ := yK (j := 3) hact_ rfl hp_; exact zG (t := 45) (φ := fun u_ => OwnL 2 zB 33 (Fr w0) O_ w_ (u_) x27) (v0_0_ h1_ (zW hq_)) (yF (j := 3) (by kernel_rfl) ho_ h2_), fun hp_ => by obtain ⟨h1_, h2_⟩ := yK (j := 14) hact_ rfl hp_; exact zG (t := 4) (φ := fun u_ => OwnL 2 zB 33 (Fr w0) O_ w_ (u_) x27) (v0_1_ h1_) (yF (j := 14) (by kernel_rfl) ho_ h2_)⟩
 case zst8 => subst eJ_; exact fun w1_ hE_ => ⟨O26, (Base.step hB hE_ hO), (Keep.ext hE_), fun h_ => no_ft h_, fun h_ => no_ft h_, fun h_ => no_ft h_, fun h_ => no_ft h_, fun h_ => no_ft h_, fun h_ => no_ft h_, fun h_ => no_ft h_, fun hp_ => no_ft hp_, fun hp_ => no_ft hp_⟩
 case zok8 | zgd8 => kernel_rfl
 subst eJ_; clear T_
 intro a14 w14 hA HF hJ_
 obtain ⟨O30, hB_, k0_, m4_, m5_, m6_, m7_, m10_, m12_, m15_, v0_0_, v0_1_⟩ := hJ_
 have f32 := (v0_1_ rfl)
 obtain ⟨u31, q4'⟩ : ∃ u, a14.get 4 = u := ⟨_, rfl⟩
 rw [q4'] at f32
 have q4 := q4'; clear q4'
 have f34 := m15_ rfl
 obtain ⟨u33, q5'⟩ : ∃ u, a14.get 5 = u := ⟨_, rfl⟩
 rw [q5'] at f34
 have q5 := q5'; clear q5'
 have q6' := ksv (j := 16) (HF 6) rfl rfl rfl
 have q6 := q6'; clear q6'
 clear q1; clear q2; clear q7; clear q8; clear HF
 replace f2 := GR.zM _ f2 k0_
 replace f23 := GR.zM _ f23 k0_
 clear hB; have hB := hB_; clear hB_; clear k0_ m4_ m5_ m6_ m7_ m10_ m12_ m15_ v0_0_ v0_1_; refine zA (wp_ret ?_)
 have h := Comp.run_pure h; subst h
 exact retPure3 Try.results9 hA q4 q5 q6 hB.ext ⟨_, _, _, rfl, (OwnL.res f32 (by decide) hB.zero), (hB.res (rSl zE) f34), rfl⟩
end Go.Proofs.Ytebmpjdegajhgaa
end
section
namespace Go.Proofs.Ytebmpjdegajhgaa
open Go Go.RowKit Go.Eng Go.Lift Go.F
set_option linter.unusedVariables false
set_option linter.unusedSimpArgs false
set_option maxRecDepth 100000
theorem jb {O : Tags} {w0 : World} (hO : OkO O w0) {v_0 : Value} {x_0 : List Int} (h_0 : (rSl (rInt .i64)).v O w0 v_0 x_0) {n : Nat} {y : Int} (h : (vR x_0).run n = some y) : Pure Try.prog 26 #[v_0] w0 (SP.isv (.int .i64 y)).holds := by
 unfold vR at h
 refine zS Try.func26 rfl 18 Try.ntmps26 (by simp) fun a0 hA hs0 => ?_
 have q0 : a0.get 0 = v_0 := hs0 0 _ rfl
 clear hs0
 have hB : Base (Fr w0) O w0 O w0 := Base.start hO
 refine wp_seq ?_
 refine' rb [_] mixed hA hB hO (cn (fun hE hK => zC rfl) .nil) ?zk1
 intro a1 w1 hA hE hB HF; replace q0 := kf HF q0; clear HF; replace h_0 := vx h_0 hE; clear hE; refine zD (zA (wp_seq ?_))
 refine' rb [_] mixed hA hB hO (cn (fun hE hK => zC rfl) .nil) ?zk2
 intro a2 w2 hA hE hB HF; replace q0 := kf HF q0; have q3 := ksv (HF 3) rfl rfl rfl; clear HF; replace h_0 := vx h_0 hE; clear hE; refine zD (zA ?_)
 refine zY (fun a w => ∃ (O9 : Tags) (x8 : Int), a.fit 18 ∧ Base (Fr w0) O w0 O9 w ∧ a.get 3 = .int .i64 x8 ∧ (jg x8).run n = some y) ?_ ?_
 ·
  refine wp_seq ?_
  refine' rb [_, _, _] mixed hA hB hO (mv q0 (cn (fun hE hK => zw (r := (rInt .i64)) ty23 (ks 0 hK 6 rfl) (rd_of (vx h_0 hE))) (cn (fun hE hK => zI rfl) .nil))) ?zk3
  intro a3 w3 hA hE hB HF; replace q3 := kf HF q3; have q6 := ksv (HF 6) rfl rfl rfl; have q7 := ksv (HF 7) rfl rfl rfl; have q8 := ksv (HF 8) rfl rfl rfl; clear q0 HF; replace h_0 := vx h_0 hE; clear hE; refine zD (zA (wp_block ?_))
  obtain ⟨e2, he2, hk2⟩ := Comp.run_bind h; clear h
  refine vg (fun m a w => ∃ (O3 : Tags) (x1 : Int) (x2 : Int), a.fit 18 ∧ Base (Fr w0) O w0 O3 w ∧ a.get 3 = .int .i64 x1 ∧ a.get 6 = v_0 ∧ (rSl (rInt .i64)).v O3 w v_0 x_0 ∧ a.get 7 = .int .i64 (x_0.length : Int) ∧ a.get 8 = .int .i64 x2 ∧ Comp.loopN (fun s => yw x_0 s.1 s.2) n m (x1, x2) = some e2) (m := n) ?st2 ?_
  case st2 =>
   exact ⟨_, _, _, hA, hB, q3, q6, h_0, q7, q8, Comp.yB he2⟩
  intro m_ a4 w4 hI
  clear hA hB he2 q3 q6 q7 q8 h_0
  obtain ⟨O3, x1, x2, hA, hB, q3, q6, h_0, q7, q8, hl⟩ := hI
  obtain ⟨m2, hlt2, st2, h, hnext2, hdone2⟩ := Comp.zg hl; clear hl
  replace h : (yw x_0 x1 x2).run n = some st2 := h
  unfold yw at h; refine wp_seq ?_
  refine' rb [_] mixed hA hB hO (cn (fun hE hK => yY (kq hK q8) (kq hK q7)) .nil) ?zk4
  intro a5 w5 hA hE hB HF; refine kr4 HF q3 q6 q7 q8 ?_; clear q3 q6 q7 q8; intro q3 q6 q7 q8; have q9 := ksv (HF 9) rfl rfl rfl; clear HF; replace h_0 := vx h_0 hE; clear hE; refine zD (zA (wp_seq ?_))
  revert h; refine cnd q9 (fun h => ?_) (fun h => ?_)
  ·
   refine wp_skip (zA (wp_seq (wp_block (wp_seq ?_)))); obtain ⟨x4, hx4, h⟩ := Comp.run_bind h
   refine' rb [SP.ptr (rInt .i64) O3 x4, SP.isv (.int .i64 x4), _] mixed hA hB hO (cn (fun hE hK => yV (r := (rInt .i64)) (O := O3) ty23 ty3 rfl (kq hK q6) (rd_of (vx h_0 hE)) (kq hK q8) hx4) (cn (fun hE hK => zn (rInt .i64) (fun _ => rfl) ty3 rfl rfl rfl (kp (SP.ptr (rInt .i64) O3 x4) 0 hK 10 rfl) (fun _ _ _ h => zZ.1 h)) (cn (fun hE hK => zC (ks 1 hK 11 rfl)) .nil))) ?zk5
   intro a6 w6 hA hE hB HF; refine kr4 HF q3 q6 q7 q8 ?_; clear q3 q6 q7 q8; intro q3 q6 q7 q8; have q5 := ksv (HF 5) rfl rfl rfl; clear q9 HF; replace h_0 := vx h_0 hE; clear hE; refine zD (zA ?_); obtain ⟨x5, hx5, h⟩ := Comp.run_bind h
   refine' rb [_, _, _, _, _] mixed hA hB hO (mv q3 (mv q5 (cn (fun hE hK => okl_shl rfl (ks 1 hK 13 rfl) (ye hx5)) (cn (fun hE hK => okb_or (ks 0 hK 12 rfl) (ks 2 hK 14 rfl)) (cn (fun hE hK => zC (ks 3 hK 15 rfl)) .nil))))) ?zk6
   intro a7 w7 hA hE hB HF; refine kr3 HF q6 q7 q8 ?_; clear q6 q7 q8; intro q6 q7 q8; replace q3 := ksv (HF 3) rfl rfl rfl; clear q5 HF; replace h_0 := vx h_0 hE; clear hE; refine zD (yA (zA ?_))
   refine' rb [_, _] mixed hA hB hO (cn (fun hE hK => yp (kq hK q8) rfl) (cn (fun hE hK => zI (ks 0 hK 16 rfl)) .nil)) ?zk7
   intro a8 w8 hA hE hB HF; refine kr3 HF q3 q6 q7 ?_; clear q3 q6 q7; intro q3 q6 q7; replace q8 := ksv (HF 8) rfl rfl rfl; clear HF; replace h_0 := vx h_0 hE; clear hE; refine zD (zA ?_)
   have h := hnext2 _ (Comp.run_pure h).symm
   refine ⟨m2, hlt2, ?_⟩
   exact ⟨_, _, _, hA, hB, q3, q6, h_0, q7, q8, h⟩
  ·
   refine wp_exit (zT (zT (yS ?_)))
   have hd_ := hdone2 _ (Comp.run_pure h).symm; clear h
   subst hd_; have h := hk2; clear hk2; try dsimp only at h
   refine zA ?_
   exact ⟨_, _, hA, hB, q3, h⟩
 intro a9 w9 hI
 clear hA hB h q0 q3 h_0
 obtain ⟨O9, x8, hA, hB, q3, h⟩ := hI
 unfold jg at h; refine wp_seq ?_
 refine' rb [_, _] mixed hA hB hO (mv q3 (cn (fun hE hK => zC (ks 0 hK 17 rfl)) .nil)) ?zk8
 intro a10 w10 hA hE hB HF; have q2 := ksv (HF 2) rfl rfl rfl; clear q3 HF; clear hE; refine zD (zA (wp_ret ?_))
 have h := Comp.run_pure h; subst h
 exact zd Try.results26 hA q2 hB.ext rfl
theorem ok_colletlaw43_world_there {O : Tags} {w0 : World} (hO : OkO O w0) {v_0 : Value} {x_0 : colletlaw43_world} (h_0 : zL.v O w0 v_0 x_0) {v_1 : Value} {x_1 : List api_Claim} (h_1 : (rSl zB).v O w0 v_1 x_1) {n : Nat} {y : Int} (h : (yI x_0 x_1).run n = some y) : Pure Try.prog 28 #[v_0, v_1] w0 (SP.isv (.int .i64 y)).holds := by
 unfold yI at h
 refine zS Try.func28 rfl 29 Try.ntmps28 (by simp) fun a0 hA hs0 => ?_
 have q0 : a0.get 0 = v_0 := hs0 0 _ rfl
 have q1 : a0.get 1 = v_1 := hs0 1 _ rfl
 clear hs0
 have hB : Base (Fr w0) O w0 O w0 := Base.start hO
 refine wp_seq ?_
 refine' rb [SP.vl (rBox zL) O x_0, _] mixed hA hB hO (cn (fun hE hK => jo (r := zL) zo (OkO.ext hB.ok hE) (kq hK q0) (vx h_0 hE)) (cn (fun hE hK => zC rfl) .nil)) ?zk1
 intro a1 w1 hA hE hB HF; replace q1 := kf HF q1; obtain ⟨u1, q2, f2⟩ := kx (HF 2) rfl rfl rfl; clear q0 HF; replace h_0 := vx h_0 hE; replace h_1 := vx h_1 hE; clear hE; refine zD (zA (wp_seq ?_))
 refine' rb [SP.ptr (rInt .i64) O x_0.material_, SP.isv (.int .i64 x_0.material_), _] mixed hA hB hO (cn (fun hE hK => yj (S := zL) zo rfl (fun _ => rfl) sb_colletlaw43_world_0 fl49_0 (kq hK q2) (vx f2 hE)) (cn (fun hE hK => zn (rInt .i64) (fun _ => rfl) ty3 rfl rfl rfl (kp (SP.ptr (rInt .i64) O x_0.material_) 0 hK 7 rfl) (fun _ _ _ h => zZ.1 h)) (cn (fun hE hK => zC (ks 1 hK 8 rfl)) .nil))) ?zk2
 intro a2 w2 hA hE hB HF; replace q1 := kf HF q1; replace q2 := kf HF q2; have q5 := ksv (HF 5) rfl rfl rfl; clear HF; replace h_1 := vx h_1 hE; replace f2 := vx f2 hE; clear hE; refine zD (zA ?_)
 refine zY (fun a w => ∃ (O13 : Tags) (x12 : Int), a.fit 29 ∧ Base (Fr w0) O w0 O13 w ∧ a.get 5 = .int .i64 x12 ∧ (vt x12).run n = some y) ?_ ?_
 ·
  refine wp_seq ?_
  refine' rb [_, _, _] mixed hA hB hO (mv q1 (cn (fun hE hK => zw (r := zB) ty27 (ks 0 hK 9 rfl) (rd_of (vx h_1 hE))) (cn (fun hE hK => zI rfl) .nil))) ?zk3
  intro a3 w3 hA hE hB HF; refine kr3 HF q1 q2 q5 ?_; clear q1 q2 q5; intro q1 q2 q5; have q10 := ksv (HF 10) rfl rfl rfl; have q11 := ksv (HF 11) rfl rfl rfl; clear HF; replace h_1 := vx h_1 hE; replace f2 := vx f2 hE; clear hE; refine zD (zA (wp_block ?_))
  obtain ⟨e2, he2, hk2⟩ := Comp.run_bind h; clear h
  refine vg (fun m a w => ∃ (O5 : Tags) (x3 : Int) (x4 : Int), a.fit 29 ∧ Base (Fr w0) O w0 O5 w ∧ a.get 1 = v_1 ∧ (rSl zB).v O5 w v_1 x_1 ∧ a.get 2 = u1 ∧ (rBox zL).v O5 w u1 x_0 ∧ a.get 5 = .int .i64 x3 ∧ a.get 10 = .int .i64 (x_1.length : Int) ∧ a.get 11 = .int .i64 x4 ∧ Comp.loopN (fun s => yD x_1 x_0 s.1 s.2) n m (x3, x4) = some e2) (m := n) ?st2 ?_
  case st2 =>
   exact ⟨_, _, _, hA, hB, q1, h_1, q2, f2, q5, q10, q11, Comp.yB he2⟩
  intro m_ a4 w4 hI
  clear hA hB he2 q1 q2 q5 q10 q11 f2 h_1
  obtain ⟨O5, x3, x4, hA, hB, q1, h_1, q2, f2, q5, q10, q11, hl⟩ := hI
  obtain ⟨m2, hlt2, st2, h, hnext2, hdone2⟩ := Comp.zg hl; clear hl
  replace h : (yD x_1 x_0 x3 x4).run n = some st2 := h
  unfold yD at h; refine wp_seq ?_
  refine' rb [_] mixed hA hB hO (cn (fun hE hK => yY (kq hK q11) (kq hK q10)) .nil) ?zk4
  intro a5 w5 hA hE hB HF; refine kr5 HF q1 q2 q5 q10 q11 ?_; clear q1 q2 q5 q10 q11; intro q1 q2 q5 q10 q11; have q12 := ksv (HF 12) rfl rfl rfl; clear HF; replace h_1 := vx h_1 hE; replace f2 := vx f2 hE; clear hE; refine zD (zA (wp_seq ?_))
  revert h; refine cnd q12 (fun h => ?_) (fun h => ?_)
  ·
   refine wp_skip (zA ?_)
   refine zY (fun a w => ∃ (O9 : Tags) (x8 : Int), a.fit 29 ∧ Base (Fr w0) O w0 O9 w ∧ a.get 1 = v_1 ∧ (rSl zB).v O9 w v_1 x_1 ∧ a.get 2 = u1 ∧ (rBox zL).v O9 w u1 x_0 ∧ a.get 5 = .int .i64 x8 ∧ a.get 10 = .int .i64 (x_1.length : Int) ∧ a.get 11 = .int .i64 x4 ∧ (vG x4 x8).run n = some st2) ?_ ?_
   ·
    refine wp_block (wp_seq ?_)
    refine' rb [_, _] mixed hA hB hO (mv q11 (cn (fun hE hK => zC (ks 0 hK 13 rfl)) .nil)) ?zk5
    intro a6 w6 hA hE hB HF; refine kr5 HF q1 q2 q5 q10 q11 ?_; clear q1 q2 q5 q10 q11; intro q1 q2 q5 q10 q11; have q6 := ksv (HF 6) rfl rfl rfl; clear q12 HF; replace h_1 := vx h_1 hE; replace f2 := vx f2 hE; clear hE; refine zD (zA (wp_seq ?_)); obtain ⟨x6, hx6, h⟩ := Comp.run_bind h
    refine' rb [_, _, SP.ptr zB O5 x6, SP.ptr (rInt .i64) O5 x6.Kind, SP.isv (.int .i64 x6.Kind), _] mixed hA hB hO (mv q1 (mv q6 (cn (fun hE hK => yV (r := zB) (O := O5) ty27 ty33 rfl (ks 0 hK 14 rfl) (rd_of (vx h_1 hE)) (ks 1 hK 15 rfl) hx6) (cn (fun hE hK => okl_fld (S := zB) rfl (fun _ => rfl) jD fl33_1 rfl (kp (SP.ptr zB O5 x6) 2 hK 16 rfl)) (cn (fun hE hK => zn (rInt .i64) (fun _ => rfl) ty3 rfl rfl rfl (kp (SP.ptr (rInt .i64) O5 x6.Kind) 3 hK 17 rfl) (fun _ _ _ h => zZ.1 h)) (cn (fun hE hK => yR (ks 4 hK 18 rfl) rfl) .nil)))))) ?zk6
    intro a7 w7 hA hE hB HF; refine kr6 HF q1 q2 q5 q6 q10 q11 ?_; clear q1 q2 q5 q6 q10 q11; intro q1 q2 q5 q6 q10 q11; have q19 := ksv (HF 19) rfl rfl rfl; clear HF; replace h_1 := vx h_1 hE; replace f2 := vx f2 hE; clear hE; refine zD (zA ?_)
    revert h; refine cnd q19 (fun h => ?_) (fun h => ?_)
    ·
     obtain ⟨x7, hx7, h⟩ := Comp.run_bind h
     refine' rb [_, SP.ptr (rSl (rInt .i64)) O5 x_0.removed_, SP.vl (rSl (rInt .i64)) O5 x_0.removed_, _, SP.ptr (rInt .i64) O5 x7, SP.isv (.int .i64 x7), _, _] mixed hA hB hO (mv q5 (cn (fun hE hK => yj (S := zL) zo rfl (fun _ => rfl) jl fl49_1 (kq hK q2) (vx f2 hE)) (cn (fun hE hK => yz (r := (rSl (rInt .i64))) (fun _ => rfl) ty23 rfl rfl rfl (kp (SP.ptr (rSl (rInt .i64)) O5 x_0.removed_) 1 hK 21 rfl)) (mv q6 (cn (fun hE hK => yV (r := (rInt .i64)) (O := O5) ty23 ty3 rfl rfl (rd_of (kp (SP.vl (rSl (rInt .i64)) O5 x_0.removed_) 2 hK 22 rfl)) (ks 3 hK 23 rfl) hx7) (cn (fun hE hK => zn (rInt .i64) (fun _ => rfl) ty3 rfl rfl rfl (kp (SP.ptr (rInt .i64) O5 x7) 4 hK 24 rfl) (fun _ _ _ h => zZ.1 h)) (cn (fun hE hK => okb_andNot (ks 0 hK 20 rfl) (ks 5 hK 25 rfl)) (cn (fun hE hK => zC (ks 6 hK 26 rfl)) .nil)))))))) ?zk7
     intro a8 w8 hA hE hB HF; refine kr4 HF q1 q2 q10 q11 ?_; clear q1 q2 q10 q11; intro q1 q2 q10 q11; replace q5 := ksv (HF 5) rfl rfl rfl; clear q6 q19 HF; replace h_1 := vx h_1 hE; replace f2 := vx f2 hE; clear hE; refine zD (yA (zA ?_))
     exact ⟨_, _, hA, hB, q1, h_1, q2, f2, q5, q10, q11, h⟩
    ·
     refine wp_skip (yA (zA ?_))
     exact ⟨_, _, hA, hB, q1, h_1, q2, f2, q5, q10, q11, h⟩
   intro a9 w9 hI
   clear hA hB h q1 q2 q5 q10 q11 q12 f2 h_1
   obtain ⟨O9, x8, hA, hB, q1, h_1, q2, f2, q5, q10, q11, h⟩ := hI
   unfold vG at h
   refine' rb [_, _] mixed hA hB hO (cn (fun hE hK => yp (kq hK q11) rfl) (cn (fun hE hK => zI (ks 0 hK 27 rfl)) .nil)) ?zk8
   intro a10 w10 hA hE hB HF; refine kr4 HF q1 q2 q5 q10 ?_; clear q1 q2 q5 q10; intro q1 q2 q5 q10; replace q11 := ksv (HF 11) rfl rfl rfl; clear HF; replace h_1 := vx h_1 hE; replace f2 := vx f2 hE; clear hE; refine zD (zA ?_)
   have h := hnext2 _ (Comp.run_pure h).symm
   refine ⟨m2, hlt2, ?_⟩
   exact ⟨_, _, _, hA, hB, q1, h_1, q2, f2, q5, q10, q11, h⟩
  ·
   refine wp_exit (zT (zT (yS ?_)))
   have hd_ := hdone2 _ (Comp.run_pure h).symm; clear h
   subst hd_; have h := hk2; clear hk2; try dsimp only at h
   refine zA ?_
   exact ⟨_, _, hA, hB, q5, h⟩
 intro a11 w11 hI
 clear hA hB h q1 q2 q5 f2 h_1
 obtain ⟨O13, x12, hA, hB, q5, h⟩ := hI
 unfold vt at h; refine wp_seq ?_
 refine' rb [_, _] mixed hA hB hO (mv q5 (cn (fun hE hK => zC (ks 0 hK 28 rfl)) .nil)) ?zk9
 intro a12 w12 hA hE hB HF; have q4 := ksv (HF 4) rfl rfl rfl; clear q5 HF; clear hE; refine zD (zA (wp_ret ?_))
 have h := Comp.run_pure h; subst h
 exact zd Try.results28 hA q4 hB.ext rfl
end Go.Proofs.Ytebmpjdegajhgaa
end
section
namespace Go.Proofs.Ytebmpjdegajhgaa
open Go Go.RowKit Go.Eng Go.Lift Go.F
set_option linter.unusedVariables false
set_option linter.unusedSimpArgs false
set_option maxRecDepth 100000
theorem ok_colletlaw43_world_holds {O : Tags} {w0 : World} (hO : OkO O w0) {v_0 : Value} {x_0 : colletlaw43_world} (h_0 : zL.v O w0 v_0 x_0) {v_1 : Value} {x_1 : List api_Claim} (h_1 : (rSl zB).v O w0 v_1 x_1) {v_2 : Value} {x_2 : List api_Sight} (h_2 : (rSl zE).v O w0 v_2 x_2) {x_3 : Int} {n : Nat} {y : Bool} (h : (vj x_0 x_1 x_2 x_3).run n = some y) : Pure Try.prog 53 #[v_0, v_1, v_2, .int .i64 x_3] w0 (SP.isv (.bool y)).holds := by
 unfold vj at h
 refine zS Try.func53 rfl 77 Try.ntmps53 (by simp) fun a0 hA hs0 => ?_
 have q0 : a0.get 0 = v_0 := hs0 0 _ rfl
 have q1 : a0.get 1 = v_1 := hs0 1 _ rfl
 have q2 : a0.get 2 = v_2 := hs0 2 _ rfl
 have q3 : a0.get 3 = .int .i64 x_3 := hs0 3 _ rfl
 clear hs0
 have hB : Base (Fr w0) O w0 O w0 := Base.start hO
 refine wp_seq ?_
 refine' rb [SP.vl (rBox zL) O x_0, _] mixed hA hB hO (cn (fun hE hK => jo (r := zL) zo (OkO.ext hB.ok hE) (kq hK q0) (vx h_0 hE)) (cn (fun hE hK => zC rfl) .nil)) ?zk1
 intro a1 w1 hA hE hB HF; refine kr3 HF q1 q2 q3 ?_; clear q1 q2 q3; intro q1 q2 q3; obtain ⟨u1, q4, f2⟩ := kx (HF 4) rfl rfl rfl; clear q0 HF; replace h_0 := vx h_0 hE; replace h_1 := vx h_1 hE; replace h_2 := vx h_2 hE; clear hE; refine zD (zA (wp_seq ?_)); obtain ⟨x3, hx3, h⟩ := Comp.run_bind h
 refine' rbT [_, _, SP.ptr zB O x3, SP.vl zB O x3] hA hB hO (mv q1 (mv q3 (cn (fun hE hK => yV (r := zB) (O := O) ty27 ty33 rfl (ks 0 hK 13 rfl) (rd_of (vx h_1 hE)) (ks 1 hK 14 rfl) hx3) (cn (fun hE hK => yz (r := zB) zP ty33 rfl rfl rfl (kp (SP.ptr zB O x3) 2 hK 15 rfl)) .nil)))) ?zk2
 intro a2 w2 hA hE hB HF; refine kr4 HF q1 q2 q3 q4 ?_; clear q1 q2 q3 q4; intro q1 q2 q3 q4; obtain ⟨u4, q16, f5⟩ := kx (HF 16) rfl rfl rfl; clear HF; replace h_1 := vx h_1 hE; replace h_2 := vx h_2 hE; replace f2 := vx f2 hE; clear hE
 refine l_ok (φ := SP.box w2.heap.size #[.int .i64 0, .int .i64 0, .int .i64 0, .slice none 0 0, .slice none 0 0] 33) hO hB (by exact ga (Nat.le_refl _) ty33) rfl fun u6 w3 hE hB' f7 => ?_
 clear hB'; obtain ⟨O8, b10, hB', hX, e_, f9⟩ := boxNew hO hB hE f7 1 (by decide)
 subst e_; clear hB f7; have hB := hB'; clear hB'
 replace h_1 := vk h_1 hX; replace h_2 := vk h_2 hX; replace f2 := vk f2 hX; replace f5 := vk f5 hX; clear hX hE
 refine zO hA (by decide) fun a4 hA q_ hfr => ?_
 refine kd5 hfr q1 q2 q3 q4 q16 ?_; clear q1 q2 q3 q4 q16; intro q1 q2 q3 q4 q16; have q9 := q_; clear q_ hfr
 obtain ⟨u11, u13, e_, f12, f14⟩ := kB f5; subst e_
 refine vw (vs := [.int .i64 x3.Party, .int .i64 x3.Kind, .int .i64 x3.Gauge, u11, u13]) (cs' := #[.int .i64 x3.Party, .int .i64 x3.Kind, .int .i64 x3.Gauge, u11, u13]) hO hB (yJ hB) ty33 q9 q16 rfl (by intro c_ hc_; simp only [List.mem_cons, List.not_mem_nil, or_false] at hc_; rcases hc_ with rfl | rfl | rfl | rfl | rfl <;> first | rfl | assumption | exact sl_one f12 rfl rfl | exact sl_one f14 rfl rfl) f9 (by simp) rfl fun w5 f15 hB' hX => ?_
 clear hB f9; have hB := hB'; clear hB'; replace h_1 := vk h_1 hX; replace h_2 := vk h_2 hX; replace f2 := vk f2 hX; replace f12 := vk f12 hX; replace f14 := vk f14 hX; clear hX; refine zD (zA (wp_seq (wp_seq ?_)))
 refine' rb [SP.isv (.pointer (some ⟨b10, 1, none⟩)), SP.isv (.int .i64 x3.Kind)] mixed hA hB hO (cn (fun hE hK => zJ fl33_1 (kq hK q9)) (cn (fun hE hK => zX ty3 rfl (ks 0 hK 17 rfl) (OwnB.ext f15 hE).own rfl) .nil)) ?zk3
 intro a6 w6 hA hE hB HF; refine kr5 HF q1 q2 q3 q4 q9 ?_; clear q1 q2 q3 q4 q9; intro q1 q2 q3 q4 q9; have q18 := ksv (HF 18) rfl rfl rfl; clear HF; replace h_1 := vx h_1 hE; replace h_2 := vx h_2 hE; replace f2 := vx f2 hE; replace f15 := f15.ext hE; replace f12 := vx f12 hE; replace f14 := vx f14 hE; clear hE; refine zD (zA (wp_block (wp_seq ?_)))
 refine' rb [_, _] mixed hA hB hO (cn (fun hE hK => yR (kq hK q18) rfl) (cn (fun hE hK => zC (ks 0 hK 20 rfl)) .nil)) ?zk4
 intro a7 w7 hA hE hB HF; refine kr6 HF q1 q2 q3 q4 q9 q18 ?_; clear q1 q2 q3 q4 q9 q18; intro q1 q2 q3 q4 q9 q18; have q19 := ksv (HF 19) rfl rfl rfl; clear HF; replace h_1 := vx h_1 hE; replace h_2 := vx h_2 hE; replace f2 := vx f2 hE; replace f15 := f15.ext hE; replace f12 := vx f12 hE; replace f14 := vx f14 hE; clear hE; refine zD (zA ?_)
 revert h; refine cnd q19 (fun h => ?_) (fun h => ?_)
 ·
  refine wp_seq ?_; obtain ⟨x16, hx16, h⟩ := Comp.run_bind h
  refine' rb [SP.ptr (rInt .i64) O8 x_0.material_, SP.isv (.int .i64 x_0.material_), SP.isv (.pointer (some ⟨b10, 4, none⟩)), SP.isv (u13), SP.isv (.int .i64 x16), _, _] mixed hA hB hO (cn (fun hE hK => yj (S := zL) zo rfl (fun _ => rfl) sb_colletlaw43_world_0 fl49_0 (kq hK q4) (vx f2 hE)) (cn (fun hE hK => zn (rInt .i64) (fun _ => rfl) ty3 rfl rfl rfl (kp (SP.ptr (rInt .i64) O8 x_0.material_) 0 hK 21 rfl) (fun _ _ _ h => zZ.1 h)) (cn (fun hE hK => zJ fl33_4 (kq hK q9)) (cn (fun hE hK => zX ty23 rfl (ks 2 hK 23 rfl) (OwnB.ext f15 hE).own rfl) (cn (fun hE hK => gv fn26 (ks 3 hK 24 rfl) (jb (OkO.ext hB.ok hE) (vx f14 hE) hx16)) (cn (fun hE hK => yR (ks 1 hK 22 rfl) (ks 4 hK 25 rfl)) (cn (fun hE hK => zC (ks 5 hK 26 rfl)) .nil))))))) ?zk5
  intro a8 w8 hA hE hB HF; have q8 := ksv (HF 8) rfl rfl rfl; clear q1 q2 q3 q4 q9 q18 q19 HF; replace h_1 := vx h_1 hE; replace h_2 := vx h_2 hE; replace f2 := vx f2 hE; replace f15 := f15.ext hE; replace f12 := vx f12 hE; replace f14 := vx f14 hE; clear hE; refine zD (zA (wp_ret (gK (zj ?_))))
  have h := Comp.run_pure h; subst h
  exact zd Try.results53 hA q8 hB.ext rfl
 ·
  refine wp_seq ?_
  refine' rb [_, _] mixed hA hB hO (cn (fun hE hK => yR (kq hK q18) rfl) (cn (fun hE hK => zC (ks 0 hK 28 rfl)) .nil)) ?zk6
  intro a9 w9 hA hE hB HF; refine kr5 HF q1 q2 q3 q4 q9 ?_; clear q1 q2 q3 q4 q9; intro q1 q2 q3 q4 q9; have q27 := ksv (HF 27) rfl rfl rfl; clear q18 q19 HF; replace h_1 := vx h_1 hE; replace h_2 := vx h_2 hE; replace f2 := vx f2 hE; replace f15 := f15.ext hE; replace f12 := vx f12 hE; replace f14 := vx f14 hE; clear hE; refine zD (zA ?_)
  revert h; refine cnd q27 (fun h => ?_) (fun h => ?_)
  ·
   refine wp_seq ?_; obtain ⟨x17, hx17, h⟩ := Comp.run_bind h; obtain ⟨x18, hx18, h⟩ := Comp.run_bind h; obtain ⟨x19, hx19, h⟩ := Comp.run_bind h; obtain ⟨x20, hx20, h⟩ := Comp.run_bind h
   refine' rb [SP.isv (.pointer (some ⟨b10, 3, none⟩)), SP.isv (u11), SP.isv (.int .i64 x17), SP.ptr (rSl (rInt .i64)) O8 x_0.removed_, SP.vl (rSl (rInt .i64)) O8 x_0.removed_, _, SP.ptr (rInt .i64) O8 x18, SP.isv (.int .i64 x18), _, _, _, SP.ptr (rSl (rInt .i64)) O8 x_0.removed_, SP.vl (rSl (rInt .i64)) O8 x_0.removed_, _, SP.ptr (rInt .i64) O8 x19, SP.isv (.int .i64 x19), SP.isv (.pointer (some ⟨b10, 4, none⟩)), SP.isv (u13), SP.isv (.int .i64 x20), _, _, _, _] mixed hA hB hO (cn (fun hE hK => zJ fl33_3 (kq hK q9)) (cn (fun hE hK => zX ty23 rfl (ks 0 hK 29 rfl) (OwnB.ext f15 hE).own rfl) (cn (fun hE hK => gv fn26 (ks 1 hK 30 rfl) (jb (OkO.ext hB.ok hE) (vx f12 hE) hx17)) (cn (fun hE hK => yj (S := zL) zo rfl (fun _ => rfl) jl fl49_1 (kq hK q4) (vx f2 hE)) (cn (fun hE hK => yz (r := (rSl (rInt .i64))) (fun _ => rfl) ty23 rfl rfl rfl (kp (SP.ptr (rSl (rInt .i64)) O8 x_0.removed_) 3 hK 32 rfl)) (mv q3 (cn (fun hE hK => yV (r := (rInt .i64)) (O := O8) ty23 ty3 rfl rfl (rd_of (kp (SP.vl (rSl (rInt .i64)) O8 x_0.removed_) 4 hK 33 rfl)) (ks 5 hK 34 rfl) hx18) (cn (fun hE hK => zn (rInt .i64) (fun _ => rfl) ty3 rfl rfl rfl (kp (SP.ptr (rInt .i64) O8 x18) 6 hK 35 rfl) (fun _ _ _ h => zZ.1 h)) (cn (fun hE hK => okb_andNot (ks 2 hK 31 rfl) (ks 7 hK 36 rfl)) (cn (fun hE hK => yR (ks 8 hK 37 rfl) rfl) (cn (fun hE hK => zI (ks 9 hK 38 rfl)) (cn (fun hE hK => yj (S := zL) zo rfl (fun _ => rfl) jl fl49_1 (kq hK q4) (vx f2 hE)) (.cons (fun _ _ hE hK hg => yz (r := (rSl (rInt .i64))) (fun _ => rfl) ty23 rfl rfl rfl (kspS (φ := SP.ptr (rSl (rInt .i64)) O8 x_0.removed_) (j := 11) (hK 40 rfl) rfl rfl hg)) (mv q3 (.cons (fun _ _ hE hK hg => yV (r := (rInt .i64)) (O := O8) ty23 ty3 rfl rfl (rd_of (kspS (φ := SP.vl (rSl (rInt .i64)) O8 x_0.removed_) (j := 12) (hK 41 rfl) rfl rfl hg)) (kg 13 hK 42 rfl hg) (yi hx19 hg)) (.cons (fun _ _ hE hK hg => zn (rInt .i64) (fun _ => rfl) ty3 rfl rfl rfl (kspS (φ := SP.ptr (rInt .i64) O8 x19) (j := 14) (hK 43 rfl) rfl rfl hg) (fun _ _ _ h => zZ.1 h)) (cn (fun hE hK => zJ fl33_4 (kq hK q9)) (.cons (fun _ _ hE hK hg => zX ty23 rfl (kg 16 hK 45 rfl hg) (OwnB.ext f15 hE).own rfl) (.cons (fun _ _ hE hK hg => gv fn26 (kg 17 hK 46 rfl hg) (jb (OkO.ext hB.ok hE) (vx f14 hE) (yi hx20 hg))) (.cons (fun _ _ hE hK hg => okb_andNot (kg 15 hK 44 rfl hg) (kg 18 hK 47 rfl hg)) (.cons (fun _ _ hE hK hg => yR (kg 19 hK 48 rfl hg) rfl) (cn (fun hE hK => zh (ks 10 hK 39 rfl) (fun hb => kg 20 hK 49 rfl (yG rfl rfl hb)) (fun _ => rfl)) (cn (fun hE hK => zC (ks 21 hK 50 rfl)) .nil))))))))))))))))))))))) ?zk7
   intro a10 w10 hA hE hB HF; have q8 := ksv (HF 8) rfl rfl rfl; clear q1 q2 q3 q4 q9 q27 HF; replace h_1 := vx h_1 hE; replace h_2 := vx h_2 hE; replace f2 := vx f2 hE; replace f15 := f15.ext hE; replace f12 := vx f12 hE; replace f14 := vx f14 hE; clear hE
   obtain ⟨x21, hx_, h⟩ := Comp.run_bind h; replace hx_ := Comp.run_pure hx_; rw [hx_] at q8; clear hx_
   refine zD (zA (wp_ret (gK (zj ?_))))
   have h := Comp.run_pure h; subst h
   exact zd Try.results53 hA q8 hB.ext rfl
  ·
   refine wp_skip (yA (zA (wp_seq ?_))); obtain ⟨x22, hx22, h⟩ := Comp.run_bind h
   refine' rb [SP.vl zL O8 x_0, _, SP.isv (.int .i64 x22), _] mixed hA hB hO (cn (fun hE hK => yz (r := zL) zo ty49 rfl rfl (kn (hK 4 rfl) rfl q4) (yM zo (vx f2 hE))) (mv q1 (cn (fun hE hK => yg fn28 rfl (ks 1 hK 52 rfl) (ok_colletlaw43_world_there (OkO.ext hB.ok hE) (kp (SP.vl zL O8 x_0) 0 hK 51 rfl) (vx h_1 hE) hx22)) (cn (fun hE hK => zC (ks 2 hK 53 rfl)) .nil)))) ?zk8
   intro a11 w11 hA hE hB HF; replace q2 := kf HF q2; replace q9 := kf HF q9; have q10 := ksv (HF 10) rfl rfl rfl; clear q1 q3 q4 q27 HF; replace h_1 := vx h_1 hE; replace h_2 := vx h_2 hE; replace f2 := vx f2 hE; replace f15 := f15.ext hE; replace f12 := vx f12 hE; replace f14 := vx f14 hE; clear hE; refine zD (zA ?_)
   refine zY (fun a w => ∃ (O35 : Tags), a.fit 77 ∧ Base (Fr w0) O w0 O35 w ∧ (vu ).run n = some y) ?_ ?_
   ·
    refine wp_seq ?_
    refine' rb [_, _, _] mixed hA hB hO (mv q2 (cn (fun hE hK => zw (r := zE) ty28 (ks 0 hK 54 rfl) (rd_of (vx h_2 hE))) (cn (fun hE hK => zI rfl) .nil))) ?zk9
    intro a12 w12 hA hE hB HF; replace q9 := kf HF q9; replace q10 := kf HF q10; have q54 := ksv (HF 54) rfl rfl rfl; have q55 := ksv (HF 55) rfl rfl rfl; have q56 := ksv (HF 56) rfl rfl rfl; clear q2 HF; replace h_2 := vx h_2 hE; replace f15 := f15.ext hE; replace f12 := vx f12 hE; replace f14 := vx f14 hE; clear hE; refine zD (zA (wp_block ?_))
    obtain ⟨e2, he2, hk2⟩ := Comp.run_bind h; clear h
    refine vg (fun m a w => ∃ (O24 : Tags) (x23 : Int), a.fit 77 ∧ Base (Fr w0) O w0 O24 w ∧ a.get 9 = .pointer (some ⟨b10, 0, none⟩) ∧ a.get 10 = .int .i64 x22 ∧ a.get 54 = v_2 ∧ (rSl zE).v O24 w v_2 x_2 ∧ a.get 55 = .int .i64 (x_2.length : Int) ∧ a.get 56 = .int .i64 x23 ∧ OwnB 1 (Fr w0) O24 w b10 #[.int .i64 x3.Party, .int .i64 x3.Kind, .int .i64 x3.Gauge, u11, u13] 33 ∧ (rSl (rInt .i64)).v O24 w u11 x3.Sure ∧ (rSl (rInt .i64)).v O24 w u13 x3.Touched ∧ Comp.loopN (fun s => zu x_2 x3 x22 s) n m x23 = some e2) (m := n) ?st2 ?_
    case st2 =>
     exact ⟨_, _, hA, hB, q9, q10, q54, h_2, q55, q56, f15, f12, f14, Comp.yB he2⟩
    intro m_ a13 w13 hI
    clear hA hB he2 q9 q10 q54 q55 q56 f12 f14 f15 h_2
    obtain ⟨O24, x23, hA, hB, q9, q10, q54, h_2, q55, q56, f15, f12, f14, hl⟩ := hI
    obtain ⟨m2, hlt2, st2, h, hnext2, hdone2⟩ := Comp.zg hl; clear hl
    replace h : (zu x_2 x3 x22 x23).run n = some st2 := h
    unfold zu at h; refine wp_seq ?_
    refine' rb [_] mixed hA hB hO (cn (fun hE hK => yY (kq hK q56) (kq hK q55)) .nil) ?zk10
    intro a14 w14 hA hE hB HF; refine kr5 HF q9 q10 q54 q55 q56 ?_; clear q9 q10 q54 q55 q56; intro q9 q10 q54 q55 q56; have q57 := ksv (HF 57) rfl rfl rfl; clear HF; replace h_2 := vx h_2 hE; replace f15 := f15.ext hE; replace f12 := vx f12 hE; replace f14 := vx f14 hE; clear hE; refine zD (zA (wp_seq ?_))
    revert h; refine cnd q57 (fun h => ?_) (fun h => ?_)
    ·
     refine wp_skip (zA (wp_seq (wp_block (wp_seq ?_)))); obtain ⟨x25, hx25, h⟩ := Comp.run_bind h
     refine' rgT [SP.ptr zE O24 x25, SP.isv (.agg #[.int .i64 x25.Gauge, .int .i64 x25.Cell, .bool x25.There]), SP.box w14.heap.size #[.int .i64 0, .int .i64 0, .bool false] 64] hA (cn (fun hE hK => yV (r := zE) (O := O24) ty28 ty64 rfl (kq hK q54) (rd_of (vx h_2 hE)) (kq hK q56) hx25) (cn (fun hE hK => zn zE yh ty64 rfl rfl rfl (kp (SP.ptr zE O24 x25) 0 hK 58 rfl) (fun _ _ _ h => rC_v.1 h)) (cn (fun hE hK => ga hE.size ty64) .nil))) ?zk11
     intro a15 w15 hA hE HF; refine kr5 HF q9 q10 q54 q55 q56 ?_; clear q9 q10 q54 q55 q56; intro q9 q10 q54 q55 q56; obtain ⟨u26, q12, f27⟩ := kx (HF 12) rfl rfl rfl; have q59 := ksv (HF 59) rfl rfl rfl; clear q57 HF
     obtain ⟨O28, b29, hB', hX, e_, f30⟩ := boxNew hO hB hE f27 2 (by decide)
     subst e_
     clear hB f27; have hB := hB'; clear hB'; replace h_2 := vk h_2 hX
     replace f15 := f15.kx hX (by decide)
     replace f12 := vk f12 hX; replace f14 := vk f14 hX; clear hX hE
     refine vw (vs := [.int .i64 x25.Gauge, .int .i64 x25.Cell, .bool x25.There]) (cs' := #[.int .i64 x25.Gauge, .int .i64 x25.Cell, .bool x25.There]) hO hB (yJ hB) ty64 q12 q59 rfl (by simp [Value.oneCell']) f30 (by simp) rfl fun w16 f31 hB' hX => ?_
     clear hB f30; have hB := hB'; clear hB'; replace h_2 := vk h_2 hX
     replace f15 := f15.kx hX (by decide)
     replace f12 := vk f12 hX; replace f14 := vk f14 hX; clear hX; refine zD (zA (wp_seq ?_)); obtain ⟨x32, hx32, h⟩ := Comp.run_bind h
     refine' rb [SP.isv (.pointer (some ⟨b29, 0, none⟩)), SP.isv (.int .i64 x25.Gauge), SP.isv (.pointer (some ⟨b10, 2, none⟩)), SP.isv (.int .i64 x3.Gauge), _, _, _, SP.isv (.pointer (some ⟨b29, 1, none⟩)), SP.isv (.int .i64 x25.Cell), _, _, _, SP.isv (.pointer (some ⟨b29, 2, none⟩)), SP.isv (.bool x25.There), _, _] mixed hA hB hO (cn (fun hE hK => zJ fl64_0 (kq hK q12)) (cn (fun hE hK => zX ty3 rfl (ks 0 hK 60 rfl) (OwnB.ext f31 hE).own rfl) (cn (fun hE hK => zJ fl33_2 (kq hK q9)) (cn (fun hE hK => zX ty3 rfl (ks 2 hK 62 rfl) (OwnB.ext f15 hE).own rfl) (cn (fun hE hK => yR (ks 1 hK 61 rfl) (ks 3 hK 63 rfl)) (cn (fun hE hK => zI (ks 4 hK 64 rfl)) (mv q10 (cn (fun hE hK => zJ fl64_1 (kq hK q12)) (.cons (fun _ _ hE hK hg => zX ty3 rfl (kg 7 hK 67 rfl hg) (OwnB.ext f31 hE).own rfl) (.cons (fun _ _ hE hK hg => okl_shr (kg 6 hK 66 rfl hg) (kg 8 hK 68 rfl hg) (ye (yi hx32 hg))) (.cons (fun _ _ hE hK hg => jY (kg 9 hK 69 rfl hg) rfl) (.cons (fun _ _ hE hK hg => yR (kg 10 hK 70 rfl hg) rfl) (cn (fun hE hK => zJ fl64_2 (kq hK q12)) (.cons (fun _ _ hE hK hg => zX ty4 rfl (kg 12 hK 72 rfl hg) (OwnB.ext f31 hE).own rfl) (.cons (fun _ _ hE hK hg => ok_neqB ty4 (kg 11 hK 71 rfl hg) (kg 13 hK 73 rfl hg)) (cn (fun hE hK => zh (ks 5 hK 65 rfl) (fun hb => kg 14 hK 74 rfl (yG rfl rfl hb)) (fun _ => rfl)) .nil)))))))))))))))) ?zk12
     intro a17 w17 hA hE hB HF; refine kr5 HF q9 q10 q54 q55 q56 ?_; clear q9 q10 q54 q55 q56; intro q9 q10 q54 q55 q56; have q75 := ksv (HF 75) rfl rfl rfl; clear q12 HF; replace h_2 := vx h_2 hE; replace f15 := f15.ext hE; replace f12 := vx f12 hE; replace f14 := vx f14 hE; replace f31 := f31.ext hE; clear hE
     obtain ⟨x33, hx_, h⟩ := Comp.run_bind h; replace hx_ := Comp.run_pure hx_; rw [hx_] at q75; clear hx_
     refine zD (zA ?_)
     revert h; refine cnd q75 (fun h => ?_) (fun h => ?_)
     ·
      refine wp_seq ?_
      refine' rb [_] mixed hA hB hO (cn (fun hE hK => zC rfl) .nil) ?zk13
      intro a18 w18 hA hE hB HF; have q8 := ksv (HF 8) rfl rfl rfl; clear q9 q10 q54 q55 q56 q75 HF; replace h_2 := vx h_2 hE; replace f15 := f15.ext hE; replace f12 := vx f12 hE; replace f14 := vx f14 hE; clear hE; refine zD (zA (wp_ret (gK (zj (zj (gK (zj ?_)))))))
      have hd_ := hdone2 _ (Comp.run_pure h).symm; clear h
      subst hd_; have h := hk2; clear hk2; try dsimp only at h
      have h := Comp.run_pure h; subst h
      exact zd Try.results53 hA q8 hB.ext rfl
     ·
      refine wp_skip (yA (zA ?_))
      refine' rb [_, _] mixed hA hB hO (cn (fun hE hK => yp (kq hK q56) rfl) (cn (fun hE hK => zI (ks 0 hK 76 rfl)) .nil)) ?zk14
      intro a19 w19 hA hE hB HF; refine kr4 HF q9 q10 q54 q55 ?_; clear q9 q10 q54 q55; intro q9 q10 q54 q55; replace q56 := ksv (HF 56) rfl rfl rfl; clear q75 HF; replace h_2 := vx h_2 hE; replace f15 := f15.ext hE; replace f12 := vx f12 hE; replace f14 := vx f14 hE; clear hE; refine zD (zA ?_)
      have h := hnext2 _ (Comp.run_pure h).symm
      refine ⟨m2, hlt2, ?_⟩
      exact ⟨_, _, hA, hB, q9, q10, q54, h_2, q55, q56, f15, f12, f14, h⟩
    ·
     refine wp_exit (zT (zT (yS ?_)))
     have hd_ := hdone2 _ (Comp.run_pure h).symm; clear h
     subst hd_; have h := hk2; clear hk2; try dsimp only at h
     refine zA ?_
     exact ⟨_, hA, hB, h⟩
   intro a20 w20 hI
   clear hA hB h q2 q9 q10 f12 f14 f15 h_2
   obtain ⟨O35, hA, hB, h⟩ := hI
   unfold vu at h; refine wp_seq ?_
   refine' rb [_] mixed hA hB hO (cn (fun hE hK => zC rfl) .nil) ?zk15
   intro a21 w21 hA hE hB HF; have q8 := ksv (HF 8) rfl rfl rfl; clear HF; clear hE; refine zD (zA (wp_ret ?_))
   have h := Comp.run_pure h; subst h
   exact zd Try.results53 hA q8 hB.ext rfl
theorem ok_colletlaw43_world_truth {O : Tags} {w0 : World} (hO : OkO O w0) {v_0 : Value} {x_0 : colletlaw43_world} (h_0 : zL.v O w0 v_0 x_0) {v_1 : Value} {x_1 : List api_Claim} (h_1 : (rSl zB).v O w0 v_1 x_1) {v_2 : Value} {x_2 : List api_Sight} (h_2 : (rSl zE).v O w0 v_2 x_2) {n : Nat} {y : Int} (h : (vC x_0 x_1 x_2).run n = some y) : Pure Try.prog 25 #[v_0, v_1, v_2] w0 (SP.isv (.int .i64 y)).holds := by
 unfold vC at h
 refine zS Try.func25 rfl 25 Try.ntmps25 (by simp) fun a0 hA hs0 => ?_
 have q0 : a0.get 0 = v_0 := hs0 0 _ rfl
 have q1 : a0.get 1 = v_1 := hs0 1 _ rfl
 have q2 : a0.get 2 = v_2 := hs0 2 _ rfl
 clear hs0
 have hB : Base (Fr w0) O w0 O w0 := Base.start hO
 refine wp_seq ?_
 refine' rb [SP.vl (rBox zL) O x_0, _] mixed hA hB hO (cn (fun hE hK => jo (r := zL) zo (OkO.ext hB.ok hE) (kq hK q0) (vx h_0 hE)) (cn (fun hE hK => zC rfl) .nil)) ?zk1
 intro a1 w1 hA hE hB HF; replace q1 := kf HF q1; replace q2 := kf HF q2; obtain ⟨u1, q3, f2⟩ := kx (HF 3) rfl rfl rfl; clear q0 HF; replace h_0 := vx h_0 hE; replace h_1 := vx h_1 hE; replace h_2 := vx h_2 hE; clear hE; refine zD (zA (wp_seq ?_))
 refine' rb [_] mixed hA hB hO (cn (fun hE hK => zC rfl) .nil) ?zk2
 intro a2 w2 hA hE hB HF; refine kr3 HF q1 q2 q3 ?_; clear q1 q2 q3; intro q1 q2 q3; have q7 := ksv (HF 7) rfl rfl rfl; clear HF; replace h_1 := vx h_1 hE; replace h_2 := vx h_2 hE; replace f2 := vx f2 hE; clear hE; refine zD (zA ?_)
 refine zY (fun a w => ∃ (O13 : Tags) (x12 : Int), a.fit 25 ∧ Base (Fr w0) O w0 O13 w ∧ a.get 7 = .int .i64 x12 ∧ (vr x12).run n = some y) ?_ ?_
 ·
  refine wp_seq ?_
  refine' rb [_, _, _] mixed hA hB hO (mv q1 (cn (fun hE hK => zw (r := zB) ty27 (ks 0 hK 9 rfl) (rd_of (vx h_1 hE))) (cn (fun hE hK => zI rfl) .nil))) ?zk3
  intro a3 w3 hA hE hB HF; refine kr4 HF q1 q2 q3 q7 ?_; clear q1 q2 q3 q7; intro q1 q2 q3 q7; have q10 := ksv (HF 10) rfl rfl rfl; have q11 := ksv (HF 11) rfl rfl rfl; clear HF; replace h_1 := vx h_1 hE; replace h_2 := vx h_2 hE; replace f2 := vx f2 hE; clear hE; refine zD (zA (wp_block ?_))
  obtain ⟨e2, he2, hk2⟩ := Comp.run_bind h; clear h
  refine vg (fun m a w => ∃ (O5 : Tags) (x3 : Int) (x4 : Int), a.fit 25 ∧ Base (Fr w0) O w0 O5 w ∧ a.get 1 = v_1 ∧ (rSl zB).v O5 w v_1 x_1 ∧ a.get 2 = v_2 ∧ (rSl zE).v O5 w v_2 x_2 ∧ a.get 3 = u1 ∧ (rBox zL).v O5 w u1 x_0 ∧ a.get 7 = .int .i64 x3 ∧ a.get 10 = .int .i64 (x_1.length : Int) ∧ a.get 11 = .int .i64 x4 ∧ Comp.loopN (fun s => yC x_1 x_0 x_2 s.1 s.2) n m (x3, x4) = some e2) (m := n) ?st2 ?_
  case st2 =>
   exact ⟨_, _, _, hA, hB, q1, h_1, q2, h_2, q3, f2, q7, q10, q11, Comp.yB he2⟩
  intro m_ a4 w4 hI
  clear hA hB he2 q1 q2 q3 q7 q10 q11 f2 h_1 h_2
  obtain ⟨O5, x3, x4, hA, hB, q1, h_1, q2, h_2, q3, f2, q7, q10, q11, hl⟩ := hI
  obtain ⟨m2, hlt2, st2, h, hnext2, hdone2⟩ := Comp.zg hl; clear hl
  replace h : (yC x_1 x_0 x_2 x3 x4).run n = some st2 := h
  unfold yC at h; refine wp_seq ?_
  refine' rb [_] mixed hA hB hO (cn (fun hE hK => yY (kq hK q11) (kq hK q10)) .nil) ?zk4
  intro a5 w5 hA hE hB HF; refine kr6 HF q1 q2 q3 q7 q10 q11 ?_; clear q1 q2 q3 q7 q10 q11; intro q1 q2 q3 q7 q10 q11; have q12 := ksv (HF 12) rfl rfl rfl; clear HF; replace h_1 := vx h_1 hE; replace h_2 := vx h_2 hE; replace f2 := vx f2 hE; clear hE; refine zD (zA (wp_seq ?_))
  revert h; refine cnd q12 (fun h => ?_) (fun h => ?_)
  ·
   refine wp_skip (zA ?_)
   refine zY (fun a w => ∃ (O9 : Tags) (x8 : Int), a.fit 25 ∧ Base (Fr w0) O w0 O9 w ∧ a.get 1 = v_1 ∧ (rSl zB).v O9 w v_1 x_1 ∧ a.get 2 = v_2 ∧ (rSl zE).v O9 w v_2 x_2 ∧ a.get 3 = u1 ∧ (rBox zL).v O9 w u1 x_0 ∧ a.get 7 = .int .i64 x8 ∧ a.get 10 = .int .i64 (x_1.length : Int) ∧ a.get 11 = .int .i64 x4 ∧ (vF x4 x8).run n = some st2) ?_ ?_
   ·
    refine wp_block (wp_seq ?_)
    refine' rb [_, _] mixed hA hB hO (mv q11 (cn (fun hE hK => zC (ks 0 hK 13 rfl)) .nil)) ?zk5
    intro a6 w6 hA hE hB HF; refine kr6 HF q1 q2 q3 q7 q10 q11 ?_; clear q1 q2 q3 q7 q10 q11; intro q1 q2 q3 q7 q10 q11; have q8 := ksv (HF 8) rfl rfl rfl; clear q12 HF; replace h_1 := vx h_1 hE; replace h_2 := vx h_2 hE; replace f2 := vx f2 hE; clear hE; refine zD (zA (wp_seq ?_)); obtain ⟨x6, hx6, h⟩ := Comp.run_bind h
    refine' rb [SP.vl zL O5 x_0, _, _, _, SP.isv (.bool x6)] mixed hA hB hO (cn (fun hE hK => yz (r := zL) zo ty49 rfl rfl (kn (hK 3 rfl) rfl q3) (yM zo (vx f2 hE))) (mv q1 (mv q2 (mv q8 (cn (fun hE hK => ok_call4 fn53 rfl (ks 1 hK 15 rfl) (ks 2 hK 16 rfl) (ks 3 hK 17 rfl) (ok_colletlaw43_world_holds (OkO.ext hB.ok hE) (kp (SP.vl zL O5 x_0) 0 hK 14 rfl) (vx h_1 hE) (vx h_2 hE) hx6)) .nil))))) ?zk6
    intro a7 w7 hA hE hB HF; refine kr7 HF q1 q2 q3 q7 q8 q10 q11 ?_; clear q1 q2 q3 q7 q8 q10 q11; intro q1 q2 q3 q7 q8 q10 q11; have q18 := ksv (HF 18) rfl rfl rfl; clear HF; replace h_1 := vx h_1 hE; replace h_2 := vx h_2 hE; replace f2 := vx f2 hE; clear hE; refine zD (zA ?_)
    revert h; refine cnd q18 (fun h => ?_) (fun h => ?_)
    ·
     obtain ⟨x7, hx7, h⟩ := Comp.run_bind h
     refine' rb [_, _, _, _, _] mixed hA hB hO (mv q7 (mv q8 (cn (fun hE hK => okl_shl rfl (ks 1 hK 20 rfl) (ye hx7)) (cn (fun hE hK => okb_or (ks 0 hK 19 rfl) (ks 2 hK 21 rfl)) (cn (fun hE hK => zC (ks 3 hK 22 rfl)) .nil))))) ?zk7
     intro a8 w8 hA hE hB HF; refine kr5 HF q1 q2 q3 q10 q11 ?_; clear q1 q2 q3 q10 q11; intro q1 q2 q3 q10 q11; replace q7 := ksv (HF 7) rfl rfl rfl; clear q8 q18 HF; replace h_1 := vx h_1 hE; replace h_2 := vx h_2 hE; replace f2 := vx f2 hE; clear hE; refine zD (yA (zA ?_))
     exact ⟨_, _, hA, hB, q1, h_1, q2, h_2, q3, f2, q7, q10, q11, h⟩
    ·
     refine wp_skip (yA (zA ?_))
     exact ⟨_, _, hA, hB, q1, h_1, q2, h_2, q3, f2, q7, q10, q11, h⟩
   intro a9 w9 hI
   clear hA hB h q1 q2 q3 q7 q10 q11 q12 f2 h_1 h_2
   obtain ⟨O9, x8, hA, hB, q1, h_1, q2, h_2, q3, f2, q7, q10, q11, h⟩ := hI
   unfold vF at h
   refine' rb [_, _] mixed hA hB hO (cn (fun hE hK => yp (kq hK q11) rfl) (cn (fun hE hK => zI (ks 0 hK 23 rfl)) .nil)) ?zk8
   intro a10 w10 hA hE hB HF; refine kr5 HF q1 q2 q3 q7 q10 ?_; clear q1 q2 q3 q7 q10; intro q1 q2 q3 q7 q10; replace q11 := ksv (HF 11) rfl rfl rfl; clear HF; replace h_1 := vx h_1 hE; replace h_2 := vx h_2 hE; replace f2 := vx f2 hE; clear hE; refine zD (zA ?_)
   have h := hnext2 _ (Comp.run_pure h).symm
   refine ⟨m2, hlt2, ?_⟩
   exact ⟨_, _, _, hA, hB, q1, h_1, q2, h_2, q3, f2, q7, q10, q11, h⟩
  ·
   refine wp_exit (zT (zT (yS ?_)))
   have hd_ := hdone2 _ (Comp.run_pure h).symm; clear h
   subst hd_; have h := hk2; clear hk2; try dsimp only at h
   refine zA ?_
   exact ⟨_, _, hA, hB, q7, h⟩
 intro a11 w11 hI
 clear hA hB h q1 q2 q3 q7 f2 h_1 h_2
 obtain ⟨O13, x12, hA, hB, q7, h⟩ := hI
 unfold vr at h; refine wp_seq ?_
 refine' rb [_, _] mixed hA hB hO (mv q7 (cn (fun hE hK => zC (ks 0 hK 24 rfl)) .nil)) ?zk9
 intro a12 w12 hA hE hB HF; have q6 := ksv (HF 6) rfl rfl rfl; clear q7 HF; clear hE; refine zD (zA (wp_ret ?_))
 have h := Comp.run_pure h; subst h
 exact zd Try.results25 hA q6 hB.ext rfl
theorem ok_colletlaw43_seen {O : Tags} {w0 : World} (hO : OkO O w0) {v_0 : Value} {x_0 : List api_Sight} (h_0 : (rSl zE).v O w0 v_0 x_0) {x_1 : Int} {x_2 : Int} {n : Nat} {y : (List api_Sight)} (h : (gt x_0 x_1 x_2).run n = some y) : Pure Try.prog 27 #[v_0, .int .i64 x_1, .int .u8 x_2] w0 (SP.ownr zE 64 (w0.heap.size) O y).holds := by
 unfold gt at h
 refine zS Try.func27 rfl 47 Try.ntmps27 (by simp) fun a0 hA hs0 => ?_
 have q0 : a0.get 0 = v_0 := hs0 0 _ rfl
 have q1 : a0.get 1 = .int .i64 x_1 := hs0 1 _ rfl
 have q2 : a0.get 2 = .int .u8 x_2 := hs0 2 _ rfl
 clear hs0
 have hB : Base (Fr w0) O w0 O w0 := Base.start hO
 refine wp_seq ?_
 refine' rb [_] mixed hA hB hO (cn (fun hE hK => zC rfl) .nil) ?zk1
 intro a1 w1 hA hE hB HF; refine kr3 HF q0 q1 q2 ?_; clear q0 q1 q2; intro q0 q1 q2; clear HF; replace h_0 := vx h_0 hE; clear hE; refine zD (zA (wp_seq ?_))
 refine' rbT [] hA hB hO .nil ?zk2
 intro a2 w2 hA hE hB HF; refine kr3 HF q0 q1 q2 ?_; clear q0 q1 q2; intro q0 q1 q2; clear HF; replace h_0 := vx h_0 hE; clear hE
 refine l_ok (φ := SP.ownr zE 64 w2.heap.size O []) hO hB (by exact okl_buildSlice (r := zE) yh rfl hB.ok ty28 ty64 (Nat.le_refl _) zz trivial rfl (by decide)) rfl fun u1 w3 hE hB' f2 => ?_
 clear hB'; obtain ⟨O3, hB', hX, f4⟩ := ownNew hO hB hE f2 rfl 1 (by decide)
 clear hB f2; have hB := hB'; clear hB'; replace h_0 := vk h_0 hX; clear hX hE
 refine zO hA (by decide) fun a4 hA q_ hfr => ?_
 refine kd3 hfr q0 q1 q2 ?_; clear q0 q1 q2; intro q0 q1 q2; have q9 := q_; clear q_ hfr
 refine l_ok (φ := SP.isv (v_0)) hO hB (by exact zI q0) rfl fun u_ w5 hE hB' hv_ => ?_
 replace hv_ := Eq.symm hv_; subst hv_; clear hB; have hB := hB'; clear hB'
 replace h_0 := vx h_0 hE; replace f4 := f4.ext hE; clear hE
 refine zO hA (by decide) fun a6 hA q_ hfr => ?_
 refine kd4 hfr q0 q1 q2 q9 ?_; clear q0 q1 q2 q9; intro q0 q1 q2 q9; have q10 := q_; clear q_ hfr; obtain ⟨x5, hx5, h⟩ := Comp.run_bind h
 refine jt (r := zE) yh rfl ty28 ty64 rfl (by decide) hO hB (yJ hB) q9 f4 q10 (rd_of h_0) hx5 (by decide) fun u6 w7 O7 f8 hB' hX => ?_
 clear hB; have hB := hB'; clear hB'; clear f4; replace h_0 := vk h_0 hX; clear hX
 refine zO hA (by decide) fun a8 hA q_ hfr => ?_
 refine kd4 hfr q1 q2 q9 q10 ?_; clear q1 q2 q9 q10; intro q1 q2 q9 q10; have q11 := q_; clear q_ hfr
 refine l_ok (φ := SP.isv (u6)) hO hB (by exact zC q11) rfl fun u_ w9 hE hB' hv_ => ?_
 replace hv_ := Eq.symm hv_; subst hv_; clear hB; have hB := hB'; clear hB'
 replace f8 := f8.ext hE; clear hE
 refine zO hA (by decide) fun a10 hA q_ hfr => ?_
 refine kd3 hfr q1 q2 q11 ?_; clear q1 q2 q11; intro q1 q2 q11; have q7 := q_; clear q_ hfr; refine zD (zA ?_)
 refine zY (fun a w => ∃ (O31 : Tags) (x28 : List api_Sight) (u29 : Value), a.fit 47 ∧ Base (Fr w0) O w0 O31 w ∧ a.get 7 = u29 ∧ OwnL 2 zE 64 (Fr w0) O31 w u29 x28 ∧ (je x28).run n = some y) ?_ ?_
 ·
  refine wp_seq ?_
  refine' rb [_, _, _] mixed hA hB hO (mv q7 (cn (fun hE hK => zw (r := zE) ty28 (ks 0 hK 12 rfl) (OwnL.rd (OwnL.ext f8 hE))) (cn (fun hE hK => zI rfl) .nil))) ?zk3
  intro a11 w11 hA hE hB HF; refine kr3 HF q1 q2 q7 ?_; clear q1 q2 q7; intro q1 q2 q7; have q13 := ksv (HF 13) rfl rfl rfl; have q14 := ksv (HF 14) rfl rfl rfl; clear HF; replace f8 := f8.ext hE; clear hE; refine zD (zA (wp_block ?_))
  obtain ⟨O13, hB', hX, f14⟩ := retagL (yJ hB) hB f8 2 (by decide) (by decide)
  clear f8 hB; have hB := hB'; clear hB'; clear hX
  obtain ⟨e2, he2, hk2⟩ := Comp.run_bind h; clear h
  refine vg (fun m a w => ∃ (O15 : Tags) (x9 : List api_Sight) (x12 : Int) (u10 : Value), a.fit 47 ∧ Base (Fr w0) O w0 O15 w ∧ a.get 1 = .int .i64 x_1 ∧ a.get 2 = .int .u8 x_2 ∧ a.get 7 = u10 ∧ OwnL 2 zE 64 (Fr w0) O15 w u10 x9 ∧ a.get 13 = .int .i64 (x5.length : Int) ∧ a.get 14 = .int .i64 x12 ∧ Comp.loopN (fun s => yv x5 x_2 x_1 s.1 s.2) n m (x9, x12) = some e2) (m := n) ?st2 ?_
  case st2 =>
   exact ⟨_, _, _, _, hA, hB, q1, q2, q7, f14, q13, q14, Comp.yB he2⟩
  intro m_ a12 w12 hI
  clear hA hB he2 q1 q2 q7 q13 q14 f14
  obtain ⟨O15, x9, x12, u10, hA, hB, q1, q2, q7, f11, q13, q14, hl⟩ := hI
  obtain ⟨m2, hlt2, st2, h, hnext2, hdone2⟩ := Comp.zg hl; clear hl
  replace h : (yv x5 x_2 x_1 x9 x12).run n = some st2 := h
  unfold yv at h; refine wp_seq ?_
  refine' rb [_] mixed hA hB hO (cn (fun hE hK => yY (kq hK q14) (kq hK q13)) .nil) ?zk4
  intro a13 w13 hA hE hB HF; refine kr5 HF q1 q2 q7 q13 q14 ?_; clear q1 q2 q7 q13 q14; intro q1 q2 q7 q13 q14; have q15 := ksv (HF 15) rfl rfl rfl; clear HF; replace f11 := f11.ext hE; clear hE; refine zD (zA (wp_seq ?_))
  revert h; refine cnd q15 (fun h => ?_) (fun h => ?_)
  ·
   refine wp_skip (zA (wp_seq (wp_block (wp_seq ?_))))
   refine' rb [_, _] mixed hA hB hO (mv q14 (cn (fun hE hK => zC (ks 0 hK 16 rfl)) .nil)) ?zk5
   intro a14 w14 hA hE hB HF; refine kr5 HF q1 q2 q7 q13 q14 ?_; clear q1 q2 q7 q13 q14; intro q1 q2 q7 q13 q14; have q8 := ksv (HF 8) rfl rfl rfl; clear q15 HF; replace f11 := f11.ext hE; clear hE; refine zD (zA ?_); obtain ⟨x16, hx16, h⟩ := Comp.run_bind h; obtain ⟨x17, hx17, h⟩ := Comp.run_bind h; obtain ⟨x18, hx18, h⟩ := Comp.run_bind h; obtain ⟨x19, hx19, h⟩ := Comp.run_bind h; obtain ⟨x20, hx20, h⟩ := Comp.run_bind h
   refine' rb [_, _, _, _, _, SP.ptr zE O15 x16, SP.ptr (rInt .i64) O15 x16.Cell, SP.isv (.int .i64 x16.Cell), _, _, _, _, _, _, _, _, _, _, _, _, SP.ptr zE O15 x19, SP.ptr (rInt .i64) O15 x19.Gauge, SP.isv (.int .i64 x19.Gauge), _, _, _, SP.elt (u10) (Int.toNat x12 * 3), SP.elt (u10) (Int.toNat x12 * 3 + 2)] mixed hA hB hO (mv q7 (mv q8 (mv q1 (mv q7 (mv q8 (cn (fun hE hK => yV (r := zE) (O := O15) ty28 ty64 rfl (ks 3 hK 20 rfl) (OwnL.rd (OwnL.ext f11 hE)) (ks 4 hK 21 rfl) hx16) (cn (fun hE hK => okl_fld (S := zE) rfl (fun _ => rfl) sb_api_Sight_1 fl64_1 rfl (kp (SP.ptr zE O15 x16) 5 hK 22 rfl)) (cn (fun hE hK => zn (rInt .i64) (fun _ => rfl) ty3 rfl rfl rfl (kp (SP.ptr (rInt .i64) O15 x16.Cell) 6 hK 23 rfl) (fun _ _ _ h => zZ.1 h)) (cn (fun hE hK => okl_shr (ks 2 hK 19 rfl) (ks 7 hK 24 rfl) (ye hx17)) (cn (fun hE hK => jY (ks 8 hK 25 rfl) rfl) (cn (fun hE hK => yR (ks 9 hK 26 rfl) rfl) (mv q2 (mv q8 (cn (fun hE hK => ok_rem (ks 12 hK 29 rfl) rfl (by decide)) (cn (fun hE hK => okl_shr (ks 11 hK 28 rfl) (ks 13 hK 30 rfl) (ye hx18)) (cn (fun hE hK => jY (ks 14 hK 31 rfl) rfl) (cn (fun hE hK => yR (ks 15 hK 32 rfl) rfl) (cn (fun hE hK => zI (ks 16 hK 33 rfl)) (mv q7 (mv q8 (.cons (fun _ _ hE hK hg => yV (r := zE) (O := O15) ty28 ty64 rfl (kg 18 hK 35 rfl hg) (OwnL.rd (OwnL.ext f11 hE)) (kg 19 hK 36 rfl hg) (yi hx19 hg)) (.cons (fun _ _ hE hK hg => okl_fld (S := zE) rfl (fun _ => rfl) sb_api_Sight_0 fl64_0 rfl (kspS (φ := SP.ptr zE O15 x19) (j := 20) (hK 37 rfl) rfl rfl hg)) (.cons (fun _ _ hE hK hg => zn (rInt .i64) (fun _ => rfl) ty3 rfl rfl rfl (kspS (φ := SP.ptr (rInt .i64) O15 x19.Gauge) (j := 21) (hK 38 rfl) rfl rfl hg) (fun _ _ _ h => zZ.1 h)) (.cons (fun _ _ hE hK hg => jZ (kg 22 hK 39 rfl hg) rfl) (cn (fun hE hK => zh (ks 17 hK 34 rfl) (fun hb => kg 23 hK 40 rfl (yG rfl rfl hb)) (fun _ => rfl)) (cn (fun hE hK => ok_neqB ty4 (ks 10 hK 27 rfl) (ks 24 hK 41 rfl)) (cn (fun hE hK => okl_idxOwn rfl ty28 ty64 (ksv (j := 0) (hK 17 rfl) rfl rfl rfl) (OwnL.ext f11 hE) (ks 1 hK 18 rfl) (idx_lt hx20)) (cn (fun hE hK => okl_fldElt fl64_2 rfl (kp (SP.elt (u10) (Int.toNat x12 * 3)) 26 hK 43 rfl)) .nil)))))))))))))))))))))))))))) ?zk6
   intro a15 w15 hA hE hB HF; refine kr5 HF q1 q2 q7 q13 q14 ?_; clear q1 q2 q7 q13 q14; intro q1 q2 q7 q13 q14; obtain ⟨u21, q44, f22⟩ := kx (HF 44) rfl rfl rfl; have q42 := ksv (HF 42) rfl rfl rfl; clear q8 HF; replace f11 := f11.ext hE; clear hE; obtain ⟨x24, hx24, h⟩ := Comp.run_bind h; obtain ⟨x25, hx25, h⟩ := Comp.run_bind h
   refine l_storeFld (f := (fun (x : api_Sight) => [.int .i64 x.Gauge, .int .i64 x.Cell, .bool x.There])) (hl := (fun _ => rfl)) (ho := (fun _ => by simp [Value.oneCell'])) hO hB (yJ hB) ty4 q44 f22 f11 q42 rfl rfl (by decide) hx24 hx25 rfl (by decide) fun w16 f23 hB' hX => ?_
   clear hB; have hB := hB'; clear hB'; clear hX f11; refine zD (yA (zA ?_))
   refine' rb [_, _] mixed hA hB hO (cn (fun hE hK => yp (kq hK q14) rfl) (cn (fun hE hK => zI (ks 0 hK 45 rfl)) .nil)) ?zk7
   intro a17 w17 hA hE hB HF; refine kr4 HF q1 q2 q7 q13 ?_; clear q1 q2 q7 q13; intro q1 q2 q7 q13; replace q14 := ksv (HF 14) rfl rfl rfl; clear HF; replace f23 := f23.ext hE; clear hE; refine zD (zA ?_)
   have h := hnext2 _ (Comp.run_pure h).symm
   refine ⟨m2, hlt2, ?_⟩
   exact ⟨_, _, _, _, hA, hB, q1, q2, q7, f23, q13, q14, h⟩
  ·
   refine wp_exit (zT (zT (yS ?_)))
   have hd_ := hdone2 _ (Comp.run_pure h).symm; clear h
   subst hd_; have h := hk2; clear hk2; try dsimp only at h
   refine zA ?_
   exact ⟨_, _, _, hA, hB, q7, f11, h⟩
 intro a18 w18 hI
 clear hA hB h q1 q2 q7 f8
 obtain ⟨O31, x28, u29, hA, hB, q7, f30, h⟩ := hI
 unfold je at h; refine wp_seq ?_
 refine' rb [_, _] mixed hA hB hO (mv q7 (cn (fun hE hK => zC (ks 0 hK 46 rfl)) .nil)) ?zk8
 intro a19 w19 hA hE hB HF; have q6 := ksv (HF 6) rfl rfl rfl; clear q7 HF; replace f30 := f30.ext hE; clear hE; refine zD (zA (wp_ret ?_))
 have h := Comp.run_pure h; subst h
 exact zd Try.results27 hA q6 hB.ext (OwnL.res f30 (by decide) hB.zero)
theorem ok_colletlaw43_gauges {O : Tags} {w0 : World} (hO : OkO O w0) {v_0 : Value} {x_0 : List api_Claim} (h_0 : (rSl zB).v O w0 v_0 x_0) {n : Nat} {y : Int} (h : (gO x_0).run n = some y) : Pure Try.prog 30 #[v_0] w0 (SP.isv (.int .i64 y)).holds := by
 unfold gO at h
 refine zS Try.func30 rfl 22 Try.ntmps30 (by simp) fun a0 hA hs0 => ?_
 have q0 : a0.get 0 = v_0 := hs0 0 _ rfl
 clear hs0
 have hB : Base (Fr w0) O w0 O w0 := Base.start hO
 refine wp_seq ?_
 refine' rb [_] mixed hA hB hO (cn (fun hE hK => zC rfl) .nil) ?zk1
 intro a1 w1 hA hE hB HF; replace q0 := kf HF q0; clear HF; replace h_0 := vx h_0 hE; clear hE; refine zD (zA (wp_seq ?_))
 refine' rb [_] mixed hA hB hO (cn (fun hE hK => zC rfl) .nil) ?zk2
 intro a2 w2 hA hE hB HF; replace q0 := kf HF q0; have q3 := ksv (HF 3) rfl rfl rfl; clear HF; replace h_0 := vx h_0 hE; clear hE; refine zD (zA ?_)
 refine zY (fun a w => ∃ (O11 : Tags) (x10 : Int), a.fit 22 ∧ Base (Fr w0) O w0 O11 w ∧ a.get 3 = .int .i64 x10 ∧ (jB x10).run n = some y) ?_ ?_
 ·
  refine wp_seq ?_
  refine' rb [_, _, _] mixed hA hB hO (mv q0 (cn (fun hE hK => zw (r := zB) ty27 (ks 0 hK 5 rfl) (rd_of (vx h_0 hE))) (cn (fun hE hK => zI rfl) .nil))) ?zk3
  intro a3 w3 hA hE hB HF; replace q0 := kf HF q0; replace q3 := kf HF q3; have q6 := ksv (HF 6) rfl rfl rfl; have q7 := ksv (HF 7) rfl rfl rfl; clear HF; replace h_0 := vx h_0 hE; clear hE; refine zD (zA (wp_block ?_))
  obtain ⟨e2, he2, hk2⟩ := Comp.run_bind h; clear h
  refine vg (fun m a w => ∃ (O3 : Tags) (x1 : Int) (x2 : Int), a.fit 22 ∧ Base (Fr w0) O w0 O3 w ∧ a.get 0 = v_0 ∧ (rSl zB).v O3 w v_0 x_0 ∧ a.get 3 = .int .i64 x1 ∧ a.get 6 = .int .i64 (x_0.length : Int) ∧ a.get 7 = .int .i64 x2 ∧ Comp.loopN (fun s => yc x_0 s.1 s.2) n m (x1, x2) = some e2) (m := n) ?st2 ?_
  case st2 =>
   exact ⟨_, _, _, hA, hB, q0, h_0, q3, q6, q7, Comp.yB he2⟩
  intro m_ a4 w4 hI
  clear hA hB he2 q0 q3 q6 q7 h_0
  obtain ⟨O3, x1, x2, hA, hB, q0, h_0, q3, q6, q7, hl⟩ := hI
  obtain ⟨m2, hlt2, st2, h, hnext2, hdone2⟩ := Comp.zg hl; clear hl
  replace h : (yc x_0 x1 x2).run n = some st2 := h
  unfold yc at h; refine wp_seq ?_
  refine' rb [_] mixed hA hB hO (cn (fun hE hK => yY (kq hK q7) (kq hK q6)) .nil) ?zk4
  intro a5 w5 hA hE hB HF; refine kr4 HF q0 q3 q6 q7 ?_; clear q0 q3 q6 q7; intro q0 q3 q6 q7; have q8 := ksv (HF 8) rfl rfl rfl; clear HF; replace h_0 := vx h_0 hE; clear hE; refine zD (zA (wp_seq ?_))
  revert h; refine cnd q8 (fun h => ?_) (fun h => ?_)
  ·
   refine wp_skip (zA ?_)
   refine zY (fun a w => ∃ (O7 : Tags) (x6 : Int), a.fit 22 ∧ Base (Fr w0) O w0 O7 w ∧ a.get 0 = v_0 ∧ (rSl zB).v O7 w v_0 x_0 ∧ a.get 3 = .int .i64 x6 ∧ a.get 6 = .int .i64 (x_0.length : Int) ∧ a.get 7 = .int .i64 x2 ∧ (gJ x2 x6).run n = some st2) ?_ ?_
   ·
    refine wp_block (wp_seq ?_)
    refine' rb [_, _] mixed hA hB hO (mv q7 (cn (fun hE hK => zC (ks 0 hK 9 rfl)) .nil)) ?zk5
    intro a6 w6 hA hE hB HF; refine kr4 HF q0 q3 q6 q7 ?_; clear q0 q3 q6 q7; intro q0 q3 q6 q7; have q4 := ksv (HF 4) rfl rfl rfl; clear q8 HF; replace h_0 := vx h_0 hE; clear hE; refine zD (zA (wp_seq ?_)); obtain ⟨x4, hx4, h⟩ := Comp.run_bind h
    refine' rb [_, _, SP.ptr zB O3 x4, SP.ptr (rInt .i64) O3 x4.Kind, SP.isv (.int .i64 x4.Kind), _] mixed hA hB hO (mv q0 (mv q4 (cn (fun hE hK => yV (r := zB) (O := O3) ty27 ty33 rfl (ks 0 hK 10 rfl) (rd_of (vx h_0 hE)) (ks 1 hK 11 rfl) hx4) (cn (fun hE hK => okl_fld (S := zB) rfl (fun _ => rfl) jD fl33_1 rfl (kp (SP.ptr zB O3 x4) 2 hK 12 rfl)) (cn (fun hE hK => zn (rInt .i64) (fun _ => rfl) ty3 rfl rfl rfl (kp (SP.ptr (rInt .i64) O3 x4.Kind) 3 hK 13 rfl) (fun _ _ _ h => zZ.1 h)) (cn (fun hE hK => yR (ks 4 hK 14 rfl) rfl) .nil)))))) ?zk6
    intro a7 w7 hA hE hB HF; refine kr5 HF q0 q3 q4 q6 q7 ?_; clear q0 q3 q4 q6 q7; intro q0 q3 q4 q6 q7; have q15 := ksv (HF 15) rfl rfl rfl; clear HF; replace h_0 := vx h_0 hE; clear hE; refine zD (zA ?_)
    revert h; refine cnd q15 (fun h => ?_) (fun h => ?_)
    ·
     obtain ⟨x5, hx5, h⟩ := Comp.run_bind h
     refine' rb [_, _, _, _, _] mixed hA hB hO (mv q3 (mv q4 (cn (fun hE hK => okl_shl rfl (ks 1 hK 17 rfl) (ye hx5)) (cn (fun hE hK => okb_or (ks 0 hK 16 rfl) (ks 2 hK 18 rfl)) (cn (fun hE hK => zC (ks 3 hK 19 rfl)) .nil))))) ?zk7
     intro a8 w8 hA hE hB HF; refine kr3 HF q0 q6 q7 ?_; clear q0 q6 q7; intro q0 q6 q7; replace q3 := ksv (HF 3) rfl rfl rfl; clear q4 q15 HF; replace h_0 := vx h_0 hE; clear hE; refine zD (yA (zA ?_))
     exact ⟨_, _, hA, hB, q0, h_0, q3, q6, q7, h⟩
    ·
     refine wp_skip (yA (zA ?_))
     exact ⟨_, _, hA, hB, q0, h_0, q3, q6, q7, h⟩
   intro a9 w9 hI
   clear hA hB h q0 q3 q6 q7 q8 h_0
   obtain ⟨O7, x6, hA, hB, q0, h_0, q3, q6, q7, h⟩ := hI
   unfold gJ at h
   refine' rb [_, _] mixed hA hB hO (cn (fun hE hK => yp (kq hK q7) rfl) (cn (fun hE hK => zI (ks 0 hK 20 rfl)) .nil)) ?zk8
   intro a10 w10 hA hE hB HF; refine kr3 HF q0 q3 q6 ?_; clear q0 q3 q6; intro q0 q3 q6; replace q7 := ksv (HF 7) rfl rfl rfl; clear HF; replace h_0 := vx h_0 hE; clear hE; refine zD (zA ?_)
   have h := hnext2 _ (Comp.run_pure h).symm
   refine ⟨m2, hlt2, ?_⟩
   exact ⟨_, _, _, hA, hB, q0, h_0, q3, q6, q7, h⟩
  ·
   refine wp_exit (zT (zT (yS ?_)))
   have hd_ := hdone2 _ (Comp.run_pure h).symm; clear h
   subst hd_; have h := hk2; clear hk2; try dsimp only at h
   refine zA ?_
   exact ⟨_, _, hA, hB, q3, h⟩
 intro a11 w11 hI
 clear hA hB h q0 q3 h_0
 obtain ⟨O11, x10, hA, hB, q3, h⟩ := hI
 unfold jB at h; refine wp_seq ?_
 refine' rb [_, _] mixed hA hB hO (mv q3 (cn (fun hE hK => zC (ks 0 hK 21 rfl)) .nil)) ?zk9
 intro a12 w12 hA hE hB HF; have q2 := ksv (HF 2) rfl rfl rfl; clear q3 HF; clear hE; refine zD (zA (wp_ret ?_))
 have h := Comp.run_pure h; subst h
 exact zd Try.results30 hA q2 hB.ext rfl
theorem ok_colletlaw43_many {O : Tags} {w0 : World} (hO : OkO O w0) {x_0 : Int} {n : Nat} {y : Int} (h : (gu x_0).run n = some y) : Pure Try.prog 29 #[.int .i64 x_0] w0 (SP.isv (.int .i64 y)).holds := by
 unfold gu at h
 refine zS Try.func29 rfl 13 Try.ntmps29 (by simp) fun a0 hA hs0 => ?_
 have q0 : a0.get 0 = .int .i64 x_0 := hs0 0 _ rfl
 clear hs0
 have hB : Base (Fr w0) O w0 O w0 := Base.start hO
 refine wp_seq ?_
 refine' rb [_] mixed hA hB hO (cn (fun hE hK => zC rfl) .nil) ?zk1
 intro a1 w1 hA hE hB HF; replace q0 := kf HF q0; clear HF; clear hE; refine zD (zA (wp_seq ?_))
 refine' rb [_] mixed hA hB hO (cn (fun hE hK => zC rfl) .nil) ?zk2
 intro a2 w2 hA hE hB HF; replace q0 := kf HF q0; have q3 := ksv (HF 3) rfl rfl rfl; clear HF; clear hE; refine zD (zA ?_)
 refine zY (fun a w => ∃ (O8 : Tags) (x7 : Int), a.fit 13 ∧ Base (Fr w0) O w0 O8 w ∧ a.get 3 = .int .i64 x7 ∧ (jf x7).run n = some y) ?_ ?_
 ·
  refine wp_block ?_
  obtain ⟨e2, he2, hk2⟩ := Comp.run_bind h; clear h
  refine vg (fun m a w => ∃ (O3 : Tags) (x1 : Int) (x2 : Int), a.fit 13 ∧ Base (Fr w0) O w0 O3 w ∧ a.get 0 = .int .i64 x1 ∧ a.get 3 = .int .i64 x2 ∧ Comp.loopN (fun s => zm s.1 s.2) n m (x1, x2) = some e2) (m := n) ?st2 ?_
  case st2 =>
   exact ⟨_, _, _, hA, hB, q0, q3, Comp.yB he2⟩
  intro m_ a3 w3 hI
  clear hA hB he2 q0 q3
  obtain ⟨O3, x1, x2, hA, hB, q0, q3, hl⟩ := hI
  obtain ⟨m2, hlt2, st2, h, hnext2, hdone2⟩ := Comp.zg hl; clear hl
  replace h : (zm x1 x2).run n = some st2 := h
  unfold zm at h; refine wp_seq (wp_seq ?_)
  refine' rb [_, _] mixed hA hB hO (mv q0 (cn (fun hE hK => ok_gtr (ks 0 hK 4 rfl) rfl) .nil)) ?zk3
  intro a4 w4 hA hE hB HF; replace q0 := kf HF q0; replace q3 := kf HF q3; have q5 := ksv (HF 5) rfl rfl rfl; clear HF; clear hE; refine zD (zA ?_)
  revert h; refine cnd q5 (fun h => ?_) (fun h => ?_)
  ·
   refine wp_skip (zA (wp_seq (wp_block ?_)))
   refine' rb [_, _, _, _, _] mixed hA hB hO (mv q3 (mv q0 (cn (fun hE hK => jY (ks 1 hK 9 rfl) rfl) (cn (fun hE hK => yp (ks 0 hK 8 rfl) (ks 2 hK 10 rfl)) (cn (fun hE hK => zC (ks 3 hK 11 rfl)) .nil))))) ?zk4
   intro a5 w5 hA hE hB HF; replace q0 := kf HF q0; replace q3 := ksv (HF 3) rfl rfl rfl; clear q5 HF; clear hE
   obtain ⟨x4, hx_, h⟩ := Comp.run_bind h; replace hx_ := Comp.run_pure hx_; rw [hx_] at q3; clear hx_
   refine zD (yA (zA ?_))
   refine' rb [_, _, _] mixed hA hB hO (mv q0 (cn (fun hE hK => okl_shr (ks 0 hK 6 rfl) rfl (by decide)) (cn (fun hE hK => zC (ks 1 hK 7 rfl)) .nil))) ?zk5
   intro a6 w6 hA hE hB HF; replace q3 := kf HF q3; replace q0 := ksv (HF 0) rfl rfl rfl; clear HF; clear hE; refine zD (zA ?_)
   have h := hnext2 _ (Comp.run_pure h).symm
   refine ⟨m2, hlt2, ?_⟩
   exact ⟨_, _, _, hA, hB, q0, q3, h⟩
  ·
   refine wp_exit (zT (zT (yS ?_)))
   have hd_ := hdone2 _ (Comp.run_pure h).symm; clear h
   subst hd_; have h := hk2; clear hk2; try dsimp only at h
   refine zA ?_
   exact ⟨_, _, hA, hB, q3, h⟩
 intro a7 w7 hI
 clear hA hB h q0 q3
 obtain ⟨O8, x7, hA, hB, q3, h⟩ := hI
 unfold jf at h; refine wp_seq ?_
 refine' rb [_, _] mixed hA hB hO (mv q3 (cn (fun hE hK => zC (ks 0 hK 12 rfl)) .nil)) ?zk6
 intro a8 w8 hA hE hB HF; have q2 := ksv (HF 2) rfl rfl rfl; clear q3 HF; clear hE; refine zD (zA (wp_ret ?_))
 have h := Comp.run_pure h; subst h
 exact zd Try.results29 hA q2 hB.ext rfl
set_option maxHeartbeats 4000000 in
theorem ok_colletlaw43_CourtTrue {O : Tags} {w0 : World} (hO : OkO O w0) {v_0 : Value} {x_0 : colletlaw43_Case} (h_0 : zU.v O w0 v_0 x_0) {x_1 : Int} {x_2 : Vector Int 6} {x_3 : Int} {n : Nat} {y : Bool} (h : (jC x_0 x_1 x_2 x_3).run n = some y) : Pure Try.prog 5 #[v_0, .int .u8 x_1, .agg (jH (fun x => [.int .u8 x]) x_2).toArray, .int .u8 x_3] w0 (SP.isv (.bool y)).holds := by
 unfold jC at h
 refine zS Try.func5 rfl 207 Try.ntmps5 (by simp) fun a0 hA hs0 => ?_
 have q0 : a0.get 0 = v_0 := hs0 0 _ rfl
 have q1 : a0.get 1 = .int .u8 x_1 := hs0 1 _ rfl
 have q2 : a0.get 2 = .agg (jH (fun x => [.int .u8 x]) x_2).toArray := hs0 2 _ rfl
 have q3 : a0.get 3 = .int .u8 x_3 := hs0 3 _ rfl
 clear hs0
 have hB : Base (Fr w0) O w0 O w0 := Base.start hO
 refine wp_seq ?_
 refine' rb [SP.vl (rBox zU) O x_0, SP.vl (rBox (rVec 6 1 (fun x => [.int .u8 x]) (fun _ => rfl) (fun _ => by simp [Value.oneCell']))) O x_2, _] mixed hA hB hO (cn (fun hE hK => jo (r := zU) yE (OkO.ext hB.ok hE) (kq hK q0) (vx h_0 hE)) (.cons ?z1_1 (cn (fun hE hK => zC rfl) .nil))) ?zk1
 case z1_1 => intro a' w' hE hK hg; exact jo (r := (rVec 6 1 (fun x => [.int .u8 x]) (fun _ => rfl) (fun _ => by simp [Value.oneCell']))) (by intro h; cases h) (OkO.ext hB.ok hE) (kq hK q2) (by first | exact (rC_v (x := x_2)).2 rfl | exact ⟨_, rfl, rfl⟩)
 intro a1 w1 hA hE hB HF; replace q1 := kf HF q1; replace q3 := kf HF q3; obtain ⟨u1, q4, f2⟩ := kx (HF 4) rfl rfl rfl; obtain ⟨u3, q6, f4⟩ := kx (HF 6) rfl rfl rfl; clear q0 q2 HF; replace h_0 := vx h_0 hE; clear hE; refine zD (zA (wp_seq ?_)); obtain ⟨x5, hx5, h⟩ := Comp.run_bind h
 refine' rb [SP.isv (.bool x5), _] mixed hA hB hO (cn (fun hE hK => ok_call0 fn8  (ok_colletlaw43_sanity (OkO.ext hB.ok hE)  hx5)) (cn (fun hE hK => zC (ks 0 hK 34 rfl)) .nil)) ?zk2
 intro a2 w2 hA hE hB HF; refine kr4 HF q1 q3 q4 q6 ?_; clear q1 q3 q4 q6; intro q1 q3 q4 q6; have q9 := ksv (HF 9) rfl rfl rfl; clear HF; replace f2 := vx f2 hE; replace f4 := vx f4 hE; clear hE; refine zD (zA (wp_seq ?_)); obtain ⟨x6, hx6, h⟩ := Comp.run_bind h
 refine' rb [SP.vl zU O x_0, SP.tup3 (SP.vl (rSl zB) O x6.1) (SP.vl (rSl zE) O x6.2.1) (SP.isv (.int .i64 x6.2.2)), SP.tup3 (SP.vl (rSl zB) O x6.1) (SP.vl (rSl zE) O x6.2.1) (SP.isv (.int .i64 x6.2.2)), SP.vl (rSl zB) O x6.1, SP.vl (rSl zE) O x6.2.1, SP.isv (.int .i64 x6.2.2), SP.vl (rSl zB) O x6.1, SP.vl (rSl zE) O x6.2.1, _] mixed hA hB hO (cn (fun hE hK => yz (r := zU) yE ty25 rfl rfl (kn (hK 4 rfl) rfl q4) (yM yE (vx f2 hE))) (.cons (fun _ _ hE hK hg => yO (yg fn9 rfl rfl (ok_colletlaw43_Case_made (OkO.ext hB.ok hE) (kp (SP.vl zU O x_0) 0 hK 36 rfl) hx6)) (fun _ _ _ ⟨a_, b_, d_, e0_, h0_, h1_, h2_⟩ => ⟨a_, b_, d_, e0_, (fun h => (OwnR.val h (fun g hg => (OkO.ext hB.ok hE) g (OwnR.ge h g hg).1))) h0_, h1_, h2_⟩)) (cn (fun hE hK => gp (φ := SP.tup3 (SP.vl (rSl zB) O x6.1) (SP.vl (rSl zE) O x6.2.1) (SP.isv (.int .i64 x6.2.2))) (kp _ 1 hK 37 rfl)) (cn (fun hE hK => okl_ext3_0 (kp (SP.tup3 (SP.vl (rSl zB) O x6.1) (SP.vl (rSl zE) O x6.2.1) (SP.isv (.int .i64 x6.2.2))) 2 hK 35 rfl)) (cn (fun hE hK => okl_ext3_1 (kp (SP.tup3 (SP.vl (rSl zB) O x6.1) (SP.vl (rSl zE) O x6.2.1) (SP.isv (.int .i64 x6.2.2))) 2 hK 35 rfl)) (cn (fun hE hK => okl_ext3_2 (kp (SP.tup3 (SP.vl (rSl zB) O x6.1) (SP.vl (rSl zE) O x6.2.1) (SP.isv (.int .i64 x6.2.2))) 2 hK 35 rfl)) (cn (fun hE hK => yN (φ := SP.vl (rSl zB) O x6.1) (kp _ 3 hK 38 rfl)) (cn (fun hE hK => yN (φ := SP.vl (rSl zE) O x6.2.1) (kp _ 4 hK 39 rfl)) (cn (fun hE hK => zC (ks 5 hK 40 rfl)) .nil))))))))) ?zk3
 intro a3 w3 hA hE hB HF; refine kr4 HF q1 q3 q6 q9 ?_; clear q1 q3 q6 q9; intro q1 q3 q6 q9; obtain ⟨u7, q10, f8⟩ := kx (HF 10) rfl rfl rfl; obtain ⟨u9, q11, f10⟩ := kx (HF 11) rfl rfl rfl; have q12 := ksv (HF 12) rfl rfl rfl; clear q4 HF; replace f2 := vx f2 hE; replace f4 := vx f4 hE; clear hE; refine zD (zA (wp_seq ?_)); obtain ⟨x11, hx11, h⟩ := Comp.run_bind h
 refine' rb [_, _, _, _] mixed hA hB hO (mv q12 (cn (fun hE hK => okl_shl rfl (ks 0 hK 41 rfl) (ye hx11)) (cn (fun hE hK => ok_sub (ks 1 hK 42 rfl) rfl) (cn (fun hE hK => zC (ks 2 hK 43 rfl)) .nil)))) ?zk4
 intro a4 w4 hA hE hB HF; refine kr7 HF q1 q3 q6 q9 q10 q11 q12 ?_; clear q1 q3 q6 q9 q10 q11 q12; intro q1 q3 q6 q9 q10 q11 q12; have q13 := ksv (HF 13) rfl rfl rfl; clear HF; replace f4 := vx f4 hE; replace f8 := vx f8 hE; replace f10 := vx f10 hE; clear hE
 obtain ⟨x12, hx_, h⟩ := Comp.run_bind h; replace hx_ := Comp.run_pure hx_; rw [hx_] at q13; clear hx_
 refine zD (zA (wp_seq ?_))
 refine' rbT [_, _, _, _, _, _] hA hB hO (mv q1 (cn (fun hE hK => ok_convI ty5 ty3 (ks 0 hK 44 rfl)) (mv q13 (cn (fun hE hK => jY (ks 1 hK 45 rfl) (ks 2 hK 46 rfl)) (mv q10 (cn (fun hE hK => zw (r := zB) ty27 (ks 4 hK 48 rfl) (rd_of (vx f8 hE))) .nil)))))) ?zk5
 intro a5 w5 hA hE hB HF; refine kr7 HF q3 q6 q9 q10 q11 q12 q13 ?_; clear q3 q6 q9 q10 q11 q12 q13; intro q3 q6 q9 q10 q11 q12 q13; have q47 := ksv (HF 47) rfl rfl rfl; have q49 := ksv (HF 49) rfl rfl rfl; clear q1 HF; replace f4 := vx f4 hE; replace f8 := vx f8 hE; replace f10 := vx f10 hE; clear hE; obtain ⟨x13, hx13, h⟩ := Comp.run_bind h
 refine l_ok (φ := SP.ownr (rInt .i64) 3 w5.heap.size O x13) hO hB (by exact okl_make (r := (rInt .i64)) (B := w5.heap.size) rfl ty23 ty3 (by decide) rfl (Nat.le_refl _) q49 q49 (fun _ _ => zZ.2 rfl) hx13) rfl fun u14 w6 hE hB' f15 => ?_
 clear hB'; obtain ⟨O16, hB', hX, f17⟩ := ownNew hO hB hE f15 rfl 1 (by decide)
 clear hB f15; have hB := hB'; clear hB'; replace f4 := vk f4 hX; replace f8 := vk f8 hX; replace f10 := vk f10 hX; clear hX hE
 refine zO hA (by decide) fun a7 hA q_ hfr => ?_
 refine kd9 hfr q3 q6 q9 q10 q11 q12 q13 q47 q49 ?_; clear q3 q6 q9 q10 q11 q12 q13 q47 q49; intro q3 q6 q9 q10 q11 q12 q13 q47 q49; have q50 := q_; clear q_ hfr
 refine l_ok (φ := SP.isv (.agg #[.int .i64 (andB .i64 (IntKind.wrap .i64 x_1) x12), u14])) hO hB (by refine gE (vals := [(0, .int .i64 (andB .i64 (IntKind.wrap .i64 x_1) x12)), (1, u14)]) (out := [.int .i64 (andB .i64 (IntKind.wrap .i64 x_1) x12), u14]) plc49 ty49 ?_ rfl ?_ rfl; exact (vH (v := .int .i64 (andB .i64 (IntKind.wrap .i64 x_1) x12)) q47 (vH (v := u14) q50 pk_nil)); exact (.cons rfl rfl rfl (leb rfl) (.cons rfl (own_cells f17) rfl (leb rfl) .nil))) rfl fun u_ w8 hE hB' hv_ => ?_
 replace hv_ := Eq.symm hv_; subst hv_; clear hB; have hB := hB'; clear hB'
 replace f4 := vx f4 hE; replace f8 := vx f8 hE; replace f10 := vx f10 hE; replace f17 := f17.ext hE; clear hE
 refine zO hA (by decide) fun a9 hA q_ hfr => ?_
 refine kd9 hfr q3 q6 q9 q10 q11 q12 q13 q47 q50 ?_; clear q3 q6 q9 q10 q11 q12 q13 q47 q50; intro q3 q6 q9 q10 q11 q12 q13 q47 q50; have q51 := q_; clear q_ hfr
 refine l_ok (φ := SP.box w8.heap.size #[.int .i64 0, .slice none 0 0] 49) hO hB (by exact ga (Nat.le_refl _) ty49) rfl fun u18 w10 hE hB' f19 => ?_
 clear hB'; obtain ⟨O20, b22, hB', hX, e_, f21⟩ := boxNew hO hB hE f19 2 (by decide)
 subst e_; clear hB f19; have hB := hB'; clear hB'
 replace f4 := vk f4 hX; replace f8 := vk f8 hX; replace f10 := vk f10 hX
 replace f17 := f17.kx hX (by decide) (by decide)
 clear hX hE
 refine zO hA (by decide) fun a11 hA q_ hfr => ?_
 refine kd8 hfr q3 q6 q9 q10 q11 q12 q13 q51 ?_; clear q3 q6 q9 q10 q11 q12 q13 q51; intro q3 q6 q9 q10 q11 q12 q13 q51; have q14 := q_; clear q_ hfr
 refine vw (vs := [.int .i64 (andB .i64 (IntKind.wrap .i64 x_1) x12), u14]) (cs' := #[.int .i64 (andB .i64 (IntKind.wrap .i64 x_1) x12), u14]) hO hB (yJ hB) ty49 q14 q51 rfl (by intro c_ hc_; simp only [List.mem_cons, List.not_mem_nil, or_false] at hc_; rcases hc_ with rfl | rfl <;> first | rfl | assumption | exact own_one f17) f21 (by simp) rfl fun w12 f23 hB' hX => ?_
 clear hB f21; have hB := hB'; clear hB'; replace f4 := vk f4 hX; replace f8 := vk f8 hX; replace f10 := vk f10 hX
 replace f17 := f17.kx hX (by decide) (by decide)
 clear hX; refine zD (zA ?_)
 refine zY (fun a w => ∃ (O59 : Tags) (x53 : Int) (x54 : List Int) (u55 : Value), a.fit 207 ∧ Base (Fr w0) O w0 O59 w ∧ a.get 3 = .int .u8 x_3 ∧ a.get 9 = .bool x5 ∧ a.get 10 = u7 ∧ (rSl zB).v O59 w u7 x6.1 ∧ a.get 11 = u9 ∧ (rSl zE).v O59 w u9 x6.2.1 ∧ a.get 12 = .int .i64 x6.2.2 ∧ a.get 14 = .pointer (some ⟨b22, 0, none⟩) ∧ OwnB 2 (Fr w0) O59 w b22 #[.int .i64 x53, u55] 49 ∧ (rSl (rInt .i64)).v O59 w u55 x54 ∧ (vY x6 x_3 x5 x53 x54).run n = some y) ?_ ?_
 ·
  refine wp_seq ?_
  refine' rb [_, _, _] mixed hA hB hO (mv q10 (cn (fun hE hK => zw (r := zB) ty27 (ks 0 hK 52 rfl) (rd_of (vx f8 hE))) (cn (fun hE hK => zI rfl) .nil))) ?zk6
  intro a13 w13 hA hE hB HF; refine kr8 HF q3 q6 q9 q10 q11 q12 q13 q14 ?_; clear q3 q6 q9 q10 q11 q12 q13 q14; intro q3 q6 q9 q10 q11 q12 q13 q14; have q53 := ksv (HF 53) rfl rfl rfl; have q54 := ksv (HF 54) rfl rfl rfl; clear HF; replace f4 := vx f4 hE; replace f8 := vx f8 hE; replace f10 := vx f10 hE; replace f23 := f23.ext hE; replace f17 := f17.ext hE; clear hE; refine zD (zA (wp_block ?_))
  obtain ⟨O29, hB', hX, f30⟩ := retagL (yJ hB) hB f17 3 (by decide) (by decide)
  clear f17 hB; have hB := hB'; clear hB'; replace f4 := vk f4 hX; replace f8 := vk f8 hX; replace f10 := vk f10 hX
  replace f23 := f23.kx hX (by decide)
  clear hX
  obtain ⟨e2, he2, hk2⟩ := Comp.run_bind h; clear h
  refine vg (fun m a w => ∃ (O31 : Tags) (x24 : Int) (x25 : Int) (x26 : List Int) (u27 : Value), a.fit 207 ∧ Base (Fr w0) O w0 O31 w ∧ a.get 3 = .int .u8 x_3 ∧ a.get 6 = u3 ∧ (rBox (rVec 6 1 (fun x => [.int .u8 x]) (fun _ => rfl) (fun _ => by simp [Value.oneCell']))).v O31 w u3 x_2 ∧ a.get 9 = .bool x5 ∧ a.get 10 = u7 ∧ (rSl zB).v O31 w u7 x6.1 ∧ a.get 11 = u9 ∧ (rSl zE).v O31 w u9 x6.2.1 ∧ a.get 12 = .int .i64 x6.2.2 ∧ a.get 13 = .int .i64 x12 ∧ a.get 14 = .pointer (some ⟨b22, 0, none⟩) ∧ a.get 53 = .int .i64 (x6.1.length : Int) ∧ a.get 54 = .int .i64 x24 ∧ OwnB 2 (Fr w0) O31 w b22 #[.int .i64 x25, u27] 49 ∧ OwnL 3 (rInt .i64) 3 (Fr w0) O31 w u27 x26 ∧ Comp.loopN (fun s => zt x6 x_2 x12 s.1 s.2.1 s.2.2) n m (x24, x25, x26) = some e2) (m := n) ?st2 ?_
  case st2 =>
   exact ⟨_, _, _, _, _, hA, hB, q3, q6, f4, q9, q10, f8, q11, f10, q12, q13, q14, q53, q54, f23, f30, Comp.yB he2⟩
  intro m_ a14 w14 hI
  clear hA hB he2 q3 q6 q9 q10 q11 q12 q13 q14 q53 q54 f10 f23 f30 f4 f8
  obtain ⟨O31, x24, x25, x26, u27, hA, hB, q3, q6, f4, q9, q10, f8, q11, f10, q12, q13, q14, q53, q54, f23, f28, hl⟩ := hI
  obtain ⟨m2, hlt2, st2, h, hnext2, hdone2⟩ := Comp.zg hl; clear hl
  replace h : (zt x6 x_2 x12 x24 x25 x26).run n = some st2 := h
  unfold zt at h; refine wp_seq ?_
  refine' rb [_] mixed hA hB hO (cn (fun hE hK => yY (kq hK q54) (kq hK q53)) .nil) ?zk7
  intro a15 w15 hA hE hB HF; refine kr10 HF q3 q6 q9 q10 q11 q12 q13 q14 q53 q54 ?_; clear q3 q6 q9 q10 q11 q12 q13 q14 q53 q54; intro q3 q6 q9 q10 q11 q12 q13 q14 q53 q54; have q55 := ksv (HF 55) rfl rfl rfl; clear HF; replace f4 := vx f4 hE; replace f8 := vx f8 hE; replace f10 := vx f10 hE; replace f23 := f23.ext hE; replace f28 := f28.ext hE; clear hE; refine zD (zA (wp_seq ?_))
  revert h; refine cnd q55 (fun h => ?_) (fun h => ?_)
  ·
   refine wp_skip (zA ?_)
   refine zY (fun a w => ∃ (O50 : Tags) (x46 : Int) (x47 : List Int) (u48 : Value), a.fit 207 ∧ Base (Fr w0) O w0 O50 w ∧ a.get 3 = .int .u8 x_3 ∧ a.get 6 = u3 ∧ (rBox (rVec 6 1 (fun x => [.int .u8 x]) (fun _ => rfl) (fun _ => by simp [Value.oneCell']))).v O50 w u3 x_2 ∧ a.get 9 = .bool x5 ∧ a.get 10 = u7 ∧ (rSl zB).v O50 w u7 x6.1 ∧ a.get 11 = u9 ∧ (rSl zE).v O50 w u9 x6.2.1 ∧ a.get 12 = .int .i64 x6.2.2 ∧ a.get 13 = .int .i64 x12 ∧ a.get 14 = .pointer (some ⟨b22, 0, none⟩) ∧ a.get 53 = .int .i64 (x6.1.length : Int) ∧ a.get 54 = .int .i64 x24 ∧ OwnB 2 (Fr w0) O50 w b22 #[.int .i64 x46, u48] 49 ∧ OwnL 3 (rInt .i64) 3 (Fr w0) O50 w u48 x47 ∧ (vX x24 x46 x47).run n = some st2) ?_ ?_
   ·
    refine wp_block (wp_seq ?_)
    refine' rb [_, _] mixed hA hB hO (mv q54 (cn (fun hE hK => zC (ks 0 hK 56 rfl)) .nil)) ?zk8
    intro a16 w16 hA hE hB HF; refine kr10 HF q3 q6 q9 q10 q11 q12 q13 q14 q53 q54 ?_; clear q3 q6 q9 q10 q11 q12 q13 q14 q53 q54; intro q3 q6 q9 q10 q11 q12 q13 q14 q53 q54; have q15 := ksv (HF 15) rfl rfl rfl; clear q55 HF; replace f4 := vx f4 hE; replace f8 := vx f8 hE; replace f10 := vx f10 hE; replace f23 := f23.ext hE; replace f28 := f28.ext hE; clear hE; refine zD (zA (wp_seq ?_)); obtain ⟨x32, hx32, h⟩ := Comp.run_bind h; obtain ⟨x33, hx33, h⟩ := Comp.run_bind h
    refine' rb [SP.isv (.pointer (some ⟨b22, 1, none⟩)), SP.isv (u27), _, _, SP.ptrz (rInt .u8) O31 x32 (of_decide_eq_true rfl) (fun _ => rfl), SP.isv (.int .u8 x32), _, _, _, _, SP.elt (u27) (Int.toNat x24 * 1)] mixed hA hB hO (cn (fun hE hK => zJ fl49_1 (kq hK q14)) (cn (fun hE hK => zX ty23 rfl (ks 0 hK 57 rfl) (OwnB.ext f23 hE).own rfl) (mv q15 (mv q15 (.cons ?z9_4 (cn (fun hE hK => zn (rInt .u8) (fun _ => rfl) ty5 rfl rfl rfl (PtrZ.ptr (kspS (φ := SP.ptrz (rInt .u8) O31 x32 (of_decide_eq_true rfl) (fun _ => rfl)) (j := 4) (hK 61 rfl) rfl rfl rfl)) (fun _ _ _ h => zZ.1 h)) (cn (fun hE hK => ok_quo (ks 5 hK 62 rfl) rfl (by decide)) (cn (fun hE hK => ok_convI ty5 ty3 (ks 6 hK 63 rfl)) (mv q13 (cn (fun hE hK => jY (ks 7 hK 64 rfl) (ks 8 hK 65 rfl)) (cn (fun hE hK => okl_idxOwn rfl ty23 ty3 (ksv (j := 1) (hK 58 rfl) rfl rfl rfl) (OwnL.ext f28 hE) (ks 2 hK 59 rfl) (idx_lt hx33)) .nil))))))))))) ?zk9
    case z9_4 => intro a' w' hE hK hg; exact okl_idxArrZ (r := (rInt .u8)) (f := (fun x => [.int .u8 x])) (hl := (fun _ => rfl)) (ho := (fun _ => by simp [Value.oneCell'])) (by decide) (fun _ => rfl) (fun _ _ _ => rfl) ty54 ty5 (kq hK q6) (ptrz_of_box (by intro h; cases h) (vx f4 hE)) (ks 3 hK 60 rfl) hx32
    intro a17 w17 hA hE hB HF; refine kr11 HF q3 q6 q9 q10 q11 q12 q13 q14 q15 q53 q54 ?_; clear q3 q6 q9 q10 q11 q12 q13 q14 q15 q53 q54; intro q3 q6 q9 q10 q11 q12 q13 q14 q15 q53 q54; obtain ⟨u34, q67, f35⟩ := kx (HF 67) rfl rfl rfl; have q66 := ksv (HF 66) rfl rfl rfl; clear HF; replace f4 := vx f4 hE; replace f8 := vx f8 hE; replace f10 := vx f10 hE; replace f23 := f23.ext hE; replace f28 := f28.ext hE; clear hE; obtain ⟨x37, hx37, h⟩ := Comp.run_bind h
    refine l_storeElt (r := (rInt .i64)) (fun _ => rfl) rfl hO hB (yJ hB) ty3 q67 f35 f28 q66 (by exact zZ.2 rfl) hx37 (by decide) fun w18 f36 hB' hX => ?_
    clear hB; have hB := hB'; clear hB'; replace f4 := vk f4 hX; replace f8 := vk f8 hX; replace f10 := vk f10 hX
    replace f23 := f23.kx hX (by decide)
    clear hX f28; refine zD (zA (wp_seq ?_)); obtain ⟨x38, hx38, h⟩ := Comp.run_bind h
    refine' rb [_, SP.ptrz (rInt .u8) O31 x38 (of_decide_eq_true rfl) (fun _ => rfl), SP.isv (.int .u8 x38), _, _] mixed hA hB hO (mv q15 (.cons ?z10_1 (cn (fun hE hK => zn (rInt .u8) (fun _ => rfl) ty5 rfl rfl rfl (PtrZ.ptr (kspS (φ := SP.ptrz (rInt .u8) O31 x38 (of_decide_eq_true rfl) (fun _ => rfl)) (j := 1) (hK 69 rfl) rfl rfl rfl)) (fun _ _ _ h => zZ.1 h)) (cn (fun hE hK => ok_rem (ks 2 hK 70 rfl) rfl (by decide)) (cn (fun hE hK => yR (ks 3 hK 71 rfl) rfl) .nil))))) ?zk10
    case z10_1 => intro a' w' hE hK hg; exact okl_idxArrZ (r := (rInt .u8)) (f := (fun x => [.int .u8 x])) (hl := (fun _ => rfl)) (ho := (fun _ => by simp [Value.oneCell'])) (by decide) (fun _ => rfl) (fun _ _ _ => rfl) ty54 ty5 (kq hK q6) (ptrz_of_box (by intro h; cases h) (vx f4 hE)) (ks 0 hK 68 rfl) hx38
    intro a19 w19 hA hE hB HF; refine kr11 HF q3 q6 q9 q10 q11 q12 q13 q14 q15 q53 q54 ?_; clear q3 q6 q9 q10 q11 q12 q13 q14 q15 q53 q54; intro q3 q6 q9 q10 q11 q12 q13 q14 q15 q53 q54; have q72 := ksv (HF 72) rfl rfl rfl; clear HF; replace f4 := vx f4 hE; replace f8 := vx f8 hE; replace f10 := vx f10 hE; replace f23 := f23.ext hE; replace f36 := f36.ext hE; clear hE; refine zD (zA ?_)
    revert h; refine cnd q72 (fun h => ?_) (fun h => ?_)
    ·
     obtain ⟨x39, hx39, h⟩ := Comp.run_bind h; obtain ⟨x40, hx40, h⟩ := Comp.run_bind h; obtain ⟨x41, hx41, h⟩ := Comp.run_bind h
     refine' rb [SP.isv (.pointer (some ⟨b22, 1, none⟩)), SP.isv (u27), _, _, _, SP.ptr zB O31 x39, SP.ptr (rSl (rInt .i64)) O31 x39.Sure, SP.vl (rSl (rInt .i64)) O31 x39.Sure, SP.isv (.int .i64 x40), SP.elt (u27) (Int.toNat x24 * 1)] mixed hA hB hO (cn (fun hE hK => zJ fl49_1 (kq hK q14)) (cn (fun hE hK => zX ty23 rfl (ks 0 hK 73 rfl) (OwnB.ext f23 hE).own rfl) (mv q15 (mv q10 (mv q15 (cn (fun hE hK => yV (r := zB) (O := O31) ty27 ty33 rfl (ks 3 hK 76 rfl) (rd_of (vx f8 hE)) (ks 4 hK 77 rfl) hx39) (cn (fun hE hK => okl_fld (S := zB) rfl (fun _ => rfl) sb_api_Claim_3 fl33_3 rfl (kp (SP.ptr zB O31 x39) 5 hK 78 rfl)) (cn (fun hE hK => yz (r := (rSl (rInt .i64))) (fun _ => rfl) ty23 rfl rfl rfl (kp (SP.ptr (rSl (rInt .i64)) O31 x39.Sure) 6 hK 79 rfl)) (cn (fun hE hK => gv fn26 rfl (jb (OkO.ext hB.ok hE) (kp (SP.vl (rSl (rInt .i64)) O31 x39.Sure) 7 hK 80 rfl) hx40)) (cn (fun hE hK => okl_idxOwn rfl ty23 ty3 (ksv (j := 1) (hK 74 rfl) rfl rfl rfl) (OwnL.ext f36 hE) (ks 2 hK 75 rfl) (idx_lt hx41)) .nil)))))))))) ?zk11
     intro a20 w20 hA hE hB HF; refine kr10 HF q3 q6 q9 q10 q11 q12 q13 q14 q53 q54 ?_; clear q3 q6 q9 q10 q11 q12 q13 q14 q53 q54; intro q3 q6 q9 q10 q11 q12 q13 q14 q53 q54; obtain ⟨u42, q82, f43⟩ := kx (HF 82) rfl rfl rfl; have q81 := ksv (HF 81) rfl rfl rfl; clear q15 q72 HF; replace f4 := vx f4 hE; replace f8 := vx f8 hE; replace f10 := vx f10 hE; replace f23 := f23.ext hE; replace f36 := f36.ext hE; clear hE; obtain ⟨x45, hx45, h⟩ := Comp.run_bind h
     refine l_storeElt (r := (rInt .i64)) (fun _ => rfl) rfl hO hB (yJ hB) ty3 q82 f43 f36 q81 (by exact zZ.2 rfl) hx45 (by decide) fun w21 f44 hB' hX => ?_
     clear hB; have hB := hB'; clear hB'; replace f4 := vk f4 hX; replace f8 := vk f8 hX; replace f10 := vk f10 hX
     replace f23 := f23.kx hX (by decide)
     clear hX f36; refine zD (yA (zA ?_))
     exact ⟨_, _, _, _, hA, hB, q3, q6, f4, q9, q10, f8, q11, f10, q12, q13, q14, q53, q54, f23, f44, h⟩
    ·
     refine wp_skip (yA (zA ?_))
     exact ⟨_, _, _, _, hA, hB, q3, q6, f4, q9, q10, f8, q11, f10, q12, q13, q14, q53, q54, f23, f36, h⟩
   intro a22 w22 hI
   clear hA hB h q3 q6 q9 q10 q11 q12 q13 q14 q53 q54 q55 f10 f23 f28 f4 f8
   obtain ⟨O50, x46, x47, u48, hA, hB, q3, q6, f4, q9, q10, f8, q11, f10, q12, q13, q14, q53, q54, f23, f49, h⟩ := hI
   unfold vX at h
   refine' rb [_, _] mixed hA hB hO (cn (fun hE hK => yp (kq hK q54) rfl) (cn (fun hE hK => zI (ks 0 hK 83 rfl)) .nil)) ?zk12
   intro a23 w23 hA hE hB HF; refine kr9 HF q3 q6 q9 q10 q11 q12 q13 q14 q53 ?_; clear q3 q6 q9 q10 q11 q12 q13 q14 q53; intro q3 q6 q9 q10 q11 q12 q13 q14 q53; replace q54 := ksv (HF 54) rfl rfl rfl; clear HF; replace f4 := vx f4 hE; replace f8 := vx f8 hE; replace f10 := vx f10 hE; replace f23 := f23.ext hE; replace f49 := f49.ext hE; clear hE; refine zD (zA ?_)
   have h := hnext2 _ (Comp.run_pure h).symm
   refine ⟨m2, hlt2, ?_⟩
   exact ⟨_, _, _, _, _, hA, hB, q3, q6, f4, q9, q10, f8, q11, f10, q12, q13, q14, q53, q54, f23, f49, h⟩
  ·
   refine wp_exit (zT (zT (yS ?_)))
   have hd_ := hdone2 _ (Comp.run_pure h).symm; clear h
   subst hd_; have h := hk2; clear hk2; try dsimp only at h
   refine zA ?_
   obtain ⟨O57, hB', hX, f58⟩ := freezeL hO hB f28 (by decide)
   clear f28 hB; have hB := hB'; clear hB'; replace f4 := vk f4 hX; replace f8 := vk f8 hX; replace f10 := vk f10 hX
   replace f23 := f23.kx hX (by decide)
   clear hX
   exact ⟨_, _, _, _, hA, hB, q3, q9, q10, f8, q11, f10, q12, q14, f23, f58, h⟩
 intro a24 w24 hI
 clear hA hB h q3 q6 q9 q10 q11 q12 q13 q14 f10 f17 f23 f4 f8
 obtain ⟨O59, x53, x54, u55, hA, hB, q3, q9, q10, f8, q11, f10, q12, q14, f23, f56, h⟩ := hI
 unfold vY at h; refine wp_seq ?_; obtain ⟨x60, hx60, h⟩ := Comp.run_bind h; obtain ⟨x61, hx61, h⟩ := Comp.run_bind h
 refine' rb [_, SP.isv (.agg #[.int .i64 x53, u55]), _, SP.isv (.int .i64 x60), _, SP.vl (rSl zE) O59 x61, SP.vl (rSl zE) O59 x61] mixed hA hB hO (mv q11 (cn (fun hE hK => vc ty49 rfl (kq hK q14) (OwnB.ext f23 hE).own rfl) (mv q10 (cn (fun hE hK => yg fn28 (ks 1 hK 85 rfl) (ks 2 hK 86 rfl) (ok_colletlaw43_world_there (OkO.ext hB.ok hE) ⟨_, ⟨_, _, rfl, rfl, ⟨_, _, rfl, (va (r := (rSl (rInt .i64))) (vx f56 hE) rfl rfl), rfl⟩⟩, rfl⟩ (vx f8 hE) hx60)) (mv q3 (.cons (fun _ _ hE hK hg => yO (vd fn27 (ks 0 hK 84 rfl) (ks 3 hK 87 rfl) (ks 4 hK 88 rfl) (ok_colletlaw43_seen (OkO.ext hB.ok hE) (vx f10 hE) hx61)) (fun _ _ _ h => (OwnR.val h (fun g hg => (OkO.ext hB.ok hE) g (OwnR.ge h g hg).1)))) (cn (fun hE hK => yN (φ := SP.vl (rSl zE) O59 x61) (kp _ 5 hK 89 rfl)) .nil))))))) ?zk13
 intro a25 w25 hA hE hB HF; refine kr4 HF q9 q10 q12 q14 ?_; clear q9 q10 q12 q14; intro q9 q10 q12 q14; clear q11; obtain ⟨u62, q11, f63⟩ := kx (HF 11) rfl rfl rfl; clear q3 HF; replace f8 := vx f8 hE; replace f10 := vx f10 hE; replace f23 := f23.ext hE; replace f56 := vx f56 hE; clear hE; refine zD (zA (wp_seq ?_)); obtain ⟨x64, hx64, h⟩ := Comp.run_bind h
 refine' rb [SP.isv (.agg #[.int .i64 x53, u55]), _, _, SP.isv (.int .i64 x64), _] mixed hA hB hO (cn (fun hE hK => vc ty49 rfl (kq hK q14) (OwnB.ext f23 hE).own rfl) (mv q10 (mv q11 (cn (fun hE hK => vd fn25 (ks 0 hK 90 rfl) (ks 1 hK 91 rfl) (ks 2 hK 92 rfl) (ok_colletlaw43_world_truth (OkO.ext hB.ok hE) ⟨_, ⟨_, _, rfl, rfl, ⟨_, _, rfl, (va (r := (rSl (rInt .i64))) (vx f56 hE) rfl rfl), rfl⟩⟩, rfl⟩ (vx f8 hE) (vx f63 hE) hx64)) (cn (fun hE hK => zC (ks 3 hK 93 rfl)) .nil))))) ?zk14
 intro a26 w26 hA hE hB HF; refine kr4 HF q9 q10 q11 q12 ?_; clear q9 q10 q11 q12; intro q9 q10 q11 q12; have q16 := ksv (HF 16) rfl rfl rfl; clear q14 HF; replace f8 := vx f8 hE; replace f63 := vx f63 hE; replace f23 := f23.ext hE; replace f56 := vx f56 hE; clear hE; refine zD (zA (wp_seq ?_)); obtain ⟨x65, hx65, h⟩ := Comp.run_bind h
 refine' rb [_, _, _, _, _, _, _] mixed hA hB hO (mv q10 (cn (fun hE hK => zw (r := zB) ty27 (ks 0 hK 94 rfl) (rd_of (vx f8 hE))) (cn (fun hE hK => okl_shl rfl (ks 1 hK 95 rfl) (ye hx65)) (cn (fun hE hK => ok_sub (ks 2 hK 96 rfl) rfl) (mv q16 (cn (fun hE hK => okb_andNot (ks 3 hK 97 rfl) (ks 4 hK 98 rfl)) (cn (fun hE hK => zC (ks 5 hK 99 rfl)) .nil))))))) ?zk15
 intro a27 w27 hA hE hB HF; refine kr5 HF q9 q10 q11 q12 q16 ?_; clear q9 q10 q11 q12 q16; intro q9 q10 q11 q12 q16; have q17 := ksv (HF 17) rfl rfl rfl; clear HF; replace f8 := vx f8 hE; replace f63 := vx f63 hE; clear hE
 obtain ⟨x66, hx_, h⟩ := Comp.run_bind h; replace hx_ := Comp.run_pure hx_; rw [hx_] at q17; clear hx_
 refine zD (zA (wp_seq (wp_seq ?_))); obtain ⟨x67, hx67, h⟩ := Comp.run_bind h
 refine' rb [_, _, _, _, SP.isv (.bool x67), _] mixed hA hB hO (mv q10 (mv q11 (mv q12 (mv q16 (cn (fun hE hK => ok_call4 fn15 (ks 0 hK 100 rfl) (ks 1 hK 101 rfl) (ks 2 hK 102 rfl) (ks 3 hK 103 rfl) (ok_court_Agrees (OkO.ext hB.ok hE) (vx f8 hE) (vx f63 hE) hx67)) (cn (fun hE hK => ok_not (ks 4 hK 104 rfl)) .nil)))))) ?zk16
 intro a28 w28 hA hE hB HF; refine kr5 HF q9 q10 q11 q12 q17 ?_; clear q9 q10 q11 q12 q17; intro q9 q10 q11 q12 q17; have q105 := ksv (HF 105) rfl rfl rfl; clear q16 HF; replace f8 := vx f8 hE; replace f63 := vx f63 hE; clear hE; refine zD (zA ?_)
 revert h; refine cnd q105 (fun h => ?_) (fun h => ?_)
 ·
  refine wp_seq ?_
  refine' rb [_] mixed hA hB hO (cn (fun hE hK => zC rfl) .nil) ?zk17
  intro a29 w29 hA hE hB HF; have q8 := ksv (HF 8) rfl rfl rfl; clear q9 q10 q11 q12 q17 q105 HF; replace f8 := vx f8 hE; replace f63 := vx f63 hE; clear hE; refine zD (zA (wp_ret (zj ?_)))
  have h := Comp.run_pure h; subst h
  exact zd Try.results5 hA q8 hB.ext rfl
 ·
  refine wp_skip (zA (wp_seq ?_)); obtain ⟨x68, hx68, h⟩ := Comp.run_bind h
  refine' rb [_, _, _, SP.tup2 (SP.vl (rSl (rInt .i64)) O59 x68.1) (SP.isv (.int .i64 x68.2)), SP.tup2 (SP.vl (rSl (rInt .i64)) O59 x68.1) (SP.isv (.int .i64 x68.2)), SP.vl (rSl (rInt .i64)) O59 x68.1, SP.isv (.int .i64 x68.2), SP.vl (rSl (rInt .i64)) O59 x68.1, _] mixed hA hB hO (mv q10 (mv q11 (mv q12 (.cons (fun _ _ hE hK hg => yO (vd fn22 (ks 0 hK 107 rfl) (ks 1 hK 108 rfl) (ks 2 hK 109 rfl) (ok_court_Conflicts (OkO.ext hB.ok hE) (vx f8 hE) (vx f63 hE) hx68)) (fun _ _ _ ⟨a_, b_, e0_, h0_, h1_⟩ => ⟨a_, b_, e0_, (fun h => (OwnR.val h (fun g hg => (OkO.ext hB.ok hE) g (OwnR.ge h g hg).1))) h0_, h1_⟩)) (cn (fun hE hK => gp (φ := SP.tup2 (SP.vl (rSl (rInt .i64)) O59 x68.1) (SP.isv (.int .i64 x68.2))) (kp _ 3 hK 110 rfl)) (cn (fun hE hK => okl_ext0 (kp (SP.tup2 (SP.vl (rSl (rInt .i64)) O59 x68.1) (SP.isv (.int .i64 x68.2))) 4 hK 106 rfl)) (cn (fun hE hK => okl_ext1 (kp (SP.tup2 (SP.vl (rSl (rInt .i64)) O59 x68.1) (SP.isv (.int .i64 x68.2))) 4 hK 106 rfl)) (cn (fun hE hK => yN (φ := SP.vl (rSl (rInt .i64)) O59 x68.1) (kp _ 5 hK 111 rfl)) (cn (fun hE hK => zC (ks 6 hK 112 rfl)) .nil))))))))) ?zk18
  intro a30 w30 hA hE hB HF; refine kr5 HF q9 q10 q11 q12 q17 ?_; clear q9 q10 q11 q12 q17; intro q9 q10 q11 q12 q17; obtain ⟨u69, q18, f70⟩ := kx (HF 18) rfl rfl rfl; have q19 := ksv (HF 19) rfl rfl rfl; clear q105 HF; replace f8 := vx f8 hE; replace f63 := vx f63 hE; clear hE; refine zD (zA (wp_seq (wp_seq ?_)))
  refine' rb [_, _] mixed hA hB hO (mv q19 (cn (fun hE hK => jZ (ks 0 hK 113 rfl) rfl) .nil)) ?zk19
  intro a31 w31 hA hE hB HF; refine kr6 HF q9 q10 q11 q12 q17 q18 ?_; clear q9 q10 q11 q12 q17 q18; intro q9 q10 q11 q12 q17 q18; have q114 := ksv (HF 114) rfl rfl rfl; clear q19 HF; replace f8 := vx f8 hE; replace f63 := vx f63 hE; replace f70 := vx f70 hE; clear hE; refine zD (zA ?_)
  revert h; refine cnd q114 (fun h => ?_) (fun h => ?_)
  ·
   refine wp_seq ?_
   refine' rb [_] mixed hA hB hO (cn (fun hE hK => zC rfl) .nil) ?zk20
   intro a32 w32 hA hE hB HF; have q8 := ksv (HF 8) rfl rfl rfl; clear q9 q10 q11 q12 q17 q18 q114 HF; replace f8 := vx f8 hE; replace f63 := vx f63 hE; replace f70 := vx f70 hE; clear hE; refine zD (zA (wp_ret (zj ?_)))
   have h := Comp.run_pure h; subst h
   exact zd Try.results5 hA q8 hB.ext rfl
  ·
   refine wp_skip (zA ?_)
   refine zY (fun a w => ∃ (O75 : Tags), a.fit 207 ∧ Base (Fr w0) O w0 O75 w ∧ a.get 9 = .bool x5 ∧ a.get 10 = u7 ∧ (rSl zB).v O75 w u7 x6.1 ∧ a.get 11 = u62 ∧ (rSl zE).v O75 w u62 x61 ∧ a.get 12 = .int .i64 x6.2.2 ∧ a.get 17 = .int .i64 x66 ∧ (vW x6 x66 x5 x61 ).run n = some y) ?_ ?_
   ·
    refine wp_seq ?_
    refine' rb [_, _, _] mixed hA hB hO (mv q18 (cn (fun hE hK => zw (r := (rInt .i64)) ty23 (ks 0 hK 115 rfl) (rd_of (vx f70 hE))) (cn (fun hE hK => zI rfl) .nil))) ?zk21
    intro a33 w33 hA hE hB HF; refine kr5 HF q9 q10 q11 q12 q17 ?_; clear q9 q10 q11 q12 q17; intro q9 q10 q11 q12 q17; have q115 := ksv (HF 115) rfl rfl rfl; have q116 := ksv (HF 116) rfl rfl rfl; have q117 := ksv (HF 117) rfl rfl rfl; clear q18 q114 HF; replace f8 := vx f8 hE; replace f63 := vx f63 hE; replace f70 := vx f70 hE; clear hE; refine zD (zA (wp_block ?_))
    obtain ⟨e5, he5, hk5⟩ := Comp.run_bind h; clear h
    refine vg (fun m a w => ∃ (O72 : Tags) (x71 : Int), a.fit 207 ∧ Base (Fr w0) O w0 O72 w ∧ a.get 9 = .bool x5 ∧ a.get 10 = u7 ∧ (rSl zB).v O72 w u7 x6.1 ∧ a.get 11 = u62 ∧ (rSl zE).v O72 w u62 x61 ∧ a.get 12 = .int .i64 x6.2.2 ∧ a.get 17 = .int .i64 x66 ∧ a.get 115 = u69 ∧ (rSl (rInt .i64)).v O72 w u69 x68.1 ∧ a.get 116 = .int .i64 (x68.1.length : Int) ∧ a.get 117 = .int .i64 x71 ∧ Comp.loopN (fun s => zr x68 x66 s) n m x71 = some e5) (m := n) ?st5 ?_
    case st5 =>
     exact ⟨_, _, hA, hB, q9, q10, f8, q11, f63, q12, q17, q115, f70, q116, q117, Comp.yB he5⟩
    intro m_ a34 w34 hI
    clear hA hB he5 q9 q10 q11 q12 q17 q115 q116 q117 f63 f70 f8
    obtain ⟨O72, x71, hA, hB, q9, q10, f8, q11, f63, q12, q17, q115, f70, q116, q117, hl⟩ := hI
    obtain ⟨m5, hlt5, st5, h, hnext5, hdone5⟩ := Comp.zg hl; clear hl
    replace h : (zr x68 x66 x71).run n = some st5 := h
    unfold zr at h; refine wp_seq ?_
    refine' rb [_] mixed hA hB hO (cn (fun hE hK => yY (kq hK q117) (kq hK q116)) .nil) ?zk22
    intro a35 w35 hA hE hB HF; refine kr8 HF q9 q10 q11 q12 q17 q115 q116 q117 ?_; clear q9 q10 q11 q12 q17 q115 q116 q117; intro q9 q10 q11 q12 q17 q115 q116 q117; have q118 := ksv (HF 118) rfl rfl rfl; clear HF; replace f8 := vx f8 hE; replace f63 := vx f63 hE; replace f70 := vx f70 hE; clear hE; refine zD (zA (wp_seq ?_))
    revert h; refine cnd q118 (fun h => ?_) (fun h => ?_)
    ·
     refine wp_skip (zA (wp_seq (wp_block (wp_seq ?_)))); obtain ⟨x73, hx73, h⟩ := Comp.run_bind h
     refine' rb [SP.ptr (rInt .i64) O72 x73, SP.isv (.int .i64 x73), _] mixed hA hB hO (cn (fun hE hK => yV (r := (rInt .i64)) (O := O72) ty23 ty3 rfl (kq hK q115) (rd_of (vx f70 hE)) (kq hK q117) hx73) (cn (fun hE hK => zn (rInt .i64) (fun _ => rfl) ty3 rfl rfl rfl (kp (SP.ptr (rInt .i64) O72 x73) 0 hK 119 rfl) (fun _ _ _ h => zZ.1 h)) (cn (fun hE hK => zC (ks 1 hK 120 rfl)) .nil))) ?zk23
     intro a36 w36 hA hE hB HF; refine kr8 HF q9 q10 q11 q12 q17 q115 q116 q117 ?_; clear q9 q10 q11 q12 q17 q115 q116 q117; intro q9 q10 q11 q12 q17 q115 q116 q117; have q21 := ksv (HF 21) rfl rfl rfl; clear q118 HF; replace f8 := vx f8 hE; replace f63 := vx f63 hE; replace f70 := vx f70 hE; clear hE; refine zD (zA (wp_seq ?_))
     refine' rb [_, _, _, _] mixed hA hB hO (mv q21 (mv q17 (cn (fun hE hK => jY (ks 0 hK 121 rfl) (ks 1 hK 122 rfl)) (cn (fun hE hK => yR (ks 2 hK 123 rfl) rfl) .nil)))) ?zk24
     intro a37 w37 hA hE hB HF; refine kr8 HF q9 q10 q11 q12 q17 q115 q116 q117 ?_; clear q9 q10 q11 q12 q17 q115 q116 q117; intro q9 q10 q11 q12 q17 q115 q116 q117; have q124 := ksv (HF 124) rfl rfl rfl; clear q21 HF; replace f8 := vx f8 hE; replace f63 := vx f63 hE; replace f70 := vx f70 hE; clear hE; refine zD (zA ?_)
     revert h; refine cnd q124 (fun h => ?_) (fun h => ?_)
     ·
      refine wp_seq ?_
      refine' rb [_] mixed hA hB hO (cn (fun hE hK => zC rfl) .nil) ?zk25
      intro a38 w38 hA hE hB HF; have q8 := ksv (HF 8) rfl rfl rfl; clear q9 q10 q11 q12 q17 q115 q116 q117 q124 HF; replace f8 := vx f8 hE; replace f63 := vx f63 hE; replace f70 := vx f70 hE; clear hE; refine zD (zA (wp_ret (gK (zj (zj (gK (zj ?_)))))))
      have hd_ := hdone5 _ (Comp.run_pure h).symm; clear h
      subst hd_; have h := hk5; clear hk5; try dsimp only at h
      have h := Comp.run_pure h; subst h
      exact zd Try.results5 hA q8 hB.ext rfl
     ·
      refine wp_skip (yA (zA ?_))
      refine' rb [_, _] mixed hA hB hO (cn (fun hE hK => yp (kq hK q117) rfl) (cn (fun hE hK => zI (ks 0 hK 125 rfl)) .nil)) ?zk26
      intro a39 w39 hA hE hB HF; refine kr7 HF q9 q10 q11 q12 q17 q115 q116 ?_; clear q9 q10 q11 q12 q17 q115 q116; intro q9 q10 q11 q12 q17 q115 q116; replace q117 := ksv (HF 117) rfl rfl rfl; clear q124 HF; replace f8 := vx f8 hE; replace f63 := vx f63 hE; replace f70 := vx f70 hE; clear hE; refine zD (zA ?_)
      have h := hnext5 _ (Comp.run_pure h).symm
      refine ⟨m5, hlt5, ?_⟩
      exact ⟨_, _, hA, hB, q9, q10, f8, q11, f63, q12, q17, q115, f70, q116, q117, h⟩
    ·
     refine wp_exit (zT (zT (yS ?_)))
     have hd_ := hdone5 _ (Comp.run_pure h).symm; clear h
     subst hd_; have h := hk5; clear hk5; try dsimp only at h
     refine zA ?_
     exact ⟨_, hA, hB, q9, q10, f8, q11, f63, q12, q17, h⟩
   intro a40 w40 hI
   clear hA hB h q9 q10 q11 q12 q17 q18 q114 f63 f70 f8
   obtain ⟨O75, hA, hB, q9, q10, f8, q11, f63, q12, q17, h⟩ := hI
   unfold vW at h; refine wp_seq ?_; obtain ⟨x76, hx76, h⟩ := Comp.run_bind h; obtain ⟨x77, hx77, h⟩ := Comp.run_bind h
   refine' rb [_, _, SP.isv (.int .i64 x76), _, SP.isv (.int .i64 x77), _] mixed hA hB hO (mv q17 (mv q10 (cn (fun hE hK => gv fn30 (ks 1 hK 127 rfl) (ok_colletlaw43_gauges (OkO.ext hB.ok hE) (vx f8 hE) hx76)) (cn (fun hE hK => jY (ks 0 hK 126 rfl) (ks 2 hK 128 rfl)) (cn (fun hE hK => gv fn29 (ks 3 hK 129 rfl) (ok_colletlaw43_many (OkO.ext hB.ok hE)  hx77)) (cn (fun hE hK => zC (ks 4 hK 130 rfl)) .nil)))))) ?zk27
   intro a41 w41 hA hE hB HF; refine kr5 HF q9 q10 q11 q12 q17 ?_; clear q9 q10 q11 q12 q17; intro q9 q10 q11 q12 q17; have q22 := ksv (HF 22) rfl rfl rfl; clear HF; replace f8 := vx f8 hE; replace f63 := vx f63 hE; clear hE; refine zD (zA (wp_seq (wp_seq ?_)))
   refine' rb [_, _] mixed hA hB hO (mv q22 (cn (fun hE hK => ok_gtr (ks 0 hK 131 rfl) rfl) .nil)) ?zk28
   intro a42 w42 hA hE hB HF; refine kr6 HF q9 q10 q11 q12 q17 q22 ?_; clear q9 q10 q11 q12 q17 q22; intro q9 q10 q11 q12 q17 q22; have q132 := ksv (HF 132) rfl rfl rfl; clear HF; replace f8 := vx f8 hE; replace f63 := vx f63 hE; clear hE; refine zD (zA ?_)
   revert h; refine cnd q132 (fun h => ?_) (fun h => ?_)
   ·
    refine wp_seq ?_
    refine' rb [_, _] mixed hA hB hO (mv q9 (cn (fun hE hK => zC (ks 0 hK 133 rfl)) .nil)) ?zk29
    intro a43 w43 hA hE hB HF; have q8 := ksv (HF 8) rfl rfl rfl; clear q9 q10 q11 q12 q17 q22 q132 HF; replace f8 := vx f8 hE; replace f63 := vx f63 hE; clear hE; refine zD (zA (wp_ret (zj ?_)))
    have h := Comp.run_pure h; subst h
    exact zd Try.results5 hA q8 hB.ext rfl
   ·
    refine wp_skip (zA (wp_seq ?_)); obtain ⟨x78, hx78, h⟩ := Comp.run_bind h
    refine' rb [_, _, _, _, SP.tup2 (SP.vl (rSl (rInt .i64)) O75 x78.1) (SP.isv (.int .i64 x78.2)), SP.tup2 (SP.vl (rSl (rInt .i64)) O75 x78.1) (SP.isv (.int .i64 x78.2)), SP.vl (rSl (rInt .i64)) O75 x78.1, SP.isv (.int .i64 x78.2), SP.vl (rSl (rInt .i64)) O75 x78.1, _] mixed hA hB hO (mv q10 (mv q11 (mv q12 (mv q22 (.cons (fun _ _ hE hK hg => yO (ok_call4 fn17 (ks 0 hK 135 rfl) (ks 1 hK 136 rfl) (ks 2 hK 137 rfl) (ks 3 hK 138 rfl) (ok_court_Explains (OkO.ext hB.ok hE) (vx f8 hE) (vx f63 hE) hx78)) (fun _ _ _ ⟨a_, b_, e0_, h0_, h1_⟩ => ⟨a_, b_, e0_, (fun h => (OwnR.val h (fun g hg => (OkO.ext hB.ok hE) g (OwnR.ge h g hg).1))) h0_, h1_⟩)) (cn (fun hE hK => gp (φ := SP.tup2 (SP.vl (rSl (rInt .i64)) O75 x78.1) (SP.isv (.int .i64 x78.2))) (kp _ 4 hK 139 rfl)) (cn (fun hE hK => okl_ext0 (kp (SP.tup2 (SP.vl (rSl (rInt .i64)) O75 x78.1) (SP.isv (.int .i64 x78.2))) 5 hK 134 rfl)) (cn (fun hE hK => okl_ext1 (kp (SP.tup2 (SP.vl (rSl (rInt .i64)) O75 x78.1) (SP.isv (.int .i64 x78.2))) 5 hK 134 rfl)) (cn (fun hE hK => yN (φ := SP.vl (rSl (rInt .i64)) O75 x78.1) (kp _ 6 hK 140 rfl)) (cn (fun hE hK => zC (ks 7 hK 141 rfl)) .nil)))))))))) ?zk30
    intro a44 w44 hA hE hB HF; refine kr6 HF q9 q10 q11 q12 q17 q22 ?_; clear q9 q10 q11 q12 q17 q22; intro q9 q10 q11 q12 q17 q22; obtain ⟨u79, q23, f80⟩ := kx (HF 23) rfl rfl rfl; have q24 := ksv (HF 24) rfl rfl rfl; clear q132 HF; replace f8 := vx f8 hE; replace f63 := vx f63 hE; clear hE; refine zD (zA (wp_seq ?_)); obtain ⟨x81, hx81, h⟩ := Comp.run_bind h
    refine' rb [_, _, _, _, SP.tup2 (SP.vl (rSl (rInt .i64)) O75 x81.1) (SP.isv (.int .i64 x81.2)), SP.tup2 (SP.vl (rSl (rInt .i64)) O75 x81.1) (SP.isv (.int .i64 x81.2)), SP.vl (rSl (rInt .i64)) O75 x81.1, SP.isv (.int .i64 x81.2), SP.vl (rSl (rInt .i64)) O75 x81.1, _] mixed hA hB hO (mv q10 (mv q11 (mv q12 (mv q22 (.cons (fun _ _ hE hK hg => yO (ok_call4 fn19 (ks 0 hK 143 rfl) (ks 1 hK 144 rfl) (ks 2 hK 145 rfl) (ks 3 hK 146 rfl) (ok_court_Certain (OkO.ext hB.ok hE) (vx f8 hE) (vx f63 hE) hx81)) (fun _ _ _ ⟨a_, b_, e0_, h0_, h1_⟩ => ⟨a_, b_, e0_, (fun h => (OwnR.val h (fun g hg => (OkO.ext hB.ok hE) g (OwnR.ge h g hg).1))) h0_, h1_⟩)) (cn (fun hE hK => gp (φ := SP.tup2 (SP.vl (rSl (rInt .i64)) O75 x81.1) (SP.isv (.int .i64 x81.2))) (kp _ 4 hK 147 rfl)) (cn (fun hE hK => okl_ext0 (kp (SP.tup2 (SP.vl (rSl (rInt .i64)) O75 x81.1) (SP.isv (.int .i64 x81.2))) 5 hK 142 rfl)) (cn (fun hE hK => okl_ext1 (kp (SP.tup2 (SP.vl (rSl (rInt .i64)) O75 x81.1) (SP.isv (.int .i64 x81.2))) 5 hK 142 rfl)) (cn (fun hE hK => yN (φ := SP.vl (rSl (rInt .i64)) O75 x81.1) (kp _ 6 hK 148 rfl)) (cn (fun hE hK => zC (ks 7 hK 149 rfl)) .nil)))))))))) ?zk31
    intro a45 w45 hA hE hB HF; refine kr5 HF q9 q10 q17 q23 q24 ?_; clear q9 q10 q17 q23 q24; intro q9 q10 q17 q23 q24; obtain ⟨u82, q25, f83⟩ := kx (HF 25) rfl rfl rfl; have q26 := ksv (HF 26) rfl rfl rfl; clear q11 q12 q22 HF; replace f8 := vx f8 hE; replace f63 := vx f63 hE; replace f80 := vx f80 hE; clear hE; refine zD (zA (wp_seq ?_))
    refine' rb [_] mixed hA hB hO (cn (fun hE hK => zC rfl) .nil) ?zk32
    intro a46 w46 hA hE hB HF; refine kr7 HF q9 q10 q17 q23 q24 q25 q26 ?_; clear q9 q10 q17 q23 q24 q25 q26; intro q9 q10 q17 q23 q24 q25 q26; have q27 := ksv (HF 27) rfl rfl rfl; clear HF; replace f8 := vx f8 hE; replace f80 := vx f80 hE; replace f83 := vx f83 hE; clear hE; refine zD (zA ?_)
    refine zY (fun a w => ∃ (O92 : Tags) (x91 : Bool), a.fit 207 ∧ Base (Fr w0) O w0 O92 w ∧ a.get 9 = .bool x5 ∧ a.get 10 = u7 ∧ (rSl zB).v O92 w u7 x6.1 ∧ a.get 17 = .int .i64 x66 ∧ a.get 24 = .int .i64 x78.2 ∧ a.get 25 = u82 ∧ (rSl (rInt .i64)).v O92 w u82 x81.1 ∧ a.get 26 = .int .i64 x81.2 ∧ a.get 27 = .bool x91 ∧ (gP x78 x81 x6 x66 x5 x91).run n = some y) ?_ ?_
    ·
     refine wp_seq ?_
     refine' rb [_, _, _] mixed hA hB hO (mv q23 (cn (fun hE hK => zw (r := (rInt .i64)) ty23 (ks 0 hK 150 rfl) (rd_of (vx f80 hE))) (cn (fun hE hK => zI rfl) .nil))) ?zk33
     intro a47 w47 hA hE hB HF; refine kr7 HF q9 q10 q17 q24 q25 q26 q27 ?_; clear q9 q10 q17 q24 q25 q26 q27; intro q9 q10 q17 q24 q25 q26 q27; have q150 := ksv (HF 150) rfl rfl rfl; have q151 := ksv (HF 151) rfl rfl rfl; have q152 := ksv (HF 152) rfl rfl rfl; clear q23 HF; replace f8 := vx f8 hE; replace f80 := vx f80 hE; replace f83 := vx f83 hE; clear hE; refine zD (zA (wp_block ?_))
     obtain ⟨e7, he7, hk7⟩ := Comp.run_bind h; clear h
     refine vg (fun m a w => ∃ (O86 : Tags) (x84 : Bool) (x85 : Int), a.fit 207 ∧ Base (Fr w0) O w0 O86 w ∧ a.get 9 = .bool x5 ∧ a.get 10 = u7 ∧ (rSl zB).v O86 w u7 x6.1 ∧ a.get 17 = .int .i64 x66 ∧ a.get 24 = .int .i64 x78.2 ∧ a.get 25 = u82 ∧ (rSl (rInt .i64)).v O86 w u82 x81.1 ∧ a.get 26 = .int .i64 x81.2 ∧ a.get 27 = .bool x84 ∧ a.get 150 = u79 ∧ (rSl (rInt .i64)).v O86 w u79 x78.1 ∧ a.get 151 = .int .i64 (x78.1.length : Int) ∧ a.get 152 = .int .i64 x85 ∧ Comp.loopN (fun s => zq x78 x66 s.1 s.2) n m (x84, x85) = some e7) (m := n) ?st7 ?_
     case st7 =>
      exact ⟨_, _, _, hA, hB, q9, q10, f8, q17, q24, q25, f83, q26, q27, q150, f80, q151, q152, Comp.yB he7⟩
     intro m_ a48 w48 hI
     clear hA hB he7 q9 q10 q17 q24 q25 q26 q27 q150 q151 q152 f8 f80 f83
     obtain ⟨O86, x84, x85, hA, hB, q9, q10, f8, q17, q24, q25, f83, q26, q27, q150, f80, q151, q152, hl⟩ := hI
     obtain ⟨m7, hlt7, st7, h, hnext7, hdone7⟩ := Comp.zg hl; clear hl
     replace h : (zq x78 x66 x84 x85).run n = some st7 := h
     unfold zq at h; refine wp_seq ?_
     refine' rb [_] mixed hA hB hO (cn (fun hE hK => yY (kq hK q152) (kq hK q151)) .nil) ?zk34
     intro a49 w49 hA hE hB HF; refine kr10 HF q9 q10 q17 q24 q25 q26 q27 q150 q151 q152 ?_; clear q9 q10 q17 q24 q25 q26 q27 q150 q151 q152; intro q9 q10 q17 q24 q25 q26 q27 q150 q151 q152; have q153 := ksv (HF 153) rfl rfl rfl; clear HF; replace f8 := vx f8 hE; replace f83 := vx f83 hE; replace f80 := vx f80 hE; clear hE; refine zD (zA (wp_seq ?_))
     revert h; refine cnd q153 (fun h => ?_) (fun h => ?_)
     ·
      refine wp_skip (zA (wp_seq (wp_block (wp_seq ?_)))); obtain ⟨x87, hx87, h⟩ := Comp.run_bind h
      refine' rb [SP.ptr (rInt .i64) O86 x87, SP.isv (.int .i64 x87), _] mixed hA hB hO (cn (fun hE hK => yV (r := (rInt .i64)) (O := O86) ty23 ty3 rfl (kq hK q150) (rd_of (vx f80 hE)) (kq hK q152) hx87) (cn (fun hE hK => zn (rInt .i64) (fun _ => rfl) ty3 rfl rfl rfl (kp (SP.ptr (rInt .i64) O86 x87) 0 hK 154 rfl) (fun _ _ _ h => zZ.1 h)) (cn (fun hE hK => zC (ks 1 hK 155 rfl)) .nil))) ?zk35
      intro a50 w50 hA hE hB HF; refine kr10 HF q9 q10 q17 q24 q25 q26 q27 q150 q151 q152 ?_; clear q9 q10 q17 q24 q25 q26 q27 q150 q151 q152; intro q9 q10 q17 q24 q25 q26 q27 q150 q151 q152; have q29 := ksv (HF 29) rfl rfl rfl; clear q153 HF; replace f8 := vx f8 hE; replace f83 := vx f83 hE; replace f80 := vx f80 hE; clear hE; refine zD (zA ?_)
      refine' rb [_, _, _, _, _, _, _, _] mixed hA hB hO (mv q27 (cn (fun hE hK => zI (ks 0 hK 156 rfl)) (mv q29 (mv q17 (.cons (fun _ _ hE hK hg => okb_andNot (kg 2 hK 158 rfl hg) (kg 3 hK 159 rfl hg)) (.cons (fun _ _ hE hK hg => yR (kg 4 hK 160 rfl hg) rfl) (cn (fun hE hK => zh (ks 1 hK 157 rfl) (fun _ => rfl) (fun hb => kg 5 hK 161 rfl (yG rfl rfl hb))) (cn (fun hE hK => zC (ks 6 hK 162 rfl)) .nil)))))))) ?zk36
      intro a51 w51 hA hE hB HF; refine kr9 HF q9 q10 q17 q24 q25 q26 q150 q151 q152 ?_; clear q9 q10 q17 q24 q25 q26 q150 q151 q152; intro q9 q10 q17 q24 q25 q26 q150 q151 q152; replace q27 := ksv (HF 27) rfl rfl rfl; clear q29 HF; replace f8 := vx f8 hE; replace f83 := vx f83 hE; replace f80 := vx f80 hE; clear hE
      obtain ⟨x88, hx_, h⟩ := Comp.run_bind h; replace hx_ := Comp.run_pure hx_; rw [hx_] at q27; clear hx_
      refine zD (yA (zA ?_))
      refine' rb [_, _] mixed hA hB hO (cn (fun hE hK => yp (kq hK q152) rfl) (cn (fun hE hK => zI (ks 0 hK 163 rfl)) .nil)) ?zk37
      intro a52 w52 hA hE hB HF; refine kr9 HF q9 q10 q17 q24 q25 q26 q27 q150 q151 ?_; clear q9 q10 q17 q24 q25 q26 q27 q150 q151; intro q9 q10 q17 q24 q25 q26 q27 q150 q151; replace q152 := ksv (HF 152) rfl rfl rfl; clear HF; replace f8 := vx f8 hE; replace f83 := vx f83 hE; replace f80 := vx f80 hE; clear hE; refine zD (zA ?_)
      have h := hnext7 _ (Comp.run_pure h).symm
      refine ⟨m7, hlt7, ?_⟩
      exact ⟨_, _, _, hA, hB, q9, q10, f8, q17, q24, q25, f83, q26, q27, q150, f80, q151, q152, h⟩
     ·
      refine wp_exit (zT (zT (yS ?_)))
      have hd_ := hdone7 _ (Comp.run_pure h).symm; clear h
      subst hd_; have h := hk7; clear hk7; try dsimp only at h
      refine zA ?_
      exact ⟨_, _, hA, hB, q9, q10, f8, q17, q24, q25, f83, q26, q27, h⟩
    intro a53 w53 hI
    clear hA hB h q9 q10 q17 q23 q24 q25 q26 q27 f8 f80 f83
    obtain ⟨O92, x91, hA, hB, q9, q10, f8, q17, q24, q25, f83, q26, q27, h⟩ := hI
    unfold gP at h; refine wp_seq (wp_seq ?_)
    refine' rb [_, _, _, _, _, _, _, _, _, _] mixed hA hB hO (mv q24 (cn (fun hE hK => jZ (ks 0 hK 164 rfl) rfl) (cn (fun hE hK => zI (ks 1 hK 165 rfl)) (mv q26 (.cons (fun _ _ hE hK hg => jZ (kg 3 hK 167 rfl hg) rfl) (cn (fun hE hK => zh (ks 2 hK 166 rfl) (fun _ => rfl) (fun hb => kg 4 hK 168 rfl (yG rfl rfl hb))) (cn (fun hE hK => zI (ks 5 hK 169 rfl)) (mv q27 (.cons (fun _ _ hE hK hg => ok_not (kg 7 hK 171 rfl hg)) (cn (fun hE hK => zh (ks 6 hK 170 rfl) (fun _ => rfl) (fun hb => kg 8 hK 172 rfl (yG rfl rfl hb))) .nil)))))))))) ?zk38
    intro a54 w54 hA hE hB HF; refine kr4 HF q9 q10 q17 q25 ?_; clear q9 q10 q17 q25; intro q9 q10 q17 q25; have q173 := ksv (HF 173) rfl rfl rfl; clear q24 q26 q27 HF; replace f8 := vx f8 hE; replace f83 := vx f83 hE; clear hE
    obtain ⟨x93, hx_, h⟩ := Comp.run_bind h; replace hx_ := Comp.run_pure hx_; rw [hx_] at q173; clear hx_
    refine zD (zA ?_)
    revert h; refine cnd q173 (fun h => ?_) (fun h => ?_)
    ·
     refine wp_seq ?_
     refine' rb [_] mixed hA hB hO (cn (fun hE hK => zC rfl) .nil) ?zk39
     intro a55 w55 hA hE hB HF; have q8 := ksv (HF 8) rfl rfl rfl; clear q9 q10 q17 q25 q173 HF; replace f8 := vx f8 hE; replace f83 := vx f83 hE; clear hE; refine zD (zA (wp_ret (zj ?_)))
     have h := Comp.run_pure h; subst h
     exact zd Try.results5 hA q8 hB.ext rfl
    ·
     refine wp_skip (zA ?_)
     refine zY (fun a w => ∃ (O108 : Tags), a.fit 207 ∧ Base (Fr w0) O w0 O108 w ∧ a.get 9 = .bool x5 ∧ (jT x5 ).run n = some y) ?_ ?_
     ·
      refine wp_seq ?_
      refine' rb [_, _, _] mixed hA hB hO (mv q25 (cn (fun hE hK => zw (r := (rInt .i64)) ty23 (ks 0 hK 174 rfl) (rd_of (vx f83 hE))) (cn (fun hE hK => zI rfl) .nil))) ?zk40
      intro a56 w56 hA hE hB HF; refine kr3 HF q9 q10 q17 ?_; clear q9 q10 q17; intro q9 q10 q17; have q174 := ksv (HF 174) rfl rfl rfl; have q175 := ksv (HF 175) rfl rfl rfl; have q176 := ksv (HF 176) rfl rfl rfl; clear q25 q173 HF; replace f8 := vx f8 hE; replace f83 := vx f83 hE; clear hE; refine zD (zA (wp_block ?_))
      obtain ⟨e9, he9, hk9⟩ := Comp.run_bind h; clear h
      refine vg (fun m a w => ∃ (O95 : Tags) (x94 : Int), a.fit 207 ∧ Base (Fr w0) O w0 O95 w ∧ a.get 9 = .bool x5 ∧ a.get 10 = u7 ∧ (rSl zB).v O95 w u7 x6.1 ∧ a.get 17 = .int .i64 x66 ∧ a.get 174 = u82 ∧ (rSl (rInt .i64)).v O95 w u82 x81.1 ∧ a.get 175 = .int .i64 (x81.1.length : Int) ∧ a.get 176 = .int .i64 x94 ∧ Comp.loopN (fun s => zp x81 x6 x66 s) n m x94 = some e9) (m := n) ?st9 ?_
      case st9 =>
       exact ⟨_, _, hA, hB, q9, q10, f8, q17, q174, f83, q175, q176, Comp.yB he9⟩
      intro m_ a57 w57 hI
      clear hA hB he9 q9 q10 q17 q174 q175 q176 f8 f83
      obtain ⟨O95, x94, hA, hB, q9, q10, f8, q17, q174, f83, q175, q176, hl⟩ := hI
      obtain ⟨m9, hlt9, st9, h, hnext9, hdone9⟩ := Comp.zg hl; clear hl
      replace h : (zp x81 x6 x66 x94).run n = some st9 := h
      unfold zp at h; refine wp_seq ?_
      refine' rb [_] mixed hA hB hO (cn (fun hE hK => yY (kq hK q176) (kq hK q175)) .nil) ?zk41
      intro a58 w58 hA hE hB HF; refine kr6 HF q9 q10 q17 q174 q175 q176 ?_; clear q9 q10 q17 q174 q175 q176; intro q9 q10 q17 q174 q175 q176; have q177 := ksv (HF 177) rfl rfl rfl; clear HF; replace f8 := vx f8 hE; replace f83 := vx f83 hE; clear hE; refine zD (zA (wp_seq ?_))
      revert h; refine cnd q177 (fun h => ?_) (fun h => ?_)
      ·
       refine wp_skip (zA (wp_seq (wp_block (wp_seq ?_)))); obtain ⟨x96, hx96, h⟩ := Comp.run_bind h
       refine' rb [SP.ptr (rInt .i64) O95 x96, SP.isv (.int .i64 x96), _] mixed hA hB hO (cn (fun hE hK => yV (r := (rInt .i64)) (O := O95) ty23 ty3 rfl (kq hK q174) (rd_of (vx f83 hE)) (kq hK q176) hx96) (cn (fun hE hK => zn (rInt .i64) (fun _ => rfl) ty3 rfl rfl rfl (kp (SP.ptr (rInt .i64) O95 x96) 0 hK 178 rfl) (fun _ _ _ h => zZ.1 h)) (cn (fun hE hK => zC (ks 1 hK 179 rfl)) .nil))) ?zk42
       intro a59 w59 hA hE hB HF; refine kr6 HF q9 q10 q17 q174 q175 q176 ?_; clear q9 q10 q17 q174 q175 q176; intro q9 q10 q17 q174 q175 q176; have q31 := ksv (HF 31) rfl rfl rfl; clear q177 HF; replace f8 := vx f8 hE; replace f83 := vx f83 hE; clear hE; refine zD (zA (wp_seq ?_))
       refine' rb [_] mixed hA hB hO (cn (fun hE hK => zC rfl) .nil) ?zk43
       intro a60 w60 hA hE hB HF; refine kr7 HF q9 q10 q17 q31 q174 q175 q176 ?_; clear q9 q10 q17 q31 q174 q175 q176; intro q9 q10 q17 q31 q174 q175 q176; have q32 := ksv (HF 32) rfl rfl rfl; clear HF; replace f8 := vx f8 hE; replace f83 := vx f83 hE; clear hE; refine zD (zA ?_)
       refine zY (fun a w => ∃ (O106 : Tags) (x105 : Bool), a.fit 207 ∧ Base (Fr w0) O w0 O106 w ∧ a.get 9 = .bool x5 ∧ a.get 10 = u7 ∧ (rSl zB).v O106 w u7 x6.1 ∧ a.get 17 = .int .i64 x66 ∧ a.get 32 = .bool x105 ∧ a.get 174 = u82 ∧ (rSl (rInt .i64)).v O106 w u82 x81.1 ∧ a.get 175 = .int .i64 (x81.1.length : Int) ∧ a.get 176 = .int .i64 x94 ∧ (gD x94 x105).run n = some st9) ?_ ?_
       ·
        refine wp_seq ?_
        refine' rb [_, _, _] mixed hA hB hO (mv q10 (cn (fun hE hK => zw (r := zB) ty27 (ks 0 hK 180 rfl) (rd_of (vx f8 hE))) (cn (fun hE hK => zI rfl) .nil))) ?zk44
        intro a61 w61 hA hE hB HF; refine kr8 HF q9 q10 q17 q31 q32 q174 q175 q176 ?_; clear q9 q10 q17 q31 q32 q174 q175 q176; intro q9 q10 q17 q31 q32 q174 q175 q176; have q181 := ksv (HF 181) rfl rfl rfl; have q182 := ksv (HF 182) rfl rfl rfl; clear HF; replace f8 := vx f8 hE; replace f83 := vx f83 hE; clear hE; refine zD (zA (wp_block ?_))
        obtain ⟨e11, he11, hk11⟩ := Comp.run_bind h; clear h
        refine vg (fun m a w => ∃ (O99 : Tags) (x97 : Bool) (x98 : Int), a.fit 207 ∧ Base (Fr w0) O w0 O99 w ∧ a.get 9 = .bool x5 ∧ a.get 10 = u7 ∧ (rSl zB).v O99 w u7 x6.1 ∧ a.get 17 = .int .i64 x66 ∧ a.get 31 = .int .i64 x96 ∧ a.get 32 = .bool x97 ∧ a.get 174 = u82 ∧ (rSl (rInt .i64)).v O99 w u82 x81.1 ∧ a.get 175 = .int .i64 (x81.1.length : Int) ∧ a.get 176 = .int .i64 x94 ∧ a.get 181 = .int .i64 (x6.1.length : Int) ∧ a.get 182 = .int .i64 x98 ∧ Comp.loopN (fun s => zl x6 x96 x66 s.1 s.2) n m (x97, x98) = some e11) (m := n) ?st11 ?_
        case st11 =>
         exact ⟨_, _, _, hA, hB, q9, q10, f8, q17, q31, q32, q174, f83, q175, q176, q181, q182, Comp.yB he11⟩
        intro m_ a62 w62 hI
        clear hA hB he11 q9 q10 q17 q31 q32 q174 q175 q176 q181 q182 f8 f83
        obtain ⟨O99, x97, x98, hA, hB, q9, q10, f8, q17, q31, q32, q174, f83, q175, q176, q181, q182, hl⟩ := hI
        obtain ⟨m11, hlt11, st11, h, hnext11, hdone11⟩ := Comp.zg hl; clear hl
        replace h : (zl x6 x96 x66 x97 x98).run n = some st11 := h
        unfold zl at h; refine wp_seq ?_
        refine' rb [_] mixed hA hB hO (cn (fun hE hK => yY (kq hK q182) (kq hK q181)) .nil) ?zk45
        intro a63 w63 hA hE hB HF; refine kr10 HF q9 q10 q17 q31 q32 q174 q175 q176 q181 q182 ?_; clear q9 q10 q17 q31 q32 q174 q175 q176 q181 q182; intro q9 q10 q17 q31 q32 q174 q175 q176 q181 q182; have q183 := ksv (HF 183) rfl rfl rfl; clear HF; replace f8 := vx f8 hE; replace f83 := vx f83 hE; clear hE; refine zD (zA (wp_seq ?_))
        revert h; refine cnd q183 (fun h => ?_) (fun h => ?_)
        ·
         refine wp_skip (zA (wp_seq (wp_block (wp_seq ?_))))
         refine' rb [_, _] mixed hA hB hO (mv q182 (cn (fun hE hK => zC (ks 0 hK 184 rfl)) .nil)) ?zk46
         intro a64 w64 hA hE hB HF; refine kr10 HF q9 q10 q17 q31 q32 q174 q175 q176 q181 q182 ?_; clear q9 q10 q17 q31 q32 q174 q175 q176 q181 q182; intro q9 q10 q17 q31 q32 q174 q175 q176 q181 q182; have q33 := ksv (HF 33) rfl rfl rfl; clear q183 HF; replace f8 := vx f8 hE; replace f83 := vx f83 hE; clear hE; refine zD (zA ?_); obtain ⟨x100, hx100, h⟩ := Comp.run_bind h; obtain ⟨x101, hx101, h⟩ := Comp.run_bind h
         refine' rb [_, _, _, _, SP.ptr zB O99 x100, SP.ptr (rInt .i64) O99 x100.Party, SP.isv (.int .i64 x100.Party), _, _, _, _, _, _, _, _, _, _, _] mixed hA hB hO (mv q32 (cn (fun hE hK => zI (ks 0 hK 185 rfl)) (mv q10 (mv q33 (.cons (fun _ _ hE hK hg => yV (r := zB) (O := O99) ty27 ty33 rfl (kg 2 hK 187 rfl hg) (rd_of (vx f8 hE)) (kg 3 hK 188 rfl hg) (yi hx100 hg)) (.cons (fun _ _ hE hK hg => okl_fld (S := zB) rfl (fun _ => rfl) sb_api_Claim_0 fl33_0 rfl (kspS (φ := SP.ptr zB O99 x100) (j := 4) (hK 189 rfl) rfl rfl hg)) (.cons (fun _ _ hE hK hg => zn (rInt .i64) (fun _ => rfl) ty3 rfl rfl rfl (kspS (φ := SP.ptr (rInt .i64) O99 x100.Party) (j := 5) (hK 190 rfl) rfl rfl hg) (fun _ _ _ h => zZ.1 h)) (mv q31 (.cons (fun _ _ hE hK hg => yR (kg 6 hK 191 rfl hg) (kg 7 hK 192 rfl hg)) (.cons (fun _ _ hE hK hg => zI (kg 8 hK 193 rfl hg)) (mv q17 (mv q33 (.cons (fun _ _ hE hK hg => okl_shr (kg 10 hK 195 rfl hg) (kg 11 hK 196 rfl hg) (ye (yi hx101 hg))) (.cons (fun _ _ hE hK hg => jY (kg 12 hK 197 rfl hg) rfl) (.cons (fun _ _ hE hK hg => yR (kg 13 hK 198 rfl hg) rfl) (.cons (fun _ _ hE hK hg => zh (kg 9 hK 194 rfl hg) (fun hb => kg 14 hK 199 rfl (yG rfl hg hb)) (fun _ => rfl)) (cn (fun hE hK => zh (ks 1 hK 186 rfl) (fun _ => rfl) (fun hb => kg 15 hK 200 rfl (yG rfl rfl hb))) (cn (fun hE hK => zC (ks 16 hK 201 rfl)) .nil)))))))))))))))))) ?zk47
         intro a65 w65 hA hE hB HF; refine kr9 HF q9 q10 q17 q31 q174 q175 q176 q181 q182 ?_; clear q9 q10 q17 q31 q174 q175 q176 q181 q182; intro q9 q10 q17 q31 q174 q175 q176 q181 q182; replace q32 := ksv (HF 32) rfl rfl rfl; clear q33 HF; replace f8 := vx f8 hE; replace f83 := vx f83 hE; clear hE
         obtain ⟨x102, hx_, h⟩ := Comp.run_bind h; replace hx_ := Comp.run_pure hx_; rw [hx_] at q32; clear hx_
         refine zD (yA (zA ?_))
         refine' rb [_, _] mixed hA hB hO (cn (fun hE hK => yp (kq hK q182) rfl) (cn (fun hE hK => zI (ks 0 hK 202 rfl)) .nil)) ?zk48
         intro a66 w66 hA hE hB HF; refine kr9 HF q9 q10 q17 q31 q32 q174 q175 q176 q181 ?_; clear q9 q10 q17 q31 q32 q174 q175 q176 q181; intro q9 q10 q17 q31 q32 q174 q175 q176 q181; replace q182 := ksv (HF 182) rfl rfl rfl; clear HF; replace f8 := vx f8 hE; replace f83 := vx f83 hE; clear hE; refine zD (zA ?_)
         have h := hnext11 _ (Comp.run_pure h).symm
         refine ⟨m11, hlt11, ?_⟩
         exact ⟨_, _, _, hA, hB, q9, q10, f8, q17, q31, q32, q174, f83, q175, q176, q181, q182, h⟩
        ·
         refine wp_exit (zT (zT (yS ?_)))
         have hd_ := hdone11 _ (Comp.run_pure h).symm; clear h
         subst hd_; have h := hk11; clear hk11; try dsimp only at h
         refine zA ?_
         exact ⟨_, _, hA, hB, q9, q10, f8, q17, q32, q174, f83, q175, q176, h⟩
       intro a67 w67 hI
       clear hA hB h q9 q10 q17 q31 q32 q174 q175 q176 f8 f83
       obtain ⟨O106, x105, hA, hB, q9, q10, f8, q17, q32, q174, f83, q175, q176, h⟩ := hI
       unfold gD at h; refine wp_seq ?_
       refine' rb [_, _] mixed hA hB hO (mv q32 (cn (fun hE hK => ok_not (ks 0 hK 203 rfl)) .nil)) ?zk49
       intro a68 w68 hA hE hB HF; refine kr6 HF q9 q10 q17 q174 q175 q176 ?_; clear q9 q10 q17 q174 q175 q176; intro q9 q10 q17 q174 q175 q176; have q204 := ksv (HF 204) rfl rfl rfl; clear q32 HF; replace f8 := vx f8 hE; replace f83 := vx f83 hE; clear hE; refine zD (zA ?_)
       revert h; refine cnd q204 (fun h => ?_) (fun h => ?_)
       ·
        refine wp_seq ?_
        refine' rb [_] mixed hA hB hO (cn (fun hE hK => zC rfl) .nil) ?zk50
        intro a69 w69 hA hE hB HF; have q8 := ksv (HF 8) rfl rfl rfl; clear q9 q10 q17 q174 q175 q176 q204 HF; replace f8 := vx f8 hE; replace f83 := vx f83 hE; clear hE; refine zD (zA (wp_ret (gK (zj (zj (gK (zj ?_)))))))
        have hd_ := hdone9 _ (Comp.run_pure h).symm; clear h
        subst hd_; have h := hk9; clear hk9; try dsimp only at h
        have h := Comp.run_pure h; subst h
        exact zd Try.results5 hA q8 hB.ext rfl
       ·
        refine wp_skip (yA (zA ?_))
        refine' rb [_, _] mixed hA hB hO (cn (fun hE hK => yp (kq hK q176) rfl) (cn (fun hE hK => zI (ks 0 hK 205 rfl)) .nil)) ?zk51
        intro a70 w70 hA hE hB HF; refine kr5 HF q9 q10 q17 q174 q175 ?_; clear q9 q10 q17 q174 q175; intro q9 q10 q17 q174 q175; replace q176 := ksv (HF 176) rfl rfl rfl; clear q204 HF; replace f8 := vx f8 hE; replace f83 := vx f83 hE; clear hE; refine zD (zA ?_)
        have h := hnext9 _ (Comp.run_pure h).symm
        refine ⟨m9, hlt9, ?_⟩
        exact ⟨_, _, hA, hB, q9, q10, f8, q17, q174, f83, q175, q176, h⟩
      ·
       refine wp_exit (zT (zT (yS ?_)))
       have hd_ := hdone9 _ (Comp.run_pure h).symm; clear h
       subst hd_; have h := hk9; clear hk9; try dsimp only at h
       refine zA ?_
       exact ⟨_, hA, hB, q9, h⟩
     intro a71 w71 hI
     clear hA hB h q9 q10 q17 q25 q173 f8 f83
     obtain ⟨O108, hA, hB, q9, h⟩ := hI
     unfold jT at h; refine wp_seq ?_
     refine' rb [_, _] mixed hA hB hO (mv q9 (cn (fun hE hK => zC (ks 0 hK 206 rfl)) .nil)) ?zk52
     intro a72 w72 hA hE hB HF; have q8 := ksv (HF 8) rfl rfl rfl; clear q9 HF; clear hE; refine zD (zA (wp_ret ?_))
     have h := Comp.run_pure h; subst h
     exact zd Try.results5 hA q8 hB.ext rfl
end Go.Proofs.Ytebmpjdegajhgaa
end
section
set_option linter.unusedVariables false
set_option linter.unusedSimpArgs false
section
set_option linter.unusedVariables false
set_option linter.unusedSimpArgs false
namespace Go.Cor
open Go Go.Lift
theorem bits64 : IntKind.bits .i64 = 64 := rfl
theorem wrap_nat {n : Nat} (h : n < 9223372036854775808) : IntKind.wrap .i64 (n : Int) = (n : Int) := IntWalk.i64_in _ ⟨by omega, by omega⟩
theorem ofInt_nat (a : Nat) : BitVec.ofInt 64 (a : Int) = BitVec.ofNat 64 a := by simp
theorem andB_nat {a b : Nat} (ha : a < 9223372036854775808) (hb : b < 9223372036854775808) : andB .i64 (a : Int) (b : Int) = ((a &&& b : Nat) : Int) := by
 unfold andB
 rw [bits64, ofInt_nat, ofInt_nat, BitVec.toNat_and, BitVec.toNat_ofNat, BitVec.toNat_ofNat, Nat.mod_eq_of_lt (by omega), Nat.mod_eq_of_lt (by omega)]
 exact wrap_nat (Nat.lt_of_le_of_lt Nat.and_le_left ha)
theorem orB_nat {a b : Nat} (ha : a < 4611686018427387904) (hb : b < 4611686018427387904) : orB .i64 (a : Int) (b : Int) = ((a ||| b : Nat) : Int) := by
 unfold orB
 rw [bits64, ofInt_nat, ofInt_nat, BitVec.toNat_or, BitVec.toNat_ofNat, BitVec.toNat_ofNat, Nat.mod_eq_of_lt (by omega), Nat.mod_eq_of_lt (by omega)]
 have : a ||| b < 2 ^ 62 := Nat.or_lt_two_pow (by omega) (by omega)
 exact wrap_nat (by omega)
def gR (a b : Nat) : Nat := a ^^^ (a &&& b)
theorem yt (a b i : Nat) : (gR a b).testBit i = (a.testBit i && !b.testBit i) := by
 unfold gR
 rw [Nat.testBit_xor, Nat.testBit_and]
 cases a.testBit i <;> cases b.testBit i <;> rfl
theorem andNotB_nat {a b : Nat} (ha : a < 9223372036854775808) (hb : b < 9223372036854775808) : andNotB .i64 (a : Int) (b : Int) = ((gR a b : Nat) : Int) := by
 unfold andNotB
 rw [bits64, ofInt_nat, ofInt_nat]
 have h : (BitVec.ofNat 64 a &&& ~~~ BitVec.ofNat 64 b).toNat = gR a b := by
  refine Nat.eq_of_testBit_eq fun i => ?_
  rw [yt]
  by_cases hi : i < 64
  ·rw [BitVec.testBit_toNat, BitVec.getLsbD_and, BitVec.getLsbD_not, BitVec.getLsbD_ofNat, BitVec.getLsbD_ofNat]
   simp [hi]
  ·rw [BitVec.testBit_toNat, BitVec.getLsbD_of_ge _ _ (by omega)]
   rw [Nat.testBit_lt_two_pow (x := a) (i := i)]
   ·rfl
   ·exact Nat.lt_of_lt_of_le (by omega : a < 2 ^ 64) (Nat.pow_le_pow_right (by omega) (by omega))
 rw [h]
 refine wrap_nat (Nat.lt_of_le_of_lt (Nat.le_of_testBit ?_) ha) 
 intro i hi; rw [yt] at hi; simp at hi; exact hi.1
theorem shrF_nat {a k : Nat} (hk : k < 64) : shrF .i64 (a : Int) (k : Int) = ((a >>> k : Nat) : Int) := by
 unfold shrF
 rw [bits64, Int.toNat_natCast, Nat.min_eq_left (by omega), Nat.shiftRight_eq_div_pow]
 rw [Int.fdiv_eq_ediv_of_nonneg _ (by exact Int.le_of_lt (Int.pow_pos (by omega)))]
 simp
theorem shlF_nat {k : Nat} (hk : k < 62) : shlF .i64 1 (k : Int) = ((2 ^ k : Nat) : Int) := by
 unfold shlF
 rw [bits64, Int.toNat_natCast, Nat.min_eq_left (by omega)]
 have : 2 ^ k < 2 ^ 62 := Nat.pow_lt_pow_right (by omega) hk
 have h2 : (1 : Int) * 2 ^ k = ((2 ^ k : Nat) : Int) := by simp
 rw [h2]; exact wrap_nat (by omega)
theorem bit_eq {a k : Nat} (ha : a < 4611686018427387904) (hk : k < 62) : (decide (andB .i64 (shrF .i64 (a : Int) (k : Int)) 1 = 1)) = a.testBit k := by
 rw [shrF_nat (by omega)]
 have h1 : a >>> k ≤ a := Nat.shiftRight_le a k
 have := andB_nat (a := a >>> k) (b := 1) (by omega) (by omega)
 rw [show ((1 : Nat) : Int) = 1 from rfl] at this
 rw [this, Nat.and_one_is_mod, Nat.testBit_eq_decide_div_mod_eq, Nat.shiftRight_eq_div_pow]
 congr 1
 exact propext ⟨fun h => by omega, fun h => by omega⟩
def Sub (b a : Nat) : Prop := ∀ i, b.testBit i = true → a.testBit i = true
theorem sub_iff {a b : Nat} : a &&& b = b ↔ Sub b a := by
 constructor
 ·intro h i hi
  rw [← h, Nat.testBit_and] at hi
  simp at hi; exact hi.1
 ·intro h
  refine Nat.eq_of_testBit_eq fun i => ?_
  rw [Nat.testBit_and]
  have := h i
  cases hb : b.testBit i with
  | true => simp [this hb]
  | false => simp
theorem Sub.refl (a : Nat) : Sub a a := fun _ h => h
theorem Sub.trans {a b c : Nat} (h : Sub a b) (k : Sub b c) : Sub a c := fun i hi => k i (h i hi)
theorem Sub.antisymm {a b : Nat} (h : Sub a b) (k : Sub b a) : a = b := by
 refine Nat.eq_of_testBit_eq fun i => ?_
 have := h i; have := k i
 cases ha : a.testBit i <;> cases hb : b.testBit i <;> simp_all
theorem Sub.le {a b : Nat} (h : Sub a b) : a ≤ b := Nat.le_of_testBit h
theorem Sub.lt {a b : Nat} (h : Sub a b) (hne : a ≠ b) : a < b := Nat.lt_of_le_of_ne h.le hne
def Meets (a b : Nat) : Prop := ∃ i, a.testBit i = true ∧ b.testBit i = true
theorem meets_iff {a b : Nat} : a &&& b ≠ 0 ↔ Meets a b := by
 constructor
 ·intro h
  obtain ⟨i, hi⟩ := Nat.exists_testBit_of_ne_zero h
  rw [Nat.testBit_and] at hi; simp at hi
  exact ⟨i, hi⟩
 ·rintro ⟨i, h1, h2⟩ h
  have : (a &&& b).testBit i = true := by rw [Nat.testBit_and, h1, h2]; rfl
  rw [h] at this; simp at this
theorem Meets.mono {a b c d : Nat} (h : Meets a b) (h1 : Sub a c) (h2 : Sub b d) : Meets c d := by
 obtain ⟨i, h3, h4⟩ := h; exact ⟨i, h1 i h3, h2 i h4⟩
def Hits (h : Nat) (L : List Nat) : Prop := ∀ s ∈ L, Meets h s
theorem Hits.mono {g h : Nat} {L : List Nat} (hg : Hits g L) (hs : Sub g h) : Hits h L := fun s hs' => (hg s hs').mono hs (Sub.refl s)
def Min (P : Nat → Prop) (h : Nat) : Prop := P h ∧ ∀ g, P g → Sub g h → g = h
theorem exists_min {P : Nat → Prop} : ∀ h, P h → ∃ m, Min P m ∧ Sub m h := by
 intro h
 induction h using Nat.strongRecOn with
 | _ h ih =>
  intro hP
  by_cases hm : ∀ g, P g → Sub g h → g = h
  ·exact ⟨h, ⟨hP, hm⟩, Sub.refl h⟩
  ·simp only [Classical.not_forall] at hm
   obtain ⟨g, hg, hs, hne⟩ := hm
   obtain ⟨m, h1, h2⟩ := ih g (hs.lt hne) hg
   exact ⟨m, h1, h2.trans hs⟩
theorem min_basis {P : Nat → Prop} {N : Nat → Prop} (h1 : ∀ x, N x → P x) (h2 : ∀ h, P h → ∃ x, N x ∧ Sub x h) (h : Nat) : Min N h ↔ Min P h := by
 constructor
 ·rintro ⟨h3, h4⟩
  refine ⟨h1 h h3, fun g hg hs => ?_⟩
  obtain ⟨x, h5, h6⟩ := h2 g hg
  have := h4 x h5 (h6.trans hs)
  subst this
  exact hs.antisymm h6
 ·rintro ⟨h3, h4⟩
  obtain ⟨x, h5, h6⟩ := h2 h h3
  have := h4 x (h1 x h5) h6
  subst this
  exact ⟨h5, fun g hg hs => h4 g (h1 g hg) hs⟩
theorem jx {k i : Nat} : (2 ^ k).testBit i = decide (k = i) := Nat.testBit_two_pow
theorem step {L : List Nat} {s : Nat} {F : List Nat} {n : Nat} (hs : s < 2 ^ n) (hF : ∀ h, h ∈ F ↔ Min (Hits · L) h) (h : Nat) :
  Min (· ∈ F.flatMap fun h => if h &&& s ≠ 0 then [h] else ((List.range n).filter (s.testBit ·)).map fun k => h ||| 2 ^ k) h ↔ Min (Hits · (L ++ [s])) h := by
 refine min_basis (N := (· ∈ F.flatMap fun h => if h &&& s ≠ 0 then [h] else ((List.range n).filter (s.testBit ·)).map fun k => h ||| 2 ^ k)) ?_ ?_ h
 ·intro x hx
  obtain ⟨f, hf, hx⟩ := List.mem_flatMap.1 hx
  have hf := ((hF f).1 hf).1
  intro t ht
  rcases List.mem_append.1 ht with ht | ht
  ·split at hx
   ·simp at hx; subst hx; exact hf t ht
   ·obtain ⟨k, _, rfl⟩ := List.mem_map.1 hx
    exact (hf t ht).mono (fun i hi => by rw [Nat.testBit_or, hi]; rfl) (Sub.refl t)
  ·simp at ht; subst ht
   split at hx
   ·simp at hx; subst hx; exact meets_iff.1 ‹_›
   ·obtain ⟨k, hk, rfl⟩ := List.mem_map.1 hx
    have := (List.mem_filter.1 hk).2
    exact ⟨k, by rw [Nat.testBit_or, jx]; simp, this⟩
 ·intro g hg
  obtain ⟨m, h1, h2⟩ := exists_min (P := (Hits · L)) g (fun t ht => hg t (List.mem_append_left _ ht))
  have hm := (hF m).2 h1
  by_cases hc : m &&& s ≠ 0
  ·exact ⟨m, List.mem_flatMap.2 ⟨m, hm, by rw [if_pos hc]; simp⟩, h2⟩
  ·obtain ⟨k, h3, h4⟩ := hg s (by simp)
   have hk : k < n := by
    refine Classical.byContradiction fun hk => ?_
    rw [Nat.testBit_lt_two_pow (Nat.lt_of_lt_of_le hs (Nat.pow_le_pow_right (by omega) (by omega)))] at h4
    cases h4
   refine ⟨m ||| 2 ^ k, List.mem_flatMap.2 ⟨m, hm, ?_⟩, fun i hi => ?_⟩
   ·rw [if_neg hc]
    exact List.mem_map.2 ⟨k, List.mem_filter.2 ⟨List.mem_range.2 hk, h4⟩, rfl⟩
   ·rw [Nat.testBit_or, jx] at hi
    simp at hi
    rcases hi with hi | rfl
    ·exact h2 i hi
    ·exact h3
theorem min_hits_nil (h : Nat) : Min (Hits · []) h ↔ h = 0 := by
 constructor
 ·rintro ⟨_, h2⟩
  exact (h2 0 (fun s hs => by cases hs) (fun i hi => by simp at hi)).symm
 ·rintro rfl
  exact ⟨fun s hs => (by cases hs), fun g _ hs => Nat.le_zero.1 hs.le⟩
theorem min_hits_lt {n : Nat} {L : List Nat} (hL : ∀ s ∈ L, s < 2 ^ n) {h : Nat} (hm : Min (Hits · L) h) : h < 2 ^ n := by
 have := hm.2 (h % 2 ^ n) (fun s hs => ?_) (fun i hi => by rw [Nat.testBit_mod_two_pow] at hi; simp at hi; exact hi.2)
 ·rw [← this]; exact Nat.mod_lt _ (Nat.two_pow_pos n)
 ·obtain ⟨i, h1, h2⟩ := hm.1 s hs
  refine ⟨i, ?_, h2⟩
  rw [Nat.testBit_mod_two_pow, h1]
  have : i < n := by
   refine Classical.byContradiction fun hk => ?_
   rw [Nat.testBit_lt_two_pow (Nat.lt_of_lt_of_le (hL s hs) (Nat.pow_le_pow_right (by omega) (by omega)))] at h2
   cases h2
  simp [this]
def compl (n g : Nat) : Nat := gR (2 ^ n - 1) g
theorem testBit_compl (n g i : Nat) : (compl n g).testBit i = (decide (i < n) && !g.testBit i) := by
 unfold compl; rw [yt, Nat.testBit_two_pow_sub_one]
theorem bit_lt {n s i : Nat} (hs : s < 2 ^ n) (h : s.testBit i = true) : i < n := by
 refine Classical.byContradiction fun hk => ?_
 rw [Nat.testBit_lt_two_pow (Nat.lt_of_lt_of_le hs (Nat.pow_le_pow_right (by omega) (by omega)))] at h
 cases h
abbrev Inc (l : List Int) : Prop := l.Pairwise (· < ·)
end Go.Cor
end
section
set_option linter.unusedVariables false
set_option linter.unusedSimpArgs false
namespace Go.Cor
open Go Go.Lift Go.F
theorem LIM_lt : LIM < 9223372036854775807 := by decide
theorem gw {α : Type} {i : Nat} {xs : List α} : (decide ((i : Int) < (xs.length : Int))) = decide (i < xs.length) := by
 congr 1; exact propext ⟨fun h => by omega, fun h => by omega⟩
def IsMin (l : List Int) (s : Int) : Prop := s ∈ l ∧ ∀ x ∈ l, andB .i64 s x = x → x = s
theorem sorted_get {d : Array Int} (h : d.toList.Pairwise (· ≤ ·)) {i j : Nat} (hij : i ≤ j) (hj : j < d.size) : d[i]! ≤ d[j]! := by
 have e : ∀ k, k < d.size → d[k]! = d.toList[k]! := by
  intro k hk; simp [hk]
 rw [e i (by omega), e j hj]
 rcases Nat.lt_or_eq_of_le hij with hlt | rfl
 ·have := List.pairwise_iff_getElem.1 h i j (by simp; omega) (by simpa using hj) hlt
  simpa [hj, show i < d.size by omega] using this
 ·exact Int.le_refl _
theorem keeps_iff {d : Array Int} {j : Nat} : Lib.keeps d j = true ↔ j = 0 ∨ d[j]! ≠ d[j - 1]! := by simp [Lib.keeps]
theorem compact_inc {l : List Int} (h : l.Pairwise (· ≤ ·)) : Inc (Lib.compact l) := by
 unfold Lib.compact Lib.compactUpTo Inc
 rw [List.pairwise_map]
 have hr : ((List.range l.length).filter (Lib.keeps l.toArray)).Pairwise (· < ·) := List.Pairwise.filter _ List.pairwise_lt_range
 refine List.Pairwise.imp_of_mem ?_ hr
 intro a b ha hb hab
 have hb1 := List.mem_filter.1 hb
 have hbl := List.mem_range.1 hb1.1
 have h1 := sorted_get (d := l.toArray) (by simpa using h) (i := a) (j := b - 1) (by omega) (by simp; omega)
 have h2 := sorted_get (d := l.toArray) (by simpa using h) (i := b - 1) (j := b) (by omega) (by simpa using hbl)
 rcases keeps_iff.1 hb1.2 with h3 | h3
 ·omega
 ·omega
theorem compact_mem {l : List Int} (x : Int) : x ∈ Lib.compact l ↔ x ∈ l := by
 unfold Lib.compact Lib.compactUpTo
 rw [List.mem_map]
 constructor
 ·rintro ⟨j, hj, rfl⟩
  have := List.mem_range.1 (List.mem_filter.1 hj).1
  simp [this]
 ·intro hx
  obtain ⟨i, hi, he⟩ := List.getElem_of_mem hx
  have hP : ∀ i, i < l.length → l.toArray[i]! = x → ∃ j, j ∈ (List.range l.length).filter (Lib.keeps l.toArray) ∧ l.toArray[j]! = x := by
   intro i
   induction i using Nat.strongRecOn with
   | _ i ih =>
    intro hi he
    by_cases hk : Lib.keeps l.toArray i = true
    ·exact ⟨i, List.mem_filter.2 ⟨List.mem_range.2 hi, hk⟩, he⟩
    ·have := mt keeps_iff.2 hk
     simp only [not_or, Decidable.not_not] at this
     exact ih (i - 1) (by omega) (by omega) (by rw [← this.2]; exact he)
  exact hP i hi (by simp [hi, he])
theorem compact_le {l : List Int} : (Lib.compact l).length ≤ l.length := compact_len l
theorem isort_len (l : List Int) : (isort l).length = l.length := (isort_perm l).length_eq
def lst (l : List Int) : List Int := Lib.compact (isort l)
theorem lst_inc (l : List Int) : Inc (lst l) := compact_inc (isort_sorted l)
theorem lst_mem (l : List Int) (x : Int) : x ∈ lst l ↔ x ∈ l := by unfold lst; rw [compact_mem]; exact (isort_perm l).mem_iff
theorem lst_le (l : List Int) : (lst l).length ≤ l.length := by have := compact_le (l := isort l); rw [isort_len] at this; exact this
def worse (l : List Int) (s : Int) : Bool := l.any fun x => decide (x ≠ s) && decide (andB .i64 s x = x)
def minimal (l : List Int) : List Int := (lst l).filter fun s => !worse (lst l) s
theorem minimal_inc (l : List Int) : Inc (minimal l) := List.Pairwise.filter _ (lst_inc l)
theorem minimal_mem (l : List Int) (s : Int) : s ∈ minimal l ↔ IsMin l s := by
 unfold minimal IsMin
 rw [List.mem_filter, lst_mem]
 refine and_congr_right fun _ => ?_
 unfold worse
 rw [Bool.not_eq_true', List.any_eq_false]
 constructor
 ·intro h x hx hs
  have := h x ((lst_mem l x).2 hx)
  simp [hs] at this; exact this
 ·intro h x hx
  have := h x ((lst_mem l x).1 hx)
  by_cases hs : andB .i64 s x = x
  ·simp [this hs]
  ·simp [hs]
theorem minimal_val {l : List Int} (hl : l.length ≤ LIM) : (core_Minimal l).val = some (minimal l) := by
 unfold core_Minimal yk
 have hL := LIM_lt
 have h1 := lst_le l
 simp only [Comp.zH, app_val (xs := ([] : List Int)) (ys := l) (by simpa using hl), Option.bind_some, Comp.zK, List.nil_append]
 have h2 : (sortI l).val = some (isort l) := by unfold sortI; rw [if_pos hl]; simp
 have h3 : (compactI (isort l)).val = some (lst l) := by unfold compactI; rw [if_pos (by rw [isort_len]; exact hl)]; simp [lst]
 rw [h2, Option.bind_some, h3, Option.bind_some]
 have hin : ∀ s, (Comp.loop (fun i => gm (lst l) s i) 0).val = some (if worse (lst l) s = true then .inl () else .inr ()) := by
  intro s
  refine Comp.loop_any (lst l) (fun x => decide (x ≠ s) && decide (andB .i64 s x = x)) () ?_ ?_
  ·intro i x hx
   have hi := yZ hx
   unfold gm
   simp only [Comp.zb, Comp.zH, gb hx, Option.bind_some, Comp.zK, gw, Comp.zQ (i := i) (by omega)]
   rw [if_pos (by simpa using hi), bif_ite]
   cases decide (x ≠ s) <;> cases decide (andB .i64 s x = x) <;> rfl
  ·unfold gm
   simp only [Comp.zb, Comp.zK]
   rw [if_neg (by simp)]
 have := Comp.loop_fold (body := fun s => vi (lst l) s.1 s.2) (lst l) (fun acc s => if (!worse (lst l) s) = true then acc ++ [s] else acc) id (fun acc i => acc.length ≤ i) []
  (by
   intro s i x hx hI
   have hi := yZ hx
   show (vi (lst l) s (i : Int)).val = _
   unfold vi
   simp only [Comp.zb, Comp.zH, gb hx, Option.bind_some, hin]
   rw [if_pos (by simpa using hi)]
   cases hw : worse (lst l) x with
   | true => simp [jP, Comp.zQ (i := i) (by omega)]
   | false =>
    rw [if_neg (by simp)]
    show (core_Minimal_j4 s x (i : Int)).val = _
    unfold core_Minimal_j4 jP
    rw [Comp.zH, app_val (xs := s) (ys := [x]) (by simp; omega), Option.bind_some, Comp.zK, Comp.zQ (i := i) (by omega)]
    rfl)
  (by
   intro s i x _ hI
   show (if (!worse (lst l) x) = true then s ++ [x] else s).length ≤ _
   split
   ·simp; omega
   ·omega)
  (by
   intro s _
   show (vi (lst l) s ((lst l).length : Int)).val = _
   unfold vi
   simp only [Comp.zb, Comp.zK]
   rw [if_neg (by simp)]; rfl)
  (Nat.le_refl _)
 rw [this, Option.bind_some]
 simp only [core_Minimal_j1, Comp.zK, id, Comp.foldl_filter, List.nil_append]
 rfl
end Go.Cor
end
section
set_option linter.unusedVariables false
set_option linter.unusedSimpArgs false
namespace Go.Cor
open Go Go.Lift Go.F
def up (L : List Nat) : List Int := L.map fun (x : Nat) => (x : Int)
theorem up_len (L : List Nat) : (up L).length = L.length := List.length_map _
theorem mem_up {L : List Nat} {x : Nat} : (x : Int) ∈ up L ↔ x ∈ L := by
 unfold up; rw [List.mem_map]
 exact ⟨fun ⟨y, h1, h2⟩ => by
                have : y = x := by omega
                exact this ▸ h1, fun h => ⟨x, h, rfl⟩⟩
theorem mem_up' {L : List Nat} {z : Int} : z ∈ up L ↔ ∃ x : Nat, x ∈ L ∧ z = (x : Int) := by
 unfold up; rw [List.mem_map]
 exact ⟨fun ⟨y, h1, h2⟩ => ⟨y, h1, h2.symm⟩, fun ⟨y, h1, h2⟩ => ⟨y, h1, h2.symm⟩⟩
theorem inc_len {b : Int} : ∀ (l : List Int) (a : Int), Inc l → (∀ x ∈ l, a ≤ x ∧ x < b) → (l.length : Int) ≤ max 0 (b - a)
 | [], a, _, _ => by simp; omega
 | x :: l, a, h, hx => by
   have h1 := List.pairwise_cons.1 h
   have h2 := hx x (by simp)
   have := inc_len (b := b) l (x + 1) h1.2 fun y hy => ⟨by have := h1.1 y hy; omega, (hx y (List.mem_cons_of_mem _ hy)).2⟩
   simp only [List.length_cons]; omega
theorem inc_up_len {L : List Nat} {n : Nat} (h : Inc (up L)) (hn : ∀ x ∈ L, x < n) : L.length ≤ n := by
 have := inc_len (b := (n : Int)) (up L) 0 h fun x hx => by
  obtain ⟨y, h1, rfl⟩ := mem_up'.1 hx
  have := hn y h1; omega
 rw [up_len] at this; omega
theorem toNat_up {l : List Int} (h : ∀ x ∈ l, 0 ≤ x) : up (l.map Int.toNat) = l := by
 unfold up; rw [List.map_map]
 conv => rhs; rw [← List.map_id l]
 exact List.map_congr_left fun x hx => by simp [Int.toNat_of_nonneg (h x hx)]
theorem isMin_up {N : List Nat} (hN : ∀ x ∈ N, x < 4611686018427387904) (z : Int) : IsMin (up N) z ↔ ∃ h : Nat, z = (h : Int) ∧ Min (· ∈ N) h := by
 constructor
 ·rintro ⟨h1, h2⟩
  obtain ⟨h, h3, rfl⟩ := mem_up'.1 h1
  refine ⟨h, rfl, h3, fun g hg hs => ?_⟩
  have := h2 g (mem_up.2 hg) (by rw [andB_nat (by have := hN h h3; omega) (by have := hN g hg; omega), sub_iff.2 hs])
  omega
 ·rintro ⟨h, rfl, h1, h2⟩
  refine ⟨mem_up.2 h1, fun x hx hs => ?_⟩
  obtain ⟨g, hg, rfl⟩ := mem_up'.1 hx
  rw [andB_nat (by have := hN h h1; omega) (by have := hN g hg; omega)] at hs
  rw [h2 g hg (sub_iff.1 (by omega))]
theorem minimal_up {N : List Nat} (hN : ∀ x ∈ N, x < 4611686018427387904) : ∃ H, minimal (up N) = up H ∧ ∀ h, h ∈ H ↔ Min (· ∈ N) h := by
 have h0 : ∀ x ∈ minimal (up N), 0 ≤ x := by
  intro x hx
  obtain ⟨h, rfl, _⟩ := (isMin_up hN x).1 ((minimal_mem _ _).1 hx)
  omega
 refine ⟨(minimal (up N)).map Int.toNat, (toNat_up h0).symm, fun h => ?_⟩
 rw [← mem_up, toNat_up h0, minimal_mem, isMin_up hN]
 exact ⟨fun ⟨g, h1, h2⟩ => by
                have : g = h := by omega
                exact this ▸ h2, fun h2 => ⟨h, rfl, h2⟩⟩
def grown (n s h : Nat) : List Nat := if h &&& s ≠ 0 then [h] else ((List.range n).filter (s.testBit ·)).map fun k => h ||| 2 ^ k
theorem grown_len (n s h : Nat) : (grown n s h).length ≤ n + 1 := by
 unfold grown; split
 ·simp
 ·rw [List.length_map]; have := List.length_filter_le (s.testBit ·) (List.range n); rw [List.length_range] at this; omega
theorem up_append (a b : List Nat) : up (a ++ b) = up a ++ up b := List.map_append
theorem decide_lt_nat {i n : Nat} : (decide ((i : Int) < (n : Int))) = decide (i < n) := by
 congr 1; exact propext ⟨fun h => by omega, fun h => by omega⟩
theorem range_get {n i x : Nat} (h : (List.range n)[i]? = some x) : i < n ∧ x = i := by
 obtain ⟨h1, h2⟩ := List.getElem?_eq_some_iff.1 h
 simp at h1 h2; exact ⟨h1, h2.symm⟩
theorem l6_val {n s h : Nat} (hn : n ≤ 10) (hs : s < 2 ^ n) (hh : h < 2 ^ n) {acc : List Int} (ha : acc.length + n ≤ LIM) :
  (Comp.loop (fun st => vO n s h st.1 st.2) (acc, 0)).val = some (acc ++ up (((List.range n).filter (s.testBit ·)).map fun k => h ||| 2 ^ k)) := by
 have hb : 2 ^ n ≤ 1024 := Nat.pow_le_pow_right (n := 2) (by omega) hn
 have := Comp.loop_fold (body := fun st => vO n s h st.1 st.2) (List.range n) (fun acc k => acc ++ if s.testBit k = true then [((h ||| 2 ^ k : Nat) : Int)] else []) id (fun a i => a.length ≤ acc.length + i) acc
  (by
   intro a i x hx hI
   obtain ⟨hi, rfl⟩ := range_get hx
   show (vO n s h a (x : Int)).val = _
   unfold vO
   rw [decide_lt_nat, Comp.zb, if_pos (by simpa using hi), Comp.zH, gq (by omega), Option.bind_some, Comp.zH, Comp.zK, Option.bind_some, bit_eq (by omega) (by omega), Comp.zb]
   by_cases ht : s.testBit x = true
   ·rw [if_pos ht, if_pos ht, Comp.zH, gq (by omega), Option.bind_some, shlF_nat (by omega)]
    have h2 : 2 ^ x ≤ 1024 := Nat.pow_le_pow_right (n := 2) (by omega) (by omega : x ≤ 10)
    rw [orB_nat (by omega) (by omega), Comp.zH, app_val (by simp; omega), Option.bind_some]
    simp only [jQ, Comp.zK, Comp.zQ (i := x) (by omega)]
   ·rw [if_neg ht, if_neg ht, List.append_nil]
    simp only [jQ, Comp.zK, Comp.zQ (i := x) (by omega)])
  (by
   intro a i x hx hI
   show (a ++ if s.testBit x = true then [((h ||| 2 ^ x : Nat) : Int)] else []).length ≤ _
   split
   ·simp; omega
   ·simp; omega)
  (by
   intro a _
   show (vO n s h a ((List.range n).length : Int)).val = _
   unfold vO
   rw [List.length_range, Comp.zb, if_neg (by simp), Comp.zK]; rfl)
  (Nat.le_refl _)
 rw [this, Comp.foldl_flatMap]
 congr 1
 show _ ++ _ = _
 congr 1
 unfold up
 rw [List.map_map]
 generalize List.range n = ks
 induction ks with
 | nil => rfl
 | cons k ks ih =>
  rw [List.flatMap_cons, List.filter_cons, ih]
  split <;> simp
theorem l4_val {n s : Nat} (hn : n ≤ 10) (hs : s < 2 ^ n) {F : List Nat} (hF : ∀ h ∈ F, h < 2 ^ n) (hl : F.length ≤ 1024) :
  (Comp.loop (fun st => vP (up F) s n st.1 st.2) ([], 0)).val = some (up (F.flatMap (grown n s))) := by
 have hb : 2 ^ n ≤ 1024 := Nat.pow_le_pow_right (n := 2) (by omega) hn
 have := Comp.loop_fold (body := fun st => vP (up F) s n st.1 st.2) F (fun acc h => acc ++ up (grown n s h)) id (fun a i => a.length ≤ i * 11) []
  (by
   intro a i x hx hI
   have hi := yZ hx
   have hxn := hF x (List.mem_of_getElem? hx)
   show (vP (up F) s n a (i : Int)).val = _
   have hx' : (up F)[i]? = some (x : Int) := by unfold up; rw [List.getElem?_map, hx]; rfl
   have hsm : LIM = 1073741824 := rfl
   unfold vP
   rw [gw, Comp.zb, if_pos (by simpa [up_len] using hi), Comp.zH, gb hx', Option.bind_some, andB_nat (by omega) (by omega), Comp.zb]
   unfold grown
   by_cases hm : x &&& s ≠ 0
   ·rw [if_pos hm, if_pos (by simpa using hm), Comp.zH, app_val (by simp; omega), Option.bind_some]
    simp only [jR, Comp.zK, Comp.zQ (i := i) (by omega)]
    rfl
   ·rw [if_neg hm, if_neg (by simpa using hm), Comp.zH, l6_val hn hs hxn (by omega), Option.bind_some]
    simp only [jR, Comp.zK, Comp.zQ (i := i) (by omega)])
  (by
   intro a i x hx hI
   show (a ++ up (grown n s x)).length ≤ _
   have := grown_len n s x
   rw [List.length_append, up_len]; omega)
  (by
   intro a _
   show (vP (up F) s n a (F.length : Int)).val = _
   unfold vP
   rw [Comp.zb, if_neg (by simp [up_len]), Comp.zK]; rfl)
  (Nat.le_refl _)
 rw [this, Comp.foldl_flatMap]
 congr 1
 show [] ++ _ = _
 rw [List.nil_append]
 unfold up
 rw [List.map_flatMap]
structure Fam (n : Nat) (L : List Nat) (l : List Int) : Prop where
 ex : ∃ F, l = up F ∧ ∀ h, h ∈ F ↔ Min (Hits · L) h
 inc : Inc l
theorem Fam.lt {n : Nat} {L : List Nat} (hL : ∀ s ∈ L, s < 2 ^ n) {F : List Nat} (h : ∀ h, h ∈ F ↔ Min (Hits · L) h) : ∀ x ∈ F, x < 2 ^ n := fun x hx => min_hits_lt hL ((h x).1 hx)
theorem contains_val {l : List Int} (hl : l.length ≤ LIM) {f : Int → Comp Bool} {p : Int → Bool} (hf : ∀ x ∈ l, (f x).val = some (p x)) : (zi l f).val = some (l.any p) := by
 unfold zi yU
 have hL := LIM_lt
 have : ∃ e : Sum Int Unit, (Comp.loop (fun s => ze l f s) 0).val = some e ∧ (l.any p = true → ∃ i : Nat, e = .inl (i : Int)) ∧ (l.any p = false → e = .inr ()) := by
  refine ⟨_, Comp.loop_foldE (σ := Nat) (fun _ i => ((i : Nat) : Int)) l (fun i x => if p x = true then .done (.inl (i : Int)) else .next (i + 1)) (fun _ => (.inr () : Sum Int Unit)) (fun j i => j = i) (body := fun s => ze l f s) ?_ ?_ ?_ 0 rfl, ?_, ?_⟩
  ·intro s i x hx he
   subst he
   have hi := yZ hx
   unfold ze
   rw [gw, Comp.zb, if_pos (by simpa using hi), Comp.zH, gb hx, Option.bind_some, Comp.zH, hf x (List.mem_of_getElem? hx), Option.bind_some, Comp.zb]
   by_cases h : p x = true
   ·rw [if_pos h, if_pos h, Comp.zK]; rfl
   ·rw [if_neg h, if_neg h, Comp.zQ (by omega)]; simp [Comp.Step.map]
  ·intro s i x s' _ he h
   by_cases hp : p x = true
   ·simp [hp] at h
   ·simp [hp] at h; omega
  ·intro s he
   unfold ze
   rw [Comp.zb, if_neg (by simp), Comp.zK]
  ·intro h
   have : ∀ (l : List Int) (j : Nat), l.any p = true → ∃ i : Nat, Comp.foldE (fun (i : Nat) x => if p x = true then Comp.Step.done (Sum.inl (i : Int)) else Comp.Step.next (i + 1)) (fun _ => (.inr () : Sum Int Unit)) j l = .inl (i : Int) := by
    intro l
    induction l with
    | nil => intro j h; simp at h
    | cons y l ih =>
     intro j h
     simp only [Comp.foldE]
     by_cases hy : p y = true
     ·simp only [hy, if_true]; exact ⟨j, rfl⟩
     ·simp only [hy]; exact ih (j + 1) (by simpa [hy] using h)
   exact this l 0 h
  ·intro h
   have : ∀ (l : List Int) (j : Nat), l.any p = false → Comp.foldE (fun (i : Nat) x => if p x = true then Comp.Step.done (Sum.inl (i : Int)) else Comp.Step.next (i + 1)) (fun _ => (.inr () : Sum Int Unit)) j l = .inr () := by
    intro l
    induction l with
    | nil => intro j h; rfl
    | cons y l ih =>
     intro j h
     simp only [Comp.foldE]
     have h' : p y = false ∧ l.any p = false := by simpa using h
     simp only [h'.1]; exact ih (j + 1) h'.2
   exact this l 0 h
 obtain ⟨e, h1, h2, h3⟩ := this
 rw [Comp.zH, Comp.zH, h1, Option.bind_some]
 cases ha : l.any p with
 | true => obtain ⟨i, rfl⟩ := h2 ha; simp
 | false => rw [h3 ha]; simp [yu]
theorem hitting_val {n : Nat} {L : List Nat} (hn : n ≤ 10) (hL : ∀ s ∈ L, s < 2 ^ n) (hl : L.length ≤ LIM) : ∃ H, (core_Hitting (up L) n).val = some (H, 0) ∧ Fam n L H := by
 have hb : 2 ^ n ≤ 1024 := Nat.pow_le_pow_right (n := 2) (by omega) hn
 have hLt := LIM_lt
 unfold core_Hitting
 have e1 : (bif (decide ((n : Int) < 0)) then true else (decide ((n : Int) > 10))) = false := by
  rw [show decide ((n : Int) < 0) = false by rw [decide_eq_false_iff_not]; omega, show decide ((n : Int) > 10) = false by rw [decide_eq_false_iff_not]; omega]; rfl
 have hc : (zi (up L) (fun z0 => jS z0 n)).val = some ((up L).any fun _ => false) := by
  refine contains_val (by rw [up_len]; exact hl) fun x hx => ?_
  obtain ⟨y, hy, rfl⟩ := mem_up'.1 hx
  have := hL y hy
  unfold jS
  rw [Comp.zH, Comp.val_gd, gq (by omega), shlF_nat (by omega)]
  have e2 : decide ((y : Int) < 0) = false := by rw [decide_eq_false_iff_not]; omega
  have e3 : decide ((y : Int) ≥ ((2 ^ n : Nat) : Int)) = false := by rw [decide_eq_false_iff_not]; omega
  simp only [e2, e3, Comp.zH, Comp.zK, Option.bind_some]
  rfl
 rw [e1, Comp.zH, Comp.zK, Option.bind_some, Comp.zb, if_neg (by simp), Comp.zH, hc]
 have e4 : (up L).any (fun _ => false) = false := by simp
 rw [e4, Option.bind_some, Comp.zb, if_neg (by simp), Comp.zH]
 have key : ∀ (M N : List Nat) (l : List Int), L = N ++ M → Fam n N l → ∃ H, (Comp.loop (fun s => vQ (up L) n s.1 s.2) (l, (N.length : Int))).val = some H ∧ Fam n L H := by
  intro M
  induction M with
  | nil =>
   intro N l hN hf
   rw [List.append_nil] at hN; subst hN
   refine ⟨l, ?_, hf⟩
   rw [Comp.val_loop]
   show (vQ (up L) n l (L.length : Int)).val.bind _ = _
   unfold vQ
   rw [Comp.zb, if_neg (by simp [up_len]), Comp.zK]; rfl
  | cons s M ih =>
   intro N l hN hf
   have hs : s ∈ L := by rw [hN]; simp
   have hNn : ∀ x ∈ N, x < 2 ^ n := fun x hx => hL x (by rw [hN]; simp [hx])
   have hNl : N.length < L.length := by rw [hN]; simp
   obtain ⟨F, rfl, hF⟩ := hf.ex
   have hFl := Fam.lt hNn hF
   have hlen := inc_up_len hf.inc hFl
   have hi : (up L)[N.length]? = some (s : Int) := by unfold up; rw [List.getElem?_map, hN]; simp
   have hnext : ∀ x ∈ F.flatMap (grown n s), x < 4611686018427387904 := by
    intro x hx
    obtain ⟨f, h1, h2⟩ := List.mem_flatMap.1 hx
    have hf2 := hFl f h1
    unfold grown at h2; split at h2
    ·simp at h2; omega
    ·obtain ⟨k, h3, rfl⟩ := List.mem_map.1 h2
     have hk := List.mem_range.1 (List.mem_filter.1 h3).1
     have : f ||| 2 ^ k < 2 ^ n := Nat.or_lt_two_pow hf2 (Nat.pow_lt_pow_right (by omega) hk)
     omega
   obtain ⟨G, hG, hGm⟩ := minimal_up hnext
   have hfam : Fam n (N ++ [s]) (up G) := ⟨⟨G, rfl, fun h => (hGm h).trans (step (hL s hs) hF h)⟩, by rw [← hG]; exact minimal_inc _⟩
   obtain ⟨H, h1, h2⟩ := ih (N ++ [s]) (up G) (by rw [hN]; simp) hfam
   refine ⟨H, ?_, h2⟩
   have hln : (F.flatMap (grown n s)).length ≤ LIM := by
    have : ∀ (F : List Nat), (F.flatMap (grown n s)).length ≤ F.length * 11 := by
     intro F
     induction F with
     | nil => simp
     | cons f F ih =>
      rw [List.flatMap_cons, List.length_append, List.length_cons]
      have := grown_len n s f
      omega
    have := this F
    have : LIM = 1073741824 := rfl
    omega
   rw [Comp.val_loop]
   show (vQ (up L) n (up F) (N.length : Int)).val.bind _ = _
   unfold vQ
   rw [gw, Comp.zb, if_pos (by simpa [up_len] using hNl), Comp.zH, gb hi, Option.bind_some, Comp.zH, l4_val hn (hL s hs) hFl (by omega), Option.bind_some]
   unfold core_Hitting_j3
   rw [Comp.zH, minimal_val (by rw [up_len]; exact hln), Option.bind_some, Comp.zK, Option.bind_some, hG, Comp.zQ (by omega)]
   have e : (N.length + 1) = (N ++ [s]).length := by simp
   rw [e]; exact h1
 obtain ⟨H, h1, h2⟩ := key L [] [0] rfl ⟨⟨[0], rfl, fun h => by rw [min_hits_nil]; simp⟩, by simp [Inc]⟩
 refine ⟨H, ?_, h2⟩
 have h1' : (Comp.loop (fun s => vQ (up L) n s.1 s.2) ([0], 0)).val = some H := h1
 rw [h1', Option.bind_some]
 unfold core_Hitting_j1
 rw [Comp.zK]
end Go.Cor
end
section
set_option linter.unusedVariables false
set_option linter.unusedSimpArgs false
namespace Go.Cor
open Go Go.Lift Go.F
theorem wf_u8 {n : Int} (h : (Lit.int .u8 n).wf = true) : ∃ b : Nat, b < 256 ∧ n = (b : Int) := by
 have h2 : 0 ≤ n ∧ n < 256 := by
  simp [Lit.wf, IntKind.min, IntKind.max, IntKind.bits, IntKind.signed] at h
  omega
 exact ⟨n.toNat, by omega, by omega⟩
theorem mod_val {z : Int} {m : Nat} (hm : 0 < m) (hm2 : m ≤ 4611686018427387904) : ∃ k : Nat, k < m ∧ (colletref01_Mod z (m : Int)).val = some (k : Int) := by
 unfold colletref01_Mod
 have h1 : -(m : Int) < z.tmod m ∧ z.tmod m < m := ⟨Int.lt_tmod_of_pos _ (by omega), Int.tmod_lt_of_pos _ (by omega)⟩
 rw [Comp.zb, if_neg (by simp; omega), Comp.zH, rem_val (by omega), Option.bind_some, Comp.zH, rem_val (by omega), Option.bind_some, Comp.zK]
 rw [IntWalk.i64_in _ ⟨by omega, by omega⟩]
 have h2 : 0 ≤ z.tmod m + m := by omega
 refine ⟨((z.tmod m + m).tmod m).toNat, ?_, ?_⟩
 ·have h3 := Int.tmod_lt_of_pos (z.tmod m + m) (b := (m : Int)) (by omega)
  have h4 := Int.tmod_nonneg (m : Int) h2
  omega
 ·have h4 := Int.tmod_nonneg (m : Int) h2
  rw [Int.toNat_of_nonneg h4]
end Go.Cor
end
section
set_option linter.unusedVariables false
set_option linter.unusedSimpArgs false
namespace Go.Cor
open Go Go.Lift Go.F
theorem wrap_pred {j : Nat} (h : j < 9223372036854775807) : IntKind.wrap .i64 (((j + 1 : Nat) : Int) - 1) = (j : Int) := by
 rw [IntWalk.i64_in _ ⟨by omega, by omega⟩]; omega
end Go.Cor
end
section
namespace Go.Cor
open Go Go.Lift Go.F
def own (N : Nat) (P : Nat → Bool) : List Bool := (List.range N).map P
theorem own_len (N : Nat) (P : Nat → Bool) : (own N P).length = N := by simp [own]
theorem own_get {N : Nat} {P : Nat → Bool} {s : Nat} (h : s < N) : (own N P)[s]? = some (P s) := by simp [own, h]
theorem jw {α : Type} {p : α → Bool} {L : List α} {k : Nat} {x : α} (h : L[k]? = some x) : (L.take (k + 1)).any p = ((L.take k).any p || p x) := by
 rw [List.take_add_one, h, List.any_append]; simp
def belowB (P : Nat → Bool) (m s : Nat) : Bool := (List.range m).all fun k => !s.testBit k || P (gR s (2 ^ k))
theorem without_le (s t : Nat) : gR s t ≤ s := Sub.le fun i hi => by rw [yt] at hi; simp at hi; exact hi.1
theorem any_all_not {α : Type} (p : α → Bool) : ∀ l : List α, (!l.any p) = l.all fun x => !p x
 | [] => rfl
 | x :: l => by rw [List.any_cons, List.all_cons, Bool.not_or, any_all_not p l]
theorem below_val {P : Nat → Bool} {m s : Nat} {z : Int} (hz : z = (m : Int)) (hm : m ≤ 10) (hs : s < 2 ^ m) : (yP (s : Int) z (own (2 ^ m) P)).val = some (belowB P m s) := by
 have hp : 2 ^ m ≤ 1024 := Nat.pow_le_pow_right (n := 2) (by omega) hm
 subst hz
 unfold yP
 have := Comp.loop_any (body := fun i => vI (m : Int) (s : Int) (own (2 ^ m) P) i) (List.range m) (fun k => s.testBit k && !P (gR s (2 ^ k))) false
  (by
   intro i k hk
   obtain ⟨hi, rfl⟩ := range_get hk
   have h2 : 2 ^ k ≤ 1024 := Nat.pow_le_pow_right (n := 2) (by omega) (by omega : k ≤ 10)
   have hw := without_le s (2 ^ k)
   have e : (idx (own (2 ^ m) P) (andNotB .i64 (s : Int) (shlF .i64 1 (k : Int)))).val = some (P (gR s (2 ^ k))) := by
    rw [shlF_nat (by omega), andNotB_nat (by omega) (by omega), gb (own_get (by omega))]
   unfold vI
   rw [decide_lt_nat, Comp.zb, if_pos (by simpa using hi), Comp.zH, gq (by omega), Option.bind_some, bit_eq (by omega) (by omega)]
   cases ht : s.testBit k with
   | false => simp [Comp.zH, Comp.val_gd, Comp.zQ (i := k) (by omega)]
   | true =>
    rw [Comp.zH, Comp.val_gd, if_pos (by simp), gq (by omega), Option.bind_some, Comp.zH, Comp.val_gd, if_pos (by simp), e, Option.bind_some, Comp.zH, Comp.zK, Option.bind_some, Comp.zb]
    cases P (gR s (2 ^ k)) <;> simp [Comp.zQ (i := k) (by omega)])
  (by
   unfold vI
   rw [List.length_range, Comp.zb, if_neg (by simp), Comp.zK])
 rw [Comp.zH, this, Option.bind_some]
 have e : belowB P m s = !((List.range m).any fun k => s.testBit k && !P (gR s (2 ^ k))) := by
  unfold belowB
  rw [any_all_not]
  congr 1; funext k
  cases s.testBit k <;> cases P (gR s (2 ^ k)) <;> rfl
 rw [e]
 cases (List.range m).any fun k => s.testBit k && !P (gR s (2 ^ k)) <;> simp [jL]
theorem only_val {N : Nat} (hN : N ≤ 1024) {f : Int → Comp Bool} {p : Nat → Bool} (hf : ∀ x, x < N → (f (x : Int)).val = some (p x)) : (core_only (N : Int) f).val = some (up ((List.range N).filter p)) := by
 have hLIM : LIM = 1073741824 := rfl
 unfold core_only
 have := Comp.loop_fold (body := fun s => gx (N : Int) f s.1 s.2) (List.range N) (fun acc x => acc ++ if p x = true then [(x : Int)] else []) id (fun a i => a.length ≤ i) []
  (by
   intro a i x hx hI
   obtain ⟨hi, rfl⟩ := range_get hx
   show (gx (N : Int) f a (x : Int)).val = _
   unfold gx
   rw [decide_lt_nat, Comp.zb, if_pos (by simpa using hi), Comp.zH, hf x hi, Option.bind_some, Comp.zb]
   by_cases ht : p x = true
   ·rw [if_pos ht, if_pos ht, Comp.zH, app_val (by simp; omega), Option.bind_some]
    simp only [core_only_j3, Comp.zK, Comp.zQ (i := x) (by omega)]
   ·rw [if_neg ht, if_neg ht, List.append_nil]
    simp only [core_only_j3, Comp.zK, Comp.zQ (i := x) (by omega)])
  (by
   intro a i x _ hI
   show (a ++ if p x = true then [(x : Int)] else []).length ≤ _
   split
   ·simp; omega
   ·simp; omega)
  (by
   intro a _
   show (gx (N : Int) f a ((List.range N).length : Int)).val = _
   unfold gx
   rw [List.length_range, Comp.zb, if_neg (by simp), Comp.zK]; rfl)
  (Nat.le_refl _)
 rw [Comp.zH, this, Option.bind_some, Comp.foldl_flatMap]
 unfold core_only_j1
 rw [Comp.zK]
 congr 1
 show [] ++ _ = _
 rw [List.nil_append]
 generalize List.range N = ks
 induction ks with
 | nil => rfl
 | cons k ks ih =>
  rw [List.flatMap_cons, List.filter_cons, ih]
  split <;> simp [up]
theorem pow_ok : ∀ m, m ≤ 6 → (bif (decide (((2 ^ m : Nat) : Int) = 0)) then true else (decide ((andB .i64 ((2 ^ m : Nat) : Int) (IntKind.wrap .i64 (((2 ^ m : Nat) : Int) - 1))) ≠ 0))) = false
 | 0, _ | 1, _ | 2, _ | 3, _ | 4, _ | 5, _ | 6, _ => by decide
 | m + 7, h => by omega
theorem len_val : ∀ m, m ≤ 6 → (math_bits_Len (IntKind.wrap .u64 ((2 ^ m : Nat) : Int))).val = some ((m + 1 : Nat) : Int)
 | 0, _ | 1, _ | 2, _ | 3, _ | 4, _ | 5, _ | 6, _ => Comp.val_run (n := 4) (by kernel_rfl)
 | m + 7, h => by omega
def conf (P : Nat → Bool) (m : Nat) : List Nat := (List.range (2 ^ m)).filter fun s => !P s && belowB P m s
theorem conflicts_val {P : Nat → Bool} {m : Nat} (hm : m ≤ 6) (hd : ∀ s t, P s = true → Sub t s → P t = true) : (jG (own (2 ^ m) P)).val = some (up (conf P m), 0) := by
 have hp : 2 ^ m ≤ 64 := Nat.pow_le_pow_right (n := 2) (by omega) hm
 unfold jG
 rw [own_len, Comp.zb, if_neg (by rw [decide_eq_true_iff]; omega), pow_ok m hm, Comp.zH, Comp.zK, Option.bind_some, Comp.zb, if_neg (by simp), Comp.zH, len_val m hm, Option.bind_some]
 have hz : IntKind.wrap .i64 (((m + 1 : Nat) : Int) - 1) = (m : Int) := wrap_pred (by omega)
 have h2 : (core_only ((2 ^ m : Nat) : Int) (fun z0 => gk z0 (own (2 ^ m) P) (fun z0 => yP z0 (IntKind.wrap .i64 (((m + 1 : Nat) : Int) - 1)) (own (2 ^ m) P)))).val = some (up ((List.range (2 ^ m)).filter fun s => P s && !belowB P m s)) := by
  refine only_val (Nat.le_trans hp (by decide)) fun x hx => ?_
  unfold gk
  rw [Comp.zH, gb (own_get hx), Option.bind_some, Comp.zH, Comp.val_gd, below_val hz (by omega) hx]
  cases P x <;> simp
 have h3 : (core_only ((2 ^ m : Nat) : Int) (fun z0 => gj z0 (own (2 ^ m) P) (fun z0 => yP z0 (IntKind.wrap .i64 (((m + 1 : Nat) : Int) - 1)) (own (2 ^ m) P)))).val = some (up (conf P m)) := by
  refine only_val (Nat.le_trans hp (by decide)) fun x hx => ?_
  unfold gj
  rw [Comp.zH, gb (own_get hx), Option.bind_some, Comp.zH, Comp.val_gd, below_val hz (by omega) hx]
  cases P x <;> simp
 have e : (List.range (2 ^ m)).filter (fun s => P s && !belowB P m s) = [] := by
  rw [List.filter_eq_nil_iff]
  intro s _ h
  simp only [Bool.and_eq_true, Bool.not_eq_true'] at h
  have : belowB P m s = true := by
   unfold belowB
   rw [List.all_eq_true]
   intro k _
   rw [hd s (gR s (2 ^ k)) h.1 (fun i hi => by rw [yt] at hi; simp at hi; exact hi.1)]
   simp
  rw [this] at h; exact absurd h.2 (by simp)
 rw [e] at h2
 rw [Comp.zH, h2, Option.bind_some, Comp.zb, if_neg (by simp [up]), Comp.zH, h3, Option.bind_some, Comp.zK]
theorem mem_conf {P : Nat → Bool} {m x : Nat} (hd : ∀ s t, P s = true → Sub t s → P t = true) : x ∈ conf P m ↔ x < 2 ^ m ∧ Min (fun s => P s = false) x := by
 unfold conf
 rw [List.mem_filter, List.mem_range]
 refine and_congr_right fun hx => ?_
 simp only [Bool.and_eq_true, Bool.not_eq_true']
 refine and_congr_right fun hPx => ?_
 constructor
 ·intro h g hg hs
  refine hs.antisymm fun k hk => ?_
  refine Classical.byContradiction fun hgk => ?_
  unfold belowB at h
  rw [List.all_eq_true] at h
  have := h k (List.mem_range.2 (bit_lt hx hk))
  simp only [hk, Bool.not_true, Bool.false_or] at this
  have h2 := hd _ g this fun i hi => by
   rw [yt, jx, hs i hi]
   have : k ≠ i := fun e => hgk (e ▸ hi)
   simp [this]
  rw [h2] at hg; cases hg
 ·intro h
  unfold belowB
  rw [List.all_eq_true]
  intro k _
  cases hk : x.testBit k with
  | false => rfl
  | true =>
   simp only [Bool.not_true, Bool.false_or]
   cases hP : P (gR x (2 ^ k)) with
   | true => rfl
   | false =>
    have := h _ hP fun i hi => by rw [yt] at hi; simp at hi; exact hi.1
    have h3 : (gR x (2 ^ k)).testBit k = true := by rw [this]; exact hk
    rw [yt, jx] at h3; simp at h3
theorem contains_iff {P : Nat → Bool} {m s : Nat} (hd : ∀ s t, P s = true → Sub t s → P t = true) (hs : s < 2 ^ m) : (∃ x ∈ conf P m, Sub x s) ↔ P s = false := by
 constructor
 ·rintro ⟨x, h1, h2⟩
  cases hP : P s with
  | false => rfl
  | true =>
   have := hd s x hP h2
   rw [((mem_conf hd).1 h1).2.1] at this; cases this
 ·intro h
  obtain ⟨x, h1, h2⟩ := exists_min (P := fun s => P s = false) s h
  exact ⟨x, (mem_conf hd).2 ⟨Nat.lt_of_le_of_lt h2.le hs, h1⟩, h2⟩
theorem compl_lt (n x : Nat) : compl n x < 2 ^ n := by
 have := without_le (2 ^ n - 1) x
 have := Nat.two_pow_pos n
 unfold compl; omega
theorem hits_compl {P : Nat → Bool} {m s : Nat} (hd : ∀ s t, P s = true → Sub t s → P t = true) (hs : s < 2 ^ m) : Hits (compl m s) (conf P m) ↔ P s = true := by
 have h := contains_iff hd hs
 constructor
 ·intro hh
  cases hP : P s with
  | true => rfl
  | false =>
   obtain ⟨x, h1, h2⟩ := h.2 hP
   obtain ⟨i, h3, h4⟩ := hh x h1
   rw [testBit_compl, h2 i h4] at h3; simp at h3
 ·intro hP x hx
  refine Classical.byContradiction fun hm => ?_
  have : Sub x s := by
   intro i hi
   refine Classical.byContradiction fun hsi => hm ⟨i, ?_, hi⟩
   rw [testBit_compl]; simp [bit_lt ((mem_conf hd).1 hx).1 hi]; simpa using hsi
  rw [h.1 ⟨x, hx, this⟩] at hP; cases hP
end Go.Cor
end
section
namespace Go.Cor
open Go Go.Lift Go.F
theorem mem_up_get {F : List Nat} {i x : Nat} (h : F[i]? = some x) : (up F)[i]? = some (x : Int) := by unfold up; rw [List.getElem?_map, h]; rfl
end Go.Cor
end
section
namespace Go.Cor
open Go Go.Lift Go.F
def popN : Nat → Nat → Nat
 | 0, _ => 0
 | k + 1, n => n % 2 + popN k (n / 2)
theorem popN_zero : ∀ k, popN k 0 = 0
 | 0 => rfl
 | k + 1 => by simp [popN, popN_zero k]
theorem testBit_div2 (n i : Nat) : (n / 2).testBit i = n.testBit (i + 1) := by rw [Nat.testBit_succ]
theorem bit0 (n : Nat) : n.testBit 0 = decide (n % 2 = 1) := Nat.testBit_zero n
end Go.Cor
end
section
namespace Go.Cor
open Go Go.Lift Go.F
def U (z : Int) : Nat := (z % 18446744073709551616).toNat
def pop (z : Int) : Nat := popN 64 (U z)
theorem wrapI_eq (z : Int) : (IntKind.wrap .i64 z) % 18446744073709551616 = z % 18446744073709551616 ∧ -9223372036854775808 ≤ IntKind.wrap .i64 z ∧ IntKind.wrap .i64 z ≤ 9223372036854775807 := by
 by_cases h : z % 18446744073709551616 ≥ 9223372036854775808
 ·have e : IntKind.wrap .i64 z = z % 18446744073709551616 - 18446744073709551616 := by simp [IntKind.wrap, IntKind.signed, IntKind.bits, h]
  rw [e]; omega
 ·have e : IntKind.wrap .i64 z = z % 18446744073709551616 := by simp [IntKind.wrap, IntKind.signed, IntKind.bits]; omega
  rw [e]; omega
theorem U_and (a b : Int) : U (andB .i64 a b) = U a &&& U b := by
 unfold andB
 unfold U
 rw [(wrapI_eq _).1, bits64, BitVec.toNat_and, BitVec.toNat_ofInt, BitVec.toNat_ofInt]
 have h : (a % 18446744073709551616).toNat &&& (b % 18446744073709551616).toNat < 2 ^ 64 := Nat.and_lt_two_pow _ (by omega)
 have e : (((a % ((2 ^ 64 : Nat) : Int)).toNat &&& (b % ((2 ^ 64 : Nat) : Int)).toNat : Nat) : Int) = (((a % 18446744073709551616).toNat &&& (b % 18446744073709551616).toNat : Nat) : Int) := rfl
 rw [e]
 omega
def I64 (z : Int) : Prop := -9223372036854775808 ≤ z ∧ z ≤ 9223372036854775807
theorem U_zero {z : Int} (h : I64 z) : U z = 0 ↔ z = 0 := by
 obtain ⟨h1, h2⟩ := h
 unfold U; omega
theorem U_inj {a b : Int} (ha : I64 a) (hb : I64 b) (h : U a = U b) : a = b := by
 obtain ⟨h1, h2⟩ := ha; obtain ⟨h3, h4⟩ := hb
 unfold U at h; omega
theorem andB_i64 (a b : Int) : I64 (andB .i64 a b) := by unfold andB; exact (wrapI_eq _).2
def first (b : Int) (l : List Int) : Int := l.foldl (fun b x => if pop x < pop b then x else b) b
end Go.Cor
end
section
set_option linter.unusedVariables false
set_option linter.unusedSimpArgs false
namespace Go.Cor
open Go Go.Lift Go.F
end Go.Cor
end
section
set_option linter.unusedVariables false
set_option linter.unusedSimpArgs false
namespace Go.Cor
open Go Go.Lift Go.F
theorem low_bit {z : Int} {k : Nat} (hk : k < 64) : andB .i64 (shrF .i64 z (k : Int)) 1 = ((U z / 2 ^ k % 2 : Nat) : Int) := by
 have hp : (0 : Int) < 2 ^ k := Int.pow_pos (by omega)
 have hs : shrF .i64 z (k : Int) = z / 2 ^ k := by
  unfold shrF
  rw [bits64, Int.toNat_natCast, Nat.min_eq_left (by omega), Int.fdiv_eq_ediv_of_nonneg _ (Int.le_of_lt hp)]
 have h1 : U (andB .i64 (z / 2 ^ k) 1) = U (z / 2 ^ k) % 2 := by
  rw [U_and, show U 1 = 1 from rfl, Nat.and_one_is_mod]
 have h2 : andB .i64 (z / 2 ^ k) 1 = ((U (z / 2 ^ k) % 2 : Nat) : Int) := by
  refine U_inj (andB_i64 _ _) ⟨by omega, by omega⟩ ?_
  rw [h1]; unfold U; omega
 rw [hs, h2]
 congr 1
 have h3 : U (z / 2 ^ k) % 2 = ((z / 2 ^ k) % 2).toNat := by unfold U; omega
 rw [h3]
 have hq : (2 : Int) ^ 64 = 2 ^ k * (2 * 2 ^ (63 - k)) := by
  rw [← Int.pow_succ', ← Int.pow_add]; congr 1; omega
 have h4 : ((U z : Nat) : Int) = z % 18446744073709551616 := by unfold U; omega
 have h5 : z / 2 ^ k = ((U z : Nat) : Int) / 2 ^ k + 2 * (2 ^ (63 - k) * (z / 18446744073709551616)) := by
  have e : z = ((U z : Nat) : Int) + 2 ^ k * (2 * (2 ^ (63 - k) * (z / 18446744073709551616))) := by
   have e1 : 2 ^ k * (2 * (2 ^ (63 - k) * (z / 18446744073709551616))) = 18446744073709551616 * (z / 18446744073709551616) := by
    rw [show (18446744073709551616 : Int) = 2 ^ 64 from rfl, hq]
    simp only [Int.mul_assoc]
   rw [e1, h4]; omega
  conv => lhs; rw [e]
  rw [Int.add_mul_ediv_left _ _ (by omega)]
 have h6 : ((U z : Nat) : Int) / 2 ^ k = ((U z / 2 ^ k : Nat) : Int) := by simp
 rw [h5, h6]
 omega
end Go.Cor
end
section
set_option linter.unusedVariables false
set_option linter.unusedSimpArgs false
namespace Go.Cor
open Go Go.Lift Go.F
end Go.Cor
end
section
set_option linter.unusedVariables false
set_option linter.unusedSimpArgs false
namespace Go.Cor
open Go Go.Lift Go.F
end Go.Cor
end
end
