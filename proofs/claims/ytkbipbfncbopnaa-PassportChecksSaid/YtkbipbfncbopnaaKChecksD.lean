/- Lemmas behind a claim of this seat. No statement of the program stands here. -/
import Derived.Test.YtkbipbfncbopnaaKChecksC
set_option linter.unusedSimpArgs false
set_option linter.unusedVariables false
section
namespace Go.Proofs.Ytkbipbfncbopnaa
open Go Go.RowKit Go.Eng Go.Lift Go.F
set_option linter.unusedVariables false
set_option linter.unusedSimpArgs false
set_option maxRecDepth 100000
theorem ok_passport_conditions {O : Tags} {w0 : World} (hO : OkO O w0) {v_0 : Value} {x_0 : List Bytes} (h_0 : (rSl rStr).v O w0 v_0 x_0) {x_1 : passport_place} {x_2 : aEn} {n : Nat} {y : (List passport_condition)} (h : (passport_conditions x_0 x_1 x_2).run n = some y) : Pure Try.prog 66 #[v_0, .agg #[.int .i64 x_1.at_, .int .i64 x_1.writer_, .int .i64 x_1.day_, .string (str x_1.prev_), .string (str x_1.before_)], .agg #[.int .i64 x_2.Seq, .int .i64 x_2.Shop, .int .i64 x_2.Kind, .int .i64 x_2.Day, .int .i64 x_2.N, .string (str x_2.Before), .string (str x_2.After), .string (str x_2.Prev), .string (str x_2.Mark)]] w0 (SP.ownr r_passport_condition 96 (w0.heap.size) O y).holds := by
 unfold passport_conditions at h
 refine pure_of_wp Try.func66 rfl 40 Try.ntmps66 (by simp) fun a0 hA hs0 => ?_
 have q0 : a0.get 0 = v_0 := hs0 0 _ rfl
 have q1 : a0.get 1 = .agg #[.int .i64 x_1.at_, .int .i64 x_1.writer_, .int .i64 x_1.day_, .string (str x_1.prev_), .string (str x_1.before_)] := hs0 1 _ rfl
 have q2 : a0.get 2 = .agg #[.int .i64 x_2.Seq, .int .i64 x_2.Shop, .int .i64 x_2.Kind, .int .i64 x_2.Day, .int .i64 x_2.N, .string (str x_2.Before), .string (str x_2.After), .string (str x_2.Prev), .string (str x_2.Mark)] := hs0 2 _ rfl
 clear hs0
 have hB : Base (Fr w0) O w0 O w0 := Base.start hO
 refine wp_seq ?_
 refine' region [SP.vl (rBox (rSl rStr)) O x_0, SP.vl (rBox r_passport_place) O x_1, SP.vl (rBox r_aEn) O x_2, _] mixed hA (.cons (fun _ _ hE hK hg => okl_boxV (r := (rSl rStr)) (fun _ => rfl) (OkO.ext hB.ok hE) (kn (hK 0 rfl) rfl q0) (GR.v_ext _ h_0 hE)) (.cons ?z1_1 (.cons ?z1_2 (.cons (fun _ _ hE hK hg => ok_assign rfl) .nil)))) ?zok1 ?zgd1 ?zk1
 case z1_1 => intro a' w' hE hK hg; exact okl_boxV (r := r_passport_place) fit_passport_place (OkO.ext hB.ok hE) (kn (hK 1 rfl) rfl q1) (by first | exact (rC_v (x := x_1)).2 rfl | exact ⟨_, rfl, rfl⟩)
 case z1_2 => intro a' w' hE hK hg; exact okl_boxV (r := r_aEn) fit_aEn (OkO.ext hB.ok hE) (kn (hK 2 rfl) rfl q2) (by first | exact (rC_v (x := x_2)).2 rfl | exact ⟨_, rfl, rfl⟩)
 case zok1 | zgd1 => kernel_rfl
 intro a1 w1 hA hE HF
 have f2 := ksp (HF 3) rfl rfl rfl
 obtain ⟨u1, q3'⟩ : ∃ u, a1.get 3 = u := ⟨_, rfl⟩
 rw [q3'] at f2
 have q3 := q3'; clear q3'
 have f4 := ksp (HF 4) rfl rfl rfl
 obtain ⟨u3, q4'⟩ : ∃ u, a1.get 4 = u := ⟨_, rfl⟩
 rw [q4'] at f4
 have q4 := q4'; clear q4'
 have f6 := ksp (HF 5) rfl rfl rfl
 obtain ⟨u5, q5'⟩ : ∃ u, a1.get 5 = u := ⟨_, rfl⟩
 rw [q5'] at f6
 have q5 := q5'; clear q5'
 clear q0
 clear q1
 clear q2
 clear HF
 replace h_0 := GR.v_ext _ h_0 hE
 replace hB := Base.step hB hE hO; clear hE
 refine li_nil (nx_then (wp_seq ?_))
 obtain ⟨J_, eJ_⟩ : ∃ J_ : (Nat → Bool) → Act → World → Prop, J_ = (fun S_ a_ w_ => ∃ O_ : Tags, Base (Fr w0) O w0 O_ w_ ∧ Keep 0 O w1 O_ w_ ∧ (S_ 0 = true → PtrZ (rInt .i64) O_ w_ (a_.get 10) x_2.Kind) ∧ (S_ 3 = true → PtrZ (rInt .i64) O_ w_ (a_.get 13) x_2.Kind) ∧ (S_ 6 = true → PtrZ (rInt .i64) O_ w_ (a_.get 16) x_2.Kind) ∧ (S_ 9 = true → S_ 12 = false → OwnBP 1 (Fr w0) O_ w_ (a_.get 7) #[.bool false] 4) ∧ (S_ 12 = true → OwnBP 1 (Fr w0) O_ w_ (a_.get 7) #[.bool (decide (x_2.Kind = 4))] 4) ∧ (S_ 10 = true → S_ 13 = false → OwnBP 2 (Fr w0) O_ w_ (a_.get 8) #[.bool false] 4) ∧ (S_ 13 = true → OwnBP 2 (Fr w0) O_ w_ (a_.get 8) #[.bool (decide (x_2.Kind = 2))] 4) ∧ (S_ 11 = true → S_ 14 = false → OwnBP 3 (Fr w0) O_ w_ (a_.get 9) #[.bool false] 4) ∧ (S_ 14 = true → OwnBP 3 (Fr w0) O_ w_ (a_.get 9) #[.bool (decide (x_2.Kind = 1))] 4)) := ⟨_, rfl⟩
 have T_ : ∀ {i_ : Nat} {d_ : Option Tmp} {v_ : Value} {S_ a' w' w2}, Nat.beq 0 i_ = false → Nat.beq 3 i_ = false → Nat.beq 6 i_ = false → Nat.beq 9 i_ = false → Nat.beq 10 i_ = false → Nat.beq 11 i_ = false → Nat.beq 12 i_ = false → Nat.beq 13 i_ = false → Nat.beq 14 i_ = false → d_ ≠ some 7 → d_ ≠ some 8 → d_ ≠ some 9 → d_ ≠ some 10 → d_ ≠ some 13 → d_ ≠ some 16 → Ext w' w2 → J_ S_ a' w' → J_ (addS S_ i_) (a'.put d_ v_) w2 := by
  subst eJ_; intro i_ d_ v_ S_ a' w' w2 n0_ n3_ n6_ n9_ n10_ n11_ n12_ n13_ n14_ s7_ s8_ s9_ s10_ s13_ s16_ hE hJ_
  obtain ⟨O_, hB_, k0_, m0_, m3_, m6_, v0_0_, v0_1_, v1_0_, v1_1_, v2_0_, v2_1_⟩ := hJ_
  exact ⟨O_, (Base.step hB_ hE hO), (k0_.trans (KX.keep (KX.ext hE) (by decide))), fun h_ => po_ (d := d_) (t := 10) (φ := fun u_ => PtrZ (rInt .i64) O_ w2 u_ x_2.Kind) ((PtrZ.keep (m0_ (addS_off n0_ h_)) (KX.keep (KX.ext hE) (by decide)) (by decide) (fun _ => rfl))) s10_, fun h_ => po_ (d := d_) (t := 13) (φ := fun u_ => PtrZ (rInt .i64) O_ w2 u_ x_2.Kind) ((PtrZ.keep (m3_ (addS_off n3_ h_)) (KX.keep (KX.ext hE) (by decide)) (by decide) (fun _ => rfl))) s13_, fun h_ => po_ (d := d_) (t := 16) (φ := fun u_ => PtrZ (rInt .i64) O_ w2 u_ x_2.Kind) ((PtrZ.keep (m6_ (addS_off n6_ h_)) (KX.keep (KX.ext hE) (by decide)) (by decide) (fun _ => rfl))) s16_, fun hp_ hq_ => po_ (d := d_) (t := 7) (φ := fun u_ => OwnBP 1 (Fr w0) O_ w2 (u_) #[.bool false] 4) (OwnBP.kx (v0_0_ (addS_off n9_ hp_) (addS_no hq_)) (KX.ext hE) (by decide)) s7_, fun hp_ => po_ (d := d_) (t := 7) (φ := fun u_ => OwnBP 1 (Fr w0) O_ w2 (u_) #[.bool (decide (x_2.Kind = 4))] 4) (OwnBP.kx (v0_1_ (addS_off n12_ hp_)) (KX.ext hE) (by decide)) s7_, fun hp_ hq_ => po_ (d := d_) (t := 8) (φ := fun u_ => OwnBP 2 (Fr w0) O_ w2 (u_) #[.bool false] 4) (OwnBP.kx (v1_0_ (addS_off n10_ hp_) (addS_no hq_)) (KX.ext hE) (by decide)) s8_, fun hp_ => po_ (d := d_) (t := 8) (φ := fun u_ => OwnBP 2 (Fr w0) O_ w2 (u_) #[.bool (decide (x_2.Kind = 2))] 4) (OwnBP.kx (v1_1_ (addS_off n13_ hp_)) (KX.ext hE) (by decide)) s8_, fun hp_ hq_ => po_ (d := d_) (t := 9) (φ := fun u_ => OwnBP 3 (Fr w0) O_ w2 (u_) #[.bool false] 4) (OwnBP.kx (v2_0_ (addS_off n11_ hp_) (addS_no hq_)) (KX.ext hE) (by decide)) s9_, fun hp_ => po_ (d := d_) (t := 9) (φ := fun u_ => OwnBP 3 (Fr w0) O_ w2 (u_) #[.bool (decide (x_2.Kind = 1))] 4) (OwnBP.kx (v2_1_ (addS_off n14_ hp_)) (KX.ext hE) (by decide)) s9_⟩
 refine' regionX (draw := true) J_ [SP.tt, SP.isv (.int .i64 x_2.Kind), SP.isv (.bool (decide (x_2.Kind = 4))), SP.tt, SP.isv (.int .i64 x_2.Kind), SP.isv (.bool (decide (x_2.Kind = 2))), SP.tt, SP.isv (.int .i64 x_2.Kind), SP.isv (.bool (decide (x_2.Kind = 1))), SP.tt, SP.tt, SP.tt, SP.tt, SP.tt, SP.tt] mixed hA (.cons (stE_tt _) (.cons (stE_isv _) (.cons (stE_isv _) (.cons (stE_tt _) (.cons (stE_isv _) (.cons (stE_isv _) (.cons (stE_tt _) (.cons (stE_isv _) (.cons (stE_isv _) (.cons (stE_tt _) (.cons (stE_tt _) (.cons (stE_tt _) (.cons (stE_tt _) (.cons (stE_tt _) (.cons (stE_tt _) .nil))))))))))))))) (.cons ?z2_0 (.cons ?z2_1 (.cons ?z2_2 (.cons ?z2_3 (.cons ?z2_4 (.cons ?z2_5 (.cons ?z2_6 (.cons ?z2_7 (.cons ?z2_8 (.cons ?z2_9 (.cons ?z2_10 (.cons ?z2_11 (.cons ?z2_12 (.cons ?z2_13 (.cons ?z2_14 .nil))))))))))))))) ?zsk2 ?zst2 ?zok2 ?zgd2 ?zk2
 case z2_0 =>
  intro S_ a' w' hA_ hJ_ hS_ hafter_ hbef_ hK hg K_ Q_ hK_
  subst eJ_
  obtain ⟨O_, hB_, k0_, m0_, m3_, m6_, v0_0_, v0_1_, v1_0_, v1_1_, v2_0_, v2_1_⟩ := hJ_
  refine x_ok (φ := SP.ptrz (rInt .i64) O_ x_2.Kind (of_decide_eq_true rfl) (fun _ => rfl)) (by exact okl_fldZ (S := r_aEn) rfl (by decide) (fun _ => rfl) sb_aEn_2 fl26_2 (kn (hK 5 rfl) rfl q5) (ptrz_of_box fit_aEn (GR.v_mono _ f6 k0_))) fun v_ w2 hE hv_ => ?_
  have hB2_ := Base.step hB_ hE hO
  exact hK_ v_ w2 ⟨O_, hB2_, (k0_.trans (KX.keep (KX.ext hE) (by decide))), fun _ => put_me (φ := fun u_ => PtrZ (rInt .i64) O_ w2 u_ x_2.Kind) hA_ (by decide) hv_, fun h_ => po_ (d := some 10) (t := 13) (φ := fun u_ => PtrZ (rInt .i64) O_ w2 u_ x_2.Kind) ((PtrZ.keep (m3_ (addS_off rfl h_)) (KX.keep (KX.ext hE) (by decide)) (by decide) (fun _ => rfl))) (by decide), fun h_ => po_ (d := some 10) (t := 16) (φ := fun u_ => PtrZ (rInt .i64) O_ w2 u_ x_2.Kind) ((PtrZ.keep (m6_ (addS_off rfl h_)) (KX.keep (KX.ext hE) (by decide)) (by decide) (fun _ => rfl))) (by decide), fun hp_ hq_ => po_ (d := some 10) (t := 7) (φ := fun u_ => OwnBP 1 (Fr w0) O_ w2 (u_) #[.bool false] 4) (OwnBP.kx (v0_0_ (addS_off rfl hp_) (addS_no hq_)) (KX.ext hE) (by decide)) (by decide), fun hp_ => po_ (d := some 10) (t := 7) (φ := fun u_ => OwnBP 1 (Fr w0) O_ w2 (u_) #[.bool (decide (x_2.Kind = 4))] 4) (OwnBP.kx (v0_1_ (addS_off rfl hp_)) (KX.ext hE) (by decide)) (by decide), fun hp_ hq_ => po_ (d := some 10) (t := 8) (φ := fun u_ => OwnBP 2 (Fr w0) O_ w2 (u_) #[.bool false] 4) (OwnBP.kx (v1_0_ (addS_off rfl hp_) (addS_no hq_)) (KX.ext hE) (by decide)) (by decide), fun hp_ => po_ (d := some 10) (t := 8) (φ := fun u_ => OwnBP 2 (Fr w0) O_ w2 (u_) #[.bool (decide (x_2.Kind = 2))] 4) (OwnBP.kx (v1_1_ (addS_off rfl hp_)) (KX.ext hE) (by decide)) (by decide), fun hp_ hq_ => po_ (d := some 10) (t := 9) (φ := fun u_ => OwnBP 3 (Fr w0) O_ w2 (u_) #[.bool false] 4) (OwnBP.kx (v2_0_ (addS_off rfl hp_) (addS_no hq_)) (KX.ext hE) (by decide)) (by decide), fun hp_ => po_ (d := some 10) (t := 9) (φ := fun u_ => OwnBP 3 (Fr w0) O_ w2 (u_) #[.bool (decide (x_2.Kind = 1))] 4) (OwnBP.kx (v2_1_ (addS_off rfl hp_)) (KX.ext hE) (by decide)) (by decide)⟩ trivial
 case z2_1 =>
  intro S_ a' w' hA_ hJ_ hS_ hafter_ hbef_ hK hg K_ Q_ hK_
  have hJ2_ := hJ_; rw [eJ_] at hJ2_; obtain ⟨O_, hB_, k0_, m0_, m3_, m6_, v0_0_, v0_1_, v1_0_, v1_1_, v2_0_, v2_1_⟩ := hJ2_
  refine x_ok (φ := SP.isv (.int .i64 x_2.Kind)) (by exact okl_ldr (rInt .i64) (fun _ => rfl) ty3 rfl rfl rfl (PtrZ.ptr (m0_ (addS_off rfl (hbef_ 0 (by kernel_rfl))))) (fun _ _ _ h => rInt_v.1 h)) fun v_ w2 hE hv_ => hK_ v_ w2 (T_ rfl rfl rfl rfl rfl rfl rfl rfl rfl (by decide) (by decide) (by decide) (by decide) (by decide) (by decide) hE hJ_) hv_
 case z2_2 =>
  intro S_ a' w' hA_ hJ_ hS_ hafter_ hbef_ hK hg K_ Q_ hK_
  refine x_ok (φ := SP.isv (.bool (decide (x_2.Kind = 4)))) (by exact ok_eqlI (ksv (j := 1) (hK 11 rfl) rfl rfl rfl) rfl) fun v_ w2 hE hv_ => hK_ v_ w2 (T_ rfl rfl rfl rfl rfl rfl rfl rfl rfl (by decide) (by decide) (by decide) (by decide) (by decide) (by decide) hE hJ_) hv_
 case z2_3 =>
  intro S_ a' w' hA_ hJ_ hS_ hafter_ hbef_ hK hg K_ Q_ hK_
  subst eJ_
  obtain ⟨O_, hB_, k0_, m0_, m3_, m6_, v0_0_, v0_1_, v1_0_, v1_1_, v2_0_, v2_1_⟩ := hJ_
  refine x_ok (φ := SP.ptrz (rInt .i64) O_ x_2.Kind (of_decide_eq_true rfl) (fun _ => rfl)) (by exact okl_fldZ (S := r_aEn) rfl (by decide) (fun _ => rfl) sb_aEn_2 fl26_2 (kn (hK 5 rfl) rfl q5) (ptrz_of_box fit_aEn (GR.v_mono _ f6 k0_))) fun v_ w2 hE hv_ => ?_
  have hB2_ := Base.step hB_ hE hO
  exact hK_ v_ w2 ⟨O_, hB2_, (k0_.trans (KX.keep (KX.ext hE) (by decide))), fun h_ => po_ (d := some 13) (t := 10) (φ := fun u_ => PtrZ (rInt .i64) O_ w2 u_ x_2.Kind) ((PtrZ.keep (m0_ (addS_off rfl h_)) (KX.keep (KX.ext hE) (by decide)) (by decide) (fun _ => rfl))) (by decide), fun _ => put_me (φ := fun u_ => PtrZ (rInt .i64) O_ w2 u_ x_2.Kind) hA_ (by decide) hv_, fun h_ => po_ (d := some 13) (t := 16) (φ := fun u_ => PtrZ (rInt .i64) O_ w2 u_ x_2.Kind) ((PtrZ.keep (m6_ (addS_off rfl h_)) (KX.keep (KX.ext hE) (by decide)) (by decide) (fun _ => rfl))) (by decide), fun hp_ hq_ => po_ (d := some 13) (t := 7) (φ := fun u_ => OwnBP 1 (Fr w0) O_ w2 (u_) #[.bool false] 4) (OwnBP.kx (v0_0_ (addS_off rfl hp_) (addS_no hq_)) (KX.ext hE) (by decide)) (by decide), fun hp_ => po_ (d := some 13) (t := 7) (φ := fun u_ => OwnBP 1 (Fr w0) O_ w2 (u_) #[.bool (decide (x_2.Kind = 4))] 4) (OwnBP.kx (v0_1_ (addS_off rfl hp_)) (KX.ext hE) (by decide)) (by decide), fun hp_ hq_ => po_ (d := some 13) (t := 8) (φ := fun u_ => OwnBP 2 (Fr w0) O_ w2 (u_) #[.bool false] 4) (OwnBP.kx (v1_0_ (addS_off rfl hp_) (addS_no hq_)) (KX.ext hE) (by decide)) (by decide), fun hp_ => po_ (d := some 13) (t := 8) (φ := fun u_ => OwnBP 2 (Fr w0) O_ w2 (u_) #[.bool (decide (x_2.Kind = 2))] 4) (OwnBP.kx (v1_1_ (addS_off rfl hp_)) (KX.ext hE) (by decide)) (by decide), fun hp_ hq_ => po_ (d := some 13) (t := 9) (φ := fun u_ => OwnBP 3 (Fr w0) O_ w2 (u_) #[.bool false] 4) (OwnBP.kx (v2_0_ (addS_off rfl hp_) (addS_no hq_)) (KX.ext hE) (by decide)) (by decide), fun hp_ => po_ (d := some 13) (t := 9) (φ := fun u_ => OwnBP 3 (Fr w0) O_ w2 (u_) #[.bool (decide (x_2.Kind = 1))] 4) (OwnBP.kx (v2_1_ (addS_off rfl hp_)) (KX.ext hE) (by decide)) (by decide)⟩ trivial
 case z2_4 =>
  intro S_ a' w' hA_ hJ_ hS_ hafter_ hbef_ hK hg K_ Q_ hK_
  have hJ2_ := hJ_; rw [eJ_] at hJ2_; obtain ⟨O_, hB_, k0_, m0_, m3_, m6_, v0_0_, v0_1_, v1_0_, v1_1_, v2_0_, v2_1_⟩ := hJ2_
  refine x_ok (φ := SP.isv (.int .i64 x_2.Kind)) (by exact okl_ldr (rInt .i64) (fun _ => rfl) ty3 rfl rfl rfl (PtrZ.ptr (m3_ (addS_off rfl (hbef_ 3 (by kernel_rfl))))) (fun _ _ _ h => rInt_v.1 h)) fun v_ w2 hE hv_ => hK_ v_ w2 (T_ rfl rfl rfl rfl rfl rfl rfl rfl rfl (by decide) (by decide) (by decide) (by decide) (by decide) (by decide) hE hJ_) hv_
 case z2_5 =>
  intro S_ a' w' hA_ hJ_ hS_ hafter_ hbef_ hK hg K_ Q_ hK_
  refine x_ok (φ := SP.isv (.bool (decide (x_2.Kind = 2)))) (by exact ok_eqlI (ksv (j := 4) (hK 14 rfl) rfl rfl rfl) rfl) fun v_ w2 hE hv_ => hK_ v_ w2 (T_ rfl rfl rfl rfl rfl rfl rfl rfl rfl (by decide) (by decide) (by decide) (by decide) (by decide) (by decide) hE hJ_) hv_
 case z2_6 =>
  intro S_ a' w' hA_ hJ_ hS_ hafter_ hbef_ hK hg K_ Q_ hK_
  subst eJ_
  obtain ⟨O_, hB_, k0_, m0_, m3_, m6_, v0_0_, v0_1_, v1_0_, v1_1_, v2_0_, v2_1_⟩ := hJ_
  refine x_ok (φ := SP.ptrz (rInt .i64) O_ x_2.Kind (of_decide_eq_true rfl) (fun _ => rfl)) (by exact okl_fldZ (S := r_aEn) rfl (by decide) (fun _ => rfl) sb_aEn_2 fl26_2 (kn (hK 5 rfl) rfl q5) (ptrz_of_box fit_aEn (GR.v_mono _ f6 k0_))) fun v_ w2 hE hv_ => ?_
  have hB2_ := Base.step hB_ hE hO
  exact hK_ v_ w2 ⟨O_, hB2_, (k0_.trans (KX.keep (KX.ext hE) (by decide))), fun h_ => po_ (d := some 16) (t := 10) (φ := fun u_ => PtrZ (rInt .i64) O_ w2 u_ x_2.Kind) ((PtrZ.keep (m0_ (addS_off rfl h_)) (KX.keep (KX.ext hE) (by decide)) (by decide) (fun _ => rfl))) (by decide), fun h_ => po_ (d := some 16) (t := 13) (φ := fun u_ => PtrZ (rInt .i64) O_ w2 u_ x_2.Kind) ((PtrZ.keep (m3_ (addS_off rfl h_)) (KX.keep (KX.ext hE) (by decide)) (by decide) (fun _ => rfl))) (by decide), fun _ => put_me (φ := fun u_ => PtrZ (rInt .i64) O_ w2 u_ x_2.Kind) hA_ (by decide) hv_, fun hp_ hq_ => po_ (d := some 16) (t := 7) (φ := fun u_ => OwnBP 1 (Fr w0) O_ w2 (u_) #[.bool false] 4) (OwnBP.kx (v0_0_ (addS_off rfl hp_) (addS_no hq_)) (KX.ext hE) (by decide)) (by decide), fun hp_ => po_ (d := some 16) (t := 7) (φ := fun u_ => OwnBP 1 (Fr w0) O_ w2 (u_) #[.bool (decide (x_2.Kind = 4))] 4) (OwnBP.kx (v0_1_ (addS_off rfl hp_)) (KX.ext hE) (by decide)) (by decide), fun hp_ hq_ => po_ (d := some 16) (t := 8) (φ := fun u_ => OwnBP 2 (Fr w0) O_ w2 (u_) #[.bool false] 4) (OwnBP.kx (v1_0_ (addS_off rfl hp_) (addS_no hq_)) (KX.ext hE) (by decide)) (by decide), fun hp_ => po_ (d := some 16) (t := 8) (φ := fun u_ => OwnBP 2 (Fr w0) O_ w2 (u_) #[.bool (decide (x_2.Kind = 2))] 4) (OwnBP.kx (v1_1_ (addS_off rfl hp_)) (KX.ext hE) (by decide)) (by decide), fun hp_ hq_ => po_ (d := some 16) (t := 9) (φ := fun u_ => OwnBP 3 (Fr w0) O_ w2 (u_) #[.bool false] 4) (OwnBP.kx (v2_0_ (addS_off rfl hp_) (addS_no hq_)) (KX.ext hE) (by decide)) (by decide), fun hp_ => po_ (d := some 16) (t := 9) (φ := fun u_ => OwnBP 3 (Fr w0) O_ w2 (u_) #[.bool (decide (x_2.Kind = 1))] 4) (OwnBP.kx (v2_1_ (addS_off rfl hp_)) (KX.ext hE) (by decide)) (by decide)⟩ trivial
 case z2_7 =>
  intro S_ a' w' hA_ hJ_ hS_ hafter_ hbef_ hK hg K_ Q_ hK_
  have hJ2_ := hJ_; rw [eJ_] at hJ2_; obtain ⟨O_, hB_, k0_, m0_, m3_, m6_, v0_0_, v0_1_, v1_0_, v1_1_, v2_0_, v2_1_⟩ := hJ2_
  refine x_ok (φ := SP.isv (.int .i64 x_2.Kind)) (by exact okl_ldr (rInt .i64) (fun _ => rfl) ty3 rfl rfl rfl (PtrZ.ptr (m6_ (addS_off rfl (hbef_ 6 (by kernel_rfl))))) (fun _ _ _ h => rInt_v.1 h)) fun v_ w2 hE hv_ => hK_ v_ w2 (T_ rfl rfl rfl rfl rfl rfl rfl rfl rfl (by decide) (by decide) (by decide) (by decide) (by decide) (by decide) hE hJ_) hv_
 case z2_8 =>
  intro S_ a' w' hA_ hJ_ hS_ hafter_ hbef_ hK hg K_ Q_ hK_
  refine x_ok (φ := SP.isv (.bool (decide (x_2.Kind = 1)))) (by exact ok_eqlI (ksv (j := 7) (hK 17 rfl) rfl rfl rfl) rfl) fun v_ w2 hE hv_ => hK_ v_ w2 (T_ rfl rfl rfl rfl rfl rfl rfl rfl rfl (by decide) (by decide) (by decide) (by decide) (by decide) (by decide) hE hJ_) hv_
 case z2_9 =>
  intro S_ a' w' hA_ hJ_ hS_ hafter_ hbef_ hK hg K_ Q_ hK_
  subst eJ_
  obtain ⟨O_, hB_, k0_, m0_, m3_, m6_, v0_0_, v0_1_, v1_0_, v1_1_, v2_0_, v2_1_⟩ := hJ_
  refine x_ok (φ := SP.box w'.heap.size #[.bool false] 4) (by exact ok_alloc (Nat.le_refl _) ty4) fun v_ w2 hE hv_ => ?_
  obtain ⟨O2_, b_, hB2_, hX_, e_, f_⟩ := boxNew hO hB_ hE hv_ 1 (by decide)
  exact hK_ v_ w2 ⟨O2_, hB2_, (k0_.trans (KX.keep hX_ (by decide))), fun h_ => po_ (d := some 7) (t := 10) (φ := fun u_ => PtrZ (rInt .i64) O2_ w2 u_ x_2.Kind) ((PtrZ.keep (m0_ (addS_off rfl h_)) (KX.keep hX_ (by decide)) (by decide) (fun _ => rfl))) (by decide), fun h_ => po_ (d := some 7) (t := 13) (φ := fun u_ => PtrZ (rInt .i64) O2_ w2 u_ x_2.Kind) ((PtrZ.keep (m3_ (addS_off rfl h_)) (KX.keep hX_ (by decide)) (by decide) (fun _ => rfl))) (by decide), fun h_ => po_ (d := some 7) (t := 16) (φ := fun u_ => PtrZ (rInt .i64) O2_ w2 u_ x_2.Kind) ((PtrZ.keep (m6_ (addS_off rfl h_)) (KX.keep hX_ (by decide)) (by decide) (fun _ => rfl))) (by decide), fun hp_ hq_ => put_me (φ := fun u_ => OwnBP 1 (Fr w0) O2_ w2 (u_) #[.bool false] 4) hA_ (by decide) ⟨b_, e_, f_⟩, fun hp_ => no_tf (addS_off rfl hp_) (hafter_ 12 (by kernel_rfl)), fun hp_ hq_ => po_ (d := some 7) (t := 8) (φ := fun u_ => OwnBP 2 (Fr w0) O2_ w2 (u_) #[.bool false] 4) (OwnBP.kx (v1_0_ (addS_off rfl hp_) (addS_no hq_)) hX_ (by decide)) (by decide), fun hp_ => po_ (d := some 7) (t := 8) (φ := fun u_ => OwnBP 2 (Fr w0) O2_ w2 (u_) #[.bool (decide (x_2.Kind = 2))] 4) (OwnBP.kx (v1_1_ (addS_off rfl hp_)) hX_ (by decide)) (by decide), fun hp_ hq_ => po_ (d := some 7) (t := 9) (φ := fun u_ => OwnBP 3 (Fr w0) O2_ w2 (u_) #[.bool false] 4) (OwnBP.kx (v2_0_ (addS_off rfl hp_) (addS_no hq_)) hX_ (by decide)) (by decide), fun hp_ => po_ (d := some 7) (t := 9) (φ := fun u_ => OwnBP 3 (Fr w0) O2_ w2 (u_) #[.bool (decide (x_2.Kind = 1))] 4) (OwnBP.kx (v2_1_ (addS_off rfl hp_)) hX_ (by decide)) (by decide)⟩ trivial
 case z2_10 =>
  intro S_ a' w' hA_ hJ_ hS_ hafter_ hbef_ hK hg K_ Q_ hK_
  subst eJ_
  obtain ⟨O_, hB_, k0_, m0_, m3_, m6_, v0_0_, v0_1_, v1_0_, v1_1_, v2_0_, v2_1_⟩ := hJ_
  refine x_ok (φ := SP.box w'.heap.size #[.bool false] 4) (by exact ok_alloc (Nat.le_refl _) ty4) fun v_ w2 hE hv_ => ?_
  obtain ⟨O2_, b_, hB2_, hX_, e_, f_⟩ := boxNew hO hB_ hE hv_ 2 (by decide)
  exact hK_ v_ w2 ⟨O2_, hB2_, (k0_.trans (KX.keep hX_ (by decide))), fun h_ => po_ (d := some 8) (t := 10) (φ := fun u_ => PtrZ (rInt .i64) O2_ w2 u_ x_2.Kind) ((PtrZ.keep (m0_ (addS_off rfl h_)) (KX.keep hX_ (by decide)) (by decide) (fun _ => rfl))) (by decide), fun h_ => po_ (d := some 8) (t := 13) (φ := fun u_ => PtrZ (rInt .i64) O2_ w2 u_ x_2.Kind) ((PtrZ.keep (m3_ (addS_off rfl h_)) (KX.keep hX_ (by decide)) (by decide) (fun _ => rfl))) (by decide), fun h_ => po_ (d := some 8) (t := 16) (φ := fun u_ => PtrZ (rInt .i64) O2_ w2 u_ x_2.Kind) ((PtrZ.keep (m6_ (addS_off rfl h_)) (KX.keep hX_ (by decide)) (by decide) (fun _ => rfl))) (by decide), fun hp_ hq_ => po_ (d := some 8) (t := 7) (φ := fun u_ => OwnBP 1 (Fr w0) O2_ w2 (u_) #[.bool false] 4) (OwnBP.kx (v0_0_ (addS_off rfl hp_) (addS_no hq_)) hX_ (by decide)) (by decide), fun hp_ => po_ (d := some 8) (t := 7) (φ := fun u_ => OwnBP 1 (Fr w0) O2_ w2 (u_) #[.bool (decide (x_2.Kind = 4))] 4) (OwnBP.kx (v0_1_ (addS_off rfl hp_)) hX_ (by decide)) (by decide), fun hp_ hq_ => put_me (φ := fun u_ => OwnBP 2 (Fr w0) O2_ w2 (u_) #[.bool false] 4) hA_ (by decide) ⟨b_, e_, f_⟩, fun hp_ => no_tf (addS_off rfl hp_) (hafter_ 13 (by kernel_rfl)), fun hp_ hq_ => po_ (d := some 8) (t := 9) (φ := fun u_ => OwnBP 3 (Fr w0) O2_ w2 (u_) #[.bool false] 4) (OwnBP.kx (v2_0_ (addS_off rfl hp_) (addS_no hq_)) hX_ (by decide)) (by decide), fun hp_ => po_ (d := some 8) (t := 9) (φ := fun u_ => OwnBP 3 (Fr w0) O2_ w2 (u_) #[.bool (decide (x_2.Kind = 1))] 4) (OwnBP.kx (v2_1_ (addS_off rfl hp_)) hX_ (by decide)) (by decide)⟩ trivial
 case z2_11 =>
  intro S_ a' w' hA_ hJ_ hS_ hafter_ hbef_ hK hg K_ Q_ hK_
  subst eJ_
  obtain ⟨O_, hB_, k0_, m0_, m3_, m6_, v0_0_, v0_1_, v1_0_, v1_1_, v2_0_, v2_1_⟩ := hJ_
  refine x_ok (φ := SP.box w'.heap.size #[.bool false] 4) (by exact ok_alloc (Nat.le_refl _) ty4) fun v_ w2 hE hv_ => ?_
  obtain ⟨O2_, b_, hB2_, hX_, e_, f_⟩ := boxNew hO hB_ hE hv_ 3 (by decide)
  exact hK_ v_ w2 ⟨O2_, hB2_, (k0_.trans (KX.keep hX_ (by decide))), fun h_ => po_ (d := some 9) (t := 10) (φ := fun u_ => PtrZ (rInt .i64) O2_ w2 u_ x_2.Kind) ((PtrZ.keep (m0_ (addS_off rfl h_)) (KX.keep hX_ (by decide)) (by decide) (fun _ => rfl))) (by decide), fun h_ => po_ (d := some 9) (t := 13) (φ := fun u_ => PtrZ (rInt .i64) O2_ w2 u_ x_2.Kind) ((PtrZ.keep (m3_ (addS_off rfl h_)) (KX.keep hX_ (by decide)) (by decide) (fun _ => rfl))) (by decide), fun h_ => po_ (d := some 9) (t := 16) (φ := fun u_ => PtrZ (rInt .i64) O2_ w2 u_ x_2.Kind) ((PtrZ.keep (m6_ (addS_off rfl h_)) (KX.keep hX_ (by decide)) (by decide) (fun _ => rfl))) (by decide), fun hp_ hq_ => po_ (d := some 9) (t := 7) (φ := fun u_ => OwnBP 1 (Fr w0) O2_ w2 (u_) #[.bool false] 4) (OwnBP.kx (v0_0_ (addS_off rfl hp_) (addS_no hq_)) hX_ (by decide)) (by decide), fun hp_ => po_ (d := some 9) (t := 7) (φ := fun u_ => OwnBP 1 (Fr w0) O2_ w2 (u_) #[.bool (decide (x_2.Kind = 4))] 4) (OwnBP.kx (v0_1_ (addS_off rfl hp_)) hX_ (by decide)) (by decide), fun hp_ hq_ => po_ (d := some 9) (t := 8) (φ := fun u_ => OwnBP 2 (Fr w0) O2_ w2 (u_) #[.bool false] 4) (OwnBP.kx (v1_0_ (addS_off rfl hp_) (addS_no hq_)) hX_ (by decide)) (by decide), fun hp_ => po_ (d := some 9) (t := 8) (φ := fun u_ => OwnBP 2 (Fr w0) O2_ w2 (u_) #[.bool (decide (x_2.Kind = 2))] 4) (OwnBP.kx (v1_1_ (addS_off rfl hp_)) hX_ (by decide)) (by decide), fun hp_ hq_ => put_me (φ := fun u_ => OwnBP 3 (Fr w0) O2_ w2 (u_) #[.bool false] 4) hA_ (by decide) ⟨b_, e_, f_⟩, fun hp_ => no_tf (addS_off rfl hp_) (hafter_ 14 (by kernel_rfl))⟩ trivial
 case z2_12 =>
  intro S_ a' w' hA_ hJ_ hS_ hafter_ hbef_ hK hg K_ Q_ hK_
  subst eJ_
  obtain ⟨O_, hB_, k0_, m0_, m3_, m6_, v0_0_, v0_1_, v1_0_, v1_1_, v2_0_, v2_1_⟩ := hJ_
  obtain ⟨b_, eb_, fb_⟩ := (v0_0_ (addS_off rfl (hbef_ 9 (by kernel_rfl))) hS_)
  refine x_store1 (cs' := #[.bool (decide (x_2.Kind = 4))]) hO hB_ (okB_fr hB_) ty4 eb_ (ksv (j := 2) (hK 12 rfl) rfl rfl rfl) rfl rfl fb_ (by simp) rfl fun w2 f_ hB2_ hX_ => ?_
  exact hK_ undef w2 ⟨O_, hB2_, (k0_.trans (KX.keep hX_ (by decide))), fun h_ => po_ (d := none) (t := 10) (φ := fun u_ => PtrZ (rInt .i64) O_ w2 u_ x_2.Kind) ((PtrZ.keep (m0_ (addS_off rfl h_)) (KX.keep hX_ (by decide)) (by decide) (fun _ => rfl))) (by decide), fun h_ => po_ (d := none) (t := 13) (φ := fun u_ => PtrZ (rInt .i64) O_ w2 u_ x_2.Kind) ((PtrZ.keep (m3_ (addS_off rfl h_)) (KX.keep hX_ (by decide)) (by decide) (fun _ => rfl))) (by decide), fun h_ => po_ (d := none) (t := 16) (φ := fun u_ => PtrZ (rInt .i64) O_ w2 u_ x_2.Kind) ((PtrZ.keep (m6_ (addS_off rfl h_)) (KX.keep hX_ (by decide)) (by decide) (fun _ => rfl))) (by decide), fun hp_ hq_ => addS_me hq_, fun hp_ => po_ (d := none) (t := 7) (φ := fun u_ => OwnBP 1 (Fr w0) O_ w2 (u_) #[.bool (decide (x_2.Kind = 4))] 4) (⟨b_, eb_, f_⟩) (by decide), fun hp_ hq_ => po_ (d := none) (t := 8) (φ := fun u_ => OwnBP 2 (Fr w0) O_ w2 (u_) #[.bool false] 4) (OwnBP.kx (v1_0_ (addS_off rfl hp_) (addS_no hq_)) hX_ (by decide)) (by decide), fun hp_ => po_ (d := none) (t := 8) (φ := fun u_ => OwnBP 2 (Fr w0) O_ w2 (u_) #[.bool (decide (x_2.Kind = 2))] 4) (OwnBP.kx (v1_1_ (addS_off rfl hp_)) hX_ (by decide)) (by decide), fun hp_ hq_ => po_ (d := none) (t := 9) (φ := fun u_ => OwnBP 3 (Fr w0) O_ w2 (u_) #[.bool false] 4) (OwnBP.kx (v2_0_ (addS_off rfl hp_) (addS_no hq_)) hX_ (by decide)) (by decide), fun hp_ => po_ (d := none) (t := 9) (φ := fun u_ => OwnBP 3 (Fr w0) O_ w2 (u_) #[.bool (decide (x_2.Kind = 1))] 4) (OwnBP.kx (v2_1_ (addS_off rfl hp_)) hX_ (by decide)) (by decide)⟩ trivial
 case z2_13 =>
  intro S_ a' w' hA_ hJ_ hS_ hafter_ hbef_ hK hg K_ Q_ hK_
  subst eJ_
  obtain ⟨O_, hB_, k0_, m0_, m3_, m6_, v0_0_, v0_1_, v1_0_, v1_1_, v2_0_, v2_1_⟩ := hJ_
  obtain ⟨b_, eb_, fb_⟩ := (v1_0_ (addS_off rfl (hbef_ 10 (by kernel_rfl))) hS_)
  refine x_store1 (cs' := #[.bool (decide (x_2.Kind = 2))]) hO hB_ (okB_fr hB_) ty4 eb_ (ksv (j := 5) (hK 15 rfl) rfl rfl rfl) rfl rfl fb_ (by simp) rfl fun w2 f_ hB2_ hX_ => ?_
  exact hK_ undef w2 ⟨O_, hB2_, (k0_.trans (KX.keep hX_ (by decide))), fun h_ => po_ (d := none) (t := 10) (φ := fun u_ => PtrZ (rInt .i64) O_ w2 u_ x_2.Kind) ((PtrZ.keep (m0_ (addS_off rfl h_)) (KX.keep hX_ (by decide)) (by decide) (fun _ => rfl))) (by decide), fun h_ => po_ (d := none) (t := 13) (φ := fun u_ => PtrZ (rInt .i64) O_ w2 u_ x_2.Kind) ((PtrZ.keep (m3_ (addS_off rfl h_)) (KX.keep hX_ (by decide)) (by decide) (fun _ => rfl))) (by decide), fun h_ => po_ (d := none) (t := 16) (φ := fun u_ => PtrZ (rInt .i64) O_ w2 u_ x_2.Kind) ((PtrZ.keep (m6_ (addS_off rfl h_)) (KX.keep hX_ (by decide)) (by decide) (fun _ => rfl))) (by decide), fun hp_ hq_ => po_ (d := none) (t := 7) (φ := fun u_ => OwnBP 1 (Fr w0) O_ w2 (u_) #[.bool false] 4) (OwnBP.kx (v0_0_ (addS_off rfl hp_) (addS_no hq_)) hX_ (by decide)) (by decide), fun hp_ => po_ (d := none) (t := 7) (φ := fun u_ => OwnBP 1 (Fr w0) O_ w2 (u_) #[.bool (decide (x_2.Kind = 4))] 4) (OwnBP.kx (v0_1_ (addS_off rfl hp_)) hX_ (by decide)) (by decide), fun hp_ hq_ => addS_me hq_, fun hp_ => po_ (d := none) (t := 8) (φ := fun u_ => OwnBP 2 (Fr w0) O_ w2 (u_) #[.bool (decide (x_2.Kind = 2))] 4) (⟨b_, eb_, f_⟩) (by decide), fun hp_ hq_ => po_ (d := none) (t := 9) (φ := fun u_ => OwnBP 3 (Fr w0) O_ w2 (u_) #[.bool false] 4) (OwnBP.kx (v2_0_ (addS_off rfl hp_) (addS_no hq_)) hX_ (by decide)) (by decide), fun hp_ => po_ (d := none) (t := 9) (φ := fun u_ => OwnBP 3 (Fr w0) O_ w2 (u_) #[.bool (decide (x_2.Kind = 1))] 4) (OwnBP.kx (v2_1_ (addS_off rfl hp_)) hX_ (by decide)) (by decide)⟩ trivial
 case z2_14 =>
  intro S_ a' w' hA_ hJ_ hS_ hafter_ hbef_ hK hg K_ Q_ hK_
  subst eJ_
  obtain ⟨O_, hB_, k0_, m0_, m3_, m6_, v0_0_, v0_1_, v1_0_, v1_1_, v2_0_, v2_1_⟩ := hJ_
  obtain ⟨b_, eb_, fb_⟩ := (v2_0_ (addS_off rfl (hbef_ 11 (by kernel_rfl))) hS_)
  refine x_store1 (cs' := #[.bool (decide (x_2.Kind = 1))]) hO hB_ (okB_fr hB_) ty4 eb_ (ksv (j := 8) (hK 18 rfl) rfl rfl rfl) rfl rfl fb_ (by simp) rfl fun w2 f_ hB2_ hX_ => ?_
  exact hK_ undef w2 ⟨O_, hB2_, (k0_.trans (KX.keep hX_ (by decide))), fun h_ => po_ (d := none) (t := 10) (φ := fun u_ => PtrZ (rInt .i64) O_ w2 u_ x_2.Kind) ((PtrZ.keep (m0_ (addS_off rfl h_)) (KX.keep hX_ (by decide)) (by decide) (fun _ => rfl))) (by decide), fun h_ => po_ (d := none) (t := 13) (φ := fun u_ => PtrZ (rInt .i64) O_ w2 u_ x_2.Kind) ((PtrZ.keep (m3_ (addS_off rfl h_)) (KX.keep hX_ (by decide)) (by decide) (fun _ => rfl))) (by decide), fun h_ => po_ (d := none) (t := 16) (φ := fun u_ => PtrZ (rInt .i64) O_ w2 u_ x_2.Kind) ((PtrZ.keep (m6_ (addS_off rfl h_)) (KX.keep hX_ (by decide)) (by decide) (fun _ => rfl))) (by decide), fun hp_ hq_ => po_ (d := none) (t := 7) (φ := fun u_ => OwnBP 1 (Fr w0) O_ w2 (u_) #[.bool false] 4) (OwnBP.kx (v0_0_ (addS_off rfl hp_) (addS_no hq_)) hX_ (by decide)) (by decide), fun hp_ => po_ (d := none) (t := 7) (φ := fun u_ => OwnBP 1 (Fr w0) O_ w2 (u_) #[.bool (decide (x_2.Kind = 4))] 4) (OwnBP.kx (v0_1_ (addS_off rfl hp_)) hX_ (by decide)) (by decide), fun hp_ hq_ => po_ (d := none) (t := 8) (φ := fun u_ => OwnBP 2 (Fr w0) O_ w2 (u_) #[.bool false] 4) (OwnBP.kx (v1_0_ (addS_off rfl hp_) (addS_no hq_)) hX_ (by decide)) (by decide), fun hp_ => po_ (d := none) (t := 8) (φ := fun u_ => OwnBP 2 (Fr w0) O_ w2 (u_) #[.bool (decide (x_2.Kind = 2))] 4) (OwnBP.kx (v1_1_ (addS_off rfl hp_)) hX_ (by decide)) (by decide), fun hp_ hq_ => addS_me hq_, fun hp_ => po_ (d := none) (t := 9) (φ := fun u_ => OwnBP 3 (Fr w0) O_ w2 (u_) #[.bool (decide (x_2.Kind = 1))] 4) (⟨b_, eb_, f_⟩) (by decide)⟩ trivial
 case zsk2 =>
  subst eJ_
  intro i_ o_ S_ a_ w_ ho_ hact_ hA_ hS_ hbef_ hJ_
  obtain ⟨O_, hB_, k0_, m0_, m3_, m6_, v0_0_, v0_1_, v1_0_, v1_1_, v2_0_, v2_1_⟩ := hJ_
  exact ⟨O_, hB_, k0_, fun h_ => by obtain ⟨h1_, h2_⟩ := skip_off (j := 0) hact_ rfl h_; exact po_ (t := 10) (φ := fun u_ => PtrZ (rInt .i64) O_ w_ u_ x_2.Kind) (m0_ h1_) (uniqDst_ne (j := 0) (by kernel_rfl) ho_ h2_), fun h_ => by obtain ⟨h1_, h2_⟩ := skip_off (j := 3) hact_ rfl h_; exact po_ (t := 13) (φ := fun u_ => PtrZ (rInt .i64) O_ w_ u_ x_2.Kind) (m3_ h1_) (uniqDst_ne (j := 3) (by kernel_rfl) ho_ h2_), fun h_ => by obtain ⟨h1_, h2_⟩ := skip_off (j := 6) hact_ rfl h_; exact po_ (t := 16) (φ := fun u_ => PtrZ (rInt .i64) O_ w_ u_ x_2.Kind) (m6_ h1_) (uniqDst_ne (j := 6) (by kernel_rfl) ho_ h2_), fun hp_ hq_ => by obtain ⟨h1_, h2_⟩ := skip_off (j := 9) hact_ rfl hp_; exact po_ (t := 7) (φ := fun u_ => OwnBP 1 (Fr w0) O_ w_ (u_) #[.bool false] 4) (v0_0_ h1_ (addS_no hq_)) (uniqDst_ne (j := 9) (by kernel_rfl) ho_ h2_), fun hp_ => by obtain ⟨h1_, h2_⟩ := skip_off (j := 12) hact_ rfl hp_; exact po_ (t := 7) (φ := fun u_ => OwnBP 1 (Fr w0) O_ w_ (u_) #[.bool (decide (x_2.Kind = 4))] 4) (v0_1_ h1_) (uniqDst_ne (j := 9) (by kernel_rfl) ho_ (skip_ne hact_ rfl)), fun hp_ hq_ => by obtain ⟨h1_, h2_⟩ := skip_off (j := 10) hact_ rfl hp_; exact po_ (t := 8) (φ := fun u_ => OwnBP 2 (Fr w0) O_ w_ (u_) #[.bool false] 4) (v1_0_ h1_ (addS_no hq_)) (uniqDst_ne (j := 10) (by kernel_rfl) ho_ h2_), fun hp_ => by obtain ⟨h1_, h2_⟩ := skip_off (j := 13) hact_ rfl hp_; exact po_ (t := 8) (φ := fun u_ => OwnBP 2 (Fr w0) O_ w_ (u_) #[.bool (decide (x_2.Kind = 2))] 4) (v1_1_ h1_) (uniqDst_ne (j := 10) (by kernel_rfl) ho_ (skip_ne hact_ rfl)), fun hp_ hq_ => by obtain ⟨h1_, h2_⟩ := skip_off (j := 11) hact_ rfl hp_; exact po_ (t := 9) (φ := fun u_ => OwnBP 3 (Fr w0) O_ w_ (u_) #[.bool false] 4) (v2_0_ h1_ (addS_no hq_)) (uniqDst_ne (j := 11) (by kernel_rfl) ho_ h2_), fun hp_ => by obtain ⟨h1_, h2_⟩ := skip_off (j := 14) hact_ rfl hp_; exact po_ (t := 9) (φ := fun u_ => OwnBP 3 (Fr w0) O_ w_ (u_) #[.bool (decide (x_2.Kind = 1))] 4) (v2_1_ h1_) (uniqDst_ne (j := 11) (by kernel_rfl) ho_ (skip_ne hact_ rfl))⟩
 case zst2 => subst eJ_; exact fun w1_ hE_ => ⟨O, (Base.step hB hE_ hO), (Keep.ext hE_), fun h_ => no_ft h_, fun h_ => no_ft h_, fun h_ => no_ft h_, fun hp_ => no_ft hp_, fun hp_ => no_ft hp_, fun hp_ => no_ft hp_, fun hp_ => no_ft hp_, fun hp_ => no_ft hp_, fun hp_ => no_ft hp_⟩
 case zok2 | zgd2 => kernel_rfl
 subst eJ_; clear T_
 intro a2 w2 hA HF hJ_
 obtain ⟨O7, hB_, k0_, m0_, m3_, m6_, v0_0_, v0_1_, v1_0_, v1_1_, v2_0_, v2_1_⟩ := hJ_
 replace q3 := kn (HF 3) rfl q3
 replace q4 := kn (HF 4) rfl q4
 replace q5 := kn (HF 5) rfl q5
 obtain ⟨b8, q7', f9⟩ := (v0_1_ rfl)
 have q7 := q7'; clear q7'
 obtain ⟨b10, q8', f11⟩ := (v1_1_ rfl)
 have q8 := q8'; clear q8'
 obtain ⟨b12, q9', f13⟩ := (v2_1_ rfl)
 have q9 := q9'; clear q9'
 clear HF
 replace f2 := GR.v_mono _ f2 k0_
 replace f4 := GR.v_mono _ f4 k0_
 replace f6 := GR.v_mono _ f6 k0_
 clear hB; have hB := hB_; clear hB_
 clear k0_ m0_ m3_ m6_ v0_0_ v0_1_ v1_0_ v1_1_ v2_0_ v2_1_
 refine nx_then (wp_seq ?_)
 obtain ⟨O14, hB', hX, f15⟩ := freezeB (r := rBool) (x := (decide (x_2.Kind = 1))) hO hB f13 (by decide) rfl
 clear f13 hB; have hB := hB'; clear hB'
 replace f2 := GR.kx _ f2 hX (by decide)
 replace f4 := GR.kx _ f4 hX (by decide)
 replace f6 := GR.kx _ f6 hX (by decide)
 replace f9 := f9.kx hX (by decide)
 replace f11 := f11.kx hX (by decide)
 clear hX
 obtain ⟨O16, hB', hX, f17⟩ := freezeB (r := rBool) (x := (decide (x_2.Kind = 2))) hO hB f11 (by decide) rfl
 clear f11 hB; have hB := hB'; clear hB'
 replace f2 := GR.kx _ f2 hX (by decide)
 replace f4 := GR.kx _ f4 hX (by decide)
 replace f6 := GR.kx _ f6 hX (by decide)
 replace f15 := GR.kx _ f15 hX (by decide)
 replace f9 := f9.kx hX (by decide)
 clear hX
 obtain ⟨O18, hB', hX, f19⟩ := freezeB (r := rBool) (x := (decide (x_2.Kind = 4))) hO hB f9 (by decide) rfl
 clear f9 hB; have hB := hB'; clear hB'
 replace f2 := GR.kx _ f2 hX (by decide)
 replace f4 := GR.kx _ f4 hX (by decide)
 replace f6 := GR.kx _ f6 hX (by decide)
 replace f17 := GR.kx _ f17 hX (by decide)
 replace f15 := GR.kx _ f15 hX (by decide)
 clear hX
 refine' regionT [SP.isv (.func (.func 103) #[] #[u5, u3]), SP.isv (.agg #[.int .i64 7, .func (.func 103) #[] #[u5, u3]]), SP.isv (.func (.func 104) #[] #[u1, u5, u3]), SP.isv (.agg #[.int .i64 55, .func (.func 104) #[] #[u1, u5, u3]]), SP.isv (.func (.func 105) #[] #[.pointer (some ⟨b12, 0, none⟩), u3, .pointer (some ⟨b10, 0, none⟩), .pointer (some ⟨b8, 0, none⟩), u5]), SP.isv (.agg #[.int .i64 4, .func (.func 105) #[] #[.pointer (some ⟨b12, 0, none⟩), u3, .pointer (some ⟨b10, 0, none⟩), .pointer (some ⟨b8, 0, none⟩), u5]]), SP.isv (.func (.func 106) #[] #[.pointer (some ⟨b8, 0, none⟩), u1, u5]), SP.isv (.agg #[.int .i64 55, .func (.func 106) #[] #[.pointer (some ⟨b8, 0, none⟩), u1, u5]]), SP.isv (.func (.func 107) #[] #[.pointer (some ⟨b8, 0, none⟩), u5, .pointer (some ⟨b10, 0, none⟩)]), SP.isv (.agg #[.int .i64 4, .func (.func 107) #[] #[.pointer (some ⟨b8, 0, none⟩), u5, .pointer (some ⟨b10, 0, none⟩)]]), SP.isv (.func (.func 108) #[] #[u5]), SP.isv (.agg #[.int .i64 3, .func (.func 108) #[] #[u5]]), SP.isv (.func (.func 109) #[] #[u5, u3]), SP.isv (.agg #[.int .i64 7, .func (.func 109) #[] #[u5, u3]]), SP.isv (.func (.func 110) #[] #[u5, u3]), SP.isv (.agg #[.int .i64 51, .func (.func 110) #[] #[u5, u3]]), SP.isv (.func (.func 111) #[] #[u5, u3, .pointer (some ⟨b12, 0, none⟩), .pointer (some ⟨b10, 0, none⟩)]), SP.isv (.agg #[.int .i64 53, .func (.func 111) #[] #[u5, u3, .pointer (some ⟨b12, 0, none⟩), .pointer (some ⟨b10, 0, none⟩)]]), SP.isv (.func (.func 112) #[] #[u1, u5]), SP.isv (.agg #[.int .i64 50, .func (.func 112) #[] #[u1, u5]])] hA (.cons (fun _ _ hE hK hg => ok_makeFunc map0 (map2 (kn (hK 5 rfl) rfl q5) (kn (hK 4 rfl) rfl q4))) (.cons (fun _ _ hE hK hg => okl_build plc96 ty96 (pk_cons (v := .int .i64 7) rfl (pk_cons (v := .func (.func 103) #[] #[u5, u3]) (ksv (j := 0) (hK 19 rfl) rfl rfl rfl) pk_nil)) rfl (.cons rfl rfl rfl (leb rfl) (.cons rfl rfl rfl (leb rfl) .nil)) rfl) (.cons (fun _ _ hE hK hg => ok_makeFunc map0 (map3 (kn (hK 3 rfl) rfl q3) (kn (hK 5 rfl) rfl q5) (kn (hK 4 rfl) rfl q4))) (.cons (fun _ _ hE hK hg => okl_build plc96 ty96 (pk_cons (v := .int .i64 55) rfl (pk_cons (v := .func (.func 104) #[] #[u1, u5, u3]) (ksv (j := 2) (hK 21 rfl) rfl rfl rfl) pk_nil)) rfl (.cons rfl rfl rfl (leb rfl) (.cons rfl rfl rfl (leb rfl) .nil)) rfl) (.cons (fun _ _ hE hK hg => ok_makeFunc map0 (map5 (kn (hK 9 rfl) rfl q9) (kn (hK 4 rfl) rfl q4) (kn (hK 8 rfl) rfl q8) (kn (hK 7 rfl) rfl q7) (kn (hK 5 rfl) rfl q5))) (.cons (fun _ _ hE hK hg => okl_build plc96 ty96 (pk_cons (v := .int .i64 4) rfl (pk_cons (v := .func (.func 105) #[] #[.pointer (some ⟨b12, 0, none⟩), u3, .pointer (some ⟨b10, 0, none⟩), .pointer (some ⟨b8, 0, none⟩), u5]) (ksv (j := 4) (hK 23 rfl) rfl rfl rfl) pk_nil)) rfl (.cons rfl rfl rfl (leb rfl) (.cons rfl rfl rfl (leb rfl) .nil)) rfl) (.cons (fun _ _ hE hK hg => ok_makeFunc map0 (map3 (kn (hK 7 rfl) rfl q7) (kn (hK 3 rfl) rfl q3) (kn (hK 5 rfl) rfl q5))) (.cons (fun _ _ hE hK hg => okl_build plc96 ty96 (pk_cons (v := .int .i64 55) rfl (pk_cons (v := .func (.func 106) #[] #[.pointer (some ⟨b8, 0, none⟩), u1, u5]) (ksv (j := 6) (hK 25 rfl) rfl rfl rfl) pk_nil)) rfl (.cons rfl rfl rfl (leb rfl) (.cons rfl rfl rfl (leb rfl) .nil)) rfl) (.cons (fun _ _ hE hK hg => ok_makeFunc map0 (map3 (kn (hK 7 rfl) rfl q7) (kn (hK 5 rfl) rfl q5) (kn (hK 8 rfl) rfl q8))) (.cons (fun _ _ hE hK hg => okl_build plc96 ty96 (pk_cons (v := .int .i64 4) rfl (pk_cons (v := .func (.func 107) #[] #[.pointer (some ⟨b8, 0, none⟩), u5, .pointer (some ⟨b10, 0, none⟩)]) (ksv (j := 8) (hK 27 rfl) rfl rfl rfl) pk_nil)) rfl (.cons rfl rfl rfl (leb rfl) (.cons rfl rfl rfl (leb rfl) .nil)) rfl) (.cons (fun _ _ hE hK hg => ok_makeFunc map0 (map1 (kn (hK 5 rfl) rfl q5))) (.cons (fun _ _ hE hK hg => okl_build plc96 ty96 (pk_cons (v := .int .i64 3) rfl (pk_cons (v := .func (.func 108) #[] #[u5]) (ksv (j := 10) (hK 29 rfl) rfl rfl rfl) pk_nil)) rfl (.cons rfl rfl rfl (leb rfl) (.cons rfl rfl rfl (leb rfl) .nil)) rfl) (.cons (fun _ _ hE hK hg => ok_makeFunc map0 (map2 (kn (hK 5 rfl) rfl q5) (kn (hK 4 rfl) rfl q4))) (.cons (fun _ _ hE hK hg => okl_build plc96 ty96 (pk_cons (v := .int .i64 7) rfl (pk_cons (v := .func (.func 109) #[] #[u5, u3]) (ksv (j := 12) (hK 31 rfl) rfl rfl rfl) pk_nil)) rfl (.cons rfl rfl rfl (leb rfl) (.cons rfl rfl rfl (leb rfl) .nil)) rfl) (.cons (fun _ _ hE hK hg => ok_makeFunc map0 (map2 (kn (hK 5 rfl) rfl q5) (kn (hK 4 rfl) rfl q4))) (.cons (fun _ _ hE hK hg => okl_build plc96 ty96 (pk_cons (v := .int .i64 51) rfl (pk_cons (v := .func (.func 110) #[] #[u5, u3]) (ksv (j := 14) (hK 33 rfl) rfl rfl rfl) pk_nil)) rfl (.cons rfl rfl rfl (leb rfl) (.cons rfl rfl rfl (leb rfl) .nil)) rfl) (.cons (fun _ _ hE hK hg => ok_makeFunc map0 (map4 (kn (hK 5 rfl) rfl q5) (kn (hK 4 rfl) rfl q4) (kn (hK 9 rfl) rfl q9) (kn (hK 8 rfl) rfl q8))) (.cons (fun _ _ hE hK hg => okl_build plc96 ty96 (pk_cons (v := .int .i64 53) rfl (pk_cons (v := .func (.func 111) #[] #[u5, u3, .pointer (some ⟨b12, 0, none⟩), .pointer (some ⟨b10, 0, none⟩)]) (ksv (j := 16) (hK 35 rfl) rfl rfl rfl) pk_nil)) rfl (.cons rfl rfl rfl (leb rfl) (.cons rfl rfl rfl (leb rfl) .nil)) rfl) (.cons (fun _ _ hE hK hg => ok_makeFunc map0 (map2 (kn (hK 3 rfl) rfl q3) (kn (hK 5 rfl) rfl q5))) (.cons (fun _ _ hE hK hg => okl_build plc96 ty96 (pk_cons (v := .int .i64 50) rfl (pk_cons (v := .func (.func 112) #[] #[u1, u5]) (ksv (j := 18) (hK 37 rfl) rfl rfl rfl) pk_nil)) rfl (.cons rfl rfl rfl (leb rfl) (.cons rfl rfl rfl (leb rfl) .nil)) rfl) .nil)))))))))))))))))))) ?zok3 ?zgd3 ?zk3
 case zok3 | zgd3 => kernel_rfl
 intro a3 w3 hA hE HF
 have q20 := ksv (HF 20) rfl rfl rfl
 have q22 := ksv (HF 22) rfl rfl rfl
 have q24 := ksv (HF 24) rfl rfl rfl
 have q26 := ksv (HF 26) rfl rfl rfl
 have q28 := ksv (HF 28) rfl rfl rfl
 have q30 := ksv (HF 30) rfl rfl rfl
 have q32 := ksv (HF 32) rfl rfl rfl
 have q34 := ksv (HF 34) rfl rfl rfl
 have q36 := ksv (HF 36) rfl rfl rfl
 have q38 := ksv (HF 38) rfl rfl rfl
 clear q3
 clear q4
 clear q5
 clear q7
 clear q8
 clear q9
 clear HF
 replace f2 := GR.v_ext _ f2 hE
 replace f4 := GR.v_ext _ f4 hE
 replace f6 := GR.v_ext _ f6 hE
 replace f19 := GR.v_ext _ f19 hE
 replace f17 := GR.v_ext _ f17 hE
 replace f15 := GR.v_ext _ f15 hE
 replace hB := Base.step hB hE hO; clear hE
 refine l_ok (φ := SP.ownr r_passport_condition 96 w3.heap.size O18 [(passport_condition.mk 7 (passport_conditions_f1 x_2 x_1)), (passport_condition.mk 55 (passport_conditions_f2 x_0 x_2 x_1)), (passport_condition.mk 4 (passport_conditions_f3 (decide (x_2.Kind = 1)) x_1 (decide (x_2.Kind = 2)) (decide (x_2.Kind = 4)) x_2)), (passport_condition.mk 55 (passport_conditions_f4 (decide (x_2.Kind = 4)) x_0 x_2)), (passport_condition.mk 4 (passport_conditions_f5 (decide (x_2.Kind = 4)) x_2 (decide (x_2.Kind = 2)))), (passport_condition.mk 3 (passport_conditions_f6 x_2)), (passport_condition.mk 7 (passport_conditions_f7 x_2 x_1)), (passport_condition.mk 51 (passport_conditions_f8 x_2 x_1)), (passport_condition.mk 53 (passport_conditions_f9 x_2 x_1 (decide (x_2.Kind = 1)) (decide (x_2.Kind = 2)))), (passport_condition.mk 50 (passport_conditions_f10 x_0 x_2))]) hO hB (by exact okl_buildSlice (r := r_passport_condition) fit_passport_condition rfl hB.ok ty93 ty96 (Nat.le_refl _) (parts_cons q20 (parts_cons q22 (parts_cons q24 (parts_cons q26 (parts_cons q28 (parts_cons q30 (parts_cons q32 (parts_cons q34 (parts_cons q36 (parts_cons q38 parts_nil)))))))))) ⟨⟨_, ⟨_, _, rfl, rfl, ⟨_, _, rfl, (rel_ofF (r := (rF0 Try.prog (RS.c (fun x => .bool x)))) (show (rF0 Try.prog (RS.c (fun x => .bool x))).v O18 _ (.func (.func 103) #[] #[u5, u3]) (passport_conditions_f1 x_2 x_1) from rF0_v.2 ⟨rfl, fun O' w' hO' hk n_ y_ hy_ => by exact callV_func fn103 (ok_passport_conditions_f1 hO'  (GR.v_mono _ f6 hk) (GR.v_mono _ f4 hk) hy_)⟩) rfl rfl), rfl⟩⟩, rfl⟩, ⟨⟨_, ⟨_, _, rfl, rfl, ⟨_, _, rfl, (rel_ofF (r := (rF0 Try.prog (RS.c (fun x => .bool x)))) (show (rF0 Try.prog (RS.c (fun x => .bool x))).v O18 _ (.func (.func 104) #[] #[u1, u5, u3]) (passport_conditions_f2 x_0 x_2 x_1) from rF0_v.2 ⟨rfl, fun O' w' hO' hk n_ y_ hy_ => by exact callV_func fn104 (ok_passport_conditions_f2 hO'  (GR.v_mono _ f2 hk) (GR.v_mono _ f6 hk) (GR.v_mono _ f4 hk) hy_)⟩) rfl rfl), rfl⟩⟩, rfl⟩, ⟨⟨_, ⟨_, _, rfl, rfl, ⟨_, _, rfl, (rel_ofF (r := (rF0 Try.prog (RS.c (fun x => .bool x)))) (show (rF0 Try.prog (RS.c (fun x => .bool x))).v O18 _ (.func (.func 105) #[] #[.pointer (some ⟨b12, 0, none⟩), u3, .pointer (some ⟨b10, 0, none⟩), .pointer (some ⟨b8, 0, none⟩), u5]) (passport_conditions_f3 (decide (x_2.Kind = 1)) x_1 (decide (x_2.Kind = 2)) (decide (x_2.Kind = 4)) x_2) from rF0_v.2 ⟨rfl, fun O' w' hO' hk n_ y_ hy_ => by exact callV_func fn105 (ok_passport_conditions_f3 hO'  (GR.v_mono _ f15 hk) (GR.v_mono _ f4 hk) (GR.v_mono _ f17 hk) (GR.v_mono _ f19 hk) (GR.v_mono _ f6 hk) hy_)⟩) rfl rfl), rfl⟩⟩, rfl⟩, ⟨⟨_, ⟨_, _, rfl, rfl, ⟨_, _, rfl, (rel_ofF (r := (rF0 Try.prog (RS.c (fun x => .bool x)))) (show (rF0 Try.prog (RS.c (fun x => .bool x))).v O18 _ (.func (.func 106) #[] #[.pointer (some ⟨b8, 0, none⟩), u1, u5]) (passport_conditions_f4 (decide (x_2.Kind = 4)) x_0 x_2) from rF0_v.2 ⟨rfl, fun O' w' hO' hk n_ y_ hy_ => by exact callV_func fn106 (ok_passport_conditions_f4 hO'  (GR.v_mono _ f19 hk) (GR.v_mono _ f2 hk) (GR.v_mono _ f6 hk) hy_)⟩) rfl rfl), rfl⟩⟩, rfl⟩, ⟨⟨_, ⟨_, _, rfl, rfl, ⟨_, _, rfl, (rel_ofF (r := (rF0 Try.prog (RS.c (fun x => .bool x)))) (show (rF0 Try.prog (RS.c (fun x => .bool x))).v O18 _ (.func (.func 107) #[] #[.pointer (some ⟨b8, 0, none⟩), u5, .pointer (some ⟨b10, 0, none⟩)]) (passport_conditions_f5 (decide (x_2.Kind = 4)) x_2 (decide (x_2.Kind = 2))) from rF0_v.2 ⟨rfl, fun O' w' hO' hk n_ y_ hy_ => by exact callV_func fn107 (ok_passport_conditions_f5 hO'  (GR.v_mono _ f19 hk) (GR.v_mono _ f6 hk) (GR.v_mono _ f17 hk) hy_)⟩) rfl rfl), rfl⟩⟩, rfl⟩, ⟨⟨_, ⟨_, _, rfl, rfl, ⟨_, _, rfl, (rel_ofF (r := (rF0 Try.prog (RS.c (fun x => .bool x)))) (show (rF0 Try.prog (RS.c (fun x => .bool x))).v O18 _ (.func (.func 108) #[] #[u5]) (passport_conditions_f6 x_2) from rF0_v.2 ⟨rfl, fun O' w' hO' hk n_ y_ hy_ => by exact callV_func fn108 (ok_passport_conditions_f6 hO'  (GR.v_mono _ f6 hk) hy_)⟩) rfl rfl), rfl⟩⟩, rfl⟩, ⟨⟨_, ⟨_, _, rfl, rfl, ⟨_, _, rfl, (rel_ofF (r := (rF0 Try.prog (RS.c (fun x => .bool x)))) (show (rF0 Try.prog (RS.c (fun x => .bool x))).v O18 _ (.func (.func 109) #[] #[u5, u3]) (passport_conditions_f7 x_2 x_1) from rF0_v.2 ⟨rfl, fun O' w' hO' hk n_ y_ hy_ => by exact callV_func fn109 (ok_passport_conditions_f7 hO'  (GR.v_mono _ f6 hk) (GR.v_mono _ f4 hk) hy_)⟩) rfl rfl), rfl⟩⟩, rfl⟩, ⟨⟨_, ⟨_, _, rfl, rfl, ⟨_, _, rfl, (rel_ofF (r := (rF0 Try.prog (RS.c (fun x => .bool x)))) (show (rF0 Try.prog (RS.c (fun x => .bool x))).v O18 _ (.func (.func 110) #[] #[u5, u3]) (passport_conditions_f8 x_2 x_1) from rF0_v.2 ⟨rfl, fun O' w' hO' hk n_ y_ hy_ => by exact callV_func fn110 (ok_passport_conditions_f8 hO'  (GR.v_mono _ f6 hk) (GR.v_mono _ f4 hk) hy_)⟩) rfl rfl), rfl⟩⟩, rfl⟩, ⟨⟨_, ⟨_, _, rfl, rfl, ⟨_, _, rfl, (rel_ofF (r := (rF0 Try.prog (RS.c (fun x => .bool x)))) (show (rF0 Try.prog (RS.c (fun x => .bool x))).v O18 _ (.func (.func 111) #[] #[u5, u3, .pointer (some ⟨b12, 0, none⟩), .pointer (some ⟨b10, 0, none⟩)]) (passport_conditions_f9 x_2 x_1 (decide (x_2.Kind = 1)) (decide (x_2.Kind = 2))) from rF0_v.2 ⟨rfl, fun O' w' hO' hk n_ y_ hy_ => by exact callV_func fn111 (ok_passport_conditions_f9 hO'  (GR.v_mono _ f6 hk) (GR.v_mono _ f4 hk) (GR.v_mono _ f15 hk) (GR.v_mono _ f17 hk) hy_)⟩) rfl rfl), rfl⟩⟩, rfl⟩, ⟨⟨_, ⟨_, _, rfl, rfl, ⟨_, _, rfl, (rel_ofF (r := (rF0 Try.prog (RS.c (fun x => .bool x)))) (show (rF0 Try.prog (RS.c (fun x => .bool x))).v O18 _ (.func (.func 112) #[] #[u1, u5]) (passport_conditions_f10 x_0 x_2) from rF0_v.2 ⟨rfl, fun O' w' hO' hk n_ y_ hy_ => by exact callV_func fn112 (ok_passport_conditions_f10 hO'  (GR.v_mono _ f2 hk) (GR.v_mono _ f6 hk) hy_)⟩) rfl rfl), rfl⟩⟩, rfl⟩, trivial⟩⟩⟩⟩⟩⟩⟩⟩⟩⟩ rfl (by decide)) rfl fun u20 w4 hE hB' f21 => ?_
 clear hB'; obtain ⟨O22, hB', hX, f23⟩ := ownNew hO hB hE f21 rfl 4 (by decide)
 clear hB f21; have hB := hB'; clear hB'
 clear hX hE
 refine put_cont hA (by decide) fun a5 hA q_ hfr => ?_
 replace q20 := (hfr 20 rfl).trans q20
 replace q22 := (hfr 22 rfl).trans q22
 replace q24 := (hfr 24 rfl).trans q24
 replace q26 := (hfr 26 rfl).trans q26
 replace q28 := (hfr 28 rfl).trans q28
 replace q30 := (hfr 30 rfl).trans q30
 replace q32 := (hfr 32 rfl).trans q32
 replace q34 := (hfr 34 rfl).trans q34
 replace q36 := (hfr 36 rfl).trans q36
 replace q38 := (hfr 38 rfl).trans q38
 have q39 := q_; clear q_ hfr
 refine l_ok (φ := SP.isv (u20)) hO hB (by exact ok_assign q39) rfl fun u_ w6 hE hB' hv_ => ?_
 replace hv_ := Eq.symm hv_; subst hv_; clear hB; have hB := hB'; clear hB'
 replace f23 := f23.ext hE
 clear hE
 refine put_cont hA (by decide) fun a7 hA q_ hfr => ?_
 replace q39 := (hfr 39 rfl).trans q39
 have q6 := q_; clear q_ hfr
 refine li_nil (nx_then (wp_ret ?_))
 have h := Comp.run_pure h; subst h
 exact retPure Try.results66 hA q6 hB.ext (OwnL.res f23 (by decide) hB.zero)
theorem ok_passport_behind {O : Tags} {w0 : World} (hO : OkO O w0) {x_0 : Int} {x_1 : aEn} {n : Nat} {y : passport_place} (h : (passport_behind x_0 x_1).run n = some y) : Pure Try.prog 67 #[.int .i64 x_0, .agg #[.int .i64 x_1.Seq, .int .i64 x_1.Shop, .int .i64 x_1.Kind, .int .i64 x_1.Day, .int .i64 x_1.N, .string (str x_1.Before), .string (str x_1.After), .string (str x_1.Prev), .string (str x_1.Mark)]] w0 (SP.isv (.agg #[.int .i64 y.at_, .int .i64 y.writer_, .int .i64 y.day_, .string (str y.prev_), .string (str y.before_)])).holds := by
 unfold passport_behind at h
 refine pure_of_wp Try.func67 rfl 24 Try.ntmps67 (by simp) fun a0 hA hs0 => ?_
 have q0 : a0.get 0 = .int .i64 x_0 := hs0 0 _ rfl
 have q1 : a0.get 1 = .agg #[.int .i64 x_1.Seq, .int .i64 x_1.Shop, .int .i64 x_1.Kind, .int .i64 x_1.Day, .int .i64 x_1.N, .string (str x_1.Before), .string (str x_1.After), .string (str x_1.Prev), .string (str x_1.Mark)] := hs0 1 _ rfl
 clear hs0
 have hB : Base (Fr w0) O w0 O w0 := Base.start hO
 refine wp_seq ?_
 refine' regionT [SP.vl (rBox r_aEn) O x_1] hA (.cons ?z1_0 .nil) ?zok1 ?zgd1 ?zk1
 case z1_0 => intro a' w' hE hK hg; exact okl_boxV (r := r_aEn) fit_aEn (OkO.ext hB.ok hE) (kn (hK 1 rfl) rfl q1) (by first | exact (rC_v (x := x_1)).2 rfl | exact ⟨_, rfl, rfl⟩)
 case zok1 | zgd1 => kernel_rfl
 intro a1 w1 hA hE HF
 replace q0 := kn (HF 0) rfl q0
 have f2 := ksp (HF 3) rfl rfl rfl
 obtain ⟨u1, q3'⟩ : ∃ u, a1.get 3 = u := ⟨_, rfl⟩
 rw [q3'] at f2
 have q3 := q3'; clear q3'
 clear q1
 clear HF
 replace hB := Base.step hB hE hO; clear hE
 refine l_ok (φ := SP.box w1.heap.size #[.int .i64 0, .int .i64 0, .int .i64 0, .string (str []), .string (str [])] 92) hO hB (by exact ok_alloc (Nat.le_refl _) ty92) rfl fun u3 w2 hE hB' f4 => ?_
 clear hB'; obtain ⟨O5, b7, hB', hX, e_, f6⟩ := boxNew hO hB hE f4 1 (by decide)
 subst e_; clear hB f4; have hB := hB'; clear hB'
 replace f2 := GR.kx _ f2 hX (by decide)
 clear hX hE
 refine put_cont hA (by decide) fun a3 hA q_ hfr => ?_
 replace q0 := (hfr 0 rfl).trans q0
 replace q3 := (hfr 3 rfl).trans q3
 have q4 := q_; clear q_ hfr
 refine li_nil (nx_then (wp_seq ?_))
 obtain ⟨x8, hx8, h⟩ := Comp.run_bind h
 refine' region [_, _, SP.ptr (rInt .i64) O5 x_1.Shop, SP.isv (.int .i64 x_1.Shop), SP.ptr (rInt .i64) O5 x_1.Day, SP.isv (.int .i64 x_1.Day), SP.isv (.agg #[.int .i64 x_1.Seq, .int .i64 x_1.Shop, .int .i64 x_1.Kind, .int .i64 x_1.Day, .int .i64 x_1.N, .string (str x_1.Before), .string (str x_1.After), .string (str x_1.Prev), .string (str x_1.Mark)]), SP.isv (.string (str x8)), SP.ptr rStr O5 x_1.After, SP.isv (.string (str x_1.After)), SP.isv (.agg #[.int .i64 (IntKind.wrap .i64 (x_0 + 1)), .int .i64 x_1.Shop, .int .i64 x_1.Day, .string (str x8), .string (str x_1.After)]), SP.box w2.heap.size #[.int .i64 0, .int .i64 0, .int .i64 0, .string (str []), .string (str [])] 92] mixed hA (.cons (fun _ _ hE hK hg => ok_move (kn (hK 0 rfl) rfl q0)) (.cons (fun _ _ hE hK hg => ok_add (ksv (j := 0) (hK 6 rfl) rfl rfl rfl) rfl) (.cons (fun _ _ hE hK hg => okl_fldB (S := r_aEn) fit_aEn rfl (fun _ => rfl) sb_aEn_1 fl26_1 (kn (hK 3 rfl) rfl q3) (GR.v_ext _ f2 hE)) (.cons (fun _ _ hE hK hg => okl_ldr (rInt .i64) (fun _ => rfl) ty3 rfl rfl rfl (kspS (φ := SP.ptr (rInt .i64) O5 x_1.Shop) (j := 2) (hK 8 rfl) rfl rfl rfl) (fun _ _ _ h => rInt_v.1 h)) (.cons (fun _ _ hE hK hg => okl_fldB (S := r_aEn) fit_aEn rfl (fun _ => rfl) sb_aEn_3 fl26_3 (kn (hK 3 rfl) rfl q3) (GR.v_ext _ f2 hE)) (.cons (fun _ _ hE hK hg => okl_ldr (rInt .i64) (fun _ => rfl) ty3 rfl rfl rfl (kspS (φ := SP.ptr (rInt .i64) O5 x_1.Day) (j := 4) (hK 10 rfl) rfl rfl rfl) (fun _ _ _ h => rInt_v.1 h)) (.cons (fun _ _ hE hK hg => okl_ldr r_aEn fit_aEn ty26 rfl rfl (kn (hK 3 rfl) rfl q3) (ptr_of_box fit_aEn (GR.v_ext _ f2 hE)) (fun _ _ _ h => rC_v.1 h)) (.cons ?z2_7 (.cons (fun _ _ hE hK hg => okl_fldB (S := r_aEn) fit_aEn rfl (fun _ => rfl) sb_aEn_6 fl26_6 (kn (hK 3 rfl) rfl q3) (GR.v_ext _ f2 hE)) (.cons (fun _ _ hE hK hg => okl_ldr rStr (fun _ => rfl) ty9 rfl rfl rfl (kspS (φ := SP.ptr rStr O5 x_1.After) (j := 8) (hK 14 rfl) rfl rfl rfl) (fun _ _ _ h => rStr_v.1 h)) (.cons (fun _ _ hE hK hg => okl_build plc92 ty92 (pk_cons (v := .int .i64 (IntKind.wrap .i64 (x_0 + 1))) (ksv (j := 1) (hK 7 rfl) rfl rfl rfl) (pk_cons (v := .int .i64 x_1.Shop) (ksv (j := 3) (hK 9 rfl) rfl rfl rfl) (pk_cons (v := .int .i64 x_1.Day) (ksv (j := 5) (hK 11 rfl) rfl rfl rfl) (pk_cons (v := .string (str x8)) (ksv (j := 7) (hK 13 rfl) rfl rfl rfl) (pk_cons (v := .string (str x_1.After)) (ksv (j := 9) (hK 15 rfl) rfl rfl rfl) pk_nil))))) rfl (.cons rfl rfl rfl (leb rfl) (.cons rfl rfl rfl (leb rfl) (.cons rfl rfl rfl (leb rfl) (.cons rfl rfl rfl (leb rfl) (.cons rfl rfl rfl (leb rfl) .nil))))) rfl) (.cons (fun _ _ hE hK hg => ok_alloc hE.size ty92) .nil)))))))))))) ?zok2 ?zgd2 ?zk2
 case z2_7 => intro a' w' hE hK hg; have c_ := ok_passport_link (OkO.ext hB.ok hE)  hx8; exact ok_call1 fn62 (ksv (j := 6) (hK 12 rfl) rfl rfl rfl) c_
 case zok2 | zgd2 => kernel_rfl
 intro a4 w4 hA hE HF
 replace q3 := kn (HF 3) rfl q3
 replace q4 := kn (HF 4) rfl q4
 have f10 := ksp (HF 5) rfl rfl rfl
 obtain ⟨u9, q5'⟩ : ∃ u, a4.get 5 = u := ⟨_, rfl⟩
 rw [q5'] at f10
 have q5 := q5'; clear q5'
 have q16 := ksv (HF 16) rfl rfl rfl
 clear q0
 clear HF
 obtain ⟨O11, b12, hB', hX, e_, f13⟩ := boxNew hO hB hE f10 2 (by decide)
 subst e_
 clear hB f10; have hB := hB'; clear hB'
 replace f2 := GR.kx _ f2 hX (by decide)
 replace f6 := f6.kx hX (by decide)
 clear hX hE
 refine l_storeSub (vs := [.int .i64 (IntKind.wrap .i64 (x_0 + 1)), .int .i64 x_1.Shop, .int .i64 x_1.Day, .string (str x8), .string (str x_1.After)]) (cs' := #[.int .i64 (IntKind.wrap .i64 (x_0 + 1)), .int .i64 x_1.Shop, .int .i64 x_1.Day, .string (str x8), .string (str x_1.After)]) hO hB (okB_fr hB) ty92 q5 q16 rfl (by simp [Value.oneCell']) f13 (by simp) rfl fun w5 f14 hB' hX => ?_
 clear hB f13; have hB := hB'; clear hB'
 replace f2 := GR.kx _ f2 hX (by decide)
 replace f6 := f6.kx hX (by decide)
 clear hX
 refine li_nil (nx_then ?_)
 refine seq_join (fun a w => ∃ (O21 : Tags) (x16 : Int) (x17 : Int) (x18 : Int) (x19 : Bytes) (x20 : Bytes), a.fit 24 ∧ Base (Fr w0) O w0 O21 w ∧ a.get 4 = .pointer (some ⟨b7, 0, none⟩) ∧ a.get 5 = .pointer (some ⟨b12, 0, none⟩) ∧ OwnB 2 (Fr w0) O21 w b12 #[.int .i64 x16, .int .i64 x17, .int .i64 x18, .string (str x19), .string (str x20)] 92 ∧ OwnB 1 (Fr w0) O21 w b7 #[.int .i64 0, .int .i64 0, .int .i64 0, .string (str []), .string (str [])] 92 ∧ (passport_behind_j1 x16 x17 x18 x19 x20).run n = some y) ?_ ?_
 ·
  refine wp_seq ?_
  refine' region [SP.ptr (rInt .i64) O11 x_1.Kind, SP.isv (.int .i64 x_1.Kind), _] mixed hA (.cons (fun _ _ hE hK hg => okl_fldB (S := r_aEn) fit_aEn rfl (fun _ => rfl) sb_aEn_2 fl26_2 (kn (hK 3 rfl) rfl q3) (GR.v_ext _ f2 hE)) (.cons (fun _ _ hE hK hg => okl_ldr (rInt .i64) (fun _ => rfl) ty3 rfl rfl rfl (kspS (φ := SP.ptr (rInt .i64) O11 x_1.Kind) (j := 0) (hK 17 rfl) rfl rfl rfl) (fun _ _ _ h => rInt_v.1 h)) (.cons (fun _ _ hE hK hg => ok_eqlI (ksv (j := 1) (hK 18 rfl) rfl rfl rfl) rfl) .nil))) ?zok3 ?zgd3 ?zk3
  case zok3 | zgd3 => kernel_rfl
  intro a6 w6 hA hE HF
  replace q3 := kn (HF 3) rfl q3
  replace q4 := kn (HF 4) rfl q4
  replace q5 := kn (HF 5) rfl q5
  have q19 := ksv (HF 19) rfl rfl rfl
  clear HF
  replace f2 := GR.v_ext _ f2 hE
  replace f6 := f6.ext hE
  replace f14 := f14.ext hE
  replace hB := Base.step hB hE hO; clear hE
  refine li_nil (nx_then ?_)
  refine wp_cond_b q19 (fun hc => ?_) (fun hc => ?_)
  ·
   replace h := Comp.run_b_t hc h; clear hc
   refine' regionT [SP.ptr (rInt .i64) O11 x_1.N, SP.isv (.int .i64 x_1.N), SP.isv (.pointer (some ⟨b12, 1, none⟩))] hA (.cons (fun _ _ hE hK hg => okl_fldB (S := r_aEn) fit_aEn rfl (fun _ => rfl) sb_aEn_4 fl26_4 (kn (hK 3 rfl) rfl q3) (GR.v_ext _ f2 hE)) (.cons (fun _ _ hE hK hg => okl_ldr (rInt .i64) (fun _ => rfl) ty3 rfl rfl rfl (kspS (φ := SP.ptr (rInt .i64) O11 x_1.N) (j := 0) (hK 20 rfl) rfl rfl rfl) (fun _ _ _ h => rInt_v.1 h)) (.cons (fun _ _ hE hK hg => ok_fieldAddr fl92_1 (kn (hK 5 rfl) rfl q5)) .nil))) ?zok4 ?zgd4 ?zk4
   case zok4 | zgd4 => kernel_rfl
   intro a7 w7 hA hE HF
   replace q4 := kn (HF 4) rfl q4
   replace q5 := kn (HF 5) rfl q5
   have q21 := ksv (HF 21) rfl rfl rfl
   have q22 := ksv (HF 22) rfl rfl rfl
   clear q3
   clear q19
   clear HF
   replace f2 := GR.v_ext _ f2 hE
   replace f6 := f6.ext hE
   replace f14 := f14.ext hE
   replace hB := Base.step hB hE hO; clear hE
   refine l_store1 (cs' := #[.int .i64 ((passport_place.mk (IntKind.wrap .i64 (x_0 + 1)) x_1.Shop x_1.Day x8 x_1.After).at_), .int .i64 x_1.N, .int .i64 ((passport_place.mk (IntKind.wrap .i64 (x_0 + 1)) x_1.Shop x_1.Day x8 x_1.After).day_), .string (str ((passport_place.mk (IntKind.wrap .i64 (x_0 + 1)) x_1.Shop x_1.Day x8 x_1.After).prev_)), .string (str ((passport_place.mk (IntKind.wrap .i64 (x_0 + 1)) x_1.Shop x_1.Day x8 x_1.After).before_))]) hO hB (okB_fr hB) ty3 q22 q21 rfl rfl f14 (by simp) rfl fun w8 f15 hB' hX => ?_
   clear hB f14; have hB := hB'; clear hB'
   replace f6 := f6.kx hX (by decide)
   clear hX
   refine li_nil (nx_then ?_)
   exact ⟨_, _, _, _, _, _, hA, hB, q4, q5, f15, f6, h⟩
  ·
   replace h := Comp.run_b_f hc h; clear hc
   refine wp_skip (nx_then ?_)
   exact ⟨_, _, _, _, _, _, hA, hB, q4, q5, f14, f6, h⟩
 intro a9 w9 hI
 clear hA hB h q3 q4 q5 f14 f2 f6
 obtain ⟨O21, x16, x17, x18, x19, x20, hA, hB, q4, q5, f15, f6, h⟩ := hI
 unfold passport_behind_j1 at h
 refine wp_seq ?_
 refine' regionT [SP.isv (.agg #[.int .i64 x16, .int .i64 x17, .int .i64 x18, .string (str x19), .string (str x20)])] hA (.cons (fun _ _ hE hK hg => ok_loadOwnAgg ty92 rfl (kn (hK 5 rfl) rfl q5) (OwnB.ext f15 hE).own rfl) .nil) ?zok5 ?zgd5 ?zk5
 case zok5 | zgd5 => kernel_rfl
 intro a10 w10 hA hE HF
 replace q4 := kn (HF 4) rfl q4
 have q23 := ksv (HF 23) rfl rfl rfl
 clear q5
 clear HF
 replace f6 := f6.ext hE
 replace f15 := f15.ext hE
 replace hB := Base.step hB hE hO; clear hE
 refine l_storeSub (vs := [.int .i64 x16, .int .i64 x17, .int .i64 x18, .string (str x19), .string (str x20)]) (cs' := #[.int .i64 x16, .int .i64 x17, .int .i64 x18, .string (str x19), .string (str x20)]) hO hB (okB_fr hB) ty92 q4 q23 rfl (by simp [Value.oneCell']) f6 (by simp) rfl fun w11 f22 hB' hX => ?_
 clear hB f6; have hB := hB'; clear hB'
 clear hX
 refine li_nil (nx_then (wp_ret ?_))
 have h := Comp.run_pure h; subst h
 exact retG1 Try.results67 hA (.agg q4 ty92 rfl rfl f22.own) ⟨_, rfl, hB.ext, rfl⟩
theorem ok_passport_Check {O : Tags} {w0 : World} (hO : OkO O w0) {v_0 : Value} {x_0 : List Bytes} (h_0 : (rSl rStr).v O w0 v_0 x_0) {v_1 : Value} {x_1 : List aEn} (h_1 : (rSl r_aEn).v O w0 v_1 x_1) {n : Nat} {y : api_Finding} (h : (passport_Check x_0 x_1).run n = some y) : Pure Try.prog 25 #[v_0, v_1] w0 (SP.isv (.agg #[.int .i64 y.Entry, .int .i64 y.Why])).holds := by
 unfold passport_Check at h
 refine pure_of_wp Try.func25 rfl 54 Try.ntmps25 (by simp) fun a0 hA hs0 => ?_
 have q0 : a0.get 0 = v_0 := hs0 0 _ rfl
 have q1 : a0.get 1 = v_1 := hs0 1 _ rfl
 clear hs0
 have hB : Base (Fr w0) O w0 O w0 := Base.start hO
 refine wp_seq ?_
 refine' region [SP.box w0.heap.size #[.int .i64 0, .int .i64 0] 44] mixed hA (.cons (fun _ _ hE hK hg => ok_alloc hE.size ty44) .nil) ?zok1 ?zgd1 ?zk1
 case zok1 | zgd1 => kernel_rfl
 intro a1 w1 hA hE HF
 replace q0 := kn (HF 0) rfl q0
 replace q1 := kn (HF 1) rfl q1
 have f2 := ksp (HF 4) rfl rfl rfl
 obtain ⟨u1, q4'⟩ : ∃ u, a1.get 4 = u := ⟨_, rfl⟩
 rw [q4'] at f2
 have q4 := q4'; clear q4'
 clear HF
 obtain ⟨O3, b4, hB', hX, e_, f5⟩ := boxNew hO hB hE f2 1 (by decide)
 subst e_
 clear hB f2; have hB := hB'; clear hB'
 replace h_0 := GR.kx _ h_0 hX (by decide)
 replace h_1 := GR.kx _ h_1 hX (by decide)
 clear hX hE
 refine li_nil (nx_then (wp_seq (wp_seq ?_)))
 refine' region [_, _, _, _, _, _, _, _, _, _, _, _, _] mixed hA (.cons (fun _ _ hE hK hg => ok_move (kn (hK 1 rfl) rfl q1)) (.cons (fun _ _ hE hK hg => okl_len (r := r_aEn) ty29 (ksv (j := 0) (hK 10 rfl) rfl rfl rfl) (rd_of (GR.v_ext _ h_1 hE))) (.cons (fun _ _ hE hK hg => ok_gtr (ksv (j := 1) (hK 11 rfl) rfl rfl rfl) rfl) (.cons (fun _ _ hE hK hg => ok_move (ksv (j := 2) (hK 12 rfl) rfl rfl rfl)) (.cons (fun _ _ hE hK hg => ok_move (kn (hK 0 rfl) rfl q0)) (.cons ?z2_5 (.cons ?z2_6 (.cons ?z2_7 (.cons (fun _ _ hE hK hg => ok_move (ksv (j := 7) (hK 17 rfl) rfl rfl rfl)) (.cons (fun _ _ hE hK hg => ok_move (kn (hK 0 rfl) rfl q0)) (.cons ?z2_10 (.cons ?z2_11 (.cons ?z2_12 .nil))))))))))))) ?zok2 ?zgd2 ?zk2
 case z2_5 => intro a' w' hE hK hg; exact okl_len (r := rStr) ty28 (ksv (j := 4) (hK 14 rfl) rfl rfl hg) (rd_of (GR.v_ext _ h_0 hE))
 case z2_6 => intro a' w' hE hK hg; exact ok_lss (ksv (j := 5) (hK 15 rfl) rfl rfl hg) rfl
 case z2_7 => intro a' w' hE hK hg; exact ok_pick (ksv (j := 3) (hK 13 rfl) rfl rfl rfl) (fun _ => rfl) (fun hb => ksv (j := 6) (hK 16 rfl) rfl rfl (act_g1 rfl rfl hb))
 case z2_10 => intro a' w' hE hK hg; exact okl_len (r := rStr) ty28 (ksv (j := 9) (hK 19 rfl) rfl rfl hg) (rd_of (GR.v_ext _ h_0 hE))
 case z2_11 => intro a' w' hE hK hg; exact ok_gtr (ksv (j := 10) (hK 20 rfl) rfl rfl hg) rfl
 case z2_12 => intro a' w' hE hK hg; exact ok_pick (ksv (j := 8) (hK 18 rfl) rfl rfl rfl) (fun _ => rfl) (fun hb => ksv (j := 11) (hK 21 rfl) rfl rfl (act_g1 rfl rfl hb))
 case zok2 | zgd2 => kernel_rfl
 intro a2 w2 hA hE HF
 replace q0 := kn (HF 0) rfl q0
 replace q1 := kn (HF 1) rfl q1
 replace q4 := kn (HF 4) rfl q4
 have q22 := ksv (HF 22) rfl rfl rfl
 clear HF
 replace h_0 := GR.v_ext _ h_0 hE
 replace h_1 := GR.v_ext _ h_1 hE
 replace f5 := f5.ext hE
 replace hB := Base.step hB hE hO; clear hE
 obtain ⟨x6, hx_, h⟩ := Comp.run_bind h; replace hx_ := Comp.run_pure hx_; rw [hx_] at q22; clear hx_
 refine li_nil (nx_then ?_)
 refine wp_cond_b q22 (fun hc => ?_) (fun hc => ?_)
 ·
  replace h := Comp.run_b_t hc h; clear hc
  refine wp_seq ?_
  refine' regionT [SP.isv (.agg #[.int .i64 (-1), .int .i64 2])] hA (.cons (fun _ _ hE hK hg => okl_build plc44 ty44 (pk_cons (v := .int .i64 (-1)) rfl (pk_cons (v := .int .i64 2) rfl pk_nil)) rfl (.cons rfl rfl rfl (leb rfl) (.cons rfl rfl rfl (leb rfl) .nil)) rfl) .nil) ?zok3 ?zgd3 ?zk3
  case zok3 | zgd3 => kernel_rfl
  intro a3 w3 hA hE HF
  replace q4 := kn (HF 4) rfl q4
  have q23 := ksv (HF 23) rfl rfl rfl
  clear q0
  clear q1
  clear q22
  clear HF
  replace h_0 := GR.v_ext _ h_0 hE
  replace h_1 := GR.v_ext _ h_1 hE
  replace f5 := f5.ext hE
  replace hB := Base.step hB hE hO; clear hE
  refine l_storeSub (vs := [.int .i64 (-1), .int .i64 2]) (cs' := #[.int .i64 (-1), .int .i64 2]) hO hB (okB_fr hB) ty44 q4 q23 rfl (by simp [Value.oneCell']) f5 (by simp) rfl fun w4 f7 hB' hX => ?_
  clear hB f5; have hB := hB'; clear hB'
  clear hX
  refine li_nil (nx_then (wp_ret (rt_then ?_)))
  have h := Comp.run_pure h; subst h
  exact retG1 Try.results25 hA (.agg q4 ty44 rfl rfl f7.own) ⟨_, rfl, hB.ext, rfl⟩
 ·
  replace h := Comp.run_b_f hc h; clear hc
  refine wp_skip (nx_then (wp_seq ?_))
  refine' region [SP.box w2.heap.size #[.int .i64 0, .int .i64 0, .int .i64 0, .string (str []), .string (str [])] 92] mixed hA (.cons (fun _ _ hE hK hg => ok_alloc hE.size ty92) .nil) ?zok4 ?zgd4 ?zk4
  case zok4 | zgd4 => kernel_rfl
  intro a5 w5 hA hE HF
  replace q0 := kn (HF 0) rfl q0
  replace q1 := kn (HF 1) rfl q1
  replace q4 := kn (HF 4) rfl q4
  have f9 := ksp (HF 5) rfl rfl rfl
  obtain ⟨u8, q5'⟩ : ∃ u, a5.get 5 = u := ⟨_, rfl⟩
  rw [q5'] at f9
  have q5 := q5'; clear q5'
  clear q22
  clear HF
  obtain ⟨O10, b11, hB', hX, e_, f12⟩ := boxNew hO hB hE f9 2 (by decide)
  subst e_
  clear hB f9; have hB := hB'; clear hB'
  replace h_0 := GR.kx _ h_0 hX (by decide)
  replace h_1 := GR.kx _ h_1 hX (by decide)
  replace f5 := f5.kx hX (by decide)
  clear hX hE
  refine li_nil (nx_then ?_)
  refine seq_join (fun a w => ∃ (O52 : Tags) (x51 : api_Finding), a.fit 54 ∧ Base (Fr w0) O w0 O52 w ∧ a.get 4 = .pointer (some ⟨b4, 0, none⟩) ∧ OwnB 1 (Fr w0) O52 w b4 #[.int .i64 x51.Entry, .int .i64 x51.Why] 44 ∧ (passport_Check_j1 x51).run n = some y) ?_ ?_
  ·
   refine wp_seq ?_
   refine' region [_, _, _] mixed hA (.cons (fun _ _ hE hK hg => ok_move (kn (hK 1 rfl) rfl q1)) (.cons (fun _ _ hE hK hg => okl_len (r := r_aEn) ty29 (ksv (j := 0) (hK 24 rfl) rfl rfl rfl) (rd_of (GR.v_ext _ h_1 hE))) (.cons (fun _ _ hE hK hg => ok_move rfl) .nil))) ?zok5 ?zgd5 ?zk5
   case zok5 | zgd5 => kernel_rfl
   intro a6 w6 hA hE HF
   replace q0 := kn (HF 0) rfl q0
   replace q4 := kn (HF 4) rfl q4
   replace q5 := kn (HF 5) rfl q5
   have q24 := ksv (HF 24) rfl rfl rfl
   have q25 := ksv (HF 25) rfl rfl rfl
   have q26 := ksv (HF 26) rfl rfl rfl
   clear q1
   clear HF
   replace h_0 := GR.v_ext _ h_0 hE
   replace h_1 := GR.v_ext _ h_1 hE
   replace f5 := f5.ext hE
   replace f12 := f12.ext hE
   replace hB := Base.step hB hE hO; clear hE
   refine li_nil (nx_then (wp_block ?_))
   obtain ⟨e2, he2, hk2⟩ := Comp.run_bind h; clear h
   refine loop_m (fun m a w => ∃ (O16 : Tags) (x13 : Int) (x14 : passport_place) (x15 : api_Finding), a.fit 54 ∧ Base (Fr w0) O w0 O16 w ∧ a.get 0 = v_0 ∧ (rSl rStr).v O16 w v_0 x_0 ∧ a.get 4 = .pointer (some ⟨b4, 0, none⟩) ∧ a.get 5 = .pointer (some ⟨b11, 0, none⟩) ∧ a.get 24 = v_1 ∧ (rSl r_aEn).v O16 w v_1 x_1 ∧ a.get 25 = .int .i64 (x_1.length : Int) ∧ a.get 26 = .int .i64 x13 ∧ OwnB 2 (Fr w0) O16 w b11 #[.int .i64 x14.at_, .int .i64 x14.writer_, .int .i64 x14.day_, .string (str x14.prev_), .string (str x14.before_)] 92 ∧ OwnB 1 (Fr w0) O16 w b4 #[.int .i64 x15.Entry, .int .i64 x15.Why] 44 ∧ Comp.loopN (fun s => passport_Check_l2 x_1 x_0 s.1 s.2.1 s.2.2) n m (x13, x14, x15) = some e2) (m := n) ?st2 ?_
   case st2 =>
    exact ⟨_, _, _, _, hA, hB, q0, h_0, q4, q5, q24, h_1, q25, q26, f12, f5, Comp.run_loop he2⟩
   intro m_ a7 w7 hI
   clear hA hB he2 q0 q4 q5 q24 q25 q26 f12 f5 h_0 h_1
   obtain ⟨O16, x13, x14, x15, hA, hB, q0, h_0, q4, q5, q24, h_1, q25, q26, f12, f5, hl⟩ := hI
   obtain ⟨m2, hlt2, st2, h, hnext2, hdone2⟩ := Comp.loopN_succ hl; clear hl
   replace h : (passport_Check_l2 x_1 x_0 x13 x14 x15).run n = some st2 := h
   unfold passport_Check_l2 at h
   refine wp_seq ?_
   refine' region [_] mixed hA (.cons (fun _ _ hE hK hg => ok_lss (kn (hK 26 rfl) rfl q26) (kn (hK 25 rfl) rfl q25)) .nil) ?zok6 ?zgd6 ?zk6
   case zok6 | zgd6 => kernel_rfl
   intro a8 w8 hA hE HF
   replace q0 := kn (HF 0) rfl q0
   replace q4 := kn (HF 4) rfl q4
   replace q5 := kn (HF 5) rfl q5
   replace q24 := kn (HF 24) rfl q24
   replace q25 := kn (HF 25) rfl q25
   replace q26 := kn (HF 26) rfl q26
   have q27 := ksv (HF 27) rfl rfl rfl
   clear HF
   replace h_0 := GR.v_ext _ h_0 hE
   replace h_1 := GR.v_ext _ h_1 hE
   replace f5 := f5.ext hE
   replace f12 := f12.ext hE
   replace hB := Base.step hB hE hO; clear hE
   refine li_nil (nx_then (wp_seq ?_))
   refine wp_cond_b q27 (fun hc => ?_) (fun hc => ?_)
   ·
    replace h := Comp.run_b_t hc h; clear hc
    refine wp_skip (nx_then (wp_seq (wp_block (wp_seq ?_))))
    obtain ⟨x17, hx17, h⟩ := Comp.run_bind h
    refine' regionT [_, SP.ptr r_aEn O16 x17, SP.isv (.agg #[.int .i64 x17.Seq, .int .i64 x17.Shop, .int .i64 x17.Kind, .int .i64 x17.Day, .int .i64 x17.N, .string (str x17.Before), .string (str x17.After), .string (str x17.Prev), .string (str x17.Mark)]), SP.box w8.heap.size #[.int .i64 0, .int .i64 0, .int .i64 0, .int .i64 0, .int .i64 0, .string (str []), .string (str []), .string (str []), .string (str [])] 26, _] hA (.cons (fun _ _ hE hK hg => ok_move (kn (hK 26 rfl) rfl q26)) (.cons (fun _ _ hE hK hg => okl_idx (r := r_aEn) (O := O16) ty29 ty26 rfl (kn (hK 24 rfl) rfl q24) (rd_of (GR.v_ext _ h_1 hE)) (kn (hK 26 rfl) rfl q26) hx17) (.cons (fun _ _ hE hK hg => okl_ldr r_aEn fit_aEn ty26 rfl rfl rfl (kspS (φ := SP.ptr r_aEn O16 x17) (j := 1) (hK 29 rfl) rfl rfl rfl) (fun _ _ _ h => rC_v.1 h)) (.cons (fun _ _ hE hK hg => ok_alloc hE.size ty26) (.cons (fun _ _ hE hK hg => ok_assign (ksv (j := 0) (hK 28 rfl) rfl rfl rfl)) .nil))))) ?zok7 ?zgd7 ?zk7
    case zok7 | zgd7 => kernel_rfl
    intro a9 w9 hA hE HF
    replace q0 := kn (HF 0) rfl q0
    replace q4 := kn (HF 4) rfl q4
    replace q5 := kn (HF 5) rfl q5
    have q6 := ksv (HF 6) rfl rfl rfl
    have f19 := ksp (HF 7) rfl rfl rfl
    obtain ⟨u18, q7'⟩ : ∃ u, a9.get 7 = u := ⟨_, rfl⟩
    rw [q7'] at f19
    have q7 := q7'; clear q7'
    replace q24 := kn (HF 24) rfl q24
    replace q25 := kn (HF 25) rfl q25
    replace q26 := kn (HF 26) rfl q26
    have q30 := ksv (HF 30) rfl rfl rfl
    clear q27
    clear HF
    obtain ⟨O20, b21, hB', hX, e_, f22⟩ := boxNew hO hB hE f19 3 (by decide)
    subst e_
    clear hB f19; have hB := hB'; clear hB'
    replace h_0 := GR.kx _ h_0 hX (by decide)
    replace h_1 := GR.kx _ h_1 hX (by decide)
    replace f5 := f5.kx hX (by decide)
    replace f12 := f12.kx hX (by decide)
    clear hX hE
    refine l_storeSub (vs := [.int .i64 x17.Seq, .int .i64 x17.Shop, .int .i64 x17.Kind, .int .i64 x17.Day, .int .i64 x17.N, .string (str x17.Before), .string (str x17.After), .string (str x17.Prev), .string (str x17.Mark)]) (cs' := #[.int .i64 x17.Seq, .int .i64 x17.Shop, .int .i64 x17.Kind, .int .i64 x17.Day, .int .i64 x17.N, .string (str x17.Before), .string (str x17.After), .string (str x17.Prev), .string (str x17.Mark)]) hO hB (okB_fr hB) ty26 q7 q30 rfl (by simp [Value.oneCell']) f22 (by simp) rfl fun w10 f23 hB' hX => ?_
    clear hB f22; have hB := hB'; clear hB'
    replace h_0 := GR.kx _ h_0 hX (by decide)
    replace h_1 := GR.kx _ h_1 hX (by decide)
    replace f5 := f5.kx hX (by decide)
    replace f12 := f12.kx hX (by decide)
    clear hX
    refine li_nil (nx_then ?_)
    refine seq_join (fun a w => ∃ (O47 : Tags) (x46 : api_Finding), a.fit 54 ∧ Base (Fr w0) O w0 O47 w ∧ a.get 0 = v_0 ∧ (rSl rStr).v O47 w v_0 x_0 ∧ a.get 4 = .pointer (some ⟨b4, 0, none⟩) ∧ a.get 5 = .pointer (some ⟨b11, 0, none⟩) ∧ a.get 6 = .int .i64 x13 ∧ a.get 7 = .pointer (some ⟨b21, 0, none⟩) ∧ a.get 24 = v_1 ∧ (rSl r_aEn).v O47 w v_1 x_1 ∧ a.get 25 = .int .i64 (x_1.length : Int) ∧ a.get 26 = .int .i64 x13 ∧ OwnB 2 (Fr w0) O47 w b11 #[.int .i64 x14.at_, .int .i64 x14.writer_, .int .i64 x14.day_, .string (str x14.prev_), .string (str x14.before_)] 92 ∧ OwnB 3 (Fr w0) O47 w b21 #[.int .i64 x17.Seq, .int .i64 x17.Shop, .int .i64 x17.Kind, .int .i64 x17.Day, .int .i64 x17.N, .string (str x17.Before), .string (str x17.After), .string (str x17.Prev), .string (str x17.Mark)] 26 ∧ OwnB 1 (Fr w0) O47 w b4 #[.int .i64 x46.Entry, .int .i64 x46.Why] 44 ∧ (passport_Check_j3 x13 x17 x46).run n = some st2) ?_ ?_
    ·
     refine wp_seq ?_
     obtain ⟨x24, hx24, h⟩ := Comp.run_bind h
     refine' region [_, SP.isv (.agg #[.int .i64 x14.at_, .int .i64 x14.writer_, .int .i64 x14.day_, .string (str x14.prev_), .string (str x14.before_)]), SP.isv (.agg #[.int .i64 x17.Seq, .int .i64 x17.Shop, .int .i64 x17.Kind, .int .i64 x17.Day, .int .i64 x17.N, .string (str x17.Before), .string (str x17.After), .string (str x17.Prev), .string (str x17.Mark)]), SP.vl (rSl r_passport_condition) O20 x24, _, _] mixed hA (.cons (fun _ _ hE hK hg => ok_move (kn (hK 0 rfl) rfl q0)) (.cons (fun _ _ hE hK hg => ok_loadOwnAgg ty92 rfl (kn (hK 5 rfl) rfl q5) (OwnB.ext f12 hE).own rfl) (.cons (fun _ _ hE hK hg => ok_loadOwnAgg ty26 rfl (kn (hK 7 rfl) rfl q7) (OwnB.ext f23 hE).own rfl) (.cons ?z8_3 (.cons (fun _ _ hE hK hg => okl_len (r := r_passport_condition) ty93 rfl (rd_of (kspS (φ := SP.vl (rSl r_passport_condition) O20 x24) (j := 3) (hK 34 rfl) rfl rfl rfl))) (.cons (fun _ _ hE hK hg => ok_move rfl) .nil)))))) ?zok8 ?zgd8 ?zk8
     case z8_3 => intro a' w' hE hK hg; have c_ := ok_passport_conditions (OkO.ext hB.ok hE) (GR.v_ext _ h_0 hE) hx24; exact ok_weak (ok_call3 fn66 (ksv (j := 0) (hK 31 rfl) rfl rfl rfl) (ksv (j := 1) (hK 32 rfl) rfl rfl rfl) (ksv (j := 2) (hK 33 rfl) rfl rfl rfl) c_) (fun _ _ _ h => (OwnR.val h (fun g hg => (OkO.ext hB.ok hE) g (OwnR.ge h g hg).1)))
     case zok8 | zgd8 => kernel_rfl
     intro a11 w11 hA hE HF
     replace q0 := kn (HF 0) rfl q0
     replace q4 := kn (HF 4) rfl q4
     replace q5 := kn (HF 5) rfl q5
     replace q6 := kn (HF 6) rfl q6
     replace q7 := kn (HF 7) rfl q7
     replace q24 := kn (HF 24) rfl q24
     replace q25 := kn (HF 25) rfl q25
     replace q26 := kn (HF 26) rfl q26
     have f26 := ksp (HF 34) rfl rfl rfl
     obtain ⟨u25, q34'⟩ : ∃ u, a11.get 34 = u := ⟨_, rfl⟩
     rw [q34'] at f26
     have q34 := q34'; clear q34'
     have q35 := ksv (HF 35) rfl rfl rfl
     have q36 := ksv (HF 36) rfl rfl rfl
     clear HF
     replace h_0 := GR.v_ext _ h_0 hE
     replace h_1 := GR.v_ext _ h_1 hE
     replace f5 := f5.ext hE
     replace f12 := f12.ext hE
     replace f23 := f23.ext hE
     replace hB := Base.step hB hE hO; clear hE
     refine li_nil (nx_then (wp_block ?_))
     obtain ⟨e4, he4, hk4⟩ := Comp.run_bind h; clear h
     refine loop_m (fun m a w => ∃ (O29 : Tags) (x27 : Int) (x28 : api_Finding), a.fit 54 ∧ Base (Fr w0) O w0 O29 w ∧ a.get 0 = v_0 ∧ (rSl rStr).v O29 w v_0 x_0 ∧ a.get 4 = .pointer (some ⟨b4, 0, none⟩) ∧ a.get 5 = .pointer (some ⟨b11, 0, none⟩) ∧ a.get 6 = .int .i64 x13 ∧ a.get 7 = .pointer (some ⟨b21, 0, none⟩) ∧ a.get 24 = v_1 ∧ (rSl r_aEn).v O29 w v_1 x_1 ∧ a.get 25 = .int .i64 (x_1.length : Int) ∧ a.get 26 = .int .i64 x13 ∧ a.get 34 = u25 ∧ (rSl r_passport_condition).v O29 w u25 x24 ∧ a.get 35 = .int .i64 (x24.length : Int) ∧ a.get 36 = .int .i64 x27 ∧ OwnB 2 (Fr w0) O29 w b11 #[.int .i64 x14.at_, .int .i64 x14.writer_, .int .i64 x14.day_, .string (str x14.prev_), .string (str x14.before_)] 92 ∧ OwnB 3 (Fr w0) O29 w b21 #[.int .i64 x17.Seq, .int .i64 x17.Shop, .int .i64 x17.Kind, .int .i64 x17.Day, .int .i64 x17.N, .string (str x17.Before), .string (str x17.After), .string (str x17.Prev), .string (str x17.Mark)] 26 ∧ OwnB 1 (Fr w0) O29 w b4 #[.int .i64 x28.Entry, .int .i64 x28.Why] 44 ∧ Comp.loopN (fun s => passport_Check_l4 x24 x13 s.1 s.2) n m (x27, x28) = some e4) (m := n) ?st4 ?_
     case st4 =>
      exact ⟨_, _, _, hA, hB, q0, h_0, q4, q5, q6, q7, q24, h_1, q25, q26, q34, f26, q35, q36, f12, f23, f5, Comp.run_loop he4⟩
     intro m_ a12 w12 hI
     clear hA hB he4 q0 q4 q5 q6 q7 q24 q25 q26 q34 q35 q36 f12 f23 f26 f5 h_0 h_1
     obtain ⟨O29, x27, x28, hA, hB, q0, h_0, q4, q5, q6, q7, q24, h_1, q25, q26, q34, f26, q35, q36, f12, f23, f5, hl⟩ := hI
     obtain ⟨m4, hlt4, st4, h, hnext4, hdone4⟩ := Comp.loopN_succ hl; clear hl
     replace h : (passport_Check_l4 x24 x13 x27 x28).run n = some st4 := h
     unfold passport_Check_l4 at h
     refine wp_seq ?_
     refine' region [_] mixed hA (.cons (fun _ _ hE hK hg => ok_lss (kn (hK 36 rfl) rfl q36) (kn (hK 35 rfl) rfl q35)) .nil) ?zok9 ?zgd9 ?zk9
     case zok9 | zgd9 => kernel_rfl
     intro a13 w13 hA hE HF
     replace q0 := kn (HF 0) rfl q0
     replace q4 := kn (HF 4) rfl q4
     replace q5 := kn (HF 5) rfl q5
     replace q6 := kn (HF 6) rfl q6
     replace q7 := kn (HF 7) rfl q7
     replace q24 := kn (HF 24) rfl q24
     replace q25 := kn (HF 25) rfl q25
     replace q26 := kn (HF 26) rfl q26
     replace q34 := kn (HF 34) rfl q34
     replace q35 := kn (HF 35) rfl q35
     replace q36 := kn (HF 36) rfl q36
     have q37 := ksv (HF 37) rfl rfl rfl
     clear HF
     replace h_0 := GR.v_ext _ h_0 hE
     replace h_1 := GR.v_ext _ h_1 hE
     replace f26 := GR.v_ext _ f26 hE
     replace f5 := f5.ext hE
     replace f12 := f12.ext hE
     replace f23 := f23.ext hE
     replace hB := Base.step hB hE hO; clear hE
     refine li_nil (nx_then (wp_seq ?_))
     refine wp_cond_b q37 (fun hc => ?_) (fun hc => ?_)
     ·
      replace h := Comp.run_b_t hc h; clear hc
      refine wp_skip (nx_then (wp_seq (wp_block (wp_seq ?_))))
      obtain ⟨x30, hx30, h⟩ := Comp.run_bind h
      refine' regionT [SP.ptr r_passport_condition O29 x30, SP.vl r_passport_condition O29 x30] hA (.cons (fun _ _ hE hK hg => okl_idx (r := r_passport_condition) (O := O29) ty93 ty96 rfl (kn (hK 34 rfl) rfl q34) (rd_of (GR.v_ext _ f26 hE)) (kn (hK 36 rfl) rfl q36) hx30) (.cons (fun _ _ hE hK hg => okl_ld (r := r_passport_condition) fit_passport_condition ty96 rfl rfl rfl (kspS (φ := SP.ptr r_passport_condition O29 x30) (j := 0) (hK 38 rfl) rfl rfl rfl)) .nil)) ?zok10 ?zgd10 ?zk10
      case zok10 | zgd10 => kernel_rfl
      intro a14 w14 hA hE HF
      replace q0 := kn (HF 0) rfl q0
      replace q4 := kn (HF 4) rfl q4
      replace q5 := kn (HF 5) rfl q5
      replace q6 := kn (HF 6) rfl q6
      replace q7 := kn (HF 7) rfl q7
      replace q24 := kn (HF 24) rfl q24
      replace q25 := kn (HF 25) rfl q25
      replace q26 := kn (HF 26) rfl q26
      replace q34 := kn (HF 34) rfl q34
      replace q35 := kn (HF 35) rfl q35
      replace q36 := kn (HF 36) rfl q36
      have f32 := ksp (HF 39) rfl rfl rfl
      obtain ⟨u31, q39'⟩ : ∃ u, a14.get 39 = u := ⟨_, rfl⟩
      rw [q39'] at f32
      have q39 := q39'; clear q39'
      clear q37
      clear HF
      replace h_0 := GR.v_ext _ h_0 hE
      replace h_1 := GR.v_ext _ h_1 hE
      replace f26 := GR.v_ext _ f26 hE
      replace f5 := f5.ext hE
      replace f12 := f12.ext hE
      replace f23 := f23.ext hE
      replace hB := Base.step hB hE hO; clear hE
      refine l_ok (φ := SP.box w14.heap.size #[.int .i64 0, .nilFunc] 96) hO hB (by exact ok_alloc (Nat.le_refl _) ty96) rfl fun u33 w15 hE hB' f34 => ?_
      clear hB'; obtain ⟨O35, b37, hB', hX, e_, f36⟩ := boxNew hO hB hE f34 4 (by decide)
      subst e_; clear hB f34; have hB := hB'; clear hB'
      replace h_0 := GR.kx _ h_0 hX (by decide)
      replace h_1 := GR.kx _ h_1 hX (by decide)
      replace f26 := GR.kx _ f26 hX (by decide)
      replace f32 := GR.kx _ f32 hX (by decide)
      replace f5 := f5.kx hX (by decide)
      replace f12 := f12.kx hX (by decide)
      replace f23 := f23.kx hX (by decide)
      clear hX hE
      refine put_cont hA (by decide) fun a16 hA q_ hfr => ?_
      replace q0 := (hfr 0 rfl).trans q0
      replace q4 := (hfr 4 rfl).trans q4
      replace q5 := (hfr 5 rfl).trans q5
      replace q6 := (hfr 6 rfl).trans q6
      replace q7 := (hfr 7 rfl).trans q7
      replace q24 := (hfr 24 rfl).trans q24
      replace q25 := (hfr 25 rfl).trans q25
      replace q26 := (hfr 26 rfl).trans q26
      replace q34 := (hfr 34 rfl).trans q34
      replace q35 := (hfr 35 rfl).trans q35
      replace q36 := (hfr 36 rfl).trans q36
      replace q39 := (hfr 39 rfl).trans q39
      have q9 := q_; clear q_ hfr
      obtain ⟨u38, e_, f39⟩ := openV_passport_condition f32; subst e_
      refine l_storeSub (vs := [.int .i64 x30.err_, u38]) (cs' := #[.int .i64 x30.err_, u38]) hO hB (okB_fr hB) ty96 q9 q39 rfl (by intro c_ hc_; simp only [List.mem_cons, List.not_mem_nil, or_false] at hc_; rcases hc_ with rfl | rfl <;> first | rfl | assumption | exact sl_one f39 rfl rfl) f36 (by simp) rfl fun w17 f40 hB' hX => ?_
      clear hB f36; have hB := hB'; clear hB'
      replace h_0 := GR.kx _ h_0 hX (by decide)
      replace h_1 := GR.kx _ h_1 hX (by decide)
      replace f26 := GR.kx _ f26 hX (by decide)
      replace f39 := GR.kx _ f39 hX (by decide)
      replace f5 := f5.kx hX (by decide)
      replace f12 := f12.kx hX (by decide)
      replace f23 := f23.kx hX (by decide)
      clear hX
      refine li_nil (nx_then (wp_seq ?_))
      obtain ⟨x41, hx41, h⟩ := Comp.run_bind h
      refine' region [SP.isv (.pointer (some ⟨b37, 1, none⟩)), SP.isv (u38), SP.isv (.bool x41), _] mixed hA (.cons (fun _ _ hE hK hg => ok_fieldAddr fl96_1 (kn (hK 9 rfl) rfl q9)) (.cons (fun _ _ hE hK hg => ok_loadOwn ty27 rfl (ksv (j := 0) (hK 40 rfl) rfl rfl rfl) (OwnB.ext f40 hE).own rfl) (.cons (fun _ _ hE hK hg => okl_callv0 (R := (RS.c (fun x => .bool x))) (ksv (j := 1) (hK 41 rfl) rfl rfl rfl) (show ((rF0 Try.prog (RS.c (fun x => .bool x)))).v O35 _ _ _ from (GR.v_ext _ f39 hE)) (OkO.ext hB.ok hE)   hx41) (.cons (fun _ _ hE hK hg => ok_not (ksv (j := 2) (hK 42 rfl) rfl rfl rfl)) .nil)))) ?zok11 ?zgd11 ?zk11
      case zok11 | zgd11 => kernel_rfl
      intro a18 w18 hA hE HF
      replace q0 := kn (HF 0) rfl q0
      replace q4 := kn (HF 4) rfl q4
      replace q5 := kn (HF 5) rfl q5
      replace q6 := kn (HF 6) rfl q6
      replace q7 := kn (HF 7) rfl q7
      replace q9 := kn (HF 9) rfl q9
      replace q24 := kn (HF 24) rfl q24
      replace q25 := kn (HF 25) rfl q25
      replace q26 := kn (HF 26) rfl q26
      replace q34 := kn (HF 34) rfl q34
      replace q35 := kn (HF 35) rfl q35
      replace q36 := kn (HF 36) rfl q36
      have q43 := ksv (HF 43) rfl rfl rfl
      clear HF
      replace h_0 := GR.v_ext _ h_0 hE
      replace h_1 := GR.v_ext _ h_1 hE
      replace f26 := GR.v_ext _ f26 hE
      replace f5 := f5.ext hE
      replace f12 := f12.ext hE
      replace f23 := f23.ext hE
      replace f40 := f40.ext hE
      replace f39 := GR.v_ext _ f39 hE
      replace hB := Base.step hB hE hO; clear hE
      refine li_nil (nx_then ?_)
      refine wp_cond_b q43 (fun hc => ?_) (fun hc => ?_)
      ·
       replace h := Comp.run_b_t hc h; clear hc
       refine wp_seq ?_
       refine' regionT [_, SP.isv (.pointer (some ⟨b37, 0, none⟩)), SP.isv (.int .i64 x30.err_), SP.isv (.agg #[.int .i64 x13, .int .i64 x30.err_])] hA (.cons (fun _ _ hE hK hg => ok_move (kn (hK 6 rfl) rfl q6)) (.cons (fun _ _ hE hK hg => ok_fieldAddr fl96_0 (kn (hK 9 rfl) rfl q9)) (.cons (fun _ _ hE hK hg => ok_loadOwn ty42 rfl (ksv (j := 1) (hK 45 rfl) rfl rfl rfl) (OwnB.ext f40 hE).own rfl) (.cons (fun _ _ hE hK hg => okl_build plc44 ty44 (pk_cons (v := .int .i64 x13) (ksv (j := 0) (hK 44 rfl) rfl rfl rfl) (pk_cons (v := .int .i64 x30.err_) (ksv (j := 2) (hK 46 rfl) rfl rfl rfl) pk_nil)) rfl (.cons rfl rfl rfl (leb rfl) (.cons rfl rfl rfl (leb rfl) .nil)) rfl) .nil)))) ?zok12 ?zgd12 ?zk12
       case zok12 | zgd12 => kernel_rfl
       intro a19 w19 hA hE HF
       replace q4 := kn (HF 4) rfl q4
       have q47 := ksv (HF 47) rfl rfl rfl
       clear q0
       clear q5
       clear q6
       clear q7
       clear q9
       clear q24
       clear q25
       clear q26
       clear q34
       clear q35
       clear q36
       clear q43
       clear HF
       replace h_0 := GR.v_ext _ h_0 hE
       replace h_1 := GR.v_ext _ h_1 hE
       replace f26 := GR.v_ext _ f26 hE
       replace f5 := f5.ext hE
       replace f12 := f12.ext hE
       replace f23 := f23.ext hE
       replace f40 := f40.ext hE
       replace f39 := GR.v_ext _ f39 hE
       replace hB := Base.step hB hE hO; clear hE
       refine l_storeSub (vs := [.int .i64 x13, .int .i64 x30.err_]) (cs' := #[.int .i64 x13, .int .i64 x30.err_]) hO hB (okB_fr hB) ty44 q4 q47 rfl (by simp [Value.oneCell']) f5 (by simp) rfl fun w20 f42 hB' hX => ?_
       clear hB f5; have hB := hB'; clear hB'
       clear hX
       refine li_nil (nx_then (wp_ret (rt_blk (rt_then (rt_then (rt_blk (rt_then (rt_blk (rt_then (rt_then (rt_blk (rt_then ?_))))))))))))
       have hd_ := hdone4 _ (Comp.run_pure h).symm; clear h
       subst hd_; have h := hk4; clear hk4; try dsimp only at h
       have hd_ := hdone2 _ (Comp.run_pure h).symm; clear h
       subst hd_; have h := hk2; clear hk2; try dsimp only at h
       have h := Comp.run_pure h; subst h
       exact retG1 Try.results25 hA (.agg q4 ty44 rfl rfl f42.own) ⟨_, rfl, hB.ext, rfl⟩
      ·
       replace h := Comp.run_b_f hc h; clear hc
       refine wp_skip (nx_blk (nx_then ?_))
       refine' region [_, _] mixed hA (.cons (fun _ _ hE hK hg => ok_add (kn (hK 36 rfl) rfl q36) rfl) (.cons (fun _ _ hE hK hg => ok_move (ksv (j := 0) (hK 48 rfl) rfl rfl rfl)) .nil)) ?zok13 ?zgd13 ?zk13
       case zok13 | zgd13 => kernel_rfl
       intro a21 w21 hA hE HF
       replace q0 := kn (HF 0) rfl q0
       replace q4 := kn (HF 4) rfl q4
       replace q5 := kn (HF 5) rfl q5
       replace q6 := kn (HF 6) rfl q6
       replace q7 := kn (HF 7) rfl q7
       replace q24 := kn (HF 24) rfl q24
       replace q25 := kn (HF 25) rfl q25
       replace q26 := kn (HF 26) rfl q26
       replace q34 := kn (HF 34) rfl q34
       replace q35 := kn (HF 35) rfl q35
       have q36' := ksv (HF 36) rfl rfl rfl
       replace q36 := q36'; clear q36'
       clear q9
       clear q43
       clear HF
       replace h_0 := GR.v_ext _ h_0 hE
       replace h_1 := GR.v_ext _ h_1 hE
       replace f26 := GR.v_ext _ f26 hE
       replace f5 := f5.ext hE
       replace f12 := f12.ext hE
       replace f23 := f23.ext hE
       replace f40 := f40.ext hE
       replace f39 := GR.v_ext _ f39 hE
       replace hB := Base.step hB hE hO; clear hE
       refine li_nil (nx_then ?_)
       have h := hnext4 _ (Comp.run_pure h).symm
       refine ⟨m4, hlt4, ?_⟩
       exact ⟨_, _, _, hA, hB, q0, h_0, q4, q5, q6, q7, q24, h_1, q25, q26, q34, f26, q35, q36, f12, f23, f5, h⟩
     ·
      replace h := Comp.run_b_f hc h; clear hc
      refine wp_exit (ex_then (ex_then (ex_same ?_)))
      have hd_ := hdone4 _ (Comp.run_pure h).symm; clear h
      subst hd_; have h := hk4; clear hk4; try dsimp only at h
      refine nx_then ?_
      exact ⟨_, _, hA, hB, q0, h_0, q4, q5, q6, q7, q24, h_1, q25, q26, f12, f23, f5, h⟩
    intro a22 w22 hI
    clear hA hB h q0 q4 q5 q6 q7 q24 q25 q26 f12 f23 f5 h_0 h_1
    obtain ⟨O47, x46, hA, hB, q0, h_0, q4, q5, q6, q7, q24, h_1, q25, q26, f12, f23, f5, h⟩ := hI
    unfold passport_Check_j3 at h
    obtain ⟨x48, hx48, h⟩ := Comp.run_bind h
    refine' regionT [_, SP.isv (.agg #[.int .i64 x17.Seq, .int .i64 x17.Shop, .int .i64 x17.Kind, .int .i64 x17.Day, .int .i64 x17.N, .string (str x17.Before), .string (str x17.After), .string (str x17.Prev), .string (str x17.Mark)]), SP.isv (.agg #[.int .i64 x48.at_, .int .i64 x48.writer_, .int .i64 x48.day_, .string (str x48.prev_), .string (str x48.before_)])] hA (.cons (fun _ _ hE hK hg => ok_move (kn (hK 6 rfl) rfl q6)) (.cons (fun _ _ hE hK hg => ok_loadOwnAgg ty26 rfl (kn (hK 7 rfl) rfl q7) (OwnB.ext f23 hE).own rfl) (.cons ?z14_2 .nil))) ?zok14 ?zgd14 ?zk14
    case z14_2 => intro a' w' hE hK hg; have c_ := ok_passport_behind (OkO.ext hB.ok hE)  hx48; exact ok_call2 fn67 (ksv (j := 0) (hK 49 rfl) rfl rfl rfl) (ksv (j := 1) (hK 50 rfl) rfl rfl rfl) c_
    case zok14 | zgd14 => kernel_rfl
    intro a23 w23 hA hE HF
    replace q0 := kn (HF 0) rfl q0
    replace q4 := kn (HF 4) rfl q4
    replace q5 := kn (HF 5) rfl q5
    replace q24 := kn (HF 24) rfl q24
    replace q25 := kn (HF 25) rfl q25
    replace q26 := kn (HF 26) rfl q26
    have q51 := ksv (HF 51) rfl rfl rfl
    clear q6
    clear q7
    clear HF
    replace h_0 := GR.v_ext _ h_0 hE
    replace h_1 := GR.v_ext _ h_1 hE
    replace f5 := f5.ext hE
    replace f12 := f12.ext hE
    replace f23 := f23.ext hE
    replace hB := Base.step hB hE hO; clear hE
    refine l_storeSub (vs := [.int .i64 x48.at_, .int .i64 x48.writer_, .int .i64 x48.day_, .string (str x48.prev_), .string (str x48.before_)]) (cs' := #[.int .i64 x48.at_, .int .i64 x48.writer_, .int .i64 x48.day_, .string (str x48.prev_), .string (str x48.before_)]) hO hB (okB_fr hB) ty92 q5 q51 rfl (by simp [Value.oneCell']) f12 (by simp) rfl fun w24 f49 hB' hX => ?_
    clear hB f12; have hB := hB'; clear hB'
    replace h_0 := GR.kx _ h_0 hX (by decide)
    replace h_1 := GR.kx _ h_1 hX (by decide)
    replace f5 := f5.kx hX (by decide)
    clear hX
    refine li_nil (nx_blk (nx_then ?_))
    refine' region [_, _] mixed hA (.cons (fun _ _ hE hK hg => ok_add (kn (hK 26 rfl) rfl q26) rfl) (.cons (fun _ _ hE hK hg => ok_move (ksv (j := 0) (hK 52 rfl) rfl rfl rfl)) .nil)) ?zok15 ?zgd15 ?zk15
    case zok15 | zgd15 => kernel_rfl
    intro a25 w25 hA hE HF
    replace q0 := kn (HF 0) rfl q0
    replace q4 := kn (HF 4) rfl q4
    replace q5 := kn (HF 5) rfl q5
    replace q24 := kn (HF 24) rfl q24
    replace q25 := kn (HF 25) rfl q25
    have q26' := ksv (HF 26) rfl rfl rfl
    replace q26 := q26'; clear q26'
    clear HF
    replace h_0 := GR.v_ext _ h_0 hE
    replace h_1 := GR.v_ext _ h_1 hE
    replace f5 := f5.ext hE
    replace f49 := f49.ext hE
    replace hB := Base.step hB hE hO; clear hE
    refine li_nil (nx_then ?_)
    have h := hnext2 _ (Comp.run_pure h).symm
    refine ⟨m2, hlt2, ?_⟩
    exact ⟨_, _, _, _, hA, hB, q0, h_0, q4, q5, q24, h_1, q25, q26, f49, f5, h⟩
   ·
    replace h := Comp.run_b_f hc h; clear hc
    refine wp_exit (ex_then (ex_then (ex_same ?_)))
    have hd_ := hdone2 _ (Comp.run_pure h).symm; clear h
    subst hd_; have h := hk2; clear hk2; try dsimp only at h
    refine nx_then ?_
    exact ⟨_, _, hA, hB, q4, f5, h⟩
  intro a26 w26 hI
  clear hA hB h q0 q1 q4 q5 f12 f5 h_0 h_1
  obtain ⟨O52, x51, hA, hB, q4, f5, h⟩ := hI
  unfold passport_Check_j1 at h
  refine wp_seq ?_
  refine' regionT [SP.isv (.agg #[.int .i64 (-1), .int .i64 0])] hA (.cons (fun _ _ hE hK hg => okl_build plc44 ty44 (pk_cons (v := .int .i64 (-1)) rfl pk_nil) rfl (.cons rfl rfl rfl (leb rfl) .nil) rfl) .nil) ?zok16 ?zgd16 ?zk16
  case zok16 | zgd16 => kernel_rfl
  intro a27 w27 hA hE HF
  replace q4 := kn (HF 4) rfl q4
  have q53 := ksv (HF 53) rfl rfl rfl
  clear HF
  replace f5 := f5.ext hE
  replace hB := Base.step hB hE hO; clear hE
  refine l_storeSub (vs := [.int .i64 (-1), .int .i64 0]) (cs' := #[.int .i64 (-1), .int .i64 0]) hO hB (okB_fr hB) ty44 q4 q53 rfl (by simp [Value.oneCell']) f5 (by simp) rfl fun w28 f53 hB' hX => ?_
  clear hB f5; have hB := hB'; clear hB'
  clear hX
  refine li_nil (nx_then (wp_ret ?_))
  have h := Comp.run_pure h; subst h
  exact retG1 Try.results25 hA (.agg q4 ty44 rfl rfl f53.own) ⟨_, rfl, hB.ext, rfl⟩
theorem ok_c7_finds {O : Tags} {w0 : World} (hO : OkO O w0) {v_0 : Value} {x_0 : List Bytes} (h_0 : (rSl rStr).v O w0 v_0 x_0) {v_1 : Value} {x_1 : List aEn} (h_1 : (rSl r_aEn).v O w0 v_1 x_1) {x_2 : Int} {x_3 : Int} {n : Nat} {y : Bool} (h : (c7_finds x_0 x_1 x_2 x_3).run n = some y) : Pure Try.prog 31 #[v_0, v_1, .int .i64 x_2, .int .i64 x_3] w0 (SP.isv (.bool y)).holds := by
 unfold c7_finds at h
 refine pure_of_wp Try.func31 rfl 16 Try.ntmps31 (by simp) fun a0 hA hs0 => ?_
 have q0 : a0.get 0 = v_0 := hs0 0 _ rfl
 have q1 : a0.get 1 = v_1 := hs0 1 _ rfl
 have q2 : a0.get 2 = .int .i64 x_2 := hs0 2 _ rfl
 have q3 : a0.get 3 = .int .i64 x_3 := hs0 3 _ rfl
 clear hs0
 have hB : Base (Fr w0) O w0 O w0 := Base.start hO
 refine wp_seq ?_
 refine' region [_] mixed hA (.cons (fun _ _ hE hK hg => ok_assign rfl) .nil) ?zok1 ?zgd1 ?zk1
 case zok1 | zgd1 => kernel_rfl
 intro a1 w1 hA hE HF
 replace q0 := kn (HF 0) rfl q0
 replace q1 := kn (HF 1) rfl q1
 replace q2 := kn (HF 2) rfl q2
 replace q3 := kn (HF 3) rfl q3
 clear HF
 replace h_0 := GR.v_ext _ h_0 hE
 replace h_1 := GR.v_ext _ h_1 hE
 replace hB := Base.step hB hE hO; clear hE
 refine li_nil (nx_then (wp_seq ?_))
 obtain ⟨x1, hx1, h⟩ := Comp.run_bind h
 refine' region [_, _, SP.isv (.agg #[.int .i64 x1.Entry, .int .i64 x1.Why]), _, _, SP.isv (.agg #[.int .i64 x_2, .int .i64 x_3]), _, _] mixed hA (.cons (fun _ _ hE hK hg => ok_move (kn (hK 0 rfl) rfl q0)) (.cons (fun _ _ hE hK hg => ok_move (kn (hK 1 rfl) rfl q1)) (.cons ?z2_2 (.cons (fun _ _ hE hK hg => ok_move (kn (hK 2 rfl) rfl q2)) (.cons (fun _ _ hE hK hg => ok_move (kn (hK 3 rfl) rfl q3)) (.cons (fun _ _ hE hK hg => okl_build plc44 ty44 (pk_cons (v := .int .i64 x_2) (ksv (j := 3) (hK 12 rfl) rfl rfl rfl) (pk_cons (v := .int .i64 x_3) (ksv (j := 4) (hK 13 rfl) rfl rfl rfl) pk_nil)) rfl (.cons rfl rfl rfl (leb rfl) (.cons rfl rfl rfl (leb rfl) .nil)) rfl) (.cons (fun _ _ hE hK hg => okl_eqlR (O1 := O) (O2 := O) (w1 := w1) (w2 := w1) eq_api_Finding rfl (by decide) (by kernel_rfl) (ksv (j := 2) (hK 11 rfl) rfl rfl rfl) (ksv (j := 5) (hK 14 rfl) rfl rfl rfl) ((rC_v (x := x1)).2 rfl) ((rC_v (x := (api_Finding.mk x_2 x_3))).2 rfl)) (.cons (fun _ _ hE hK hg => ok_assign (ksv (j := 6) (hK 15 rfl) rfl rfl rfl)) .nil)))))))) ?zok2 ?zgd2 ?zk2
 case z2_2 => intro a' w' hE hK hg; have c_ := ok_passport_Check (OkO.ext hB.ok hE) (GR.v_ext _ h_0 hE) (GR.v_ext _ h_1 hE) hx1; exact ok_call2 fn25 (ksv (j := 0) (hK 9 rfl) rfl rfl rfl) (ksv (j := 1) (hK 10 rfl) rfl rfl rfl) c_
 case zok2 | zgd2 => kernel_rfl
 intro a2 w2 hA hE HF
 have q8 := ksv (HF 8) rfl rfl rfl
 clear q0
 clear q1
 clear q2
 clear q3
 clear HF
 replace h_0 := GR.v_ext _ h_0 hE
 replace h_1 := GR.v_ext _ h_1 hE
 replace hB := Base.step hB hE hO; clear hE
 refine li_nil (nx_then (wp_ret ?_))
 have h := Comp.run_pure h; subst h
 exact retPure Try.results31 hA q8 hB.ext rfl
theorem ok_c7_put {O : Tags} {w0 : World} (hO : OkO O w0) {v_0 : Value} {x_0 : List Bytes} (h_0 : (rSl rStr).v O w0 v_0 x_0) {v_1 : Value} {x_1 : List aEn} (h_1 : (rSl r_aEn).v O w0 v_1 x_1) {x_2 : Int} {x_3 : aEn} {n : Nat} {y : (List aEn)} (h : (c7_put x_0 x_1 x_2 x_3).run n = some y) : Pure Try.prog 53 #[v_0, v_1, .int .i64 x_2, .agg #[.int .i64 x_3.Seq, .int .i64 x_3.Shop, .int .i64 x_3.Kind, .int .i64 x_3.Day, .int .i64 x_3.N, .string (str x_3.Before), .string (str x_3.After), .string (str x_3.Prev), .string (str x_3.Mark)]] w0 (SP.ownr r_aEn 26 (w0.heap.size) O y).holds := by
 unfold c7_put at h
 refine pure_of_wp Try.func53 rfl 24 Try.ntmps53 (by simp) fun a0 hA hs0 => ?_
 have q0 : a0.get 0 = v_0 := hs0 0 _ rfl
 have q1 : a0.get 1 = v_1 := hs0 1 _ rfl
 have q2 : a0.get 2 = .int .i64 x_2 := hs0 2 _ rfl
 have q3 : a0.get 3 = .agg #[.int .i64 x_3.Seq, .int .i64 x_3.Shop, .int .i64 x_3.Kind, .int .i64 x_3.Day, .int .i64 x_3.N, .string (str x_3.Before), .string (str x_3.After), .string (str x_3.Prev), .string (str x_3.Mark)] := hs0 3 _ rfl
 clear hs0
 have hB : Base (Fr w0) O w0 O w0 := Base.start hO
 refine wp_seq ?_
 refine' region [SP.vl (rBox r_aEn) O x_3, _] mixed hA (.cons ?z1_0 (.cons (fun _ _ hE hK hg => ok_assign rfl) .nil)) ?zok1 ?zgd1 ?zk1
 case z1_0 => intro a' w' hE hK hg; exact okl_boxV (r := r_aEn) fit_aEn (OkO.ext hB.ok hE) (kn (hK 3 rfl) rfl q3) (by first | exact (rC_v (x := x_3)).2 rfl | exact ⟨_, rfl, rfl⟩)
 case zok1 | zgd1 => kernel_rfl
 intro a1 w1 hA hE HF
 replace q0 := kn (HF 0) rfl q0
 replace q1 := kn (HF 1) rfl q1
 replace q2 := kn (HF 2) rfl q2
 have f2 := ksp (HF 7) rfl rfl rfl
 obtain ⟨u1, q7'⟩ : ∃ u, a1.get 7 = u := ⟨_, rfl⟩
 rw [q7'] at f2
 have q7 := q7'; clear q7'
 clear q3
 clear HF
 replace h_0 := GR.v_ext _ h_0 hE
 replace h_1 := GR.v_ext _ h_1 hE
 replace hB := Base.step hB hE hO; clear hE
 refine li_nil (nx_then (wp_seq ?_))
 refine' regionT [] hA .nil ?zok2 ?zgd2 ?zk2
 case zok2 | zgd2 => kernel_rfl
 intro a2 w2 hA hE HF
 replace q0 := kn (HF 0) rfl q0
 replace q1 := kn (HF 1) rfl q1
 replace q2 := kn (HF 2) rfl q2
 replace q7 := kn (HF 7) rfl q7
 clear HF
 replace h_0 := GR.v_ext _ h_0 hE
 replace h_1 := GR.v_ext _ h_1 hE
 replace f2 := GR.v_ext _ f2 hE
 replace hB := Base.step hB hE hO; clear hE
 refine l_ok (φ := SP.ownr r_aEn 26 w2.heap.size O []) hO hB (by exact okl_buildSlice (r := r_aEn) fit_aEn rfl hB.ok ty29 ty26 (Nat.le_refl _) parts_nil trivial rfl (by decide)) rfl fun u3 w3 hE hB' f4 => ?_
 clear hB'; obtain ⟨O5, hB', hX, f6⟩ := ownNew hO hB hE f4 rfl 1 (by decide)
 clear hB f4; have hB := hB'; clear hB'
 replace h_0 := GR.kx _ h_0 hX (by decide)
 replace h_1 := GR.kx _ h_1 hX (by decide)
 replace f2 := GR.kx _ f2 hX (by decide)
 clear hX hE
 refine put_cont hA (by decide) fun a4 hA q_ hfr => ?_
 replace q0 := (hfr 0 rfl).trans q0
 replace q1 := (hfr 1 rfl).trans q1
 replace q2 := (hfr 2 rfl).trans q2
 replace q7 := (hfr 7 rfl).trans q7
 have q10 := q_; clear q_ hfr
 refine l_ok (φ := SP.isv (v_1)) hO hB (by exact ok_move q1) rfl fun u_ w5 hE hB' hv_ => ?_
 replace hv_ := Eq.symm hv_; subst hv_; clear hB; have hB := hB'; clear hB'
 replace h_0 := GR.v_ext _ h_0 hE
 replace h_1 := GR.v_ext _ h_1 hE
 replace f2 := GR.v_ext _ f2 hE
 replace f6 := f6.ext hE
 clear hE
 refine put_cont hA (by decide) fun a6 hA q_ hfr => ?_
 replace q0 := (hfr 0 rfl).trans q0
 replace q1 := (hfr 1 rfl).trans q1
 replace q2 := (hfr 2 rfl).trans q2
 replace q7 := (hfr 7 rfl).trans q7
 replace q10 := (hfr 10 rfl).trans q10
 have q11 := q_; clear q_ hfr
 obtain ⟨x7, hx7, h⟩ := Comp.run_bind h
 refine l_append (r := r_aEn) fit_aEn rfl ty29 ty26 rfl (by decide) hO hB (okB_fr hB) q10 f6 q11 (rd_of h_1) hx7 (by decide) fun u8 w7 O9 f10 hB' hX => ?_
 clear hB; have hB := hB'; clear hB'
 clear f6
 replace h_0 := GR.kx _ h_0 hX (by decide)
 replace f2 := GR.kx _ f2 hX (by decide)
 replace h_1 := GR.kx _ h_1 hX (by decide)
 clear hX
 refine put_cont hA (by decide) fun a8 hA q_ hfr => ?_
 replace q0 := (hfr 0 rfl).trans q0
 replace q2 := (hfr 2 rfl).trans q2
 replace q7 := (hfr 7 rfl).trans q7
 replace q10 := (hfr 10 rfl).trans q10
 replace q11 := (hfr 11 rfl).trans q11
 have q12 := q_; clear q_ hfr
 refine l_ok (φ := SP.isv (u8)) hO hB (by exact ok_assign q12) rfl fun u_ w9 hE hB' hv_ => ?_
 replace hv_ := Eq.symm hv_; subst hv_; clear hB; have hB := hB'; clear hB'
 replace h_0 := GR.v_ext _ h_0 hE
 replace f2 := GR.v_ext _ f2 hE
 replace f10 := f10.ext hE
 clear hE
 refine put_cont hA (by decide) fun a10 hA q_ hfr => ?_
 replace q0 := (hfr 0 rfl).trans q0
 replace q2 := (hfr 2 rfl).trans q2
 replace q7 := (hfr 7 rfl).trans q7
 replace q12 := (hfr 12 rfl).trans q12
 have q9 := q_; clear q_ hfr
 refine li_nil (nx_then (wp_seq ?_))
 obtain ⟨x11, hx11, h⟩ := Comp.run_bind h
 obtain ⟨x12, hx12, h⟩ := Comp.run_bind h
 obtain ⟨x13, hx13, h⟩ := Comp.run_bind h
 refine' region [_, _, _, SP.ptr (rInt .i64) O9 x_3.Shop, SP.isv (.int .i64 x_3.Shop), SP.ptr rStr O9 x11, SP.isv (.string (str x11)), SP.isv (.agg #[.int .i64 x_3.Seq, .int .i64 x_3.Shop, .int .i64 x_3.Kind, .int .i64 x_3.Day, .int .i64 x_3.N, .string (str x_3.Before), .string (str x_3.After), .string (str x_3.Prev), .string (str x_3.Mark)]), SP.isv (.agg #[.int .i64 x12.Seq, .int .i64 x12.Shop, .int .i64 x12.Kind, .int .i64 x12.Day, .int .i64 x12.N, .string (str x12.Before), .string (str x12.After), .string (str x12.Prev), .string (str x12.Mark)]), SP.elt (u8) (Int.toNat x_2 * 9)] mixed hA (.cons (fun _ _ hE hK hg => ok_move (kn (hK 9 rfl) rfl q9)) (.cons (fun _ _ hE hK hg => ok_move (kn (hK 2 rfl) rfl q2)) (.cons (fun _ _ hE hK hg => ok_move (kn (hK 0 rfl) rfl q0)) (.cons (fun _ _ hE hK hg => okl_fldB (S := r_aEn) fit_aEn rfl (fun _ => rfl) sb_aEn_1 fl26_1 (kn (hK 7 rfl) rfl q7) (GR.v_ext _ f2 hE)) (.cons (fun _ _ hE hK hg => okl_ldr (rInt .i64) (fun _ => rfl) ty3 rfl rfl rfl (kspS (φ := SP.ptr (rInt .i64) O9 x_3.Shop) (j := 3) (hK 16 rfl) rfl rfl rfl) (fun _ _ _ h => rInt_v.1 h)) (.cons (fun _ _ hE hK hg => okl_idx (r := rStr) (O := O9) ty28 ty9 rfl (ksv (j := 2) (hK 15 rfl) rfl rfl rfl) (rd_of (GR.v_ext _ h_0 hE)) (ksv (j := 4) (hK 17 rfl) rfl rfl rfl) hx11) (.cons (fun _ _ hE hK hg => okl_ldr rStr (fun _ => rfl) ty9 rfl rfl rfl (kspS (φ := SP.ptr rStr O9 x11) (j := 5) (hK 18 rfl) rfl rfl rfl) (fun _ _ _ h => rStr_v.1 h)) (.cons (fun _ _ hE hK hg => okl_ldr r_aEn fit_aEn ty26 rfl rfl (kn (hK 7 rfl) rfl q7) (ptr_of_box fit_aEn (GR.v_ext _ f2 hE)) (fun _ _ _ h => rC_v.1 h)) (.cons ?z3_8 (.cons (fun _ _ hE hK hg => okl_idxOwn rfl ty29 ty26 (ksv (j := 0) (hK 13 rfl) rfl rfl rfl) (OwnL.ext f10 hE) (ksv (j := 1) (hK 14 rfl) rfl rfl rfl) (idx_lt hx13)) .nil)))))))))) ?zok3 ?zgd3 ?zk3
 case z3_8 => intro a' w' hE hK hg; have c_ := ok_passport_Sign (OkO.ext hB.ok hE)  hx12; exact ok_call2 fn19 (ksv (j := 6) (hK 19 rfl) rfl rfl rfl) (ksv (j := 7) (hK 20 rfl) rfl rfl rfl) c_
 case zok3 | zgd3 => kernel_rfl
 intro a11 w11 hA hE HF
 replace q9 := kn (HF 9) rfl q9
 have q21 := ksv (HF 21) rfl rfl rfl
 have f15 := ksp (HF 22) rfl rfl rfl
 obtain ⟨u14, q22'⟩ : ∃ u, a11.get 22 = u := ⟨_, rfl⟩
 rw [q22'] at f15
 have q22 := q22'; clear q22'
 clear q0
 clear q2
 clear q7
 clear HF
 replace h_0 := GR.v_ext _ h_0 hE
 replace f2 := GR.v_ext _ f2 hE
 replace f10 := f10.ext hE
 replace hB := Base.step hB hE hO; clear hE
 obtain ⟨x17, hx17, h⟩ := Comp.run_bind h
 refine l_storeElt (r := r_aEn) fit_aEn rfl hO hB (okB_fr hB) ty26 q22 f15 f10 q21 (by first | exact (rC_v (x := x12)).2 rfl | exact ⟨_, rfl, rfl⟩) hx17 (by decide) fun w12 f16 hB' hX => ?_
 clear hB; have hB := hB'; clear hB'
 clear hX f10
 refine li_nil (nx_then (wp_seq ?_))
 refine' region [_, _] mixed hA (.cons (fun _ _ hE hK hg => ok_move (kn (hK 9 rfl) rfl q9)) (.cons (fun _ _ hE hK hg => ok_assign (ksv (j := 0) (hK 23 rfl) rfl rfl rfl)) .nil)) ?zok4 ?zgd4 ?zk4
 case zok4 | zgd4 => kernel_rfl
 intro a13 w13 hA hE HF
 have q8 := ksv (HF 8) rfl rfl rfl
 clear q9
 clear HF
 replace f16 := f16.ext hE
 replace hB := Base.step hB hE hO; clear hE
 refine li_nil (nx_then (wp_ret ?_))
 have h := Comp.run_pure h; subst h
 exact retPure Try.results53 hA q8 hB.ext (OwnL.res f16 (by decide) hB.zero)
theorem ok_passport_Fork {O : Tags} {w0 : World} (hO : OkO O w0) {v_0 : Value} {x_0 : List Bytes} (h_0 : (rSl rStr).v O w0 v_0 x_0) {v_1 : Value} {x_1 : List aEn} (h_1 : (rSl r_aEn).v O w0 v_1 x_1) {v_2 : Value} {x_2 : List aEn} (h_2 : (rSl r_aEn).v O w0 v_2 x_2) {n : Nat} {y : (Int × Bool)} (h : (passport_Fork x_0 x_1 x_2).run n = some y) : Pure Try.prog 27 #[v_0, v_1, v_2] w0 (SP.tup2 (SP.isv (.int .i64 y.1)) (SP.isv (.bool y.2))).holds := by
 unfold passport_Fork at h
 refine pure_of_wp Try.func27 rfl 81 Try.ntmps27 (by simp) fun a0 hA hs0 => ?_
 have q0 : a0.get 0 = v_0 := hs0 0 _ rfl
 have q1 : a0.get 1 = v_1 := hs0 1 _ rfl
 have q2 : a0.get 2 = v_2 := hs0 2 _ rfl
 clear hs0
 have hB : Base (Fr w0) O w0 O w0 := Base.start hO
 refine wp_seq ?_
 refine' region [_, _] mixed hA (.cons (fun _ _ hE hK hg => ok_assign rfl) (.cons (fun _ _ hE hK hg => ok_assign rfl) .nil)) ?zok1 ?zgd1 ?zk1
 case zok1 | zgd1 => kernel_rfl
 intro a1 w1 hA hE HF
 replace q0 := kn (HF 0) rfl q0
 replace q1 := kn (HF 1) rfl q1
 replace q2 := kn (HF 2) rfl q2
 clear HF
 replace h_0 := GR.v_ext _ h_0 hE
 replace h_1 := GR.v_ext _ h_1 hE
 replace h_2 := GR.v_ext _ h_2 hE
 replace hB := Base.step hB hE hO; clear hE
 refine li_nil (nx_then ?_)
 refine seq_join (fun a w => ∃ (O31 : Tags), a.fit 81 ∧ Base (Fr w0) O w0 O31 w ∧ (passport_Fork_j1 ).run n = some y) ?_ ?_
 ·
  refine wp_seq ?_
  refine' region [_, _, _, _, _, _] mixed hA (.cons (fun _ _ hE hK hg => ok_move (kn (hK 1 rfl) rfl q1)) (.cons (fun _ _ hE hK hg => okl_len (r := r_aEn) ty29 (ksv (j := 0) (hK 11 rfl) rfl rfl rfl) (rd_of (GR.v_ext _ h_1 hE))) (.cons (fun _ _ hE hK hg => ok_move (kn (hK 2 rfl) rfl q2)) (.cons (fun _ _ hE hK hg => okl_len (r := r_aEn) ty29 (ksv (j := 2) (hK 13 rfl) rfl rfl rfl) (rd_of (GR.v_ext _ h_2 hE))) (.cons (fun _ _ hE hK hg => ok_min (ksv (j := 1) (hK 12 rfl) rfl rfl rfl) (ksv (j := 3) (hK 14 rfl) rfl rfl rfl)) (.cons (fun _ _ hE hK hg => ok_move rfl) .nil)))))) ?zok2 ?zgd2 ?zk2
  case zok2 | zgd2 => kernel_rfl
  intro a2 w2 hA hE HF
  replace q0 := kn (HF 0) rfl q0
  replace q1 := kn (HF 1) rfl q1
  replace q2 := kn (HF 2) rfl q2
  have q15 := ksv (HF 15) rfl rfl rfl
  have q16 := ksv (HF 16) rfl rfl rfl
  clear HF
  replace h_0 := GR.v_ext _ h_0 hE
  replace h_1 := GR.v_ext _ h_1 hE
  replace h_2 := GR.v_ext _ h_2 hE
  replace hB := Base.step hB hE hO; clear hE
  obtain ⟨x1, hx_, h⟩ := Comp.run_bind h; replace hx_ := Comp.run_pure hx_; rw [hx_] at q15; clear hx_
  refine li_nil (nx_then (wp_block ?_))
  obtain ⟨e2, he2, hk2⟩ := Comp.run_bind h; clear h
  refine loop_m (fun m a w => ∃ (O3 : Tags) (x2 : Int), a.fit 81 ∧ Base (Fr w0) O w0 O3 w ∧ a.get 0 = v_0 ∧ (rSl rStr).v O3 w v_0 x_0 ∧ a.get 1 = v_1 ∧ (rSl r_aEn).v O3 w v_1 x_1 ∧ a.get 2 = v_2 ∧ (rSl r_aEn).v O3 w v_2 x_2 ∧ a.get 15 = .int .i64 x1 ∧ a.get 16 = .int .i64 x2 ∧ Comp.loopN (fun s => passport_Fork_l2 x1 x_1 x_2 x_0 s) n m x2 = some e2) (m := n) ?st2 ?_
  case st2 =>
   exact ⟨_, _, hA, hB, q0, h_0, q1, h_1, q2, h_2, q15, q16, Comp.run_loop he2⟩
  intro m_ a3 w3 hI
  clear hA hB he2 q0 q1 q2 q15 q16 h_0 h_1 h_2
  obtain ⟨O3, x2, hA, hB, q0, h_0, q1, h_1, q2, h_2, q15, q16, hl⟩ := hI
  obtain ⟨m2, hlt2, st2, h, hnext2, hdone2⟩ := Comp.loopN_succ hl; clear hl
  replace h : (passport_Fork_l2 x1 x_1 x_2 x_0 x2).run n = some st2 := h
  unfold passport_Fork_l2 at h
  refine wp_seq ?_
  refine' region [_] mixed hA (.cons (fun _ _ hE hK hg => ok_lss (kn (hK 16 rfl) rfl q16) (kn (hK 15 rfl) rfl q15)) .nil) ?zok3 ?zgd3 ?zk3
  case zok3 | zgd3 => kernel_rfl
  intro a4 w4 hA hE HF
  replace q0 := kn (HF 0) rfl q0
  replace q1 := kn (HF 1) rfl q1
  replace q2 := kn (HF 2) rfl q2
  replace q15 := kn (HF 15) rfl q15
  replace q16 := kn (HF 16) rfl q16
  have q17 := ksv (HF 17) rfl rfl rfl
  clear HF
  replace h_0 := GR.v_ext _ h_0 hE
  replace h_1 := GR.v_ext _ h_1 hE
  replace h_2 := GR.v_ext _ h_2 hE
  replace hB := Base.step hB hE hO; clear hE
  refine li_nil (nx_then (wp_seq ?_))
  refine wp_cond_b q17 (fun hc => ?_) (fun hc => ?_)
  ·
   replace h := Comp.run_b_t hc h; clear hc
   refine wp_skip (nx_then (wp_seq (wp_block (wp_seq ?_))))
   refine' region [_, _] mixed hA (.cons (fun _ _ hE hK hg => ok_move (kn (hK 16 rfl) rfl q16)) (.cons (fun _ _ hE hK hg => ok_assign (ksv (j := 0) (hK 18 rfl) rfl rfl rfl)) .nil)) ?zok4 ?zgd4 ?zk4
   case zok4 | zgd4 => kernel_rfl
   intro a5 w5 hA hE HF
   replace q0 := kn (HF 0) rfl q0
   replace q1 := kn (HF 1) rfl q1
   replace q2 := kn (HF 2) rfl q2
   have q8 := ksv (HF 8) rfl rfl rfl
   replace q15 := kn (HF 15) rfl q15
   replace q16 := kn (HF 16) rfl q16
   clear q17
   clear HF
   replace h_0 := GR.v_ext _ h_0 hE
   replace h_1 := GR.v_ext _ h_1 hE
   replace h_2 := GR.v_ext _ h_2 hE
   replace hB := Base.step hB hE hO; clear hE
   refine li_nil (nx_then (wp_seq (wp_seq ?_)))
   obtain ⟨x4, hx4, h⟩ := Comp.run_bind h
   obtain ⟨x5, hx5, h⟩ := Comp.run_bind h
   refine' region [_, _, SP.ptr r_aEn O3 x4, SP.isv (.agg #[.int .i64 x4.Seq, .int .i64 x4.Shop, .int .i64 x4.Kind, .int .i64 x4.Day, .int .i64 x4.N, .string (str x4.Before), .string (str x4.After), .string (str x4.Prev), .string (str x4.Mark)]), _, _, SP.ptr r_aEn O3 x5, SP.isv (.agg #[.int .i64 x5.Seq, .int .i64 x5.Shop, .int .i64 x5.Kind, .int .i64 x5.Day, .int .i64 x5.N, .string (str x5.Before), .string (str x5.After), .string (str x5.Prev), .string (str x5.Mark)]), _] mixed hA (.cons (fun _ _ hE hK hg => ok_move (kn (hK 1 rfl) rfl q1)) (.cons (fun _ _ hE hK hg => ok_move (kn (hK 8 rfl) rfl q8)) (.cons (fun _ _ hE hK hg => okl_idx (r := r_aEn) (O := O3) ty29 ty26 rfl (ksv (j := 0) (hK 19 rfl) rfl rfl rfl) (rd_of (GR.v_ext _ h_1 hE)) (ksv (j := 1) (hK 20 rfl) rfl rfl rfl) hx4) (.cons (fun _ _ hE hK hg => okl_ldr r_aEn fit_aEn ty26 rfl rfl rfl (kspS (φ := SP.ptr r_aEn O3 x4) (j := 2) (hK 21 rfl) rfl rfl rfl) (fun _ _ _ h => rC_v.1 h)) (.cons (fun _ _ hE hK hg => ok_move (kn (hK 2 rfl) rfl q2)) (.cons (fun _ _ hE hK hg => ok_move (kn (hK 8 rfl) rfl q8)) (.cons (fun _ _ hE hK hg => okl_idx (r := r_aEn) (O := O3) ty29 ty26 rfl (ksv (j := 4) (hK 23 rfl) rfl rfl rfl) (rd_of (GR.v_ext _ h_2 hE)) (ksv (j := 5) (hK 24 rfl) rfl rfl rfl) hx5) (.cons (fun _ _ hE hK hg => okl_ldr r_aEn fit_aEn ty26 rfl rfl rfl (kspS (φ := SP.ptr r_aEn O3 x5) (j := 6) (hK 25 rfl) rfl rfl rfl) (fun _ _ _ h => rC_v.1 h)) (.cons (fun _ _ hE hK hg => okl_eqlR (O1 := O3) (O2 := O3) (w1 := w5) (w2 := w5) eq_aEn rfl (by decide) (by kernel_rfl) (ksv (j := 3) (hK 22 rfl) rfl rfl rfl) (ksv (j := 7) (hK 26 rfl) rfl rfl rfl) ((rC_v (x := x4)).2 rfl) ((rC_v (x := x5)).2 rfl)) .nil))))))))) ?zok5 ?zgd5 ?zk5
   case zok5 | zgd5 => kernel_rfl
   intro a6 w6 hA hE HF
   replace q0 := kn (HF 0) rfl q0
   replace q1 := kn (HF 1) rfl q1
   replace q2 := kn (HF 2) rfl q2
   replace q8 := kn (HF 8) rfl q8
   replace q15 := kn (HF 15) rfl q15
   replace q16 := kn (HF 16) rfl q16
   have q27 := ksv (HF 27) rfl rfl rfl
   clear HF
   replace h_0 := GR.v_ext _ h_0 hE
   replace h_1 := GR.v_ext _ h_1 hE
   replace h_2 := GR.v_ext _ h_2 hE
   replace hB := Base.step hB hE hO; clear hE
   refine li_nil (nx_then ?_)
   refine wp_cond_b q27 (fun hc => ?_) (fun hc => ?_)
   ·
    replace h := Comp.run_b_t hc h; clear hc
    refine wp_exit (ex_then (ex_same (nx_then ?_)))
    refine' region [_, _] mixed hA (.cons (fun _ _ hE hK hg => ok_add (kn (hK 16 rfl) rfl q16) rfl) (.cons (fun _ _ hE hK hg => ok_move (ksv (j := 0) (hK 80 rfl) rfl rfl rfl)) .nil)) ?zok6 ?zgd6 ?zk6
    case zok6 | zgd6 => kernel_rfl
    intro a7 w7 hA hE HF
    replace q0 := kn (HF 0) rfl q0
    replace q1 := kn (HF 1) rfl q1
    replace q2 := kn (HF 2) rfl q2
    replace q15 := kn (HF 15) rfl q15
    have q16' := ksv (HF 16) rfl rfl rfl
    replace q16 := q16'; clear q16'
    clear q8
    clear q27
    clear HF
    replace h_0 := GR.v_ext _ h_0 hE
    replace h_1 := GR.v_ext _ h_1 hE
    replace h_2 := GR.v_ext _ h_2 hE
    replace hB := Base.step hB hE hO; clear hE
    refine li_nil (nx_then ?_)
    have h := hnext2 _ (Comp.run_pure h).symm
    refine ⟨m2, hlt2, ?_⟩
    exact ⟨_, _, hA, hB, q0, h_0, q1, h_1, q2, h_2, q15, q16, h⟩
   ·
    replace h := Comp.run_b_f hc h; clear hc
    refine wp_skip (nx_then ?_)
    refine seq_join (fun a w => ∃ (O27 : Tags), a.fit 81 ∧ Base (Fr w0) O w0 O27 w ∧ a.get 1 = v_1 ∧ (rSl r_aEn).v O27 w v_1 x_1 ∧ a.get 8 = .int .i64 x2 ∧ (passport_Fork_j3 x_1 x2 ).run n = some st2) ?_ ?_
    ·
     refine wp_seq ?_
     obtain ⟨x6, hx6, h⟩ := Comp.run_bind h
     obtain ⟨x7, hx7, h⟩ := Comp.run_bind h
     refine' region [_, _, SP.ptr r_aEn O3 x6, SP.isv (.agg #[.int .i64 x6.Seq, .int .i64 x6.Shop, .int .i64 x6.Kind, .int .i64 x6.Day, .int .i64 x6.N, .string (str x6.Before), .string (str x6.After), .string (str x6.Prev), .string (str x6.Mark)]), _, _, SP.ptr r_aEn O3 x7, SP.isv (.agg #[.int .i64 x7.Seq, .int .i64 x7.Shop, .int .i64 x7.Kind, .int .i64 x7.Day, .int .i64 x7.N, .string (str x7.Before), .string (str x7.After), .string (str x7.Prev), .string (str x7.Mark)]), SP.isv (.agg (cellsA (fun (x : aEn) => [.int .i64 x.Seq, .int .i64 x.Shop, .int .i64 x.Kind, .int .i64 x.Day, .int .i64 x.N, .string (str x.Before), .string (str x.After), .string (str x.Prev), .string (str x.Mark)]) (#v[x6, x7] : Vector aEn 2)).toArray), _] mixed hA (.cons (fun _ _ hE hK hg => ok_move (kn (hK 1 rfl) rfl q1)) (.cons (fun _ _ hE hK hg => ok_move (kn (hK 8 rfl) rfl q8)) (.cons (fun _ _ hE hK hg => okl_idx (r := r_aEn) (O := O3) ty29 ty26 rfl (ksv (j := 0) (hK 28 rfl) rfl rfl rfl) (rd_of (GR.v_ext _ h_1 hE)) (ksv (j := 1) (hK 29 rfl) rfl rfl rfl) hx6) (.cons (fun _ _ hE hK hg => okl_ldr r_aEn fit_aEn ty26 rfl rfl rfl (kspS (φ := SP.ptr r_aEn O3 x6) (j := 2) (hK 30 rfl) rfl rfl rfl) (fun _ _ _ h => rC_v.1 h)) (.cons (fun _ _ hE hK hg => ok_move (kn (hK 2 rfl) rfl q2)) (.cons (fun _ _ hE hK hg => ok_move (kn (hK 8 rfl) rfl q8)) (.cons (fun _ _ hE hK hg => okl_idx (r := r_aEn) (O := O3) ty29 ty26 rfl (ksv (j := 4) (hK 32 rfl) rfl rfl rfl) (rd_of (GR.v_ext _ h_2 hE)) (ksv (j := 5) (hK 33 rfl) rfl rfl rfl) hx7) (.cons (fun _ _ hE hK hg => okl_ldr r_aEn fit_aEn ty26 rfl rfl rfl (kspS (φ := SP.ptr r_aEn O3 x7) (j := 6) (hK 34 rfl) rfl rfl rfl) (fun _ _ _ h => rC_v.1 h)) (.cons ?z7_8 (.cons (fun _ _ hE hK hg => ok_move rfl) .nil)))))))))) ?zok7 ?zgd7 ?zk7
     case z7_8 => intro a' w' hE hK hg; refine okl_buildArr (vals := [(0, .agg #[.int .i64 x6.Seq, .int .i64 x6.Shop, .int .i64 x6.Kind, .int .i64 x6.Day, .int .i64 x6.N, .string (str x6.Before), .string (str x6.After), .string (str x6.Prev), .string (str x6.Mark)]), (1, .agg #[.int .i64 x7.Seq, .int .i64 x7.Shop, .int .i64 x7.Kind, .int .i64 x7.Day, .int .i64 x7.N, .string (str x7.Before), .string (str x7.After), .string (str x7.Prev), .string (str x7.Mark)])]) (out := [.int .i64 x6.Seq, .int .i64 x6.Shop, .int .i64 x6.Kind, .int .i64 x6.Day, .int .i64 x6.N, .string (str x6.Before), .string (str x6.After), .string (str x6.Prev), .string (str x6.Mark), .int .i64 x7.Seq, .int .i64 x7.Shop, .int .i64 x7.Kind, .int .i64 x7.Day, .int .i64 x7.N, .string (str x7.Before), .string (str x7.After), .string (str x7.Prev), .string (str x7.Mark)]) ty99 ty26 ?_ rfl ?_ rfl; exact (pk_cons (v := .agg #[.int .i64 x6.Seq, .int .i64 x6.Shop, .int .i64 x6.Kind, .int .i64 x6.Day, .int .i64 x6.N, .string (str x6.Before), .string (str x6.After), .string (str x6.Prev), .string (str x6.Mark)]) (ksv (j := 3) (hK 31 rfl) rfl rfl rfl) (pk_cons (v := .agg #[.int .i64 x7.Seq, .int .i64 x7.Shop, .int .i64 x7.Kind, .int .i64 x7.Day, .int .i64 x7.N, .string (str x7.Before), .string (str x7.After), .string (str x7.Prev), .string (str x7.Mark)]) (ksv (j := 7) (hK 35 rfl) rfl rfl rfl) pk_nil)); exact (.cons rfl rfl rfl (leb rfl) (.cons rfl rfl rfl (leb rfl) .nil))
     case zok7 | zgd7 => kernel_rfl
     intro a8 w8 hA hE HF
     replace q0 := kn (HF 0) rfl q0
     replace q1 := kn (HF 1) rfl q1
     replace q8 := kn (HF 8) rfl q8
     have q36 := ksv (HF 36) rfl rfl rfl
     have q37 := ksv (HF 37) rfl rfl rfl
     clear q2
     clear q15
     clear q16
     clear q27
     clear HF
     replace h_0 := GR.v_ext _ h_0 hE
     replace h_1 := GR.v_ext _ h_1 hE
     replace h_2 := GR.v_ext _ h_2 hE
     replace hB := Base.step hB hE hO; clear hE
     refine li_nil (nx_then (wp_block ?_))
     obtain ⟨e4, he4, hk4⟩ := Comp.run_bind h; clear h
     refine loop_m (fun m a w => ∃ (O9 : Tags) (x8 : Int), a.fit 81 ∧ Base (Fr w0) O w0 O9 w ∧ a.get 0 = v_0 ∧ (rSl rStr).v O9 w v_0 x_0 ∧ a.get 1 = v_1 ∧ (rSl r_aEn).v O9 w v_1 x_1 ∧ a.get 8 = .int .i64 x2 ∧ a.get 36 = .agg (cellsA (fun (x : aEn) => [.int .i64 x.Seq, .int .i64 x.Shop, .int .i64 x.Kind, .int .i64 x.Day, .int .i64 x.N, .string (str x.Before), .string (str x.After), .string (str x.Prev), .string (str x.Mark)]) (#v[x6, x7] : Vector aEn 2)).toArray ∧ a.get 37 = .int .i64 x8 ∧ Comp.loopN (fun s => passport_Fork_l4 x6 x7 x2 x_1 x_0 s) n m x8 = some e4) (m := n) ?st4 ?_
     case st4 =>
      exact ⟨_, _, hA, hB, q0, h_0, q1, h_1, q8, q36, q37, Comp.run_loop he4⟩
     intro m_ a9 w9 hI
     clear hA hB he4 q0 q1 q8 q36 q37 h_0 h_1
     obtain ⟨O9, x8, hA, hB, q0, h_0, q1, h_1, q8, q36, q37, hl⟩ := hI
     obtain ⟨m4, hlt4, st4, h, hnext4, hdone4⟩ := Comp.loopN_succ hl; clear hl
     replace h : (passport_Fork_l4 x6 x7 x2 x_1 x_0 x8).run n = some st4 := h
     unfold passport_Fork_l4 at h
     refine wp_seq ?_
     refine' region [_] mixed hA (.cons (fun _ _ hE hK hg => ok_lss (kn (hK 37 rfl) rfl q37) rfl) .nil) ?zok8 ?zgd8 ?zk8
     case zok8 | zgd8 => kernel_rfl
     intro a10 w10 hA hE HF
     replace q0 := kn (HF 0) rfl q0
     replace q1 := kn (HF 1) rfl q1
     replace q8 := kn (HF 8) rfl q8
     replace q36 := kn (HF 36) rfl q36
     replace q37 := kn (HF 37) rfl q37
     have q38 := ksv (HF 38) rfl rfl rfl
     clear HF
     replace h_0 := GR.v_ext _ h_0 hE
     replace h_1 := GR.v_ext _ h_1 hE
     replace hB := Base.step hB hE hO; clear hE
     refine li_nil (nx_then (wp_seq ?_))
     refine wp_cond_b q38 (fun hc => ?_) (fun hc => ?_)
     ·
      replace h := Comp.run_b_t hc h; clear hc
      refine wp_skip (nx_then (wp_seq (wp_block (wp_seq ?_))))
      obtain ⟨x10, hx10, h⟩ := Comp.run_bind h
      refine' regionT [SP.isv (.agg #[.int .i64 x10.Seq, .int .i64 x10.Shop, .int .i64 x10.Kind, .int .i64 x10.Day, .int .i64 x10.N, .string (str x10.Before), .string (str x10.After), .string (str x10.Prev), .string (str x10.Mark)]), SP.box w10.heap.size #[.int .i64 0, .int .i64 0, .int .i64 0, .int .i64 0, .int .i64 0, .string (str []), .string (str []), .string (str []), .string (str [])] 26] hA (.cons (fun _ _ hE hK hg => okl_indexA (f := (fun (x : aEn) => [.int .i64 x.Seq, .int .i64 x.Shop, .int .i64 x.Kind, .int .i64 x.Day, .int .i64 x.N, .string (str x.Before), .string (str x.After), .string (str x.Prev), .string (str x.Mark)])) (hl := (fun _ => rfl)) eq_aEn (fun _ _ _ => rfl) ty99 ty26 (kn (hK 36 rfl) rfl q36) (kn (hK 37 rfl) rfl q37) hx10) (.cons (fun _ _ hE hK hg => ok_alloc hE.size ty26) .nil)) ?zok9 ?zgd9 ?zk9
      case zok9 | zgd9 => kernel_rfl
      intro a11 w11 hA hE HF
      replace q0 := kn (HF 0) rfl q0
      replace q1 := kn (HF 1) rfl q1
      replace q8 := kn (HF 8) rfl q8
      have f12 := ksp (HF 10) rfl rfl rfl
      obtain ⟨u11, q10'⟩ : ∃ u, a11.get 10 = u := ⟨_, rfl⟩
      rw [q10'] at f12
      have q10 := q10'; clear q10'
      replace q36 := kn (HF 36) rfl q36
      replace q37 := kn (HF 37) rfl q37
      have q39 := ksv (HF 39) rfl rfl rfl
      clear q38
      clear HF
      obtain ⟨O13, b14, hB', hX, e_, f15⟩ := boxNew hO hB hE f12 1 (by decide)
      subst e_
      clear hB f12; have hB := hB'; clear hB'
      replace h_0 := GR.kx _ h_0 hX (by decide)
      replace h_1 := GR.kx _ h_1 hX (by decide)
      clear hX hE
      refine l_storeSub (vs := [.int .i64 x10.Seq, .int .i64 x10.Shop, .int .i64 x10.Kind, .int .i64 x10.Day, .int .i64 x10.N, .string (str x10.Before), .string (str x10.After), .string (str x10.Prev), .string (str x10.Mark)]) (cs' := #[.int .i64 x10.Seq, .int .i64 x10.Shop, .int .i64 x10.Kind, .int .i64 x10.Day, .int .i64 x10.N, .string (str x10.Before), .string (str x10.After), .string (str x10.Prev), .string (str x10.Mark)]) hO hB (okB_fr hB) ty26 q10 q39 rfl (by simp [Value.oneCell']) f15 (by simp) rfl fun w12 f16 hB' hX => ?_
      clear hB f15; have hB := hB'; clear hB'
      replace h_0 := GR.kx _ h_0 hX (by decide)
      replace h_1 := GR.kx _ h_1 hX (by decide)
      clear hX
      refine li_nil (nx_then (wp_seq ?_))
      obtain ⟨x17, hx17, h⟩ := Comp.run_bind h
      obtain ⟨x18, hx18, h⟩ := Comp.run_bind h
      obtain ⟨x19, hx19, h⟩ := Comp.run_bind h
      obtain ⟨x20, hx20, h⟩ := Comp.run_bind h
      obtain ⟨x21, hx21, h⟩ := Comp.run_bind h
      refine' region [SP.isv (.pointer (some ⟨b14, 0, none⟩)), SP.isv (.int .i64 x10.Seq), _, _, _, SP.isv (.pointer (some ⟨b14, 1, none⟩)), SP.isv (.int .i64 x10.Shop), _, _, SP.ptr r_aEn O13 x17, SP.ptr (rInt .i64) O13 x17.Shop, SP.isv (.int .i64 x17.Shop), _, _, _, _, SP.isv (.pointer (some ⟨b14, 1, none⟩)), SP.isv (.int .i64 x10.Shop), SP.isv (.bool x18), _, _, _, _, SP.isv (.pointer (some ⟨b14, 1, none⟩)), SP.isv (.int .i64 x10.Shop), SP.ptr rStr O13 x19, SP.isv (.string (str x19)), SP.isv (.agg #[.int .i64 x10.Seq, .int .i64 x10.Shop, .int .i64 x10.Kind, .int .i64 x10.Day, .int .i64 x10.N, .string (str x10.Before), .string (str x10.After), .string (str x10.Prev), .string (str x10.Mark)]), SP.isv (.string (str x20)), SP.isv (.pointer (some ⟨b14, 8, none⟩)), SP.isv (.string (str x10.Mark)), SP.isv (.bool x21), _, _] mixed hA (.cons (fun _ _ hE hK hg => ok_fieldAddr fl26_0 (kn (hK 10 rfl) rfl q10)) (.cons (fun _ _ hE hK hg => ok_loadOwn ty3 rfl (ksv (j := 0) (hK 40 rfl) rfl rfl rfl) (OwnB.ext f16 hE).own rfl) (.cons (fun _ _ hE hK hg => ok_move (kn (hK 8 rfl) rfl q8)) (.cons (fun _ _ hE hK hg => ok_neqI (ksv (j := 1) (hK 41 rfl) rfl rfl rfl) (ksv (j := 2) (hK 42 rfl) rfl rfl rfl)) (.cons (fun _ _ hE hK hg => ok_move (ksv (j := 3) (hK 43 rfl) rfl rfl rfl)) (.cons (fun _ _ hE hK hg => ok_fieldAddr fl26_1 (kn (hK 10 rfl) rfl q10)) (.cons ?z10_6 (.cons (fun _ _ hE hK hg => ok_move (kn (hK 1 rfl) rfl q1)) (.cons (fun _ _ hE hK hg => ok_move (kn (hK 8 rfl) rfl q8)) (.cons ?z10_9 (.cons ?z10_10 (.cons ?z10_11 (.cons ?z10_12 (.cons ?z10_13 (.cons (fun _ _ hE hK hg => ok_move (ksv (j := 13) (hK 53 rfl) rfl rfl rfl)) (.cons (fun _ _ hE hK hg => ok_move (kn (hK 0 rfl) rfl q0)) (.cons (fun _ _ hE hK hg => ok_fieldAddr fl26_1 (kn (hK 10 rfl) rfl q10)) (.cons ?z10_17 (.cons ?z10_18 (.cons ?z10_19 (.cons ?z10_20 (.cons (fun _ _ hE hK hg => ok_move (ksv (j := 20) (hK 60 rfl) rfl rfl rfl)) (.cons (fun _ _ hE hK hg => ok_move (kn (hK 0 rfl) rfl q0)) (.cons (fun _ _ hE hK hg => ok_fieldAddr fl26_1 (kn (hK 10 rfl) rfl q10)) (.cons ?z10_24 (.cons ?z10_25 (.cons ?z10_26 (.cons (fun _ _ hE hK hg => ok_loadOwnAgg ty26 rfl (kn (hK 10 rfl) rfl q10) (OwnB.ext f16 hE).own rfl) (.cons ?z10_28 (.cons (fun _ _ hE hK hg => ok_fieldAddr fl26_8 (kn (hK 10 rfl) rfl q10)) (.cons ?z10_30 (.cons ?z10_31 (.cons ?z10_32 (.cons ?z10_33 .nil)))))))))))))))))))))))))))))))))) ?zok10 ?zgd10 ?zk10
      case z10_6 => intro a' w' hE hK hg; exact ok_loadOwn ty3 rfl (ksv (j := 5) (hK 45 rfl) rfl rfl hg) (OwnB.ext f16 hE).own rfl
      case z10_9 => intro a' w' hE hK hg; exact okl_idx (r := r_aEn) (O := O13) ty29 ty26 rfl (ksv (j := 7) (hK 47 rfl) rfl rfl hg) (rd_of (GR.v_ext _ h_1 hE)) (ksv (j := 8) (hK 48 rfl) rfl rfl hg) (run_gdb hx17 hg)
      case z10_10 => intro a' w' hE hK hg; exact okl_fld (S := r_aEn) rfl (fun _ => rfl) sb_aEn_1 fl26_1 rfl (kspS (φ := SP.ptr r_aEn O13 x17) (j := 9) (hK 49 rfl) rfl rfl hg)
      case z10_11 => intro a' w' hE hK hg; exact okl_ldr (rInt .i64) (fun _ => rfl) ty3 rfl rfl rfl (kspS (φ := SP.ptr (rInt .i64) O13 x17.Shop) (j := 10) (hK 50 rfl) rfl rfl hg) (fun _ _ _ h => rInt_v.1 h)
      case z10_12 => intro a' w' hE hK hg; exact ok_neqI (ksv (j := 6) (hK 46 rfl) rfl rfl hg) (ksv (j := 11) (hK 51 rfl) rfl rfl hg)
      case z10_13 => intro a' w' hE hK hg; exact ok_pick (ksv (j := 4) (hK 44 rfl) rfl rfl rfl) (fun _ => rfl) (fun hb => ksv (j := 12) (hK 52 rfl) rfl rfl (act_g1 rfl rfl hb))
      case z10_17 => intro a' w' hE hK hg; exact ok_loadOwn ty3 rfl (ksv (j := 16) (hK 56 rfl) rfl rfl hg) (OwnB.ext f16 hE).own rfl
      case z10_18 => intro a' w' hE hK hg; have c_ := ok_passport_known (OkO.ext hB.ok hE) (GR.v_ext _ h_0 hE) (run_gdb hx18 hg); exact ok_call2 fn69 (ksv (j := 15) (hK 55 rfl) rfl rfl hg) (ksv (j := 17) (hK 57 rfl) rfl rfl hg) c_
      case z10_19 => intro a' w' hE hK hg; exact ok_not (ksv (j := 18) (hK 58 rfl) rfl rfl hg)
      case z10_20 => intro a' w' hE hK hg; exact ok_pick (ksv (j := 14) (hK 54 rfl) rfl rfl rfl) (fun _ => rfl) (fun hb => ksv (j := 19) (hK 59 rfl) rfl rfl (act_g1 rfl rfl hb))
      case z10_24 => intro a' w' hE hK hg; exact ok_loadOwn ty3 rfl (ksv (j := 23) (hK 63 rfl) rfl rfl hg) (OwnB.ext f16 hE).own rfl
      case z10_25 => intro a' w' hE hK hg; exact okl_idx (r := rStr) (O := O13) ty28 ty9 rfl (ksv (j := 22) (hK 62 rfl) rfl rfl hg) (rd_of (GR.v_ext _ h_0 hE)) (ksv (j := 24) (hK 64 rfl) rfl rfl hg) (run_gdb hx19 hg)
      case z10_26 => intro a' w' hE hK hg; exact okl_ldr rStr (fun _ => rfl) ty9 rfl rfl rfl (kspS (φ := SP.ptr rStr O13 x19) (j := 25) (hK 65 rfl) rfl rfl hg) (fun _ _ _ h => rStr_v.1 h)
      case z10_28 => intro a' w' hE hK hg; have c_ := ok_passport_Bytes (OkO.ext hB.ok hE)  (run_gdb hx20 hg); exact ok_call1 fn17 (ksv (j := 27) (hK 67 rfl) rfl rfl hg) c_
      case z10_30 => intro a' w' hE hK hg; exact ok_loadOwn ty9 rfl (ksv (j := 29) (hK 69 rfl) rfl rfl hg) (OwnB.ext f16 hE).own rfl
      case z10_31 => intro a' w' hE hK hg; have c_ := ok_digest_Check (OkO.ext hB.ok hE)  (run_gdb hx21 hg); exact ok_call3 fn34 (ksv (j := 26) (hK 66 rfl) rfl rfl hg) (ksv (j := 28) (hK 68 rfl) rfl rfl hg) (ksv (j := 30) (hK 70 rfl) rfl rfl hg) c_
      case z10_32 => intro a' w' hE hK hg; exact ok_not (ksv (j := 31) (hK 71 rfl) rfl rfl hg)
      case z10_33 => intro a' w' hE hK hg; exact ok_pick (ksv (j := 21) (hK 61 rfl) rfl rfl rfl) (fun _ => rfl) (fun hb => ksv (j := 32) (hK 72 rfl) rfl rfl (act_g1 rfl rfl hb))
      case zok10 | zgd10 => kernel_rfl
      intro a13 w13 hA hE HF
      replace q0 := kn (HF 0) rfl q0
      replace q1 := kn (HF 1) rfl q1
      replace q8 := kn (HF 8) rfl q8
      replace q36 := kn (HF 36) rfl q36
      replace q37 := kn (HF 37) rfl q37
      have q73 := ksv (HF 73) rfl rfl rfl
      clear q10
      clear HF
      replace h_0 := GR.v_ext _ h_0 hE
      replace h_1 := GR.v_ext _ h_1 hE
      replace f16 := f16.ext hE
      replace hB := Base.step hB hE hO; clear hE
      obtain ⟨x22, hx_, h⟩ := Comp.run_bind h; replace hx_ := Comp.run_pure hx_; rw [hx_] at q73; clear hx_
      refine li_nil (nx_then ?_)
      refine wp_cond_b q73 (fun hc => ?_) (fun hc => ?_)
      ·
       replace h := Comp.run_b_t hc h; clear hc
       refine wp_seq ?_
       refine' region [_, _] mixed hA (.cons (fun _ _ hE hK hg => ok_assign rfl) (.cons (fun _ _ hE hK hg => ok_assign rfl) .nil)) ?zok11 ?zgd11 ?zk11
       case zok11 | zgd11 => kernel_rfl
       intro a14 w14 hA hE HF
       have q6 := ksv (HF 6) rfl rfl rfl
       have q7 := ksv (HF 7) rfl rfl rfl
       clear q0
       clear q1
       clear q8
       clear q36
       clear q37
       clear q73
       clear HF
       replace h_0 := GR.v_ext _ h_0 hE
       replace h_1 := GR.v_ext _ h_1 hE
       replace hB := Base.step hB hE hO; clear hE
       refine li_nil (nx_then (wp_ret (rt_blk (rt_then (rt_then (rt_blk (rt_then (rt_blk (rt_then (rt_then (rt_blk (rt_then ?_))))))))))))
       have hd_ := hdone4 _ (Comp.run_pure h).symm; clear h
       subst hd_; have h := hk4; clear hk4; try dsimp only at h
       have hd_ := hdone2 _ (Comp.run_pure h).symm; clear h
       subst hd_; have h := hk2; clear hk2; try dsimp only at h
       have h := Comp.run_pure h; subst h
       exact retPure2 Try.results27 hA q6 q7 hB.ext ⟨_, _, rfl, rfl, rfl⟩
      ·
       replace h := Comp.run_b_f hc h; clear hc
       refine wp_skip (nx_blk (nx_then ?_))
       refine' region [_, _] mixed hA (.cons (fun _ _ hE hK hg => ok_add (kn (hK 37 rfl) rfl q37) rfl) (.cons (fun _ _ hE hK hg => ok_move (ksv (j := 0) (hK 74 rfl) rfl rfl rfl)) .nil)) ?zok12 ?zgd12 ?zk12
       case zok12 | zgd12 => kernel_rfl
       intro a15 w15 hA hE HF
       replace q0 := kn (HF 0) rfl q0
       replace q1 := kn (HF 1) rfl q1
       replace q8 := kn (HF 8) rfl q8
       replace q36 := kn (HF 36) rfl q36
       have q37' := ksv (HF 37) rfl rfl rfl
       replace q37 := q37'; clear q37'
       clear q73
       clear HF
       replace h_0 := GR.v_ext _ h_0 hE
       replace h_1 := GR.v_ext _ h_1 hE
       replace hB := Base.step hB hE hO; clear hE
       refine li_nil (nx_then ?_)
       have h := hnext4 _ (Comp.run_pure h).symm
       refine ⟨m4, hlt4, ?_⟩
       exact ⟨_, _, hA, hB, q0, h_0, q1, h_1, q8, q36, q37, h⟩
     ·
      replace h := Comp.run_b_f hc h; clear hc
      refine wp_exit (ex_then (ex_then (ex_same ?_)))
      have hd_ := hdone4 _ (Comp.run_pure h).symm; clear h
      subst hd_; have h := hk4; clear hk4; try dsimp only at h
      refine nx_then ?_
      exact ⟨_, hA, hB, q1, h_1, q8, h⟩
    intro a16 w16 hI
    clear hA hB h q0 q1 q2 q8 q15 q16 q27 h_0 h_1 h_2
    obtain ⟨O27, hA, hB, q1, h_1, q8, h⟩ := hI
    unfold passport_Fork_j3 at h
    refine wp_seq ?_
    obtain ⟨x28, hx28, h⟩ := Comp.run_bind h
    refine' region [_, _, SP.ptr r_aEn O27 x28, SP.ptr (rInt .i64) O27 x28.Shop, SP.isv (.int .i64 x28.Shop), _, _] mixed hA (.cons (fun _ _ hE hK hg => ok_move (kn (hK 1 rfl) rfl q1)) (.cons (fun _ _ hE hK hg => ok_move (kn (hK 8 rfl) rfl q8)) (.cons (fun _ _ hE hK hg => okl_idx (r := r_aEn) (O := O27) ty29 ty26 rfl (ksv (j := 0) (hK 75 rfl) rfl rfl rfl) (rd_of (GR.v_ext _ h_1 hE)) (ksv (j := 1) (hK 76 rfl) rfl rfl rfl) hx28) (.cons (fun _ _ hE hK hg => okl_fld (S := r_aEn) rfl (fun _ => rfl) sb_aEn_1 fl26_1 rfl (kspS (φ := SP.ptr r_aEn O27 x28) (j := 2) (hK 77 rfl) rfl rfl rfl)) (.cons (fun _ _ hE hK hg => okl_ldr (rInt .i64) (fun _ => rfl) ty3 rfl rfl rfl (kspS (φ := SP.ptr (rInt .i64) O27 x28.Shop) (j := 3) (hK 78 rfl) rfl rfl rfl) (fun _ _ _ h => rInt_v.1 h)) (.cons (fun _ _ hE hK hg => ok_assign (ksv (j := 4) (hK 79 rfl) rfl rfl rfl)) (.cons (fun _ _ hE hK hg => ok_assign rfl) .nil))))))) ?zok13 ?zgd13 ?zk13
    case zok13 | zgd13 => kernel_rfl
    intro a17 w17 hA hE HF
    have q6 := ksv (HF 6) rfl rfl rfl
    have q7 := ksv (HF 7) rfl rfl rfl
    clear q1
    clear q8
    clear HF
    replace h_1 := GR.v_ext _ h_1 hE
    replace hB := Base.step hB hE hO; clear hE
    refine li_nil (nx_then (wp_ret (rt_blk (rt_then (rt_then (rt_blk (rt_then ?_)))))))
    have hd_ := hdone2 _ (Comp.run_pure h).symm; clear h
    subst hd_; have h := hk2; clear hk2; try dsimp only at h
    have h := Comp.run_pure h; subst h
    exact retPure2 Try.results27 hA q6 q7 hB.ext ⟨_, _, rfl, rfl, rfl⟩
  ·
   replace h := Comp.run_b_f hc h; clear hc
   refine wp_exit (ex_then (ex_then (ex_same ?_)))
   have hd_ := hdone2 _ (Comp.run_pure h).symm; clear h
   subst hd_; have h := hk2; clear hk2; try dsimp only at h
   refine nx_then ?_
   exact ⟨_, hA, hB, h⟩
 intro a18 w18 hI
 clear hA hB h q0 q1 q2 h_0 h_1 h_2
 obtain ⟨O31, hA, hB, h⟩ := hI
 unfold passport_Fork_j1 at h
 refine wp_seq ?_
 refine' region [_, _] mixed hA (.cons (fun _ _ hE hK hg => ok_assign rfl) (.cons (fun _ _ hE hK hg => ok_assign rfl) .nil)) ?zok14 ?zgd14 ?zk14
 case zok14 | zgd14 => kernel_rfl
 intro a19 w19 hA hE HF
 have q6 := ksv (HF 6) rfl rfl rfl
 have q7 := ksv (HF 7) rfl rfl rfl
 clear HF
 replace hB := Base.step hB hE hO; clear hE
 refine li_nil (nx_then (wp_ret ?_))
 have h := Comp.run_pure h; subst h
 exact retPure2 Try.results27 hA q6 q7 hB.ext ⟨_, _, rfl, rfl, rfl⟩
theorem ok_c7_fork {O : Tags} {w0 : World} (hO : OkO O w0) {v_0 : Value} {x_0 : List Bytes} (h_0 : (rSl rStr).v O w0 v_0 x_0) {v_1 : Value} {x_1 : List aEn} (h_1 : (rSl r_aEn).v O w0 v_1 x_1) {v_2 : Value} {x_2 : List aEn} (h_2 : (rSl r_aEn).v O w0 v_2 x_2) {x_3 : Int} {x_4 : Bool} {n : Nat} {y : Bool} (h : (c7_fork x_0 x_1 x_2 x_3 x_4).run n = some y) : Pure Try.prog 35 #[v_0, v_1, v_2, .int .i64 x_3, .bool x_4] w0 (SP.isv (.bool y)).holds := by
 unfold c7_fork at h
 refine pure_of_wp Try.func35 rfl 28 Try.ntmps35 (by simp) fun a0 hA hs0 => ?_
 have q0 : a0.get 0 = v_0 := hs0 0 _ rfl
 have q1 : a0.get 1 = v_1 := hs0 1 _ rfl
 have q2 : a0.get 2 = v_2 := hs0 2 _ rfl
 have q3 : a0.get 3 = .int .i64 x_3 := hs0 3 _ rfl
 have q4 : a0.get 4 = .bool x_4 := hs0 4 _ rfl
 clear hs0
 have hB : Base (Fr w0) O w0 O w0 := Base.start hO
 refine wp_seq ?_
 refine' region [_] mixed hA (.cons (fun _ _ hE hK hg => ok_assign rfl) .nil) ?zok1 ?zgd1 ?zk1
 case zok1 | zgd1 => kernel_rfl
 intro a1 w1 hA hE HF
 replace q0 := kn (HF 0) rfl q0
 replace q1 := kn (HF 1) rfl q1
 replace q2 := kn (HF 2) rfl q2
 replace q3 := kn (HF 3) rfl q3
 replace q4 := kn (HF 4) rfl q4
 clear HF
 replace h_0 := GR.v_ext _ h_0 hE
 replace h_1 := GR.v_ext _ h_1 hE
 replace h_2 := GR.v_ext _ h_2 hE
 replace hB := Base.step hB hE hO; clear hE
 refine li_nil (nx_then (wp_seq ?_))
 obtain ⟨x1, hx1, h⟩ := Comp.run_bind h
 refine' region [_, _, _, SP.tup2 (SP.isv (.int .i64 x1.1)) (SP.isv (.bool x1.2)), SP.tup2 (SP.isv (.int .i64 x1.1)) (SP.isv (.bool x1.2)), SP.isv (.int .i64 x1.1), SP.isv (.bool x1.2), _, _] mixed hA (.cons (fun _ _ hE hK hg => ok_move (kn (hK 0 rfl) rfl q0)) (.cons (fun _ _ hE hK hg => ok_move (kn (hK 1 rfl) rfl q1)) (.cons (fun _ _ hE hK hg => ok_move (kn (hK 2 rfl) rfl q2)) (.cons ?z2_3 (.cons (fun _ _ hE hK hg => ok_move_pr (φ := SP.tup2 (SP.isv (.int .i64 x1.1)) (SP.isv (.bool x1.2))) (kspS (j := 3) (hK 17 rfl) rfl rfl rfl)) (.cons (fun _ _ hE hK hg => okl_ext0 (kspS (φ := SP.tup2 (SP.isv (.int .i64 x1.1)) (SP.isv (.bool x1.2))) (j := 4) (hK 13 rfl) rfl rfl rfl)) (.cons (fun _ _ hE hK hg => okl_ext1 (kspS (φ := SP.tup2 (SP.isv (.int .i64 x1.1)) (SP.isv (.bool x1.2))) (j := 4) (hK 13 rfl) rfl rfl rfl)) (.cons (fun _ _ hE hK hg => ok_assign (ksv (j := 5) (hK 18 rfl) rfl rfl rfl)) (.cons (fun _ _ hE hK hg => ok_assign (ksv (j := 6) (hK 19 rfl) rfl rfl rfl)) .nil))))))))) ?zok2 ?zgd2 ?zk2
 case z2_3 => intro a' w' hE hK hg; have c_ := ok_passport_Fork (OkO.ext hB.ok hE) (GR.v_ext _ h_0 hE) (GR.v_ext _ h_1 hE) (GR.v_ext _ h_2 hE) hx1; exact ok_call3 fn27 (ksv (j := 0) (hK 14 rfl) rfl rfl rfl) (ksv (j := 1) (hK 15 rfl) rfl rfl rfl) (ksv (j := 2) (hK 16 rfl) rfl rfl rfl) c_
 case zok2 | zgd2 => kernel_rfl
 intro a2 w2 hA hE HF
 replace q3 := kn (HF 3) rfl q3
 replace q4 := kn (HF 4) rfl q4
 have q11 := ksv (HF 11) rfl rfl rfl
 have q12 := ksv (HF 12) rfl rfl rfl
 clear q0
 clear q1
 clear q2
 clear HF
 replace h_0 := GR.v_ext _ h_0 hE
 replace h_1 := GR.v_ext _ h_1 hE
 replace h_2 := GR.v_ext _ h_2 hE
 replace hB := Base.step hB hE hO; clear hE
 refine li_nil (nx_then (wp_seq ?_))
 refine' region [_, _, _, _, _, _, _, _, _] mixed hA (.cons (fun _ _ hE hK hg => ok_move (kn (hK 11 rfl) rfl q11)) (.cons (fun _ _ hE hK hg => ok_move (kn (hK 3 rfl) rfl q3)) (.cons (fun _ _ hE hK hg => ok_eqlI (ksv (j := 0) (hK 20 rfl) rfl rfl rfl) (ksv (j := 1) (hK 21 rfl) rfl rfl rfl)) (.cons (fun _ _ hE hK hg => ok_move (ksv (j := 2) (hK 22 rfl) rfl rfl rfl)) (.cons (fun _ _ hE hK hg => ok_move (kn (hK 12 rfl) rfl q12)) (.cons (fun _ _ hE hK hg => ok_move (kn (hK 4 rfl) rfl q4)) (.cons ?z3_6 (.cons ?z3_7 (.cons (fun _ _ hE hK hg => ok_assign (ksv (j := 7) (hK 27 rfl) rfl rfl rfl)) .nil))))))))) ?zok3 ?zgd3 ?zk3
 case z3_6 => intro a' w' hE hK hg; exact ok_eqlB ty4 (ksv (j := 4) (hK 24 rfl) rfl rfl hg) (ksv (j := 5) (hK 25 rfl) rfl rfl hg)
 case z3_7 => intro a' w' hE hK hg; exact ok_pick (ksv (j := 3) (hK 23 rfl) rfl rfl rfl) (fun hb => ksv (j := 6) (hK 26 rfl) rfl rfl (act_g1 rfl rfl hb)) (fun _ => rfl)
 case zok3 | zgd3 => kernel_rfl
 intro a3 w3 hA hE HF
 have q10 := ksv (HF 10) rfl rfl rfl
 clear q3
 clear q4
 clear q11
 clear q12
 clear HF
 replace hB := Base.step hB hE hO; clear hE
 obtain ⟨x2, hx_, h⟩ := Comp.run_bind h; replace hx_ := Comp.run_pure hx_; rw [hx_] at q10; clear hx_
 refine li_nil (nx_then (wp_ret ?_))
 have h := Comp.run_pure h; subst h
 exact retPure Try.results35 hA q10 hB.ext rfl
end Go.Proofs.Ytkbipbfncbopnaa
end
